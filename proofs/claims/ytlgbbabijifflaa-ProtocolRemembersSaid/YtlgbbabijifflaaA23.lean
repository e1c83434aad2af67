/- Regions, code, loops and functions, piece by piece; tables of contracts. -/
import Derived.Test.YtlgbbabijifflaaA22
set_option linter.unusedVariables false
set_option linter.unusedSimpArgs false
namespace Go.Ai
open Go.RowKit
def pD (env : List AV) (d : Option Nat) (v : AV) (k : List AV → Prop) : Prop := match d with
  | none => k env
  | some i => sF env i v k
theorem pD_eq (env : List AV) (d : Option Nat) (v : AV) (k : List AV → Prop) : pD env d v k = k (setD env d v) := by
  cases d <;> simp [pD, setD, sF_eq]
def nth {α : Type} : List α → Nat → Option α
  | [], _ => none
  | x :: _, 0 => some x
  | _ :: r, n + 1 => nth r n
theorem nth_eq {α : Type} : ∀ (l : List α) (n : Nat), nth l n = l[n]?
  | [], n => by simp [nth]
  | x :: r, 0 => rfl
  | x :: r, n + 1 => by simp [nth, nth_eq r n]
def sameB : Bool → Bool → Bool
  | true, b => b
  | false, true => false
  | false, false => true
/-- 'wanted', step by step. -/
def wantF (all : List IOper) (env : List AV) (g : Option (Nat × Bool)) (K : Bool → Prop) : Prop := match g with
  | none => K true
  | some (j, b) => match nth all j with
    | some o => match o.dst with
      | some t => gF env t fun v => match v with
        | .bool x => match sameB x b with
          | true => K true
          | false => K false
        | _ => K false
      | none => K false
    | none => K false
theorem wantF_eq {all : List IOper} {env : List AV} {g : Option (Nat × Bool)} {K : Bool → Prop} : wantF all env g K = K (wanted all env g) := by
  unfold wantF wanted
  cases g with
  | none => rfl
  | some q =>
    obtain ⟨j, b⟩ := q
    simp only [nth_eq]
    cases all[j]? with
    | none => rfl
    | some o =>
      simp only [Option.bind_some]
      cases o.dst with
      | none => rfl
      | some t =>
        simp only [gF_eq]
        cases getL env t <;> try rfl
        rename_i x
        cases x <;> cases b <;> rfl
def aOne (hd : Hands) (all : List IOper) (slot : Option Nat) (o : IOper) (env : List AV) (A : Ah) (K : List AV → Ah → Prop) : Prop := wantF all env o.guard fun w => match w with
  | true => aOp hd slot env A o.op fun v A => pD env o.dst v fun env => K env A
  | false => pD env o.dst .undef fun env => K env A
theorem aOne_out {F : Ah} {hd : Hands} {all : List IOper} {slot : Option Nat} {o : IOper} {s : St} {A : Ah} {K : List AV → Ah → Prop} (hR : RepF F A s.H) (h : aOne hd all slot o s.env A K) : ∃ s' A', runOp hd all slot o s = some s' ∧ RepF F A' s'.H ∧ K s'.env A' := by
  unfold aOne at h
  rw [wantF_eq] at h
  split at h
  · rename_i hw
    obtain ⟨v, H', A', hv, hR', h⟩ := aOp_out hR h
    rw [pD_eq] at h
    exact ⟨⟨setD s.env o.dst v, H'⟩, A', by simp only [runOp, hw, if_true, hv, fV_eq, putD_eq], hR', h⟩
  · rename_i hw
    rw [pD_eq] at h
    exact ⟨⟨setD s.env o.dst .undef, s.H⟩, A, by simp only [runOp, hw, if_false, putD_eq, Bool.false_eq_true], hR, h⟩
noncomputable def aOps (hd : Hands) (all : List IOper) (l : List IOper) : List AV → Ah → (List AV → Ah → Prop) → Prop := List.rec (motive := fun _ => List AV → Ah → (List AV → Ah → Prop) → Prop)
  (fun env A Q => Q env A)
  (fun o _ ih env A Q => aOne hd all none o env A fun env A => ih env A Q) l
theorem aOps_out {F : Ah} {hd : Hands} {all : List IOper} : ∀ (l : List IOper) {s : St} {A : Ah} {Q : List AV → Ah → Prop}, RepF F A s.H → aOps hd all l s.env A Q → ∃ s' A', runOps hd all l s = some s' ∧ RepF F A' s'.H ∧ Q s'.env A'
  | [], s, A, Q, hR, h => ⟨s, A, rfl, hR, h⟩
  | o :: r, s, A, Q, hR, h => by
    obtain ⟨s1, A1, h1, hR1, h⟩ := aOne_out hR h
    obtain ⟨s2, A2, h2, hR2, h⟩ := aOps_out r hR1 h
    exact ⟨s2, A2, by simp only [runOps, h1, h2], hR2, h⟩
/-! ### Regions that draw their order -/
def needs : List (Nat × Nat) → Nat → Bool
  | [], _ => false
  | (x, y) :: r, q => match Nat.beq x q with
    | true => true
    | false => match Nat.beq y q with
      | true => true
      | false => needs r q
theorem needs_of {p : Nat × Nat} : ∀ {ps : List (Nat × Nat)}, p ∈ ps → needs ps p.1 = true ∧ needs ps p.2 = true
  | (x, y) :: r, h => by
    rcases List.mem_cons.1 h with rfl | h
    · simp only [needs]
      have e1 : Nat.beq x x = true := by simp [Nat.beq_eq]
      have e2 : Nat.beq y y = true := by simp [Nat.beq_eq]
      rw [e1, e2]
      refine ⟨rfl, ?_⟩
      split <;> rfl
    · obtain ⟨h1, h2⟩ := needs_of h
      simp only [needs, h1, h2]
      constructor <;> (split <;> first | rfl | (split <;> rfl))
def AccIs (hd : Hands) (all : List IOper) (slot : Nat) (o : IOper) (env : List AV) (A : Ah) (a : Acc) : Prop := ∀ H, Rep A H → accV hd all slot o env H = a
noncomputable def aDraw (hd : Hands) (all : List IOper) (b : Nat) (ps : List (Nat × Nat)) (l : List Nat) : Nat → List AV → Ah → List Acc → (List AV → Ah → List Acc → Prop) → Prop := List.rec (motive := fun _ => Nat → List AV → Ah → List Acc → (List AV → Ah → List Acc → Prop) → Prop)
  (fun _ env A as Q => Q env A as)
  (fun i _ ih q env A as Q => match nth all i with
    | none => False
    | some o => match needs ps q with
      | true => ∃ a, AccIs hd all (b + i) o env A a ∧ aOne hd all (some (b + i)) o env A fun env A => ih (q + 1) env A (as ++ [a]) Q
      | false => aOne hd all (some (b + i)) o env A fun env A => ih (q + 1) env A (as ++ [default]) Q) l
theorem aDraw_cons (hd : Hands) (all : List IOper) (b : Nat) (ps : List (Nat × Nat)) (i : Nat) (r : List Nat) (q : Nat) (env : List AV) (A : Ah) (as : List Acc) (Q : List AV → Ah → List Acc → Prop) : aDraw hd all b ps (i :: r) q env A as Q = (match nth all i with
    | none => False
    | some o => match needs ps q with
      | true => ∃ a, AccIs hd all (b + i) o env A a ∧ aOne hd all (some (b + i)) o env A fun env A => aDraw hd all b ps r (q + 1) env A (as ++ [a]) Q
      | false => aOne hd all (some (b + i)) o env A fun env A => aDraw hd all b ps r (q + 1) env A (as ++ [default]) Q) := rfl
def Like (ps : List (Nat × Nat)) (as bs : List Acc) : Prop := as.length = bs.length ∧ ∀ q, needs ps q = true → as[q]? = bs[q]?
theorem Like.snoc {ps : List (Nat × Nat)} {as bs : List Acc} (h : Like ps as bs) {a c : Acc} (hac : needs ps as.length = true → a = c) : Like ps (as ++ [a]) (bs ++ [c]) := by
  refine ⟨by simp [h.1], fun q hq => ?_⟩
  rcases Nat.lt_trichotomy q as.length with hlt | rfl | hgt
  · rw [List.getElem?_append_left hlt, List.getElem?_append_left (by rw [← h.1]; exact hlt)]; exact h.2 q hq
  · rw [hac hq]
    simp only [List.getElem?_append_right (Nat.le_refl _), Nat.sub_self]
    rw [h.1, List.getElem?_append_right (Nat.le_refl _), Nat.sub_self]
  · rw [List.getElem?_eq_none (by simp; omega), List.getElem?_eq_none (by have := h.1; simp; omega)]
theorem aDraw_out {F : Ah} {hd : Hands} {all : List IOper} {b : Nat} {ps : List (Nat × Nat)} : ∀ (l : List Nat) {q : Nat} {s : St} {A : Ah} {as bs : List Acc} {Q : List AV → Ah → List Acc → Prop}, RepF F A s.H → Like ps as bs → q = as.length → aDraw hd all b ps l q s.env A bs Q →
    ∃ s' A' as' bs', runDraw hd all b l s as = some (s', as') ∧ RepF F A' s'.H ∧ Like ps as' bs' ∧ Q s'.env A' bs'
  | [], q, s, A, as, bs, Q, hR, hL, hq, h => ⟨s, A, as, bs, rfl, hR, hL, h⟩
  | i :: r, q, s, A, as, bs, Q, hR, hL, hq, h => by
    rw [aDraw_cons, nth_eq] at h
    split at h
    · exact h.elim
    · rename_i o ho
      split at h
      · rename_i hn
        obtain ⟨a, ha, h⟩ := h
        obtain ⟨s1, A1, h1, hR1, h⟩ := aOne_out hR h
        obtain ⟨s2, A2, as', bs', h2, hR2, hL2, h⟩ := aDraw_out r (as := as ++ [accV hd all (b + i) o s.env s.H]) hR1 (hL.snoc fun _ => ha _ hR.base) (by simp [hq]) h
        exact ⟨s2, A2, as', bs', by simp only [runDraw, ho, h1]; exact h2, hR2, hL2, h⟩
      · rename_i hn
        obtain ⟨s1, A1, h1, hR1, h⟩ := aOne_out hR h
        obtain ⟨s2, A2, as', bs', h2, hR2, hL2, h⟩ := aDraw_out r (as := as ++ [accV hd all (b + i) o s.env s.H]) hR1 (hL.snoc fun e => by rw [← hq, hn] at e; cases e) (by simp [hq]) h
        exact ⟨s2, A2, as', bs', by simp only [runDraw, ho, h1]; exact h2, hR2, hL2, h⟩
/-- Does an operation make an object? -/
def makes : IOp → Bool
  | .rlit .. => true
  | .alloc _ => true
  | .box .. => true
  | .mslice .. => true
  | .mmap => true
  | .append .. => true
  | .call .. => true
  | .dyn .. => true
  | _ => false
def resvF (b : Nat) : List IOper → Nat → (Ah → Prop) → Prop
  | [], _, k => k []
  | o :: r, i, k => match makes o.op with
    | true => resvF b r (i + 1) fun l => k ((b + i, none) :: l)
    | false => resvF b r (i + 1) k
def resv (b : Nat) : List IOper → Nat → Ah
  | [], _ => []
  | o :: r, i => match makes o.op with
    | true => (b + i, none) :: resv b r (i + 1)
    | false => resv b r (i + 1)
theorem resvF_eq {b : Nat} : ∀ (l : List IOper) (i : Nat) (k : Ah → Prop), resvF b l i k = k (resv b l i)
  | [], i, k => rfl
  | o :: r, i, k => by
    simp only [resvF, resv]
    split <;> rw [resvF_eq r]
theorem resv_mem {b : Nat} : ∀ (l : List IOper) (i : Nat) (p : Nat × Option LObj), p ∈ resv b l i → p.2 = none ∧ b + i ≤ p.1 ∧ p.1 < b + i + l.length
  | [], i, p, h => by simp [resv] at h
  | o :: r, i, p, h => by
    simp only [resv] at h
    split at h
    · rcases List.mem_cons.1 h with rfl | h
      · exact ⟨rfl, Nat.le_refl _, by simp⟩
      · obtain ⟨h1, h2, h3⟩ := resv_mem r (i + 1) p h
        exact ⟨h1, by omega, by simp only [List.length_cons]; omega⟩
    · obtain ⟨h1, h2, h3⟩ := resv_mem r (i + 1) p h
      exact ⟨h1, by omega, by simp only [List.length_cons]; omega⟩
theorem resv_nodup {b : Nat} : ∀ (l : List IOper) (i : Nat), ((resv b l i).map Prod.fst).Nodup
  | [], i => by simp [resv]
  | o :: r, i => by
    simp only [resv]
    split
    · simp only [List.map_cons, List.nodup_cons]
      refine ⟨fun h => ?_, resv_nodup r (i + 1)⟩
      obtain ⟨p, hp, e⟩ := List.mem_map.1 h
      have := (resv_mem r (i + 1) p hp).2.1
      omega
    · exact resv_nodup r (i + 1)
theorem Rep.resv {A : Ah} {H : Hp} (h : Rep A H) (l : List IOper) : Rep (A ++ resv H.length l 0) (H ++ List.replicate l.length none) := by
  have hlt : ∀ p ∈ A, p.1 < H.length := fun p hp => (List.getElem?_eq_some_iff.1 (h.get p hp)).1
  refine ⟨?_, fun p hp => ?_⟩
  · rw [List.map_append, List.nodup_append]
    refine ⟨h.nodup, resv_nodup l 0, fun a ha b hb => ?_⟩
    obtain ⟨p, hp, rfl⟩ := List.mem_map.1 ha
    obtain ⟨q, hq, rfl⟩ := List.mem_map.1 hb
    have := hlt p hp
    have := (resv_mem l 0 q hq).2.1
    omega
  · rcases List.mem_append.1 hp with hp | hp
    · rw [List.getElem?_append_left (hlt p hp)]; exact h.get p hp
    · obtain ⟨h1, h2, h3⟩ := resv_mem l 0 p hp
      rw [List.getElem?_append_right (by omega), List.getElem?_replicate, if_pos (by omega), h1]
theorem RepF.resv {F A : Ah} {H : Hp} (h : RepF F A H) (l : List IOper) : RepF F (A ++ Go.Ai.resv H.length l 0) (H ++ List.replicate l.length none) := by
  refine (Rep.resv h l).perm ?_
  rw [List.append_assoc, List.append_assoc]
  exact List.Perm.append_left A (List.perm_append_comm)
/-! ### Code -/
def aBool (v : AV) (p q : Prop) : Prop := match v with
  | .bool true => p
  | .bool false => q
  | _ => False
def Sub (A A' : Ah) : Prop := ∀ F H, RepF F A H → RepF F A' H
theorem Sub.refl (A : Ah) : Sub A A := fun _ _ h => h
theorem Sub.list {A A' : Ah} (h : A'.Sublist A) : Sub A A' := fun F _ hR => Rep.sub hR (h.append (List.Sublist.refl F))
/-- What a loop comes to. -/
structure aLoop (hd : Hands) (n : Nat) (c : IC) (m : Nat) (env : List AV) (A : Ah) (Q : Out → List AV → Ah → Prop) : Prop where
  run : ∀ F H, RepF F A H → ∃ o s', loopN (evalC hd n c) m ⟨env, H⟩ = some (o, s') ∧ ∃ A', RepF F A' s'.H ∧ Q o s'.env A'
noncomputable def aC (hd : Hands) (n : Nat) (c : IC) : List AV → Ah → (Out → List AV → Ah → Prop) → Prop := IC.rec (motive := fun _ => List AV → Ah → (Out → List AV → Ah → Prop) → Prop)
  (fun env A Q => Q .normal env A)
  (fun ops env A Q => aOps hd ops ops env A (Q .normal))
  (fun ops ord ps env A Q => ∀ b, (∀ p ∈ A, p.1 < b) → resvF b ops 0 fun l => apF A l fun A => aDraw hd ops b ps ord 0 env A [] fun env A as => ps.all (fun p => (as.getD p.1 default).free (as.getD p.2 default)) = true ∧ Q .normal env A)
  (fun _ _ ia ib env A Q => ia env A fun o env A => match o with
    | .normal => ib env A Q
    | o => Q o env A)
  (fun x _ _ ia ib env A Q => x.fF env fun v => aBool v (ia env A Q) (ib env A Q))
  (fun id _ ic env A Q => ic env A fun o env A => match o with
    | .exit i => match Nat.beq i id with
      | true => Q .normal env A
      | false => Q (.exit i) env A
    | o => Q o env A)
  (fun c _ env A Q => aLoop hd n c n env A Q)
  (fun id env A Q => Q (.exit id) env A)
  (fun env A Q => Q .ret env A) c
theorem aC_cond (hd : Hands) (n : Nat) (x : Ex) (a b : IC) (env : List AV) (A : Ah) (Q : Out → List AV → Ah → Prop) : aC hd n (.cond x a b) env A Q = x.fF env fun v => aBool v (aC hd n a env A Q) (aC hd n b env A Q) := rfl
theorem aC_out {F : Ah} {hd : Hands} {n : Nat} : ∀ (c : IC) (s : St) (A : Ah) (Q : Out → List AV → Ah → Prop), RepF F A s.H → aC hd n c s.env A Q → ∃ o s', evalC hd n c s = some (o, s') ∧ ∃ A', RepF F A' s'.H ∧ Q o s'.env A'
  | .skip, s, A, Q, hR, h => ⟨_, s, rfl, A, hR, h⟩
  | .region ops, s, A, Q, hR, h => by
    obtain ⟨s', A', h1, hR', h⟩ := aOps_out ops hR h
    exact ⟨_, s', by simp only [evalC, h1], A', hR', h⟩
  | .draw ops ord ps, s, A, Q, hR, h => by
    have h : ∀ b, (∀ p ∈ A, p.1 < b) → resvF b ops 0 fun l => apF A l fun A => aDraw hd ops b ps ord 0 s.env A [] fun env A as => ps.all (fun p => (as.getD p.1 default).free (as.getD p.2 default)) = true ∧ Q .normal env A := h
    have h := h s.H.length fun p hp => (List.getElem?_eq_some_iff.1 (hR.get p hp)).1
    rw [resvF_eq, apF_eq] at h
    obtain ⟨s', A', as', bs', h1, hR', hL, h2, h⟩ := aDraw_out (s := ⟨s.env, s.H ++ List.replicate ops.length none⟩) (as := []) ord (hR.resv ops) ⟨rfl, fun _ _ => rfl⟩ rfl h
    refine ⟨_, s', ?_, A', hR', h⟩
    have h3 : ps.all (fun p => (as'.getD p.1 default).free (as'.getD p.2 default)) = true := by
      refine List.all_eq_true.2 fun p hp => ?_
      have := List.all_eq_true.1 h2 p hp
      obtain ⟨n1, n2⟩ := needs_of hp
      simpa [List.getD_eq_getElem?_getD, hL.2 _ n1, hL.2 _ n2] using this
    simp only [evalC, h1, h3, if_true]
  | .seq a b, s, A, Q, hR, h => by
    obtain ⟨o, s1, h1, A1, hR1, h⟩ := aC_out a s A _ hR h
    cases o with
    | normal =>
      obtain ⟨o2, s2, h2, h⟩ := aC_out b s1 A1 Q hR1 h
      exact ⟨o2, s2, by simp only [evalC, h1, h2], h⟩
    | exit i => exact ⟨_, s1, by simp only [evalC, h1], A1, hR1, h⟩
    | ret => exact ⟨_, s1, by simp only [evalC, h1], A1, hR1, h⟩
  | .cond x a b, s, A, Q, hR, h => by
    rw [aC_cond, fF_eq] at h
    simp only [aBool] at h
    split at h
    · rename_i ht
      obtain ⟨o, s1, h1, h⟩ := aC_out a s A Q hR h
      exact ⟨o, s1, by simp only [evalC, ht, h1], h⟩
    · rename_i ht
      obtain ⟨o, s1, h1, h⟩ := aC_out b s A Q hR h
      exact ⟨o, s1, by simp only [evalC, ht, h1], h⟩
    · exact h.elim
  | .block id c, s, A, Q, hR, h => by
    obtain ⟨o, s1, h1, A1, hR1, h⟩ := aC_out c s A _ hR h
    cases o with
    | normal => exact ⟨_, s1, by simp only [evalC, h1], A1, hR1, h⟩
    | exit i =>
      simp only at h
      split at h
      · rename_i e
        have e := Nat.eq_of_beq_eq_true e
        exact ⟨_, s1, by simp only [evalC, h1, e, if_true], A1, hR1, h⟩
      · rename_i e
        have e := Nat.ne_of_beq_eq_false e
        exact ⟨_, s1, by simp only [evalC, h1, if_neg e], A1, hR1, h⟩
    | ret => exact ⟨_, s1, by simp only [evalC, h1], A1, hR1, h⟩
  | .loop c, s, A, Q, hR, h => h.run F s.H hR
  | .exit id, s, A, Q, hR, h => ⟨_, s, rfl, A, hR, h⟩
  | .ret, s, A, Q, hR, h => ⟨_, s, rfl, A, hR, h⟩
/-- One round of a loop. -/
theorem aLoop_one {hd : Hands} {n m : Nat} {c : IC} {env : List AV} {A : Ah} {Q : Out → List AV → Ah → Prop} (h : aC hd n c env A fun o env A => match o with
    | .normal => aLoop hd n c m env A Q
    | o => Q o env A) : aLoop hd n c (m + 1) env A Q := by
  refine ⟨fun F H hR => ?_⟩
  obtain ⟨o, s1, h1, A1, hR1, h⟩ := aC_out c ⟨env, H⟩ A _ hR h
  cases o with
  | normal =>
    obtain ⟨o2, s2, h2, h⟩ := h.run F s1.H hR1
    exact ⟨o2, s2, by simp only [loopN, h1]; exact h2, h⟩
  | exit i => exact ⟨_, s1, by simp only [loopN, h1], A1, hR1, h⟩
  | ret => exact ⟨_, s1, by simp only [loopN, h1], A1, hR1, h⟩
theorem aLoop_sub {hd : Hands} {n m : Nat} {c : IC} {env : List AV} {A A' : Ah} {Q : Out → List AV → Ah → Prop} (hs : Sub A A') (h : aLoop hd n c m env A' Q) : aLoop hd n c m env A Q := ⟨fun F H hR => h.run F H (hs F H hR)⟩
/-- A loop, by an invariant and a number that falls. -/
theorem aLoop_inv {hd : Hands} {n : Nat} {c : IC} {Q : Out → List AV → Ah → Prop} (I : Nat → List AV → Ah → Prop)
    (step : ∀ m env A, I m env A → aC hd n c env A fun o env A => match o with
      | .normal => ∃ m' A', m' < m ∧ Sub A A' ∧ I m' env A'
      | o => Q o env A) : ∀ (k m : Nat) (env : List AV) (A : Ah), I m env A → m < k → aLoop hd n c k env A Q
  | 0, m, env, A, hI, hm => by omega
  | k + 1, m, env, A, hI, hm => by
    refine ⟨fun F H hR => ?_⟩
    obtain ⟨o, s1, h1, A1, hR1, h⟩ := aC_out c ⟨env, H⟩ A _ hR (step m env A hI)
    cases o with
    | normal =>
      obtain ⟨m', A', h2, h3, h4⟩ := h
      obtain ⟨o2, s2, h5, h⟩ := (aLoop_inv I step k m' s1.env A' h4 (by omega)).run F s1.H (h3 _ _ hR1)
      exact ⟨o2, s2, by simp only [loopN, h1]; exact h5, h⟩
    | exit i => exact ⟨_, s1, by simp only [loopN, h1], A1, hR1, h⟩
    | ret => exact ⟨_, s1, by simp only [loopN, h1], A1, hR1, h⟩
/-- The same, where the invariant comes with the objects that matter. -/
theorem aLoop_by {hd : Hands} {n : Nat} {c : IC} {Q : Out → List AV → Ah → Prop} (I : Nat → List AV → Ah → Prop) {m : Nat} {env : List AV} {A A0 : Ah} (hs : Sub A A0) (h0 : I m env A0) (hm : m < n)
    (step : ∀ m env A, I m env A → aC hd n c env A fun o env A => match o with
      | .normal => ∃ m' A', m' < m ∧ Sub A A' ∧ I m' env A'
      | o => Q o env A) : aLoop hd n c n env A Q := aLoop_sub hs (aLoop_inv I step n m env A0 h0 hm)
/-! ### Functions -/
def aRes (env : List AV) (A : Ah) (r : IRes) (K : AV → Prop) : Prop := match r with
  | .tmp t => gF env t K
  | .cell t n ag => gF env t fun p => match p with
    | .ptr l o g => aLoad A n ag (.ptr l o g) K
    | _ => False
noncomputable def aResL (env : List AV) (A : Ah) (rs : List IRes) : (List AV → Prop) → Prop := List.rec (motive := fun _ => (List AV → Prop) → Prop)
  (fun K => K [])
  (fun r _ ih K => aRes env A r fun v => ih fun vs => K (v :: vs)) rs
theorem aRes_out {s : St} {A : Ah} (hR : Rep A s.H) {r : IRes} {K : AV → Prop} (h : aRes s.env A r K) : ∃ v, result s r = some v ∧ K v := by
  cases r with
  | tmp t =>
    simp only [aRes, gF_eq] at h
    exact ⟨_, rfl, h⟩
  | cell t n ag =>
    simp only [aRes, gF_eq] at h
    split at h
    · rename_i l o g e
      obtain ⟨v, hv, h⟩ := aLoad_out hR h
      refine ⟨v, ?_, h⟩
      simp only [result, e]
      simp only [hLoad] at hv
      split at hv
      · rename_i cs k g' r f hl
        split at hv
        · rename_i hg
          simp only [getC, hl, Option.bind_some, if_pos hg]
          obtain ⟨c, hc, hv⟩ := Option.bind_eq_some_iff.1 hv
          simp only [Option.map_eq_some_iff, Prod.mk.injEq] at hv
          obtain ⟨v', hv', rfl, _⟩ := hv
          rw [hc, Option.bind_some, hv']
        · cases hv
      · cases hv
    · exact h.elim
theorem aResL_out {s : St} {A : Ah} (hR : Rep A s.H) : ∀ (rs : List IRes) {K : List AV → Prop}, aResL s.env A rs K → ∃ vs, resL s rs = some vs ∧ K vs
  | [], K, h => ⟨[], rfl, h⟩
  | r :: rs, K, h => by
    obtain ⟨v, hv, h⟩ := aRes_out hR h
    obtain ⟨vs, hvs, h⟩ := aResL_out hR rs h
    exact ⟨v :: vs, by simp only [resL, hv, hvs], h⟩
noncomputable def aB (hd : Hands) (n : Nat) (f : IFunc) (env : List AV) (A : Ah) (K : List AV → Ah → Prop) : Prop :=
  aC hd n f.body env A fun o env A => match o with
    | .exit _ => False
    | _ => aResL env A f.res fun rs => K rs A
theorem aB_out {F : Ah} {hd : Hands} {n : Nat} {f : IFunc} {args env : List AV} {A : Ah} {H : Hp} {K : List AV → Ah → Prop} (henv : args ++ List.replicate (f.ntmps - args.length) .undef = env) (hR : RepF F A H) (h : aB hd n f env A K) : ∃ rs H', evalB hd n f args H = some (rs, H') ∧ ∃ A', RepF F A' H' ∧ K rs A' := by
  obtain ⟨o, s, h1, A', hR', h⟩ := aC_out f.body ⟨env, H⟩ A _ hR h
  have key : ∀ rs, resL s f.res = some rs → (∀ i, o ≠ .exit i) → evalB hd n f args H = some (rs, s.H) := fun rs h2 ho => by
    simp only [evalB, fVs_eq, henv, h1]
    cases o with
    | exit i => exact absurd rfl (ho i)
    | normal => simp only [h2]
    | ret => simp only [h2]
  cases o with
  | exit i => exact h.elim
  | normal =>
    obtain ⟨rs, h2, h⟩ := aResL_out hR'.base _ h
    exact ⟨rs, s.H, key rs h2 (by simp), A', hR', h⟩
  | ret =>
    obtain ⟨rs, h2, h⟩ := aResL_out hR'.base _ h
    exact ⟨rs, s.H, key rs h2 (by simp), A', hR', h⟩
theorem Rep.nil : Rep [] [] := ⟨by simp, fun p hp => by simp at hp⟩
theorem RepF.nil : RepF [] [] [] := Rep.nil
def Fin (how : How) (A : Ah) (rs' rs : List AV) : Prop := ∀ H, Rep A H → finish how (rs', H) = some rs
theorem Fin.frz {A A1 : Ah} {rs' rs : List AV} (h : Frz A rs' rs A1) : Fin .iso A rs' rs := fun H hR => by
  obtain ⟨H1, e, _⟩ := h [] H (by unfold RepF; rw [List.append_nil]; exact hR)
  simp only [finish, reduceCtorEq, if_false, e, Option.map_some]
section
variable {P : Program}
/-- A function's contract, from its code. -/
theorem iso_of {hd : Hands} {f : Nat} {fn : Func} {ir : IFunc} {g : List AV → Option (List AV)} (how : How) (hnf : how ≠ .fresh) (hm : P.follows .mixedOrders = true) (hh : HandsOk P hd) (hfn : P.funcs[f]? = some fn) (hc : compile P fn = some ir)
    (h : ∀ args rs, g args = some rs → ∃ n env, args ++ List.replicate (ir.ntmps - args.length) .undef = env ∧ aB hd n ir env [] fun rs' A => Fin how A rs' rs) : IsoOk P f g := by
  refine ⟨compile_enters hfn hc, fun Pr w args vs rs hp ha hg => ?_⟩
  obtain ⟨n, env, henv, hw⟩ := h args rs hg
  obtain ⟨rs', H', h1, A', hR, h2⟩ := aB_out (F := []) henv RepF.nil hw
  exact iso_core hnf hm hh hfn hc h1 (h2 H' hR.base) hp ha
/-- A table of contracts. -/
structure Ent where
  how : How
  g : List AV → Option (List AV)
abbrev Tab := List (Nat × Ent)
def look {α : Type} : List (Nat × α) → Nat → Option α
  | [], _ => none
  | (k, v) :: r, f => match Nat.beq k f with
    | true => some v
    | false => look r f
theorem look_mem {α : Type} : ∀ {l : List (Nat × α)} {f : Nat} {v : α}, look l f = some v → (f, v) ∈ l
  | [], f, v, h => by simp [look] at h
  | (k, u) :: r, f, v, h => by
    simp only [look] at h
    split at h
    · rename_i hk
      have := Nat.eq_of_beq_eq_true hk
      injection h with h
      subst this h
      simp
    · exact List.mem_cons_of_mem _ (look_mem h)
def hands (T : Tab) : Hands := ⟨fun f => match look T f with
  | some e => e.how
  | none => .iso, fun f args => match look T f with
  | some e => e.g args
  | none => none, fun _ _ _ => none⟩
def EntOk (P : Program) (f : Nat) (e : Ent) : Prop := match e.how with
  | .shared => False
  | .fresh => FreshOk P f e.g
  | _ => IsoOk P f e.g
def TabOk (P : Program) (T : Tab) : Prop := ∀ p ∈ T, EntOk P p.1 p.2
theorem hands_ok {T : Tab} (hT : TabOk P T) : HandsOk P (hands T) := by
  have key : ∀ f e, look T f = some e → EntOk P f e := fun f e h => hT _ (look_mem h)
  refine ⟨fun f hf ⟨args, rs, h⟩ => ?_, fun f hf hff ⟨args, rs, h⟩ => ?_, fun f hf ⟨args, H, rs, h⟩ => ?_⟩
  · simp only [hands] at h hf
    cases hl : look T f with
    | none => simp [hl] at h
    | some e =>
      have : (hands T).iso f = e.g := by funext args; simp [hands, hl]
      rw [this]
      have hk := key f e hl
      simp only [hl] at hf
      simpa [EntOk, hf] using hk
  · simp only [hands] at h hf hff
    cases hl : look T f with
    | none => simp [hl] at h
    | some e =>
      have : (hands T).iso f = e.g := by funext args; simp [hands, hl]
      rw [this]
      have hk := key f e hl
      simp only [hl] at hf hff
      cases he : e.how <;> simp [he] at hf hff <;> simpa [EntOk, he] using hk
  · simp only [hands] at h
    cases h
theorem TabOk.nil : TabOk P [] := fun p hp => by simp at hp
theorem TabOk.cons {T : Tab} {f : Nat} {e : Ent} (h : EntOk P f e) (hT : TabOk P T) : TabOk P ((f, e) :: T) := fun p hp => by
  rcases List.mem_cons.1 hp with rfl | hp
  · exact h
  · exact hT p hp
end
end Go.Ai
