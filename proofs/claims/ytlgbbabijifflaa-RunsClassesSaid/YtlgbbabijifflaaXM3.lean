/- Part 3 of the proof: what the last text leans on. -/
import Derived.OpenShut
import Derived.ChangeArms
import Derived.ChangeOld
import Derived.SizedLaws
import Derived.Carry
import Derived.ProofKit
import Derived.ShutString
import Derived.Test.YtlgbbabijifflaaXM2
set_option linter.unusedVariables false
set_option linter.unusedSimpArgs false
namespace Go.Ai
open Go.RowKit
def pD (env : List AV) (d : Option Nat) (v : AV) (k : List AV → Prop) : Prop := match d with
  | none => k env
  | some i => sF env i v k
theorem pD_eq (env : List AV) (d : Option Nat) (v : AV) (k : List AV → Prop) : pD env d v k = k (setD env d v) := by
  cases d <;> simp [pD, setD, sF_eq]
def nth {α : Type} : List α → Nat → Option α
  | [], _ => none
  | x :: _, 0 => some x
  | _ :: r, n + 1 => nth r n
theorem nth_eq {α : Type} : ∀ (l : List α) (n : Nat), nth l n = l[n]?
  | [], n => by simp [nth]
  | x :: r, 0 => rfl
  | x :: r, n + 1 => by simp [nth, nth_eq r n]
def sameB : Bool → Bool → Bool
  | true, b => b
  | false, true => false
  | false, false => true
def wantF (all : List IOper) (env : List AV) (g : Option (Nat × Bool)) (K : Bool → Prop) : Prop := match g with
  | none => K true
  | some (j, b) => match nth all j with
    | some o => match o.dst with
      | some t => gF env t fun v => match v with
        | .bool x => match sameB x b with
          | true => K true
          | false => K false
        | _ => K false
      | none => K false
    | none => K false
theorem wantF_eq {all : List IOper} {env : List AV} {g : Option (Nat × Bool)} {K : Bool → Prop} : wantF all env g K = K (wanted all env g) := by
  unfold wantF wanted
  cases g with
  | none => rfl
  | some q =>
    obtain ⟨j, b⟩ := q
    simp only [nth_eq]
    cases all[j]? with
    | none => rfl
    | some o =>
      simp only [Option.bind_some]
      cases o.dst with
      | none => rfl
      | some t =>
        simp only [gF_eq]
        cases getL env t <;> try rfl
        rename_i x
        cases x <;> cases b <;> rfl
def aOne (hd : Hands) (all : List IOper) (slot : Option Nat) (o : IOper) (env : List AV) (A : Ah) (K : List AV → Ah → Prop) : Prop := wantF all env o.guard fun w => match w with
  | true => aOp hd slot env A o.op fun v A => pD env o.dst v fun env => K env A
  | false => pD env o.dst .undef fun env => K env A
theorem aOne_out {F : Ah} {hd : Hands} {all : List IOper} {slot : Option Nat} {o : IOper} {s : St} {A : Ah} {K : List AV → Ah → Prop} (hR : RepF F A s.H) (h : aOne hd all slot o s.env A K) : ∃ s' A', runOp hd all slot o s = some s' ∧ RepF F A' s'.H ∧ K s'.env A' := by
  unfold aOne at h
  rw [wantF_eq] at h
  split at h
  · rename_i hw
    obtain ⟨v, H', A', hv, hR', h⟩ := aOp_out hR h
    rw [pD_eq] at h
    exact ⟨⟨setD s.env o.dst v, H'⟩, A', by simp only [runOp, hw, if_true, hv, fV_eq, putD_eq], hR', h⟩
  · rename_i hw
    rw [pD_eq] at h
    exact ⟨⟨setD s.env o.dst .undef, s.H⟩, A, by simp only [runOp, hw, if_false, putD_eq, Bool.false_eq_true], hR, h⟩
noncomputable def aOps (hd : Hands) (all : List IOper) (l : List IOper) : List AV → Ah → (List AV → Ah → Prop) → Prop := List.rec (motive := fun _ => List AV → Ah → (List AV → Ah → Prop) → Prop)
  (fun env A Q => Q env A)
  (fun o _ ih env A Q => aOne hd all none o env A fun env A => ih env A Q) l
theorem aOps_out {F : Ah} {hd : Hands} {all : List IOper} : ∀ (l : List IOper) {s : St} {A : Ah} {Q : List AV → Ah → Prop}, RepF F A s.H → aOps hd all l s.env A Q → ∃ s' A', runOps hd all l s = some s' ∧ RepF F A' s'.H ∧ Q s'.env A'
  | [], s, A, Q, hR, h => ⟨s, A, rfl, hR, h⟩
  | o :: r, s, A, Q, hR, h => by
    obtain ⟨s1, A1, h1, hR1, h⟩ := aOne_out hR h
    obtain ⟨s2, A2, h2, hR2, h⟩ := aOps_out r hR1 h
    exact ⟨s2, A2, by simp only [runOps, h1, h2], hR2, h⟩
def needs : List (Nat × Nat) → Nat → Bool
  | [], _ => false
  | (x, y) :: r, q => match Nat.beq x q with
    | true => true
    | false => match Nat.beq y q with
      | true => true
      | false => needs r q
theorem needs_of {p : Nat × Nat} : ∀ {ps : List (Nat × Nat)}, p ∈ ps → needs ps p.1 = true ∧ needs ps p.2 = true
  | (x, y) :: r, h => by
    rcases List.mem_cons.1 h with rfl | h
    · simp only [needs]
      have e1 : Nat.beq x x = true := by simp [Nat.beq_eq]
      have e2 : Nat.beq y y = true := by simp [Nat.beq_eq]
      rw [e1, e2]
      refine ⟨rfl, ?_⟩
      split <;> rfl
    · obtain ⟨h1, h2⟩ := needs_of h
      simp only [needs, h1, h2]
      constructor <;> (split <;> first | rfl | (split <;> rfl))
def AccIs (hd : Hands) (all : List IOper) (slot : Nat) (o : IOper) (env : List AV) (A : Ah) (a : Acc) : Prop := ∀ H, Rep A H → accV hd all slot o env H = a
noncomputable def aDraw (hd : Hands) (all : List IOper) (b : Nat) (ps : List (Nat × Nat)) (l : List Nat) : Nat → List AV → Ah → List Acc → (List AV → Ah → List Acc → Prop) → Prop := List.rec (motive := fun _ => Nat → List AV → Ah → List Acc → (List AV → Ah → List Acc → Prop) → Prop)
  (fun _ env A ac' Q => Q env A ac')
  (fun i _ ih q env A ac' Q => match nth all i with
    | none => False
    | some o => match needs ps q with
      | true => ∃ a, AccIs hd all (b + i) o env A a ∧ aOne hd all (some (b + i)) o env A fun env A => ih (q + 1) env A (ac' ++ [a]) Q
      | false => aOne hd all (some (b + i)) o env A fun env A => ih (q + 1) env A (ac' ++ [default]) Q) l
theorem aDraw_cons (hd : Hands) (all : List IOper) (b : Nat) (ps : List (Nat × Nat)) (i : Nat) (r : List Nat) (q : Nat) (env : List AV) (A : Ah) (ac' : List Acc) (Q : List AV → Ah → List Acc → Prop) : aDraw hd all b ps (i :: r) q env A ac' Q = (match nth all i with
    | none => False
    | some o => match needs ps q with
      | true => ∃ a, AccIs hd all (b + i) o env A a ∧ aOne hd all (some (b + i)) o env A fun env A => aDraw hd all b ps r (q + 1) env A (ac' ++ [a]) Q
      | false => aOne hd all (some (b + i)) o env A fun env A => aDraw hd all b ps r (q + 1) env A (ac' ++ [default]) Q) := rfl
def Like (ps : List (Nat × Nat)) (ac' bs : List Acc) : Prop := ac'.length = bs.length ∧ ∀ q, needs ps q = true → ac'[q]? = bs[q]?
theorem Like.snoc {ps : List (Nat × Nat)} {ac' bs : List Acc} (h : Like ps ac' bs) {a c : Acc} (hac : needs ps ac'.length = true → a = c) : Like ps (ac' ++ [a]) (bs ++ [c]) := by
  refine ⟨by simp [h.1], fun q hq => ?_⟩
  rcases Nat.lt_trichotomy q ac'.length with hlt | rfl | hgt
  · rw [List.getElem?_append_left hlt, List.getElem?_append_left (by rw [← h.1]; exact hlt)]; exact h.2 q hq
  · rw [hac hq]
    simp only [List.getElem?_append_right (Nat.le_refl _), Nat.sub_self]
    rw [h.1, List.getElem?_append_right (Nat.le_refl _), Nat.sub_self]
  · rw [List.getElem?_eq_none (by simp; omega), List.getElem?_eq_none (by have := h.1; simp; omega)]
theorem aDraw_out {F : Ah} {hd : Hands} {all : List IOper} {b : Nat} {ps : List (Nat × Nat)} : ∀ (l : List Nat) {q : Nat} {s : St} {A : Ah} {ac' bs : List Acc} {Q : List AV → Ah → List Acc → Prop}, RepF F A s.H → Like ps ac' bs → q = ac'.length → aDraw hd all b ps l q s.env A bs Q →
    ∃ s' A' as' bs', runDraw hd all b l s ac' = some (s', as') ∧ RepF F A' s'.H ∧ Like ps as' bs' ∧ Q s'.env A' bs'
  | [], q, s, A, ac', bs, Q, hR, hL, hq, h => ⟨s, A, ac', bs, rfl, hR, hL, h⟩
  | i :: r, q, s, A, ac', bs, Q, hR, hL, hq, h => by
    rw [aDraw_cons, nth_eq] at h
    split at h
    · exact h.elim
    · rename_i o ho
      split at h
      · rename_i hn
        obtain ⟨a, ha, h⟩ := h
        obtain ⟨s1, A1, h1, hR1, h⟩ := aOne_out hR h
        obtain ⟨s2, A2, as', bs', h2, hR2, hL2, h⟩ := aDraw_out r (ac' := ac' ++ [accV hd all (b + i) o s.env s.H]) hR1 (hL.snoc fun _ => ha _ hR.base) (by simp [hq]) h
        exact ⟨s2, A2, as', bs', by simp only [runDraw, ho, h1]; exact h2, hR2, hL2, h⟩
      · rename_i hn
        obtain ⟨s1, A1, h1, hR1, h⟩ := aOne_out hR h
        obtain ⟨s2, A2, as', bs', h2, hR2, hL2, h⟩ := aDraw_out r (ac' := ac' ++ [accV hd all (b + i) o s.env s.H]) hR1 (hL.snoc fun e => by rw [← hq, hn] at e; cases e) (by simp [hq]) h
        exact ⟨s2, A2, as', bs', by simp only [runDraw, ho, h1]; exact h2, hR2, hL2, h⟩
def makes : IOp → Bool
  | .rlit .. => true
  | .alloc _ => true
  | .box .. => true
  | .mslice .. => true
  | .mmap => true
  | .append .. => true
  | .call .. => true
  | .dyn .. => true
  | _ => false
def resvF (b : Nat) : List IOper → Nat → (Ah → Prop) → Prop
  | [], _, k => k []
  | o :: r, i, k => match makes o.op with
    | true => resvF b r (i + 1) fun l => k ((b + i, none) :: l)
    | false => resvF b r (i + 1) k
def resv (b : Nat) : List IOper → Nat → Ah
  | [], _ => []
  | o :: r, i => match makes o.op with
    | true => (b + i, none) :: resv b r (i + 1)
    | false => resv b r (i + 1)
theorem resvF_eq {b : Nat} : ∀ (l : List IOper) (i : Nat) (k : Ah → Prop), resvF b l i k = k (resv b l i)
  | [], i, k => rfl
  | o :: r, i, k => by
    simp only [resvF, resv]
    split <;> rw [resvF_eq r]
theorem resv_mem {b : Nat} : ∀ (l : List IOper) (i : Nat) (p : Nat × Option LObj), p ∈ resv b l i → p.2 = none ∧ b + i ≤ p.1 ∧ p.1 < b + i + l.length
  | [], i, p, h => by simp [resv] at h
  | o :: r, i, p, h => by
    simp only [resv] at h
    split at h
    · rcases List.mem_cons.1 h with rfl | h
      · exact ⟨rfl, Nat.le_refl _, by simp⟩
      · obtain ⟨h1, h2, h3⟩ := resv_mem r (i + 1) p h
        exact ⟨h1, by omega, by simp only [List.length_cons]; omega⟩
    · obtain ⟨h1, h2, h3⟩ := resv_mem r (i + 1) p h
      exact ⟨h1, by omega, by simp only [List.length_cons]; omega⟩
theorem resv_nodup {b : Nat} : ∀ (l : List IOper) (i : Nat), ((resv b l i).map Prod.fst).Nodup
  | [], i => by simp [resv]
  | o :: r, i => by
    simp only [resv]
    split
    · simp only [List.map_cons, List.nodup_cons]
      refine ⟨fun h => ?_, resv_nodup r (i + 1)⟩
      obtain ⟨p, hp, e⟩ := List.mem_map.1 h
      have := (resv_mem r (i + 1) p hp).2.1
      omega
    · exact resv_nodup r (i + 1)
theorem Rep.resv {A : Ah} {H : Hp} (h : Rep A H) (l : List IOper) : Rep (A ++ resv H.length l 0) (H ++ List.replicate l.length none) := by
  have hlt : ∀ p ∈ A, p.1 < H.length := fun p hp => (List.getElem?_eq_some_iff.1 (h.get p hp)).1
  refine ⟨?_, fun p hp => ?_⟩
  · rw [List.map_append, List.nodup_append]
    refine ⟨h.nodup, resv_nodup l 0, fun a ha b hb => ?_⟩
    obtain ⟨p, hp, rfl⟩ := List.mem_map.1 ha
    obtain ⟨q, hq, rfl⟩ := List.mem_map.1 hb
    have := hlt p hp
    have := (resv_mem l 0 q hq).2.1
    omega
  · rcases List.mem_append.1 hp with hp | hp
    · rw [List.getElem?_append_left (hlt p hp)]; exact h.get p hp
    · obtain ⟨h1, h2, h3⟩ := resv_mem l 0 p hp
      rw [List.getElem?_append_right (by omega), List.getElem?_replicate, if_pos (by omega), h1]
theorem RepF.resv {F A : Ah} {H : Hp} (h : RepF F A H) (l : List IOper) : RepF F (A ++ Go.Ai.resv H.length l 0) (H ++ List.replicate l.length none) := by
  refine (Rep.resv h l).perm ?_
  rw [List.append_assoc, List.append_assoc]
  exact List.Perm.append_left A (List.perm_append_comm)
def aBool (v : AV) (p q : Prop) : Prop := match v with
  | .bool true => p
  | .bool false => q
  | _ => False
def Sub (A A' : Ah) : Prop := ∀ F H, RepF F A H → RepF F A' H
theorem Sub.refl (A : Ah) : Sub A A := fun _ _ h => h
theorem Sub.list {A A' : Ah} (h : A'.Sublist A) : Sub A A' := fun F _ hR => Rep.sub hR (h.append (List.Sublist.refl F))
structure aLoop (hd : Hands) (n : Nat) (c : IC) (m : Nat) (env : List AV) (A : Ah) (Q : Out → List AV → Ah → Prop) : Prop where
  run : ∀ F H, RepF F A H → ∃ o s', loopN (evalC hd n c) m ⟨env, H⟩ = some (o, s') ∧ ∃ A', RepF F A' s'.H ∧ Q o s'.env A'
noncomputable def aC (hd : Hands) (n : Nat) (c : IC) : List AV → Ah → (Out → List AV → Ah → Prop) → Prop := IC.rec (motive := fun _ => List AV → Ah → (Out → List AV → Ah → Prop) → Prop)
  (fun env A Q => Q .normal env A)
  (fun ops env A Q => aOps hd ops ops env A (Q .normal))
  (fun ops ord ps env A Q => ∀ b, (∀ p ∈ A, p.1 < b) → resvF b ops 0 fun l => apF A l fun A => aDraw hd ops b ps ord 0 env A [] fun env A ac' => ps.all (fun p => (ac'.getD p.1 default).free (ac'.getD p.2 default)) = true ∧ Q .normal env A)
  (fun _ _ ia ib env A Q => ia env A fun o env A => match o with
    | .normal => ib env A Q
    | o => Q o env A)
  (fun x _ _ ia ib env A Q => x.fF env fun v => aBool v (ia env A Q) (ib env A Q))
  (fun id _ ic env A Q => ic env A fun o env A => match o with
    | .exit i => match Nat.beq i id with
      | true => Q .normal env A
      | false => Q (.exit i) env A
    | o => Q o env A)
  (fun c _ env A Q => aLoop hd n c n env A Q)
  (fun id env A Q => Q (.exit id) env A)
  (fun env A Q => Q .ret env A) c
theorem aC_cond (hd : Hands) (n : Nat) (x : Ex) (a b : IC) (env : List AV) (A : Ah) (Q : Out → List AV → Ah → Prop) : aC hd n (.cond x a b) env A Q = x.fF env fun v => aBool v (aC hd n a env A Q) (aC hd n b env A Q) := rfl
theorem aC_out {F : Ah} {hd : Hands} {n : Nat} : ∀ (c : IC) (s : St) (A : Ah) (Q : Out → List AV → Ah → Prop), RepF F A s.H → aC hd n c s.env A Q → ∃ o s', evalC hd n c s = some (o, s') ∧ ∃ A', RepF F A' s'.H ∧ Q o s'.env A'
  | .skip, s, A, Q, hR, h => ⟨_, s, rfl, A, hR, h⟩
  | .region ops, s, A, Q, hR, h => by
    obtain ⟨s', A', h1, hR', h⟩ := aOps_out ops hR h
    exact ⟨_, s', by simp only [evalC, h1], A', hR', h⟩
  | .draw ops ord ps, s, A, Q, hR, h => by
    have h : ∀ b, (∀ p ∈ A, p.1 < b) → resvF b ops 0 fun l => apF A l fun A => aDraw hd ops b ps ord 0 s.env A [] fun env A ac' => ps.all (fun p => (ac'.getD p.1 default).free (ac'.getD p.2 default)) = true ∧ Q .normal env A := h
    have h := h s.H.length fun p hp => (List.getElem?_eq_some_iff.1 (hR.get p hp)).1
    rw [resvF_eq, apF_eq] at h
    obtain ⟨s', A', as', bs', h1, hR', hL, h2, h⟩ := aDraw_out (s := ⟨s.env, s.H ++ List.replicate ops.length none⟩) (ac' := []) ord (hR.resv ops) ⟨rfl, fun _ _ => rfl⟩ rfl h
    refine ⟨_, s', ?_, A', hR', h⟩
    have h3 : ps.all (fun p => (as'.getD p.1 default).free (as'.getD p.2 default)) = true := by
      refine List.all_eq_true.2 fun p hp => ?_
      have := List.all_eq_true.1 h2 p hp
      obtain ⟨n1, n2⟩ := needs_of hp
      simpa [List.getD_eq_getElem?_getD, hL.2 _ n1, hL.2 _ n2] using this
    simp only [evalC, h1, h3, if_true]
  | .seq a b, s, A, Q, hR, h => by
    obtain ⟨o, s1, h1, A1, hR1, h⟩ := aC_out a s A _ hR h
    cases o with
    | normal =>
      obtain ⟨o2, s2, h2, h⟩ := aC_out b s1 A1 Q hR1 h
      exact ⟨o2, s2, by simp only [evalC, h1, h2], h⟩
    | exit i => exact ⟨_, s1, by simp only [evalC, h1], A1, hR1, h⟩
    | ret => exact ⟨_, s1, by simp only [evalC, h1], A1, hR1, h⟩
  | .cond x a b, s, A, Q, hR, h => by
    rw [aC_cond, fF_eq] at h
    simp only [aBool] at h
    split at h
    · rename_i ht
      obtain ⟨o, s1, h1, h⟩ := aC_out a s A Q hR h
      exact ⟨o, s1, by simp only [evalC, ht, h1], h⟩
    · rename_i ht
      obtain ⟨o, s1, h1, h⟩ := aC_out b s A Q hR h
      exact ⟨o, s1, by simp only [evalC, ht, h1], h⟩
    · exact h.elim
  | .block id c, s, A, Q, hR, h => by
    obtain ⟨o, s1, h1, A1, hR1, h⟩ := aC_out c s A _ hR h
    cases o with
    | normal => exact ⟨_, s1, by simp only [evalC, h1], A1, hR1, h⟩
    | exit i =>
      simp only at h
      split at h
      · rename_i e
        have e := Nat.eq_of_beq_eq_true e
        exact ⟨_, s1, by simp only [evalC, h1, e, if_true], A1, hR1, h⟩
      · rename_i e
        have e := Nat.ne_of_beq_eq_false e
        exact ⟨_, s1, by simp only [evalC, h1, if_neg e], A1, hR1, h⟩
    | ret => exact ⟨_, s1, by simp only [evalC, h1], A1, hR1, h⟩
  | .loop c, s, A, Q, hR, h => h.run F s.H hR
  | .exit id, s, A, Q, hR, h => ⟨_, s, rfl, A, hR, h⟩
  | .ret, s, A, Q, hR, h => ⟨_, s, rfl, A, hR, h⟩
theorem aLoop_one {hd : Hands} {n m : Nat} {c : IC} {env : List AV} {A : Ah} {Q : Out → List AV → Ah → Prop} (h : aC hd n c env A fun o env A => match o with
    | .normal => aLoop hd n c m env A Q
    | o => Q o env A) : aLoop hd n c (m + 1) env A Q := by
  refine ⟨fun F H hR => ?_⟩
  obtain ⟨o, s1, h1, A1, hR1, h⟩ := aC_out c ⟨env, H⟩ A _ hR h
  cases o with
  | normal =>
    obtain ⟨o2, s2, h2, h⟩ := h.run F s1.H hR1
    exact ⟨o2, s2, by simp only [loopN, h1]; exact h2, h⟩
  | exit i => exact ⟨_, s1, by simp only [loopN, h1], A1, hR1, h⟩
  | ret => exact ⟨_, s1, by simp only [loopN, h1], A1, hR1, h⟩
theorem aLoop_sub {hd : Hands} {n m : Nat} {c : IC} {env : List AV} {A A' : Ah} {Q : Out → List AV → Ah → Prop} (hs : Sub A A') (h : aLoop hd n c m env A' Q) : aLoop hd n c m env A Q := ⟨fun F H hR => h.run F H (hs F H hR)⟩
theorem aLoop_inv {hd : Hands} {n : Nat} {c : IC} {Q : Out → List AV → Ah → Prop} (I : Nat → List AV → Ah → Prop)
    (step : ∀ m env A, I m env A → aC hd n c env A fun o env A => match o with
      | .normal => ∃ m' A', m' < m ∧ Sub A A' ∧ I m' env A'
      | o => Q o env A) : ∀ (k m : Nat) (env : List AV) (A : Ah), I m env A → m < k → aLoop hd n c k env A Q
  | 0, m, env, A, hI, hm => by omega
  | k + 1, m, env, A, hI, hm => by
    refine ⟨fun F H hR => ?_⟩
    obtain ⟨o, s1, h1, A1, hR1, h⟩ := aC_out c ⟨env, H⟩ A _ hR (step m env A hI)
    cases o with
    | normal =>
      obtain ⟨m', A', h2, h3, h4⟩ := h
      obtain ⟨o2, s2, h5, h⟩ := (aLoop_inv I step k m' s1.env A' h4 (by omega)).run F s1.H (h3 _ _ hR1)
      exact ⟨o2, s2, by simp only [loopN, h1]; exact h5, h⟩
    | exit i => exact ⟨_, s1, by simp only [loopN, h1], A1, hR1, h⟩
    | ret => exact ⟨_, s1, by simp only [loopN, h1], A1, hR1, h⟩
theorem aLoop_by {hd : Hands} {n : Nat} {c : IC} {Q : Out → List AV → Ah → Prop} (I : Nat → List AV → Ah → Prop) {m : Nat} {env : List AV} {A A0 : Ah} (hs : Sub A A0) (h0 : I m env A0) (hm : m < n)
    (step : ∀ m env A, I m env A → aC hd n c env A fun o env A => match o with
      | .normal => ∃ m' A', m' < m ∧ Sub A A' ∧ I m' env A'
      | o => Q o env A) : aLoop hd n c n env A Q := aLoop_sub hs (aLoop_inv I step n m env A0 h0 hm)
def aRes (env : List AV) (A : Ah) (r : IRes) (K : AV → Prop) : Prop := match r with
  | .tmp t => gF env t K
  | .cell t n ag => gF env t fun p => match p with
    | .ptr l o g => aLoad A n ag (.ptr l o g) K
    | _ => False
noncomputable def aResL (env : List AV) (A : Ah) (rs : List IRes) : (List AV → Prop) → Prop := List.rec (motive := fun _ => (List AV → Prop) → Prop)
  (fun K => K [])
  (fun r _ ih K => aRes env A r fun v => ih fun vs => K (v :: vs)) rs
theorem aRes_out {s : St} {A : Ah} (hR : Rep A s.H) {r : IRes} {K : AV → Prop} (h : aRes s.env A r K) : ∃ v, result s r = some v ∧ K v := by
  cases r with
  | tmp t =>
    simp only [aRes, gF_eq] at h
    exact ⟨_, rfl, h⟩
  | cell t n ag =>
    simp only [aRes, gF_eq] at h
    split at h
    · rename_i l o g e
      obtain ⟨v, hv, h⟩ := aLoad_out hR h
      refine ⟨v, ?_, h⟩
      simp only [result, e]
      simp only [hLoad] at hv
      split at hv
      · rename_i cs k g' r f hl
        split at hv
        · rename_i hg
          simp only [getC, hl, Option.bind_some, if_pos hg]
          obtain ⟨c, hc, hv⟩ := Option.bind_eq_some_iff.1 hv
          simp only [Option.map_eq_some_iff, Prod.mk.injEq] at hv
          obtain ⟨v', hv', rfl, _⟩ := hv
          rw [hc, Option.bind_some, hv']
        · cases hv
      · cases hv
    · exact h.elim
theorem aResL_out {s : St} {A : Ah} (hR : Rep A s.H) : ∀ (rs : List IRes) {K : List AV → Prop}, aResL s.env A rs K → ∃ vs, resL s rs = some vs ∧ K vs
  | [], K, h => ⟨[], rfl, h⟩
  | r :: rs, K, h => by
    obtain ⟨v, hv, h⟩ := aRes_out hR h
    obtain ⟨vs, hvs, h⟩ := aResL_out hR rs h
    exact ⟨v :: vs, by simp only [resL, hv, hvs], h⟩
noncomputable def aB (hd : Hands) (n : Nat) (f : IFunc) (env : List AV) (A : Ah) (K : List AV → Ah → Prop) : Prop :=
  aC hd n f.body env A fun o env A => match o with
    | .exit _ => False
    | _ => aResL env A f.res fun rs => K rs A
theorem aB_out {F : Ah} {hd : Hands} {n : Nat} {f : IFunc} {args env : List AV} {A : Ah} {H : Hp} {K : List AV → Ah → Prop} (henv : args ++ List.replicate (f.ntmps - args.length) .undef = env) (hR : RepF F A H) (h : aB hd n f env A K) : ∃ rs H', evalB hd n f args H = some (rs, H') ∧ ∃ A', RepF F A' H' ∧ K rs A' := by
  obtain ⟨o, s, h1, A', hR', h⟩ := aC_out f.body ⟨env, H⟩ A _ hR h
  have key : ∀ rs, resL s f.res = some rs → (∀ i, o ≠ .exit i) → evalB hd n f args H = some (rs, s.H) := fun rs h2 ho => by
    simp only [evalB, fVs_eq, henv, h1]
    cases o with
    | exit i => exact absurd rfl (ho i)
    | normal => simp only [h2]
    | ret => simp only [h2]
  cases o with
  | exit i => exact h.elim
  | normal =>
    obtain ⟨rs, h2, h⟩ := aResL_out hR'.base _ h
    exact ⟨rs, s.H, key rs h2 (by simp), A', hR', h⟩
  | ret =>
    obtain ⟨rs, h2, h⟩ := aResL_out hR'.base _ h
    exact ⟨rs, s.H, key rs h2 (by simp), A', hR', h⟩
theorem Rep.nil : Rep [] [] := ⟨by simp, fun p hp => by simp at hp⟩
theorem RepF.nil : RepF [] [] [] := Rep.nil
def Fin (how : How) (A : Ah) (rs' rs : List AV) : Prop := ∀ H, Rep A H → finish how (rs', H) = some rs
theorem Fin.frz {A A1 : Ah} {rs' rs : List AV} (h : Frz A rs' rs A1) : Fin .iso A rs' rs := fun H hR => by
  obtain ⟨H1, e, _⟩ := h [] H (by unfold RepF; rw [List.append_nil]; exact hR)
  simp only [finish, reduceCtorEq, if_false, e, Option.map_some]
section
variable {P : Program}
theorem iso_of {hd : Hands} {f : Nat} {fn : Func} {ir : IFunc} {g : List AV → Option (List AV)} (how : How) (hnf : how ≠ .fresh) (hm : P.follows .mixedOrders = true) (hh : HandsOk P hd) (hfn : P.funcs[f]? = some fn) (hc : compile P fn = some ir)
    (h : ∀ args rs, g args = some rs → ∃ n env, args ++ List.replicate (ir.ntmps - args.length) .undef = env ∧ aB hd n ir env [] fun rs' A => Fin how A rs' rs) : IsoOk P f g := by
  refine ⟨compile_enters hfn hc, fun Pr w args vs rs hp ha hg => ?_⟩
  obtain ⟨n, env, henv, hw⟩ := h args rs hg
  obtain ⟨rs', H', h1, A', hR, h2⟩ := aB_out (F := []) henv RepF.nil hw
  exact iso_core hnf hm hh hfn hc h1 (h2 H' hR.base) hp ha
structure Ent where
  how : How
  g : List AV → Option (List AV)
abbrev Tab := List (Nat × Ent)
def look {α : Type} : List (Nat × α) → Nat → Option α
  | [], _ => none
  | (k, v) :: r, f => match Nat.beq k f with
    | true => some v
    | false => look r f
theorem look_mem {α : Type} : ∀ {l : List (Nat × α)} {f : Nat} {v : α}, look l f = some v → (f, v) ∈ l
  | [], f, v, h => by simp [look] at h
  | (k, u) :: r, f, v, h => by
    simp only [look] at h
    split at h
    · rename_i hk
      have := Nat.eq_of_beq_eq_true hk
      injection h with h
      subst this h
      simp
    · exact List.mem_cons_of_mem _ (look_mem h)
def hands (T : Tab) : Hands := ⟨fun f => match look T f with
  | some e => e.how
  | none => .iso, fun f args => match look T f with
  | some e => e.g args
  | none => none, fun _ _ _ => none⟩
def EntOk (P : Program) (f : Nat) (e : Ent) : Prop := match e.how with
  | .shared => False
  | .fresh => FreshOk P f e.g
  | _ => IsoOk P f e.g
def TabOk (P : Program) (T : Tab) : Prop := ∀ p ∈ T, EntOk P p.1 p.2
theorem hands_ok {T : Tab} (hT : TabOk P T) : HandsOk P (hands T) := by
  have key : ∀ f e, look T f = some e → EntOk P f e := fun f e h => hT _ (look_mem h)
  refine ⟨fun f hf ⟨args, rs, h⟩ => ?_, fun f hf hff ⟨args, rs, h⟩ => ?_, fun f hf ⟨args, H, rs, h⟩ => ?_⟩
  · simp only [hands] at h hf
    cases hl : look T f with
    | none => simp [hl] at h
    | some e =>
      have : (hands T).iso f = e.g := by funext args; simp [hands, hl]
      rw [this]
      have hk := key f e hl
      simp only [hl] at hf
      simpa [EntOk, hf] using hk
  · simp only [hands] at h hf hff
    cases hl : look T f with
    | none => simp [hl] at h
    | some e =>
      have : (hands T).iso f = e.g := by funext args; simp [hands, hl]
      rw [this]
      have hk := key f e hl
      simp only [hl] at hf hff
      cases he : e.how <;> simp [he] at hf hff <;> simpa [EntOk, he] using hk
  · simp only [hands] at h
    cases h
theorem TabOk.nil : TabOk P [] := fun p hp => by simp at hp
theorem TabOk.cons {T : Tab} {f : Nat} {e : Ent} (h : EntOk P f e) (hT : TabOk P T) : TabOk P ((f, e) :: T) := fun p hp => by
  rcases List.mem_cons.1 hp with rfl | hp
  · exact h
  · exact hT p hp
end
end Go.Ai
set_option linter.unusedVariables false
set_option linter.unusedSimpArgs false
namespace Go.Ai
open Go.RowKit
inductive Sh where
  | int (k : IntKind)
  | bool
  | str
  | list (ss : List Sh)
inductive Has : Sh → AV → Prop
  | int (k : IntKind) (n : Int) (h : (Lit.int k n).wf = true) : Has (.int k) (.int k n)
  | bool (b : Bool) : Has .bool (.bool b)
  | str (s : ByteArray) (h : s.size ≤ maxLen) : Has .str (.str s)
  | list (ss : List Sh) (es : List (List AV)) (hl : es.length ≤ maxLen) (hk : ∀ e ∈ es, e.length = ss.length) (h : ∀ e ∈ es, ∀ (j : Nat) (x : AV) (s : Sh), e[j]? = some x → ss[j]? = some s → Has s x) : Has (.list ss) (.list es)
def HasL (ss : List Sh) (xs : List AV) : Prop := xs.length = ss.length ∧ ∀ (j : Nat) (x : AV) (s : Sh), xs[j]? = some x → ss[j]? = some s → Has s x
section
variable (P : Program)
def shFs (sh : TypeId → Option (List Sh)) (all : Nat) : Nat → List Field → Option (List Sh)
  | off, [] => if off = all then some [] else none
  | off, f :: r => match sh f.type, shFs sh all (off + P.cellsOf f.type) r with
    | some ss, some rs => if f.offset = off ∧ ss.length = P.cellsOf f.type then some (ss ++ rs) else none
    | _, _ => none
def shOf : Nat → TypeId → Option (List Sh)
  | 0, _ => none
  | n + 1, t => match P.underlying t with
    | some (.int k) => some [.int k]
    | some .bool => some [.bool]
    | some .string => some [.str]
    | some (.slice e) => match shOf n e with
      | some ss => if ss.length = P.cellsOf e ∧ 0 < P.cellsOf e then some [.list ss] else none
      | none => none
    | some (.struct fs) => shFs P (shOf n) (P.cellsOf t) 0 fs.toList
    | some (.array m e) => match shOf n e with
      | some ss => if ss.length = P.cellsOf e ∧ m * P.cellsOf e = P.cellsOf t then some (List.replicate m ss).flatten else none
      | none => none
    | _ => none
end
section
variable {H : Type} {enc : TypeId × Value → H} {P : Program} {w : World} {base : Nat} {spare : Nat → Bool} {held : Bool}
def Old (w : World) : Nat → Prop := fun b => b < w.heap.size
def Opens (w : World) (ss : List Sh) (cs : List Value) : Prop := ∃ xs, HasL ss xs ∧ xs.length = cs.length ∧ ∀ (j : Nat) (x : AV) (u : Value), xs[j]? = some x → cs[j]? = some u → PR (Old w) w x u
theorem HasL.append {ss rs : List Sh} {xs ys : List AV} (h : HasL ss xs) (k : HasL rs ys) : HasL (ss ++ rs) (xs ++ ys) := by
  refine ⟨by simp [h.1, k.1], fun j x s hx hs => ?_⟩
  by_cases hj : j < xs.length
  · rw [List.getElem?_append_left hj] at hx
    rw [List.getElem?_append_left (by have := h.1; omega)] at hs
    exact h.2 j x s hx hs
  · rw [List.getElem?_append_right (by omega)] at hx
    rw [List.getElem?_append_right (by have := h.1; omega), ← h.1] at hs
    exact k.2 _ x s hx hs
theorem Opens.append {ss rs : List Sh} {cs ds : List Value} (h : Opens w ss cs) (k : Opens w rs ds) : Opens w (ss ++ rs) (cs ++ ds) := by
  obtain ⟨xs, h1, h2, h3⟩ := h
  obtain ⟨ys, k1, k2, k3⟩ := k
  refine ⟨xs ++ ys, h1.append k1, by simp [h2, k2], fun j x u hx hu => ?_⟩
  by_cases hj : j < xs.length
  · rw [List.getElem?_append_left hj] at hx
    rw [List.getElem?_append_left (by omega)] at hu
    exact h3 j x u hx hu
  · rw [List.getElem?_append_right (by omega)] at hx
    rw [List.getElem?_append_right (by omega), ← h2] at hu
    exact k3 _ x u hx hu
theorem Opens.nil : Opens w [] [] := ⟨[], ⟨rfl, fun j x s hx => by simp at hx⟩, rfl, fun j x u hx => by simp at hx⟩
theorem opens_flat {ss : List Sh} {k : Nat} : ∀ (m : Nat) (cs : List Value), cs.length = m * k → (∀ i, i < m → Opens w ss ((cs.drop (i * k)).take k)) → Opens w (List.replicate m ss).flatten cs
  | 0, cs, hl, h => by
    obtain rfl : cs = [] := List.eq_nil_of_length_eq_zero (by omega)
    exact .nil
  | m + 1, cs, hl, h => by
    rw [List.replicate_succ, List.flatten_cons, ← List.take_append_drop k cs]
    have h0 := h 0 (by omega)
    simp at h0
    refine h0.append (opens_flat (k := k) m (cs.drop k) (by simp [hl, Nat.succ_mul]) fun i hi => ?_)
    have := h (i + 1) (by omega)
    rw [List.drop_drop, show k + i * k = (i + 1) * k by rw [Nat.succ_mul]; omega]
    exact this
theorem cells_get {a : Addr} {n : Nat} {c : List Value} (h : w.cells? base a n = some c) : c.length = n ∧ ∀ (j : Nat) (u : Value), c[j]? = some u → w.cell? (a.add j) = some u := by
  unfold World.cells? at h
  split at h
  · obtain ⟨h1, h2⟩ := mapM_get _ _ h
    simp at h1
    refine ⟨h1, fun j u hu => ?_⟩
    have hj : j < n := by rw [← h1]; exact (List.getElem?_eq_some_iff.1 hu).1
    obtain ⟨y, hy, hc⟩ := h2 j j (by simp [hj])
    rw [hu] at hy
    injection hy with hy
    subst hy
    exact hc
  · cases h
theorem open_fs {n : Nat} (ih : ∀ (t : TypeId) (cs : List Value) (fuel : Nat) (x : DataW H × List MemPlace) (ss : List Sh), DataW.trod enc P w base spare held fuel t cs = some x → shOf P n t = some ss → Opens w ss cs) {fuel all : Nat} {cs : List Value} (hcs : cs.length = all) : ∀ (fs : List Field) (off : Nat) (ss : List Sh),
    (∀ (i : Nat) (f : Field), fs[i]? = some f → ∃ x, DataW.trod enc P w base spare held fuel f.type ((cs.drop f.offset).take (P.cellsOf f.type)) = some x) → shFs P (shOf P n) all off fs = some ss → off ≤ all → Opens w ss (cs.drop off)
  | [], off, ss, h, hs, ho => by
    simp only [shFs] at hs
    split at hs
    · injection hs with hs
      subst hs
      rw [List.drop_eq_nil_of_le (by omega)]
      exact .nil
    · cases hs
  | f :: r, off, ss, h, hs, ho => by
    simp only [shFs] at hs
    split at hs
    · rename_i s1 s2 e1 e2
      split at hs
      · rename_i hc
        injection hs with hs
        subst hs
        obtain ⟨rfl, hlen⟩ := hc
        obtain ⟨x, hx⟩ := h 0 f rfl
        have h1 := ih _ _ _ _ _ hx e1
        have hle : f.offset + P.cellsOf f.type ≤ all := by
          obtain ⟨xs, a1, a2, _⟩ := h1
          have a3 := a1.1
          simp at a2
          omega
        have h2 := open_fs ih hcs r (f.offset + P.cellsOf f.type) s2 (fun i f hf => h (i + 1) f (by simpa using hf)) e2 hle
        rw [← List.take_append_drop (P.cellsOf f.type) (cs.drop f.offset), List.drop_drop]
        exact h1.append h2
      · cases hs
    · cases hs
theorem open_sh : ∀ (n : Nat) (t : TypeId) (cs : List Value) (fuel : Nat) (x : DataW H × List MemPlace) (ss : List Sh), DataW.trod enc P w base spare held fuel t cs = some x → shOf P n t = some ss → Opens w ss cs
  | 0, t, cs, fuel, x, ss, h, hs => by simp [shOf] at hs
  | n + 1, t, cs, fuel, x, ss, h, hs => by
    have ih := open_sh n
    unfold shOf at hs
    split at hs
    · rename_i k ht
      injection hs with hs
      subst hs
      obtain ⟨m, rfl, _, hw⟩ := DataW.trod_int ht h
      exact ⟨[.int k m], ⟨rfl, fun j x s hx hs => by cases j <;> simp at hx hs; subst hx hs; exact .int k m hw⟩, rfl, fun j x u hx hu => by cases j <;> simp at hx hu; subst hx hu; exact .int k m⟩
    · rename_i ht
      injection hs with hs
      subst hs
      obtain ⟨b, rfl, _⟩ := DataW.trod_bool ht h
      exact ⟨[.bool b], ⟨rfl, fun j x s hx hs => by cases j <;> simp at hx hs; subst hx hs; exact .bool b⟩, rfl, fun j x u hx hu => by cases j <;> simp at hx hu; subst hx hu; exact .bool b⟩
    · rename_i ht
      injection hs with hs
      subst hs
      obtain ⟨b, rfl, _, hb⟩ := DataW.trod_string ht h
      exact ⟨[.str b], ⟨rfl, fun j x s hx hs => by cases j <;> simp at hx hs; subst hx hs; exact .str b hb⟩, rfl, fun j x u hx hu => by cases j <;> simp at hx hu; subst hx hu; exact .str b⟩
    · rename_i e ht
      split at hs
      · rename_i s1 hs1
        split at hs
        · rename_i hk
          injection hs with hs
          subst hs
          rcases DataW.trod_slice ht h with ⟨rfl, _⟩ | ⟨a, len, cap, elems, rest, m, _, rfl, _, hb, hl, hm, hlen, hel, _, _⟩
          · exact ⟨[.list []], ⟨rfl, fun j x s hx hs => by cases j <;> simp at hx hs; subst hx hs; exact .list _ _ (by simp) (by simp) (by simp)⟩, rfl, fun j x u hx hu => by cases j <;> simp at hx hu; subst hx hu; exact .list0 none 0 fun _ => rfl⟩
          · have hex : ∀ i, ∃ e' : List AV, i < len → HasL s1 e' ∧ e'.length = P.cellsOf e ∧ ∀ (j : Nat) (x : AV), e'[j]? = some x → ∃ u, w.cell? ((a.add (i * P.cellsOf e)).add j) = some u ∧ PR (Old w) w x u := fun i => by
              by_cases hi : i < len
              · have h1 := hel i hi
                have h2 : elems[i]? = some (elems[i]'(by omega)) := List.getElem?_eq_getElem (by omega)
                rw [h2] at h1
                obtain ⟨c, hc, h1⟩ := Option.bind_eq_some_iff.1 h1
                obtain ⟨xs, a1, a2, a3⟩ := ih _ _ _ _ _ h1 hs1
                obtain ⟨c1, c2⟩ := cells_get hc
                refine ⟨xs, fun _ => ⟨a1, by omega, fun j x hx => ?_⟩⟩
                have hj : j < c.length := by rw [← a2]; exact (List.getElem?_eq_some_iff.1 hx).1
                exact ⟨c[j], c2 j _ (List.getElem?_eq_getElem hj), a3 j x _ hx (List.getElem?_eq_getElem hj)⟩
              · exact ⟨[], fun h => absurd h hi⟩
            let E : Nat → List AV := fun i => (hex i).choose
            have hE : ∀ i, i < len → HasL s1 (E i) ∧ (E i).length = P.cellsOf e ∧ ∀ (j : Nat) (x : AV), (E i)[j]? = some x → ∃ u, w.cell? ((a.add (i * P.cellsOf e)).add j) = some u ∧ PR (Old w) w x u := fun i => (hex i).choose_spec
            let es := (List.range len).map E
            have hesl : es.length = len := by simp [es]
            have hget : ∀ (i : Nat) (e' : List AV), es[i]? = some e' → i < len ∧ e' = E i := fun i e' he => by
              have hi : i < len := by rw [← hesl]; exact (List.getElem?_eq_some_iff.1 he).1
              simp [es, hi] at he
              exact ⟨hi, he.symm⟩
            have hmem : ∀ e' ∈ es, ∃ i, i < len ∧ e' = E i := fun e' he => by
              obtain ⟨i, hi⟩ := List.getElem?_of_mem he
              exact ⟨i, hget i e' hi⟩
            refine ⟨[.list es], ⟨rfl, fun j x s hx hs => ?_⟩, rfl, fun j x u hx hu => ?_⟩
            · cases j <;> simp at hx hs
              subst hx hs
              refine .list _ _ (by omega) (fun e' he => ?_) (fun e' he j x s hx hs => ?_)
              · obtain ⟨i, hi, rfl⟩ := hmem e' he
                exact (hE i hi).1.1
              · obtain ⟨i, hi, rfl⟩ := hmem e' he
                exact (hE i hi).1.2 j x s hx hs
            · cases j <;> simp at hx hu
              subst hx hu
              rcases Nat.eq_zero_or_pos len with h0 | h0
              · have : es = [] := List.eq_nil_of_length_eq_zero (by omega)
                rw [this, h0]
                exact .list0 _ _ fun h => by cases h
              · have hspot : a.spot = none ∧ a.block < w.heap.size := by
                  obtain ⟨_, h5, h6⟩ := hE 0 h0
                  obtain ⟨u, hu, _⟩ := h6 0 _ (List.getElem?_eq_getElem (by omega))
                  simp only [Nat.zero_mul, Addr.add, if_true] at hu
                  unfold World.cell? at hu
                  split at hu
                  · rename_i hb
                    refine ⟨?_, (Array.getElem?_eq_some_iff.1 hb).1⟩
                    split at hu
                    · cases hu
                    · rename_i hsp; simpa using hsp
                  · cases hu
                obtain ⟨b, o, spot⟩ := a
                obtain ⟨rfl, hblt⟩ := hspot
                have haddr : ∀ i j, ((⟨b, o, none⟩ : Addr).add (i * P.cellsOf e)).add j = ⟨b, o + i * P.cellsOf e + j, none⟩ := fun i j => by
                  rw [addr_add, addr_add]
                have hlist : PR (Old w) w (.list es) (.slice (some ⟨b, o, none⟩) es.length cap) := by
                  refine .list b o (P.cellsOf e) cap es (fun i j => (w.cell? ⟨b, o + i * P.cellsOf e + j, none⟩).getD undef) hblt (by omega) (fun e' he => ?_) (fun i e' j x he hx => ?_) (fun i e' j x he hx => ?_)
                  · obtain ⟨i, hi, rfl⟩ := hmem e' he
                    exact (hE i hi).2.1
                  · obtain ⟨hi, rfl⟩ := hget i e' he
                    obtain ⟨u, hu, _⟩ := (hE i hi).2.2 j x hx
                    rw [haddr] at hu
                    simp [hu]
                  · obtain ⟨hi, rfl⟩ := hget i e' he
                    obtain ⟨u, hu, hv⟩ := (hE i hi).2.2 j x hx
                    rw [haddr] at hu
                    simp only [hu, Option.getD_some]
                    exact hv
                rw [hesl] at hlist
                exact hlist
        · cases hs
      · cases hs
    · rename_i fs ht
      obtain ⟨xs, m, _, _, hl, hxl, hf⟩ := DataW.trod_struct ht h
      have := open_fs (fuel := m) (cs := cs) ih hl fs.toList 0 ss (fun i f hfi => by
        have hfi' : fs[i]? = some f := by simpa using hfi
        have h1 := hf i f hfi'
        have hlt : i < xs.length := by rw [hxl]; exact (Array.getElem?_eq_some_iff.1 hfi').1
        rw [List.getElem?_eq_getElem hlt] at h1
        exact ⟨_, h1⟩) hs (Nat.zero_le _)
      simpa using this
    · rename_i m e ht
      split at hs
      · rename_i s1 hs1
        split at hs
        · rename_i hk
          injection hs with hs
          subst hs
          obtain ⟨xs, m', _, _, hl, hxl, hf⟩ := DataW.trod_array ht h
          refine opens_flat m cs (by rw [hl, hk.2]) fun i hi => ?_
          have h1 := hf i hi
          have hlt : i < xs.length := by omega
          rw [List.getElem?_eq_getElem hlt] at h1
          exact ih _ _ _ _ _ h1 hs1
        · cases hs
      · cases hs
    · cases hs
theorem open_arg {n : Nat} {t : TypeId} {v : Value} {d : DataW H} {p : List MemPlace} {ss : List Sh} (h : DataW.Trod enc P w base spare held t v d p) (hs : shOf P n t = some ss) : Opens w ss v.cells.toList := by
  obtain ⟨m, hm⟩ := h
  exact open_sh n t _ _ _ ss hm hs
end
end Go.Ai
set_option linter.unusedVariables false
set_option linter.unusedSimpArgs false
namespace Go.Ai
open Go.RowKit
section
variable {w : World}
theorem arg_struct {ss : List Sh} {v : Value} (h : Opens w ss v.cells.toList) (hn : ss.length ≠ 1) : ∃ xs, HasL ss xs ∧ PR (Old w) w (.agg xs) v := by
  obtain ⟨xs, h1, h2, h3⟩ := h
  have hl : v.cells.size ≠ 1 := by have := h1.1; simp at h2; omega
  cases v with
  | agg vs => exact ⟨xs, h1, .agg xs vs (by simpa [Value.cells] using h2) fun i x u hx hu => h3 i x u hx (by simpa [Value.cells] using hu)⟩
  | _ => simp [Value.cells] at hl
theorem law_calls {P : Program} {f : Nat} {g : List AV → Option (List AV)} (h : IsoOk P f g) {args : List AV} {vs : Array Value} (ha : ArgsR (Old w) w args vs) (hg : g args = some [.bool true]) : Calls P f vs w fun e w' => e = .returned (.bool true) ∧ Below w.heap.size w w' := by
  refine (h.2 (Old w) w args vs _ (fun b hb => hb) ha hg).mono ?_
  rintro e w' ⟨us, rfl, Pr', _, _, _, hbel, hlen, blk, hret, _⟩
  refine ⟨?_, hbel⟩
  have h1 : us.size = 1 := by simpa using hlen.symm
  have h2 := hret 0 (.bool true) us[0] rfl (by simp [h1])
  simp only [RetR] at h2
  unfold packV
  rw [dif_pos h1]
  congr 1
  generalize us[0] = u at h2
  cases h2
  rfl
end
end Go.Ai
set_option linter.unusedVariables false
set_option linter.unusedSimpArgs false
namespace Go.Ai
open Go.RowKit
def IEnv (L : (Nat → AV) → List AV) (env : List AV) : Prop := ∃ g, env = L g
theorem IEnv.mk {L : (Nat → AV) → List AV} {env : List AV} (h : env = L (getL env)) : IEnv L env := ⟨_, h⟩
theorem Fin.thaw {A : Ah} {rs' rs : List AV} (h : ∀ H, Rep A H → ∃ H1, mapH thawV H rs' = some (rs, H1)) : Fin .thaw A rs' rs := fun H hR => by
  obtain ⟨H1, e⟩ := h H hR
  simp only [finish, if_true, e, Option.map_some]
def selfV : AV → Bool
  | .int _ _ => true
  | .bool _ => true
  | .str _ => true
  | .list _ => true
  | .fptr _ _ _ => true
  | .nilptr => true
  | .nilfn => true
  | _ => false
theorem freeze_self {d : Nat} {H : Hp} {v : AV} (h : selfV v = true) : freezeV (d + 1) H v = some (v, H) := by
  cases v <;> first | rfl | (simp [selfV] at h)
theorem freeze_selfs {d : Nat} {H : Hp} : ∀ (l : List AV), l.all selfV = true → mapH (freezeV (d + 1)) H l = some (l, H)
  | [], _ => rfl
  | x :: l, h => by
    simp only [List.all_cons, Bool.and_eq_true] at h
    simp only [mapH, freeze_self h.1, freeze_selfs l h.2]
theorem freeze_rows {d : Nat} {H : Hp} : ∀ (l : List (List AV)), (∀ e ∈ l, e.all selfV = true) → mapH (mapH (freezeV (d + 1))) H l = some (l, H)
  | [], _ => rfl
  | e :: l, h => by
    simp only [mapH, freeze_selfs e (h e (by simp)), freeze_rows l fun e he => h e (by simp [he])]
theorem chunk_flat {k : Nat} : ∀ (es : List (List AV)), (∀ e ∈ es, e.length = k) → chunk k es.length es.flatten = es
  | [], _ => rfl
  | e :: es, h => by
    have h0 := h e (by simp)
    simp only [List.length_cons, chunk, List.flatten_cons]
    rw [List.take_left' h0, List.drop_left' h0, chunk_flat es fun e he => h e (by simp [he])]
def cloneIR (k bytes : Nat) (z : List AV) : IFunc := ⟨8, [.tmp 2],
  .seq (.region [⟨some 2, none, .mov (.c .nilsl)⟩])
   (.seq (.seq (.region [⟨some 3, none, .mov (.t 0)⟩,
    ⟨some 4, none, .eqn 0 false (.t 3)⟩])
   (.cond (.t 4) (.seq (.region [⟨some 2, none, .mov (.c .nilsl)⟩])
   (.ret)) (.skip)))
   (.seq (.region [⟨some 5, none, .rlit 0 k z []⟩,
    ⟨some 6, none, .mov (.t 0)⟩,
    ⟨some 7, none, .append k bytes (.t 5) (.t 6)⟩,
    ⟨some 2, none, .mov (.t 7)⟩])
   (.ret)))⟩
def cloneOk (k : Nat) (es : List (List AV)) : Bool := es.length < most && es.all fun e => e.length == k && e.all fun x => selfV x && AV.one x
def cloneG (k : Nat) (args : List AV) : Option (List AV) := match args with
  | [.list []] => some [.mt]
  | [.list (e :: es)] => if cloneOk k (e :: es) then some [.own k (e :: es)] else none
  | _ => none
theorem clone_run {k bytes : Nat} {z : List AV} {e : List AV} {es : List (List AV)} (h : cloneOk k (e :: es) = true) : aB (hands []) 1 (cloneIR k bytes z) (.list (e :: es) :: .undef :: .undef :: .undef :: .undef :: .undef :: .undef :: .undef :: []) [] fun rs' A => Fin .thaw A rs' [.own k (e :: es)] := by
  simp only [cloneOk, Bool.and_eq_true, decide_eq_true_eq, List.all_eq_true, beq_iff_eq] at h
  obtain ⟨h1, h2⟩ := h
  have hk : ∀ x ∈ e :: es, x.length = k := fun x hx => (h2 x hx).1
  have hf := (flat_get (e :: es) hk).1
  refine ⟨rfl, .inr ⟨⟨by simp, h1, hf, List.all_eq_true.2 fun x hx => ?_⟩, fun l _ => ?_⟩⟩
  · obtain ⟨r, hr, hx⟩ := List.mem_flatten.1 hx
    exact ((h2 r hr).2 x hx).2
  · refine Fin.thaw fun H hR => ?_
    have hl : H[l]? = some (some (.cells (e :: es).flatten k 1 true false)) := hR.get (l, _) (List.mem_singleton.2 rfl)
    refine ⟨H.set l none, ?_⟩
    simp only [mapH, thawV, getC, hl, Option.bind_some, fSet_eq]
    rw [if_pos ⟨trivial, trivial, trivial, trivial, hf.symm⟩, show ((e :: es).length : Nat) = (e :: es).length from rfl]
    have := chunk_flat (e :: es) hk
    simp only [this]
    have hr := freeze_rows (d := 11) (H := H.set l none) (e :: es) fun r hr => List.all_eq_true.2 fun x hx => ((h2 r hr).2 x hx).1
    rw [show depth = 11 + 1 from rfl, hr]
    rfl
section
variable {P : Program}
theorem clone_ok {f : Nat} {fn : Func} {k bytes : Nat} {z : List AV} (hm : P.follows .mixedOrders = true) (hfn : P.funcs[f]? = some fn) (hc : compile P fn = some (cloneIR k bytes z)) : IsoOk P f (cloneG k) := by
  have hen := compile_enters hfn hc
  have hh : HandsOk P (hands []) := hands_ok .nil
  refine ⟨hen, fun Pr w args vs rs hp ha hg => ?_⟩
  unfold cloneG at hg
  split at hg
  · injection hg with hg
    subst hg
    have hsz : vs.size = 1 := by simpa using ha.1.symm
    obtain ⟨u, rfl⟩ : ∃ u, vs = #[u] := ⟨vs[0], by apply Array.ext <;> simp [hsz]; intro i hi; obtain rfl : i = 0 := by omega
                                                   rfl⟩
    have hu : PR Pr w (.list []) u := ha.2 0 _ u rfl rfl
    obtain ⟨A, c, rfl, hc0⟩ : ∃ A c, u = .slice A 0 c ∧ (A = none → c = 0) := by
      generalize hx : AV.list [] = x at hu
      cases hu <;> simp at hx
      · rename_i A c h; exact ⟨A, c, rfl, h⟩
      · subst hx; exact ⟨_, _, rfl, fun h => by cases h⟩
    have conv : ∀ (v : AV) (h1 : evalB (hands []) 1 (cloneIR k bytes z) [v] [] = some ([if A = none then .nilsl else .mtn], [])), PR Pr w v (.slice A 0 c) → Calls P f #[.slice A 0 c] w (IsoPost Pr w [.mt]) := fun v h1 hv => by
      have h2 : finish .thaw ([if A = none then AV.nilsl else .mtn], []) = some [if A = none then .nilsl else .mtn] := by
        split <;> rfl
      refine (iso_core (how := .thaw) (by simp) hm hh hfn hc h1 h2 hp ⟨rfl, fun i x u hx hu => by cases i <;> simp at hx hu; subst hx hu; exact hv⟩).mono ?_
      rintro e w' ⟨us, rfl, Pr', p1, p2, p3, p4, p5, blk, p6, p7⟩
      refine ⟨us, rfl, Pr', p1, p2, p3, p4, by simpa using p5, blk, fun i v u hv hu => ?_, fun i j v v' hv hv' ho => ?_⟩
      · cases i <;> simp at hv
        subst hv
        have := p6 0 _ u rfl hu
        split at this
        · simp only [RetR] at this ⊢
          generalize hx : AV.nilsl = x at this
          cases this <;> simp at hx
          exact .mt none
        · simp only [RetR] at this ⊢
          generalize hx : AV.mtn = x at this
          cases this <;> simp at hx
          exact .mt _
      · cases i <;> simp at hv
        subst hv
        simp [isOwn] at ho
    cases A with
    | none =>
      obtain rfl := hc0 rfl
      exact conv .nilsl rfl .nilsl
    | some a => exact conv .emp rfl (.emp a c)
  · rename_i e es
    split at hg
    · rename_i hok
      injection hg with hg
      subst hg
      obtain ⟨rs', H', h1, A', hR, h2⟩ := aB_out (F := []) (args := [.list (e :: es)]) rfl RepF.nil (clone_run (k := k) (bytes := bytes) (z := z) hok)
      exact iso_core (how := .thaw) (by simp) hm hh hfn hc h1 (h2 H' hR.base) hp ha
    · cases hg
  · cases hg
def cloneF (k : Nat) (args : List AV) : Option (List AV) := match args with
  | [.list es] => if cloneOk k es && es.all fun e => e.all flat1 then some [.list es] else none
  | _ => none
theorem FreshOk.weaken {f : Nat} {g g' : List AV → Option (List AV)} (h : FreshOk P f g) (hw : ∀ args rs, g' args = some rs → ∃ rs', g args = some rs' ∧ rs.length = rs'.length ∧ ∀ Pr w (i : Nat) (v v' : AV) (u : Value), rs[i]? = some v → rs'[i]? = some v' → PR Pr w v' u → PR Pr w v u) : FreshOk P f g' := by
  refine ⟨h.1, fun Pr w args vs rs hp ha hg => ?_⟩
  obtain ⟨rs', h1, h2, h3⟩ := hw args rs hg
  refine (h.2 Pr w args vs rs' hp ha h1).mono ?_
  rintro e w' ⟨us, rfl, hb, Pr', p1, p2, p3⟩
  refine ⟨us, rfl, hb, Pr', p1, h2.trans p2, fun i v u hv hu => ?_⟩
  have hi : i < rs'.length := by rw [← h2]; exact (List.getElem?_eq_some_iff.1 hv).1
  exact h3 Pr' w' i v _ u hv (List.getElem?_eq_getElem hi) (p3 i _ u (List.getElem?_eq_getElem hi) hu)
theorem cloneF_ok {f : Nat} {fn : Func} {k bytes : Nat} {z : List AV} (hm : P.follows .mixedOrders = true) (hfn : P.funcs[f]? = some fn) (hc : compile P fn = some (cloneIR k bytes z)) : FreshOk P f (cloneF k) := by
  refine (fresh_of (clone_ok hm hfn hc)).weaken fun args rs h => ?_
  unfold cloneF at h
  split at h
  · rename_i es
    split at h
    · rename_i hok
      injection h with h
      subst h
      simp only [Bool.and_eq_true] at hok
      cases es with
      | nil => exact ⟨[.mt], rfl, rfl, fun Pr w i v v' u hv hv' hp => by
          cases i <;> simp at hv hv'
          subst hv hv'
          generalize hx : AV.mt = x at hp
          cases hp <;> simp at hx
          exact .list0 _ _ fun _ => rfl⟩
      | cons e es => exact ⟨[.list (e :: es)], by simp only [cloneG, hok.1, if_true, Option.bind_some]; simp only [List.all_cons, List.all_nil, Bool.and_true, flatV, hok.2, if_true]; rfl, rfl, fun Pr w i v v' u hv hv' hp => by
          rw [hv] at hv'; injection hv' with hv'; subst hv'; exact hp⟩
    · cases h
  · cases h
end
end Go.Ai
set_option linter.unusedVariables false
set_option linter.unusedSimpArgs false
namespace Go.Ai
open Go.RowKit
theorem Sub.take {A : Ah} (n : Nat) : Sub A (A.take n) := .list (List.take_sublist n A)
def pick (A : Ah) (is : List Nat) : Ah := is.filterMap (nth A)
def rising : List Nat → Bool
  | [] => true
  | [_] => true
  | x :: y :: r => Nat.blt x y && rising (y :: r)
theorem rising_nodup : ∀ {l : List Nat}, rising l = true → l.Pairwise (· < ·)
  | [], _ => .nil
  | [x], _ => by simp
  | x :: y :: r, h => by
    simp only [rising, Bool.and_eq_true, Nat.blt_eq] at h
    have ih := rising_nodup h.2
    refine List.pairwise_cons.2 ⟨fun z hz => ?_, ih⟩
    rcases List.mem_cons.1 hz with rfl | hz
    · exact h.1
    · have := (List.pairwise_cons.1 ih).1 z hz
      omega
theorem Sub.pick {A : Ah} (is : List Nat) (h : rising is = true) : Sub A (pick A is) := fun F H hR => by
  refine hR.mono (fun p hp => ?_) ?_
  · obtain ⟨i, _, hi⟩ := List.mem_filterMap.1 hp
    rw [nth_eq] at hi
    exact List.mem_of_getElem? hi
  · unfold Go.Ai.pick
    rw [List.Nodup, List.pairwise_map]
    refine List.Pairwise.filterMap (R := (· < ·)) (nth A) (fun i j hij p hp q hq e => ?_) (rising_nodup h)
    rw [nth_eq] at hp hq
    have hi : i < A.length := (List.getElem?_eq_some_iff.1 hp).1
    have hj : j < A.length := (List.getElem?_eq_some_iff.1 hq).1
    have hnd := List.pairwise_iff_getElem.1 hR.base.nodup i j (by simpa using hi) (by simpa using hj) hij
    have h1 := (List.getElem?_eq_some_iff.1 hp).2
    have h2 := (List.getElem?_eq_some_iff.1 hq).2
    simp [h1, h2, e] at hnd
theorem Sub.trans {A B C : Ah} (h : Sub A B) (k : Sub B C) : Sub A C := fun F H hR => k F H (h F H hR)
theorem Sub.of_perm {A B : Ah} (h : A.Perm B) : Sub A B := fun F H hR => Rep.perm hR (h.append_right F)
theorem RepF.split {F X R : Ah} {H : Hp} (h : RepF F (X ++ R) H) : RepF (R ++ F) X H := by
  unfold RepF at *; rwa [List.append_assoc] at h
theorem RepF.join {F X R : Ah} {H : Hp} (h : RepF (R ++ F) X H) : RepF F (X ++ R) H := by
  unfold RepF at *; rwa [List.append_assoc]
def Frz1 (d : Nat) (A : Ah) (v y : AV) (A1 : Ah) : Prop := ∀ F H, RepF F A H → ∃ H1, freezeV d H v = some (y, H1) ∧ RepF F A1 H1
def FrzL (d : Nat) (A : Ah) (vs ys : List AV) (A1 : Ah) : Prop := ∀ F H, RepF F A H → ∃ H1, mapH (freezeV d) H vs = some (ys, H1) ∧ RepF F A1 H1
theorem FrzL.nil {d : Nat} {A : Ah} : FrzL d A [] [] A := fun _ H h => ⟨H, rfl, h⟩
theorem FrzL.cons {d : Nat} {A A1 A2 : Ah} {v y : AV} {vs ys : List AV} (h : Frz1 d A v y A1) (k : FrzL d A1 vs ys A2) : FrzL d A (v :: vs) (y :: ys) A2 := fun F H hR => by
  obtain ⟨H1, e1, r1⟩ := h F H hR
  obtain ⟨H2, e2, r2⟩ := k F H1 r1
  exact ⟨H2, by simp only [mapH, e1, e2], r2⟩
theorem FrzL.frz {A A1 : Ah} {vs ys : List AV} (h : FrzL depth A vs ys A1) : Frz A vs ys A1 := h
theorem Frz1.self {d : Nat} {A : Ah} {v : AV} (h : selfV v = true) : Frz1 (d + 1) A v v A := fun F H hR => ⟨H, freeze_self h, hR⟩
theorem Frz1.nilsl {d : Nat} {A : Ah} : Frz1 (d + 1) A .nilsl (.list []) A := fun F H hR => ⟨H, rfl, hR⟩
theorem Frz1.mt {d : Nat} {A : Ah} : Frz1 (d + 1) A .mt (.list []) A := fun F H hR => ⟨H, rfl, hR⟩
theorem Frz1.mtn {d : Nat} {A : Ah} : Frz1 (d + 1) A .mtn (.list []) A := fun F H hR => ⟨H, rfl, hR⟩
theorem Frz1.agg {d : Nat} {A A1 : Ah} {cs ys : List AV} (h : FrzL d A cs ys A1) : Frz1 (d + 1) A (.agg cs) (.agg ys) A1 := fun F H hR => by
  obtain ⟨H1, e1, r1⟩ := h F H hR
  exact ⟨H1, by simp only [freezeV, e1, Option.map_some], r1⟩
theorem Frz1.func {d : Nat} {A A1 : Ah} {f : Nat} {cs ys : List AV} (h : FrzL d A cs ys A1) : Frz1 (d + 1) A (.func f cs) (.func f ys) A1 := fun F H hR => by
  obtain ⟨H1, e1, r1⟩ := h F H hR
  exact ⟨H1, by simp only [freezeV, e1, Option.map_some], r1⟩
theorem chunk_all {k : Nat} {p : AV → Bool} : ∀ (n : Nat) (cs : List AV), cs.all p = true → ∀ e ∈ chunk k n cs, e.all p = true
  | 0, cs, h, e, he => by simp [chunk] at he
  | n + 1, cs, h, e, he => by
    simp only [chunk, List.mem_cons] at he
    rw [List.all_eq_true] at h
    rcases he with rfl | he
    · exact List.all_eq_true.2 fun x hx => h x (List.mem_of_mem_take hx)
    · exact chunk_all n (cs.drop k) (List.all_eq_true.2 fun x hx => h x (List.mem_of_mem_drop hx)) e he
theorem freezeV_ref (d : Nat) (H : Hp) (l o n g k : Nat) : freezeV (d + 1) H (.ref l o n g k) = (getC H l).bind fun (cs, k1, g', row, _) => if g = g' then
        (cut cs o (n * k)).bind fun c => fSet H l (some (.cells cs k1 g row true)) fun H => (mapH (mapH (freezeV d)) H (chunk k n c)).bind fun r => fV0 (.list r.1) fun v => some (v, r.2)
      else none := rfl
theorem freezeV_ptr (d : Nat) (H : Hp) (l o g : Nat) : freezeV (d + 1) H (.ptr l o g) = (getC H l).bind fun (cs, k', g', row, _) => if g = g' then
        fSet H l (some (.cells cs k' g row true)) fun H => (mapH (freezeV d) H cs).bind fun r => fL fA r.1 fun c => some (.fptr [c] 0 o, r.2)
      else none := rfl
theorem getC_of {H : Hp} {l : Nat} {cs : List AV} {k g : Nat} {r f : Bool} (h : H[l]? = some (some (LObj.cells cs k g r f))) : getC H l = some (cs, k, g, r, f) := by simp only [getC, h]
theorem Frz1.row {d i : Nat} {A : Ah} {l o n g k k1 : Nat} {cs c : List AV} {row f : Bool} {es : List (List AV)} (h : A[i]? = some (l, some (LObj.cells cs k1 g row f))) (hc : cut cs o (n * k) = some c) (hs : c.all selfV = true) (he : chunk k n c = es) :
    Frz1 (d + 2) A (.ref l o n g k) (.list es) (A.set i (l, some (LObj.cells cs k1 g row true))) := fun F H hR => by
  subst he
  refine ⟨_, ?_, hR.set h⟩
  rw [freezeV_ref, getC_of (hR.at h)]
  simp only [Option.bind_some, if_true, hc, fSet_eq]
  rw [freeze_rows (d := d) _ (chunk_all n c hs)]
  simp [fV0_eq]
theorem Frz1.ptr {d i : Nat} {A : Ah} {l o g k1 : Nat} {cs : List AV} {row f : Bool} (h : A[i]? = some (l, some (LObj.cells cs k1 g row f))) (hs : cs.all selfV = true) :
    Frz1 (d + 2) A (.ptr l o g) (.fptr [cs] 0 o) (A.set i (l, some (LObj.cells cs k1 g row true))) := fun F H hR => by
  refine ⟨_, ?_, hR.set h⟩
  rw [freezeV_ptr, getC_of (hR.at h)]
  simp only [Option.bind_some, if_true, fSet_eq]
  rw [freeze_selfs (d := d) _ hs]
  simp [fLA_eq]
theorem reach1_ptr {H : Hp} {l o g : Nat} : reachV 1 H (.ptr l o g) = [l] := by
  simp only [reachV]
  cases getC H l with
  | none => rfl
  | some q => simp [reachV]
theorem reach1_ref {H : Hp} {l o n g k : Nat} : reachV 1 H (.ref l o n g k) = [l] := by
  simp only [reachV]
  cases getC H l with
  | none => rfl
  | some q => simp [reachV]
theorem reach_self {H : Hp} {d : Nat} {v : AV} (h : selfV v = true) : reachV d H v = [] := by
  cases d <;> cases v <;> first | rfl | (simp [selfV] at h)
theorem reach_selfs {H : Hp} {d : Nat} {cs : List AV} (h : cs.all selfV = true) : cs.flatMap (reachV d H) = [] := by
  rw [List.flatMap_eq_nil_iff]
  exact fun x hx => reach_self (List.all_eq_true.1 h x hx)
theorem reach_ref {A : Ah} {H : Hp} (hR : Rep A H) {d i l o n g k k1 g1 : Nat} {cs : List AV} {row f : Bool} (h : A[i]? = some (l, some (LObj.cells cs k1 g1 row f))) (hs : cs.all selfV = true) : reachV (d + 1) H (.ref l o n g k) = [l] := by
  simp only [reachV, getC, hR.at h, reach_selfs hs]
theorem reach_ptr {A : Ah} {H : Hp} (hR : Rep A H) {d i l o g k1 g1 : Nat} {cs : List AV} {row f : Bool} (h : A[i]? = some (l, some (LObj.cells cs k1 g1 row f))) (hs : cs.all selfV = true) : reachV (d + 1) H (.ptr l o g) = [l] := by
  simp only [reachV, getC, hR.at h, reach_selfs hs]
theorem acc_load {hd : Hands} {all : List IOper} {slot : Nat} {d : Option Nat} {n : Nat} {ag : Bool} {p : Ex} {env : List AV} {H : Hp} {l o g : Nat} (h : p.fF env id = .ptr l o g) : accV hd all slot ⟨d, none, .load n ag p⟩ env H = ⟨[l], [], false⟩ := by
  rw [fF_eq] at h
  simp only [accV, wanted, if_true, accOf, id] at h ⊢
  rw [h, reach1_ptr]
theorem acc_slarr {hd : Hands} {all : List IOper} {slot : Nat} {d : Option Nat} {n k : Nat} {p : Ex} {lo hi : Option Ex} {env : List AV} {H : Hp} {l o g : Nat} (h : p.fF env id = .ptr l o g) : accV hd all slot ⟨d, none, .slarr n k p lo hi⟩ env H = ⟨[l], [], false⟩ := by
  rw [fF_eq] at h
  simp only [accV, wanted, if_true, accOf, id] at h ⊢
  rw [h, reach1_ptr]
theorem acc_store {hd : Hands} {all : List IOper} {slot : Nat} {d : Option Nat} {n : Nat} {p x : Ex} {env : List AV} {H : Hp} {l o g : Nat} (h : p.fF env id = .ptr l o g) : accV hd all slot ⟨d, none, .store n p x⟩ env H = ⟨[], [l], false⟩ := by
  rw [fF_eq] at h
  simp only [accV, wanted, if_true, accOf, id] at h ⊢
  rw [h, reach1_ptr]
theorem acc_call {hd : Hands} {all : List IOper} {slot : Nat} {d : Option Nat} {f : Nat} {args : List Ex} {env vs : List AV} {H : Hp} {r : List Nat} (hf : hd.how f ≠ .shared) (h : fFs env args id = vs) (hr : vs.flatMap (reachV depth H) = r) : accV hd all slot ⟨d, none, .call f args⟩ env H = ⟨r, [slot], false⟩ := by
  rw [fFs_eq] at h
  simp only [accV, wanted, if_true, accOf, id] at h ⊢
  rw [if_neg hf, h, hr]
theorem acc_alloc {hd : Hands} {all : List IOper} {slot : Nat} {d : Option Nat} {z : List AV} {env : List AV} {H : Hp} : accV hd all slot ⟨d, none, .alloc z⟩ env H = ⟨[], [slot], false⟩ := rfl
theorem acc_mslice {hd : Hands} {all : List IOper} {slot : Nat} {d : Option Nat} {k b : Nat} {z : List AV} {x y : Ex} {env : List AV} {H : Hp} : accV hd all slot ⟨d, none, .mslice k b z x y⟩ env H = ⟨[], [slot], false⟩ := rfl
theorem acc_g {hd : Hands} {all : List IOper} {slot : Nat} {d : Option Nat} {g : Option (Nat × Bool)} {op : IOp} {env : List AV} {H : Hp} {a : Acc} (h : wanted all env g = true) (k : accV hd all slot ⟨d, none, op⟩ env H = a) : accV hd all slot ⟨d, g, op⟩ env H = a := by
  unfold accV at k ⊢
  rw [if_pos h]
  simpa [wanted] using k
theorem acc_skip {hd : Hands} {all : List IOper} {slot : Nat} {d : Option Nat} {g : Option (Nat × Bool)} {op : IOp} {env : List AV} {H : Hp} (h : wanted all env g = false) : accV hd all slot ⟨d, g, op⟩ env H = ⟨[], [], false⟩ := by
  simp only [accV, h, Bool.false_eq_true, if_false]
theorem acc_append {hd : Hands} {all : List IOper} {slot : Nat} {d : Option Nat} {k by' : Nat} {s x : Ex} {env : List AV} {H : Hp} {l o n g k' : Nat} {es : List (List AV)} (hs : s.fF env id = .ref l o n g k') (hx : x.fF env id = .tmpl es) (he : es.all (fun e => e.all selfV) = true) : accV hd all slot ⟨d, none, .append k by' s x⟩ env H = ⟨[], [slot, l], false⟩ := by
  rw [fF_eq] at hs hx
  have h1 : reachV 1 H (.tmpl es) = [] := by
    simp only [reachV]
    refine List.flatMap_eq_nil_iff.2 fun e he' => List.flatMap_eq_nil_iff.2 fun x hx => rfl
  simp only [accV, wanted, if_true, accOf, id] at hs hx ⊢
  rw [hs, hx, h1, reach1_ref]
theorem acc_append0 {hd : Hands} {all : List IOper} {slot : Nat} {d : Option Nat} {k by' : Nat} {s x : Ex} {env : List AV} {H : Hp} {es : List (List AV)} (hs : s.fF env id = .mt) (hx : x.fF env id = .tmpl es) : accV hd all slot ⟨d, none, .append k by' s x⟩ env H = ⟨[], [slot], false⟩ := by
  rw [fF_eq] at hs hx
  have h1 : reachV 1 H (.tmpl es) = [] := by
    simp only [reachV]
    refine List.flatMap_eq_nil_iff.2 fun e he' => List.flatMap_eq_nil_iff.2 fun x hx => rfl
  simp only [accV, wanted, if_true, accOf, id] at hs hx ⊢
  rw [hs, hx, h1]
  rfl
theorem flat_nil {H : Hp} {vs : List AV} (h : ∀ v ∈ vs, reachV depth H v = []) : vs.flatMap (reachV depth H) = [] := List.flatMap_eq_nil_iff.2 h
theorem reach_agg {H : Hp} {cs : List AV} (h : cs.all selfV = true) : reachV depth H (.agg cs) = [] := reach_selfs (d := 11) h
theorem free_of {A B : Acc} (h1 : A.all = false) (h2 : B.all = false) (h3 : ∀ l ∈ A.writes, l ∉ B.writes ∧ l ∉ B.reads) (h4 : ∀ l ∈ B.writes, l ∉ A.reads) : A.free B = true := by
  simp only [Acc.free, h1, h2, Bool.not_false, Bool.true_and, Bool.and_eq_true, List.all_eq_true, Bool.not_eq_true', List.contains_eq_mem, decide_eq_false_iff_not]
  exact ⟨fun l hl => h3 l hl, fun l hl => h4 l hl⟩
theorem chunk1 : ∀ (c : List AV), chunk 1 c.length c = c.map fun x => [x]
  | [] => rfl
  | x :: c => by simp [chunk, chunk1 c]
theorem flat_one {H : Hp} {v : AV} {r : List Nat} (h : reachV depth H v = r) : [v].flatMap (reachV depth H) = r := by simp [h]
theorem flat_3 {H : Hp} {u v x : AV} {r : List Nat} (h1 : reachV depth H u = []) (h2 : reachV depth H v = []) (h3 : reachV depth H x = r) : [u, v, x].flatMap (reachV depth H) = r := by simp [h1, h2, h3]
theorem bits_and1 {x : Int} (h : 0 ≤ x) (h2 : x < 9223372036854775808) : arith.bits .and .i64 x 1 = x % 2 := by
  unfold arith.bits
  rw [if_pos ⟨h, h2, by decide, by decide⟩]
  simp only [show (1 : Int).toNat = 1 from rfl, Nat.and_one_is_mod]
  omega
theorem shr_eq {x : Int} (h : 0 ≤ x) (n : Nat) : shrI x n = x / 2 ^ n := by
  obtain ⟨m, rfl⟩ := Int.eq_ofNat_of_zero_le h
  simp only [shrI]
  norm_cast
inductive In : Ah → Nat → Nat → Option LObj → Prop
  | hd {l : Nat} {o : Option LObj} {r : Ah} : In ((l, o) :: r) 0 l o
  | tl {x : Nat × Option LObj} {r : Ah} {i l : Nat} {o : Option LObj} (h : In r i l o) : In (x :: r) (i + 1) l o
theorem gi {A : Ah} {i l : Nat} {o : Option LObj} (h : In A i l o) : A[i]? = some (l, o) := by
  induction h with
  | hd => rfl
  | tl h ih => simpa using ih
theorem leb {n m : Nat} (h : Nat.ble n m = true) : n ≤ m := Nat.le_of_ble_eq_true h
end Go.Ai
set_option linter.unusedVariables false
set_option linter.unusedSimpArgs false
namespace Go.Ai
open Go.RowKit
theorem ldI {A : Ah} {l g i k : Nat} {cs : List AV} {r f : Bool} {Q : Nat → List AV → Nat → Bool → Bool → Prop} (h : In A i l (some (.cells cs k g r f))) (q : Q i cs k r f) : ∃ (i : Nat) (cs : List AV) (k : Nat) (r f : Bool), A[i]? = some (l, some (LObj.cells cs k g r f)) ∧ Q i cs k r f := ⟨i, cs, k, r, f, gi h, q⟩
theorem stI {A : Ah} {l g i k : Nat} {cs : List AV} {row : Bool} {Q : Nat → List AV → Nat → Bool → Prop} (h : In A i l (some (.cells cs k g row false))) (q : Q i cs k row) : ∃ (i : Nat) (cs : List AV) (k : Nat) (row : Bool), A[i]? = some (l, some (LObj.cells cs k g row false)) ∧ Q i cs k row := ⟨i, cs, k, row, gi h, q⟩
theorem apI {A : Ah} {l g i k : Nat} {cs : List AV} {Q : Nat → List AV → Nat → Prop} (h : In A i l (some (.cells cs k g true false))) (q : Q i cs k) : ∃ (i : Nat) (cs : List AV) (k : Nat), A[i]? = some (l, some (LObj.cells cs k g true false)) ∧ Q i cs k := ⟨i, cs, k, gi h, q⟩
theorem slI {A : Ah} {s i : Nat} {Q : Nat → Prop} (h : In A i s none) (q : Q i) : ∃ i : Nat, A[i]? = some (s, none) ∧ Q i := ⟨i, gi h, q⟩
theorem mpI {A : Ah} {l i : Nat} {es : List (AV × AV)} {Q : Nat → List (AV × AV) → Prop} (h : In A i l (some (.mp es))) (q : Q i es) : ∃ (i : Nat) (es : List (AV × AV)), A[i]? = some (l, some (LObj.mp es)) ∧ Q i es := ⟨i, es, gi h, q⟩
structure VC (α : Type) where
  enc : α → AV
  dec : AV → Option α
  de : ∀ x, dec (enc x) = some x
  ed : ∀ {v : AV} {x : α}, dec v = some x → v = enc x
structure CC (α : Type) where
  enc : α → List AV
  dec : List AV → Option α
  de : ∀ x, dec (enc x) = some x
  ed : ∀ {l : List AV} {x : α}, dec l = some x → l = enc x
def VC.int (k : IntKind) : VC Int where
  enc n := .int k n
  dec v := match v with
    | .int k' n => if k' = k then some n else none
    | _ => none
  de n := by simp
  ed := by
    intro v x h
    split at h
    · split at h
      · rename_i e; injection h with h; subst e h; rfl
      · cases h
    · cases h
def VC.i64 : VC Int := .int .i64
def VC.u64 : VC Int := .int .u64
def VC.bool : VC Bool where
  enc b := .bool b
  dec v := match v with
    | .bool b => some b
    | _ => none
  de b := rfl
  ed := by
    intro v x h
    split at h
    · injection h with h; subst h; rfl
    · cases h
def decs {α : Type} (d : List AV → Option α) : List (List AV) → Option (List α)
  | [] => some []
  | e :: es => match d e with
    | none => none
    | some x => match decs d es with
      | none => none
      | some xs => some (x :: xs)
theorem decs_map {α : Type} (c : CC α) : ∀ (xs : List α), decs c.dec (xs.map c.enc) = some xs
  | [] => rfl
  | x :: xs => by simp [decs, c.de, decs_map c xs]
theorem decs_inv {α : Type} (c : CC α) : ∀ {es : List (List AV)} {xs : List α}, decs c.dec es = some xs → es = xs.map c.enc
  | [], xs, h => by simp only [decs, Option.some.injEq] at h; subst h; rfl
  | e :: es, xs, h => by
    simp only [decs] at h
    split at h
    · cases h
    · rename_i x hx
      split at h
      · cases h
      · rename_i xs' hxs
        injection h with h; subst h
        rw [c.ed hx, decs_inv c hxs]; rfl
def VC.list {α : Type} (c : CC α) : VC (List α) where
  enc xs := .list (xs.map c.enc)
  dec v := match v with
    | .list es => decs c.dec es
    | _ => none
  de xs := decs_map c xs
  ed := by
    intro v x h
    split at h
    · rw [decs_inv c h]
    · cases h
def VC.agg {α : Type} (c : CC α) : VC α where
  enc x := .agg (c.enc x)
  dec v := match v with
    | .agg cs => c.dec cs
    | _ => none
  de x := c.de x
  ed := by
    intro v x h
    split at h
    · rw [c.ed h]
    · cases h
def VC.fn (f : Nat) : VC Unit where
  enc _ := .func f []
  dec v := match v with
    | .func g [] => if g = f then some () else none
    | _ => none
  de _ := by simp
  ed := by
    intro v x h
    split at h
    · split at h
      · rename_i e; rw [e]
      · cases h
    · cases h
def CC.nil : CC Unit where
  enc _ := []
  dec l := match l with
    | [] => some ()
    | _ => none
  de _ := rfl
  ed := by
    intro l x h
    split at h
    · rfl
    · cases h
def CC.one {α : Type} (v : VC α) : CC α where
  enc x := [v.enc x]
  dec l := match l with
    | [y] => v.dec y
    | _ => none
  de x := v.de x
  ed := by
    intro l x h
    split at h
    · rw [v.ed h]
    · cases h
def CC.cons {α β : Type} (v : VC α) (c : CC β) : CC (α × β) where
  enc x := v.enc x.1 :: c.enc x.2
  dec l := match l with
    | y :: r => match v.dec y with
      | none => none
      | some a => match c.dec r with
        | none => none
        | some b => some (a, b)
    | _ => none
  de x := by simp [v.de, c.de]
  ed := by
    intro l x h
    split at h
    · split at h
      · cases h
      · rename_i ha
        split at h
        · cases h
        · rename_i hb
          injection h with h; subst h
          rw [v.ed ha, c.ed hb]
    · cases h
def CC.app {α β : Type} (n : Nat) (c : CC α) (hn : ∀ x, (c.enc x).length = n) (d : CC β) : CC (α × β) where
  enc x := c.enc x.1 ++ d.enc x.2
  dec l := match c.dec (l.take n) with
    | none => none
    | some a => match d.dec (l.drop n) with
      | none => none
      | some b => some (a, b)
  de x := by simp [← hn x.1, c.de, d.de]
  ed := by
    intro l x h
    split at h
    · cases h
    · rename_i ha
      split at h
      · cases h
      · rename_i hb
        injection h with h; subst h
        simp only
        rw [← c.ed ha, ← d.ed hb, List.take_append_drop]
def CC.by {α β : Type} (c : CC α) (f : α → β) (g : β → α) (h1 : ∀ y, f (g y) = y) (h2 : ∀ x, g (f x) = x) : CC β where
  enc y := c.enc (g y)
  dec l := (c.dec l).map f
  de y := by simp [c.de, h1]
  ed := by
    intro l y h
    obtain ⟨x, hx, rfl⟩ := Option.map_eq_some_iff.1 h
    rw [h2, ← c.ed hx]
def CC.as {α : Type} (c : CC α) (e : α → List AV) (h : ∀ x, c.enc x = e x) : CC α := ⟨e, c.dec, fun x => by rw [← h]; exact c.de x, fun hd => by rw [← h]; exact c.ed hd⟩
theorem hat {T : Tab} {f : Nat} {h : How} {g : List AV → Option (List AV)} {args rs : List AV} (hT : look T f = some ⟨h, g⟩) (hr : g args = some rs) : (hands T).iso f args = some rs := by
  simp only [hands, hT]; exact hr
section
variable {α : Type}
def con (a : CC α) (ok : α → Prop) [DecidablePred ok] (out : α → List AV) (args : List AV) : Option (List AV) := match a.dec args with
  | none => none
  | some x => if ok x then some (out x) else none
theorem con_at {a : CC α} {ok : α → Prop} [DecidablePred ok] {out : α → List AV} {x : α} {args r : List AV} (h : ok x) (e : a.enc x = args) (hr : out x = r) : con a ok out args = some r := by
  subst e hr
  simp only [con, a.de, if_pos h]
theorem con_inv {a : CC α} {ok : α → Prop} [DecidablePred ok] {out : α → List AV} {args rs : List AV} (h : con a ok out args = some rs) : ∃ x, ok x ∧ args = a.enc x ∧ rs = out x := by
  unfold con at h
  split at h
  · cases h
  · rename_i x hx
    split at h
    · rename_i hk
      injection h with h
      exact ⟨x, hk, a.ed hx, h.symm⟩
    · cases h
theorem iso_con {P : Program} {hd : Hands} {f : Nat} {fn : Func} {ir : IFunc} {a : CC α} {ok : α → Prop} [DecidablePred ok] {out : α → List AV} (hm : P.follows .mixedOrders = true) (hh : HandsOk P hd) (hfn : P.funcs[f]? = some fn) (hc : compile P fn = some ir)
    (h : ∀ x, ok x → ∃ n env, a.enc x ++ List.replicate (ir.ntmps - (a.enc x).length) .undef = env ∧ aB hd n ir env [] fun rs' A => Fin .iso A rs' (out x)) : IsoOk P f (con a ok out) :=
  iso_of .iso (by decide) hm hh hfn hc fun args rs hg => by
    obtain ⟨x, hx, rfl, rfl⟩ := con_inv hg
    exact h x hx
end
end Go.Ai
set_option linter.unusedVariables false
set_option linter.unusedSimpArgs false
namespace Go.Ai
open Go.RowKit
def nthD {α : Type} [Inhabited α] (xs : List α) (n : Int) : α := xs.getD n.toNat default
theorem nthD_nat {α : Type} [Inhabited α] {xs : List α} {k : Nat} (h : k < xs.length) : nthD xs (k : Int) = xs[k] := by simp [nthD, h]
theorem nthD_mem {α : Type} [Inhabited α] {xs : List α} {n : Int} (h0 : 0 ≤ n) (h : n < xs.length) : nthD xs n ∈ xs := by
  have h1 : n.toNat < xs.length := by omega
  simp [nthD, h1]
theorem nthD_map {α β : Type} [Inhabited α] [Inhabited β] {xs : List α} {f : α → β} {n : Int} (h0 : 0 ≤ n) (h : n < xs.length) : nthD (xs.map f) n = f (nthD xs n) := by
  have h1 : n.toNat < xs.length := by omega
  simp [nthD, h1]
theorem getm {α : Type} [Inhabited α] {xs : List α} {f : α → List AV} {n : Int} (h0 : 0 ≤ n) (h : n < xs.length) : (xs.map f)[n.toNat]? = some (f (nthD xs n)) := by
  have h1 : n.toNat < xs.length := by omega
  simp [nthD, h1]
theorem lenm {α : Type} {xs : List α} {f : α → List AV} {k : Nat} (h : ∀ x, (f x).length = k) : lenIs k (xs.map f) = true := by
  cases xs with
  | nil => rfl
  | cons x xs => simp [lenIs, h]
theorem ltm {α : Type} {xs : List α} {f : α → List AV} {n : Int} (h : n < xs.length) : n < ((xs.map f).length : Int) := by simpa using h
theorem ltm_inv {α : Type} {xs : List α} {f : α → List AV} {n : Int} (h : n < ((xs.map f).length : Int)) : n < xs.length := by simpa using h
theorem ltm_not {α : Type} {xs : List α} {f : α → List AV} {n : Int} (h : ¬ n < ((xs.map f).length : Int)) : (xs.length : Int) ≤ n := by simpa using h
theorem w64 {n : Int} (h1 : -9223372036854775808 ≤ n) (h2 : n ≤ 9223372036854775807) : wrapI .i64 n = n := by
  simp only [wrapI, topN, modN]
  omega
theorem wU {n : Int} (h1 : 0 ≤ n) (h2 : n ≤ 18446744073709551615) : wrapI .u64 n = n := by
  simp only [wrapI, topN, modN]
  omega
abbrev I64 (n : Int) : Prop := -9223372036854775808 ≤ n ∧ n ≤ 9223372036854775807
abbrev U64 (n : Int) : Prop := 0 ≤ n ∧ n ≤ 18446744073709551615
theorem fin1 {A : Ah} {v : AV} (h : selfV v = true) : Fin .iso A [v] [v] := Fin.frz (FrzL.frz (.cons (.self (d := 11) h) .nil))
theorem aLoop_upk {hd : Hands} {n : Nat} {c : IC} {Q : Out → List AV → Ah → Prop} (I : Nat → List AV → Ah → Prop) (N : Nat)
    (step : ∀ k env A, k ≤ N → I k env A → aC hd n c env A fun o env A => match o with
      | .normal => ∃ A', k < N ∧ Sub A A' ∧ I (k + 1) env A'
      | o => Q o env A) : ∀ (m k : Nat) (env : List AV) (A : Ah), k ≤ N → I k env A → N - k < m → aLoop hd n c m env A Q
  | 0, k, env, A, hk, hI, hm => by omega
  | m + 1, k, env, A, hk, hI, hm => by
    refine ⟨fun F H hR => ?_⟩
    obtain ⟨o, s1, h1, A1, hR1, h⟩ := aC_out c ⟨env, H⟩ A _ hR (step k env A hk hI)
    cases o with
    | normal =>
      obtain ⟨A', h2, h3, h4⟩ := h
      obtain ⟨o2, s2, h5, h⟩ := (aLoop_upk I N step m (k + 1) s1.env A' (by omega) h4 (by omega)).run F s1.H (h3 _ _ hR1)
      exact ⟨o2, s2, by simp only [loopN, h1]; exact h5, h⟩
    | exit i => exact ⟨_, s1, by simp only [loopN, h1], A1, hR1, h⟩
    | ret => exact ⟨_, s1, by simp only [loopN, h1], A1, hR1, h⟩
theorem aLoop_up {hd : Hands} {n : Nat} {c : IC} {Q : Out → List AV → Ah → Prop} (I : Nat → List AV → Ah → Prop) (N : Nat) {env : List AV} {A A0 : Ah} (hs : Sub A A0) (h0 : I 0 env A0) (hN : N < n)
    (step : ∀ k env A, k ≤ N → I k env A → aC hd n c env A fun o env A => match o with
      | .normal => ∃ A', k < N ∧ Sub A A' ∧ I (k + 1) env A'
      | o => Q o env A) : aLoop hd n c n env A Q := aLoop_sub hs (aLoop_upk I N step n 0 env A0 (by omega) h0 (by omega))
def maskN (f : Nat → Bool) : Nat → Nat
  | 0 => 0
  | n + 1 => maskN f n + (if f n then 2 ^ n else 0)
theorem maskN_lt (f : Nat → Bool) : ∀ n, maskN f n < 2 ^ n
  | 0 => by simp [maskN]
  | n + 1 => by
    have := maskN_lt f n
    rw [maskN, Nat.pow_succ]
    split <;> omega
theorem testBit_maskN (f : Nat → Bool) : ∀ n i, (maskN f n).testBit i = (decide (i < n) && f i)
  | 0, i => by simp [maskN]
  | n + 1, i => by
    have hlt := maskN_lt f n
    have ih := testBit_maskN f n i
    simp only [maskN]
    split
    · rename_i hf
      rw [Nat.add_comm, show (2 : Nat) ^ n + maskN f n = 2 ^ n * 1 + maskN f n by omega, Nat.testBit_two_pow_mul_add 1 hlt i]
      split
      · rename_i hi
        rw [ih]; simp [hi, Nat.lt_succ_of_lt hi]
      · rename_i hi
        by_cases he : i = n
        · subst he; simp [hf]
        · have h2 : ¬ i < n + 1 := by omega
          have h3 : Nat.testBit 1 (i - n) = false := Nat.testBit_lt_two_pow (Nat.one_lt_two_pow (by omega))
          simp [h3, h2]
    · rename_i hf
      rw [Nat.add_zero, ih]
      by_cases he : i = n
      · subst he; simp [hf]
      · by_cases hi : i < n
        · simp [hi, Nat.lt_succ_of_lt hi]
        · have h2 : ¬ i < n + 1 := by omega
          simp [hi, h2]
theorem maskN_congr {f g : Nat → Bool} : ∀ {n}, (∀ i, i < n → f i = g i) → maskN f n = maskN g n
  | 0, h => rfl
  | n + 1, h => by simp only [maskN]; rw [maskN_congr fun i hi => h i (by omega), h n (by omega)]
theorem lt_two_pow_64 {n : Nat} (h : n ≤ 64) {m : Nat} (hm : m < 2 ^ n) : m < 18446744073709551616 :=
  Nat.lt_of_lt_of_le hm (Nat.pow_le_pow_right (by decide) h : 2 ^ n ≤ 2 ^ 64)
theorem maskN_U (f : Nat → Bool) {n : Nat} (h : n ≤ 64) : U64 (maskN f n : Int) := by
  have := lt_two_pow_64 h (maskN_lt f n)
  exact ⟨by omega, by omega⟩
theorem bitsU (op : BinOp) {a b : Nat} (ha : a < 18446744073709551616) (hb : b < 18446744073709551616) : arith.bits op .u64 (a : Int) (b : Int) = (match op with
    | .and => ((a &&& b : Nat) : Int)
    | .or => ((a ||| b : Nat) : Int)
    | .xor => ((a ^^^ b : Nat) : Int)
    | _ => ((a &&& (a ^^^ b) : Nat) : Int)) := by
  unfold arith.bits
  rw [if_pos ⟨by omega, by simp only [topN, modN]; omega, by omega, by simp only [topN, modN]; omega⟩]
  rfl
theorem or_and {a b : Nat} (ha : a < 18446744073709551616) (hb : b < 18446744073709551616) : arith.bits .or .u64 (a : Int) (b : Int) = ((a ||| b : Nat) : Int) := bitsU .or ha hb
theorem or_pow {m n : Nat} (h : m < 2 ^ n) : m ||| 2 ^ n = m + 2 ^ n := by
  have := Nat.two_pow_add_eq_or_of_lt h 1
  rw [Nat.mul_one] at this
  rw [Nat.or_comm, ← this, Nat.add_comm]
theorem shl_one {n : Nat} (h : n < 64) : wrapI .u64 (shlI 1 (min ((n : Int).toNat) IntKind.u64.bits)) = ((2 ^ n : Nat) : Int) := by
  have h1 : min ((n : Int).toNat) IntKind.u64.bits = n := by simp only [IntKind.bits]; omega
  rw [h1]
  simp only [shlI, Int.one_mul]
  have : 2 ^ n ≤ 2 ^ 63 := Nat.pow_le_pow_right (by decide) (by omega)
  generalize 2 ^ n = q at *
  exact wU (by omega) (by omega)
theorem shl_bit {n : Nat} (h : n < 64) (b : Bool) : wrapI .u64 (shlI (if b then 1 else 0) (min ((n : Int).toNat) IntKind.u64.bits)) = ((if b then 2 ^ n else 0 : Nat) : Int) := by
  cases b with
  | false => simp [shlI, wrapI, topN, modN]
  | true => exact shl_one h
theorem mask_or (f : Nat → Bool) {n : Nat} (h : n < 64) : arith.bits .or .u64 (maskN f n : Int) ((if f n then 2 ^ n else 0 : Nat) : Int) = (maskN f (n + 1) : Int) := by
  have hlt := maskN_lt f n
  have h64 := lt_two_pow_64 (by omega) hlt
  have hp : 2 ^ n ≤ 2 ^ 63 := Nat.pow_le_pow_right (by decide) (by omega)
  rw [maskN]
  split
  · rw [or_and h64 (by omega), or_pow hlt]
  · rw [or_and h64 (by omega)]; simp
def bitI (x : Int) (i : Nat) : Bool := x.toNat.testBit i
theorem shr_and {x : Int} (hx : U64 x) {i : Nat} (hi : i < 64) : arith.bits .and .u64 (shrI x (min ((i : Int).toNat) IntKind.u64.bits)) 1 = (if bitI x i then 1 else 0) := by
  obtain ⟨m, rfl⟩ := Int.eq_ofNat_of_zero_le hx.1
  have hm : m < 18446744073709551616 := by have := hx.2; omega
  have h1 : min ((i : Int).toNat) IntKind.u64.bits = i := by simp only [IntKind.bits]; omega
  rw [h1]
  simp only [shrI]
  have hd : m / 2 ^ i ≤ m := Nat.div_le_self _ _
  rw [show (1 : Int) = ((1 : Nat) : Int) from rfl, bitsU .and (by omega) (by omega)]
  simp only [Nat.and_one_is_mod, bitI, Int.toNat_natCast, Nat.testBit_eq_decide_div_mod_eq]
  have := Nat.mod_two_eq_zero_or_one (m / 2 ^ i)
  rcases this with h | h <;> simp [h]
def mapC (m : List (Int × AV)) : List (AV × AV) := m.map fun p => (.int .i64 p.1, p.2)
def mGet : List (Int × AV) → Int → Option AV
  | [], _ => none
  | (k, v) :: r, x => if x = k then some v else mGet r x
def mPut : List (Int × AV) → Int → AV → List (Int × AV)
  | [], x, v => [(x, v)]
  | (k, u) :: r, x, v => if x = k then (x, v) :: r else (k, u) :: mPut r x v
theorem find_C (x : Int) : ∀ m, findK none (.int .i64 x) (mapC m) = some (mGet m x)
  | [] => rfl
  | (k, v) :: r => by
    simp only [mapC, List.map_cons, findK, eqKey, eqK1, if_true, mGet]
    by_cases h : x = k
    · simp [h]
    · simp only [beq_eq_false_iff_ne.2 h, if_neg h]; exact find_C x r
theorem put_C (x : Int) (v : AV) : ∀ m, putK none (.int .i64 x) v (mapC m) = some (mapC (mPut m x v))
  | [] => rfl
  | (k, u) :: r => by
    simp only [mapC, List.map_cons, putK, eqKey, eqK1, if_true, mPut]
    by_cases h : x = k
    · simp [h]
    · simp only [beq_eq_false_iff_ne.2 h, if_neg h]
      rw [show (List.map (fun p => (AV.int IntKind.i64 p.1, p.2)) r) = mapC r from rfl, put_C x v r]; rfl
theorem get_put (x : Int) (v : AV) (y : Int) : ∀ m, mGet (mPut m x v) y = if y = x then some v else mGet m y
  | [] => by simp [mPut, mGet]
  | (k, u) :: r => by
    simp only [mPut]
    by_cases h : x = k
    · subst h
      by_cases hy : y = x <;> simp [mGet, hy]
    · simp only [if_neg h, mGet]
      rw [get_put x v y r]
      by_cases hy : y = x
      · subst hy; simp [h]
      · simp [hy]
end Go.Ai
set_option linter.unusedVariables false
set_option linter.unusedSimpArgs false
namespace Go.Ai
open Go.RowKit
def hdOne (c : Nat) (g : List AV → Option (List AV)) : Hands := ⟨fun _ => .iso, fun f args => match Nat.beq f c with
  | true => g args
  | false => none, fun _ _ _ => none⟩
theorem hdOne_ok {P : Program} {c : Nat} {g : List AV → Option (List AV)} (h : IsoOk P c g) : HandsOk P (hdOne c g) := by
  refine ⟨fun f hf => by simp [hdOne] at hf, fun f hf hff ⟨args, rs, hr⟩ => ?_, fun f hf => by simp [hdOne] at hf⟩
  simp only [hdOne] at hr ⊢
  split at hr
  · rename_i e
    have e' := Nat.eq_of_beq_eq_true e
    subst e'
    exact h
  · cases hr
theorem hdOne_iso (c : Nat) (g : List AV → Option (List AV)) (args : List AV) : (hdOne c g).iso c args = g args := by simp [hdOne]
theorem frz_selfs {A : Ah} : ∀ {vs : List AV}, vs.all selfV = true → Frz A vs vs A
  | [], _ => FrzL.nil
  | v :: vs, h => by
    simp only [List.all_cons, Bool.and_eq_true] at h
    exact FrzL.frz (.cons (.self (d := 11) h.1) (frz_selfs h.2))
theorem frzL_selfs {A : Ah} {d : Nat} : ∀ {vs : List AV}, vs.all selfV = true → FrzL (d + 1) A vs vs A
  | [], _ => FrzL.nil
  | v :: vs, h => by
    simp only [List.all_cons, Bool.and_eq_true] at h
    exact .cons (.self h.1) (frzL_selfs h.2)
theorem frz_mkv {A : Ah} {ag : Bool} {e caps : List AV} {v : AV} (hv : mkv ag e = some v) (he : e.all selfV = true) (hc : caps.all selfV = true) : Frz A (v :: caps) (v :: caps) A := by
  refine FrzL.frz (.cons ?_ (frz_selfs hc))
  unfold mkv at hv
  split at hv
  · injection hv with hv; subst hv
    exact .agg (frzL_selfs he)
  · split at hv
    · injection hv with hv; subst hv
      simp only [List.all_cons, Bool.and_eq_true] at he
      exact .self he.1
    · cases hv
def idxIR (k : Nat) (ag : Bool) : IFunc := ⟨19, [.tmp 4],
  .seq (.region [⟨some 4, none, .mov (.c (.int .i64 0))⟩])
   (.seq (.seq (.region [⟨some 6, none, .mov (.t 0)⟩,
    ⟨some 7, none, .len (.t 6)⟩,
    ⟨some 8, none, .mov (.c (.int .i64 0))⟩])
   (.block 0 (.loop (.seq (.region [⟨some 9, none, .bin .lss (.t 8) (.t 7)⟩])
   (.seq (.cond (.t 9) (.skip) (.exit 0))
   (.seq (.block 1 (.seq (.region [⟨some 10, none, .mov (.t 8)⟩,
    ⟨some 5, none, .mov (.t 10)⟩])
   (.seq (.region [⟨some 11, none, .mov (.t 1)⟩,
    ⟨some 12, none, .mov (.t 0)⟩,
    ⟨some 13, none, .mov (.t 5)⟩,
    ⟨some 14, none, .iaddr k (.t 12) (.t 13)⟩,
    ⟨some 15, none, .load k ag (.t 14)⟩,
    ⟨some 16, none, .dyn (.t 11) [(.t 15)]⟩])
   (.cond (.t 16) (.seq (.region [⟨some 17, none, .mov (.t 5)⟩,
    ⟨some 4, none, .mov (.t 17)⟩])
   (.ret)) (.skip)))))
   (.region [⟨some 18, none, .bin .add (.t 8) (.c (.int .i64 1))⟩,
    ⟨some 8, none, .mov (.t 18)⟩])))))))
   (.seq (.region [⟨some 4, none, .mov (.c (.int .i64 (-1)))⟩])
   (.ret)))⟩
def askG (g : List AV → Option (List AV)) (ag : Bool) (caps e : List AV) : Option Bool := match mkv ag e with
  | none => none
  | some v => match g (v :: caps) with
    | some [.bool b] => some b
    | _ => none
def idxG (g : List AV → Option (List AV)) (ag : Bool) (caps : List AV) : List (List AV) → Nat → Option Int
  | [], _ => some (-1)
  | e :: es, i => match askG g ag caps e with
    | some true => some i
    | some false => idxG g ag caps es (i + 1)
    | none => none
def okI (k : Nat) (es : List (List AV)) (caps : List AV) : Bool := es.all (fun e => e.length == k && e.all selfV) && caps.all selfV && decide (es.length < most)
def idxF (k : Nat) (ag : Bool) (c : Nat) (g : List AV → Option (List AV)) (args : List AV) : Option (List AV) := match args with
  | [.list es, .func c' caps] => match Nat.beq c' c && okI k es caps with
    | true => match idxG g ag caps es 0 with
      | some i => some [.int .i64 i]
      | none => none
    | false => none
  | _ => none
theorem len_all {k : Nat} {es : List (List AV)} (h : es.all (fun e => e.length == k && e.all selfV) = true) : lenIs k es = true := by
  cases es with
  | nil => rfl
  | cons e es => simp only [List.all_cons, Bool.and_eq_true] at h; exact h.1.1
theorem cut_self {c : List AV} {k : Nat} (h : c.length = k) : cut c 0 k = some c := by
  unfold cut
  rw [if_pos (by omega)]
  simp [← h]
theorem askG_some {g : List AV → Option (List AV)} {ag : Bool} {caps e : List AV} {b : Bool} (h : askG g ag caps e = some b) : ∃ v, mkv ag e = some v ∧ g (v :: caps) = some [.bool b] := by
  unfold askG at h
  split at h
  · cases h
  · rename_i v hv
    split at h
    · rename_i b' hg
      injection h with h; subst h
      exact ⟨v, hv, hg⟩
    · cases h
set_option maxRecDepth 100000 in
theorem run_idx {n k c : Nat} {ag : Bool} {g : List AV → Option (List AV)} {es : List (List AV)} {caps : List AV} (hok : okI k es caps = true) (hn : es.length < n) {r : Int} (hr : idxG g ag caps es 0 = some r) {K : List AV → Ah → Prop} (hK : K [.int .i64 r] []) : aB (hdOne c g) n (idxIR k ag) (.list es :: .func c caps :: .undef :: .undef :: .undef :: .undef :: .undef :: .undef :: .undef :: .undef :: .undef :: .undef :: .undef :: .undef :: .undef :: .undef :: .undef :: .undef :: .undef :: []) [] K := by
  simp only [okI, Bool.and_eq_true, decide_eq_true_eq] at hok
  obtain ⟨⟨h1, h2⟩, h3⟩ := hok
  have h3' : es.length < 4294967296 := h3
  repeat' ((conv => whnf); first | refine And.intro rfl ?_ | refine ldI (by repeat first | exact .hd | apply In.tl) ?_ | refine And.intro (fun hc => ?_) (fun hc => ?_) | refine Exists.intro _ (And.intro (w64 (by omega) (by omega)) ?_) | refine Exists.intro _ (And.intro (wU (by omega) (by omega)) ?_) | refine And.intro ⟨rfl, leb rfl⟩ ?_ | refine stI (by repeat first | exact .hd | apply In.tl) ?_ | refine And.intro ⟨rfl, leb rfl, rfl⟩ ?_ | refine ⟨⟨by omega, by first | omega | exact ltm (by omega)⟩, lenm (by intro _; rfl), ?_⟩ | refine Exists.intro _ (And.intro (getm (by omega) (by first | omega | exact ltm_inv (by omega))) ?_) | refine And.intro (leb rfl) ?_ | refine And.intro (show (0 : Int) ≤ _ by omega) ?_ | refine slI (by repeat first | exact .hd | apply In.tl) ?_ | refine apI (by repeat first | exact .hd | apply In.tl) ?_ | refine mpI (by repeat first | exact .hd | apply In.tl) ?_ | refine And.intro ⟨by decide, by decide⟩ ?_ | refine And.intro (by decide) ?_ | refine .inr ⟨⟨leb rfl, leb rfl, rfl, rfl⟩, ?_⟩ | refine ⟨⟨by omega, by omega⟩, rfl, ?_⟩ | refine ⟨⟨rfl, by omega, rfl, by (show _ + 1 < 4294967296); omega, rfl⟩, .inr ⟨leb rfl, ?_⟩⟩ | refine Exists.intro _ (And.intro (find_C _ _) ?_) | refine Exists.intro _ (And.intro (put_C _ _ _) ?_) | fail)
  refine aLoop_up (fun i env A => A = [] ∧ idxG g ag caps (es.drop i) i = some r ∧ IEnv (fun g' => (.list es :: .func c caps :: .undef :: .undef :: .int .i64 0 :: g' 5 :: .list es :: .int .i64 es.length :: .int .i64 (i : Int) :: g' 9 :: g' 10 :: g' 11 :: g' 12 :: g' 13 :: g' 14 :: g' 15 :: g' 16 :: g' 17 :: g' 18 :: [])) env) es.length (.refl _) ⟨rfl, hr, .mk rfl⟩ hn ?_
  rintro i env A hi ⟨rfl, hI, ⟨g', rfl⟩⟩
  refine ⟨rfl, fun h4 => ?_, fun h4 => ?_⟩
  · have hi' : i < es.length := by omega
    rw [List.drop_eq_getElem_cons hi', idxG] at hI
    have hel := List.all_eq_true.1 h1 _ (List.getElem_mem hi')
    simp only [Bool.and_eq_true, beq_iff_eq] at hel
    have hask : ∃ b, askG g ag caps es[i] = some b := by
      cases hb : askG g ag caps es[i] with
      | none => rw [hb] at hI; cases hI
      | some b => exact ⟨b, rfl⟩
    obtain ⟨b, hb⟩ := hask
    obtain ⟨v, hv, hg⟩ := askG_some hb
    repeat' ((conv => whnf); first | refine And.intro rfl ?_ | refine ldI (by repeat first | exact .hd | apply In.tl) ?_ | refine And.intro (fun hc => ?_) (fun hc => ?_) | refine Exists.intro _ (And.intro (w64 (by omega) (by omega)) ?_) | refine Exists.intro _ (And.intro (wU (by omega) (by omega)) ?_) | refine And.intro ⟨rfl, leb rfl⟩ ?_ | refine stI (by repeat first | exact .hd | apply In.tl) ?_ | refine And.intro ⟨rfl, leb rfl, rfl⟩ ?_ | refine ⟨⟨by omega, by first | omega | exact ltm (by omega)⟩, lenm (by intro _; rfl), ?_⟩ | refine Exists.intro _ (And.intro (getm (by omega) (by first | omega | exact ltm_inv (by omega))) ?_) | refine And.intro (leb rfl) ?_ | refine And.intro (show (0 : Int) ≤ _ by omega) ?_ | refine slI (by repeat first | exact .hd | apply In.tl) ?_ | refine apI (by repeat first | exact .hd | apply In.tl) ?_ | refine mpI (by repeat first | exact .hd | apply In.tl) ?_ | refine And.intro ⟨by decide, by decide⟩ ?_ | refine And.intro (by decide) ?_ | refine .inr ⟨⟨leb rfl, leb rfl, rfl, rfl⟩, ?_⟩ | refine ⟨⟨by omega, by omega⟩, rfl, ?_⟩ | refine ⟨⟨rfl, by omega, rfl, by (show _ + 1 < 4294967296); omega, rfl⟩, .inr ⟨leb rfl, ?_⟩⟩ | refine Exists.intro _ (And.intro (find_C _ _) ?_) | refine Exists.intro _ (And.intro (put_C _ _ _) ?_) | fail)
    refine ⟨⟨by omega, by omega⟩, len_all h1, es[i], by simp [hi'], cutF_iff.2 ⟨es[i], cut_self hel.1, aP_iff.2 ⟨v, hv, ?_⟩⟩⟩
    conv => whnf
    refine ⟨_, _, _, true, frz_mkv hv hel.2 h2, (hdOne_iso c g _).trans hg, rfl, ?_⟩
    rw [hb] at hI
    cases b with
    | true =>
      repeat' ((conv => whnf); first | refine And.intro rfl ?_ | refine ldI (by repeat first | exact .hd | apply In.tl) ?_ | refine And.intro (fun hc => ?_) (fun hc => ?_) | refine Exists.intro _ (And.intro (w64 (by omega) (by omega)) ?_) | refine Exists.intro _ (And.intro (wU (by omega) (by omega)) ?_) | refine And.intro ⟨rfl, leb rfl⟩ ?_ | refine stI (by repeat first | exact .hd | apply In.tl) ?_ | refine And.intro ⟨rfl, leb rfl, rfl⟩ ?_ | refine ⟨⟨by omega, by first | omega | exact ltm (by omega)⟩, lenm (by intro _; rfl), ?_⟩ | refine Exists.intro _ (And.intro (getm (by omega) (by first | omega | exact ltm_inv (by omega))) ?_) | refine And.intro (leb rfl) ?_ | refine And.intro (show (0 : Int) ≤ _ by omega) ?_ | refine slI (by repeat first | exact .hd | apply In.tl) ?_ | refine apI (by repeat first | exact .hd | apply In.tl) ?_ | refine mpI (by repeat first | exact .hd | apply In.tl) ?_ | refine And.intro ⟨by decide, by decide⟩ ?_ | refine And.intro (by decide) ?_ | refine .inr ⟨⟨leb rfl, leb rfl, rfl, rfl⟩, ?_⟩ | refine ⟨⟨by omega, by omega⟩, rfl, ?_⟩ | refine ⟨⟨rfl, by omega, rfl, by (show _ + 1 < 4294967296); omega, rfl⟩, .inr ⟨leb rfl, ?_⟩⟩ | refine Exists.intro _ (And.intro (find_C _ _) ?_) | refine Exists.intro _ (And.intro (put_C _ _ _) ?_) | fail)
      simp only [Option.some.injEq] at hI
      rw [hI]
      exact hK
    | false =>
      repeat' ((conv => whnf); first | refine And.intro rfl ?_ | refine ldI (by repeat first | exact .hd | apply In.tl) ?_ | refine And.intro (fun hc => ?_) (fun hc => ?_) | refine Exists.intro _ (And.intro (w64 (by omega) (by omega)) ?_) | refine Exists.intro _ (And.intro (wU (by omega) (by omega)) ?_) | refine And.intro ⟨rfl, leb rfl⟩ ?_ | refine stI (by repeat first | exact .hd | apply In.tl) ?_ | refine And.intro ⟨rfl, leb rfl, rfl⟩ ?_ | refine ⟨⟨by omega, by first | omega | exact ltm (by omega)⟩, lenm (by intro _; rfl), ?_⟩ | refine Exists.intro _ (And.intro (getm (by omega) (by first | omega | exact ltm_inv (by omega))) ?_) | refine And.intro (leb rfl) ?_ | refine And.intro (show (0 : Int) ≤ _ by omega) ?_ | refine slI (by repeat first | exact .hd | apply In.tl) ?_ | refine apI (by repeat first | exact .hd | apply In.tl) ?_ | refine mpI (by repeat first | exact .hd | apply In.tl) ?_ | refine And.intro ⟨by decide, by decide⟩ ?_ | refine And.intro (by decide) ?_ | refine .inr ⟨⟨leb rfl, leb rfl, rfl, rfl⟩, ?_⟩ | refine ⟨⟨by omega, by omega⟩, rfl, ?_⟩ | refine ⟨⟨rfl, by omega, rfl, by (show _ + 1 < 4294967296); omega, rfl⟩, .inr ⟨leb rfl, ?_⟩⟩ | refine Exists.intro _ (And.intro (find_C _ _) ?_) | refine Exists.intro _ (And.intro (put_C _ _ _) ?_) | fail)
      exact ⟨_, hi', .refl _, rfl, hI, .mk rfl⟩
  · obtain rfl : i = es.length := by omega
    rw [List.drop_length, idxG, Option.some.injEq] at hI
    subst hI
    exact hK
theorem idx_ok {P : Program} {c f : Nat} {g : List AV → Option (List AV)} {fn : Func} {k : Nat} {ag : Bool} (hm : P.follows .mixedOrders = true) (hg : IsoOk P c g) (hfn : P.funcs[f]? = some fn) (hc : compile P fn = some (idxIR k ag)) : IsoOk P f (idxF k ag c g) :=
  iso_of .iso (by decide) hm (hdOne_ok hg) hfn hc fun args rs h => by
    unfold idxF at h
    split at h
    · rename_i es c' caps
      split at h
      · rename_i hh
        simp only [Bool.and_eq_true] at hh
        have := Nat.eq_of_beq_eq_true hh.1
        subst this
        split at h
        · rename_i i hi
          injection h with h; subst h
          exact ⟨es.length + 1, _, rfl, run_idx hh.2 (by omega) hi (fin1 rfl)⟩
        · cases h
      · cases h
    · cases h
def conIR (i : Nat) : IFunc := ⟨9, [.tmp 4],
  .seq (.region [⟨some 4, none, .mov (.c (.bool false))⟩])
   (.seq (.region [⟨some 5, none, .mov (.t 0)⟩,
    ⟨some 6, none, .mov (.t 1)⟩,
    ⟨some 7, none, .call i [(.t 5), (.t 6)]⟩,
    ⟨some 8, none, .bin .geq (.t 7) (.c (.int .i64 0))⟩,
    ⟨some 4, none, .mov (.t 8)⟩])
   (.ret))⟩
def conF (k : Nat) (ag : Bool) (c : Nat) (g : List AV → Option (List AV)) (args : List AV) : Option (List AV) := match idxF k ag c g args with
  | some [.int .i64 i] => some [.bool (decide (i ≥ 0))]
  | _ => none
theorem con_ok {P : Program} {c f i : Nat} {g : List AV → Option (List AV)} {fn : Func} {k : Nat} {ag : Bool} (hm : P.follows .mixedOrders = true) (hg : IsoOk P i (idxF k ag c g)) (hfn : P.funcs[f]? = some fn) (hc : compile P fn = some (conIR i)) : IsoOk P f (conF k ag c g) :=
  iso_of .iso (by decide) hm (hdOne_ok hg) hfn hc fun args rs h => by
    unfold conF at h
    split at h
    · rename_i j hj
      injection h with h; subst h
      unfold idxF at hj
      have hj' := hj
      split at hj
      · rename_i es c' caps
        split at hj
        · rename_i hh
          simp only [Bool.and_eq_true, okI] at hh
          refine ⟨0, _, rfl, ?_⟩
          repeat' ((conv => whnf); first | refine And.intro rfl ?_ | refine ldI (by repeat first | exact .hd | apply In.tl) ?_ | refine And.intro (fun hc => ?_) (fun hc => ?_) | refine Exists.intro _ (And.intro (w64 (by omega) (by omega)) ?_) | refine Exists.intro _ (And.intro (wU (by omega) (by omega)) ?_) | refine And.intro ⟨rfl, leb rfl⟩ ?_ | refine stI (by repeat first | exact .hd | apply In.tl) ?_ | refine And.intro ⟨rfl, leb rfl, rfl⟩ ?_ | refine ⟨⟨by omega, by first | omega | exact ltm (by omega)⟩, lenm (by intro _; rfl), ?_⟩ | refine Exists.intro _ (And.intro (getm (by omega) (by first | omega | exact ltm_inv (by omega))) ?_) | refine And.intro (leb rfl) ?_ | refine And.intro (show (0 : Int) ≤ _ by omega) ?_ | refine slI (by repeat first | exact .hd | apply In.tl) ?_ | refine apI (by repeat first | exact .hd | apply In.tl) ?_ | refine mpI (by repeat first | exact .hd | apply In.tl) ?_ | refine And.intro ⟨by decide, by decide⟩ ?_ | refine And.intro (by decide) ?_ | refine .inr ⟨⟨leb rfl, leb rfl, rfl, rfl⟩, ?_⟩ | refine ⟨⟨by omega, by omega⟩, rfl, ?_⟩ | refine ⟨⟨rfl, by omega, rfl, by (show _ + 1 < 4294967296); omega, rfl⟩, .inr ⟨leb rfl, ?_⟩⟩ | refine Exists.intro _ (And.intro (find_C _ _) ?_) | refine Exists.intro _ (And.intro (put_C _ _ _) ?_) | fail)
          refine ⟨_, _, _, true, FrzL.frz (.cons (.self (d := 11) rfl) (.cons (.func (d := 11) (frzL_selfs hh.2.1.2)) .nil)), (hdOne_iso i _ _).trans hj', rfl, ?_⟩
          repeat' ((conv => whnf); first | refine And.intro rfl ?_ | refine ldI (by repeat first | exact .hd | apply In.tl) ?_ | refine And.intro (fun hc => ?_) (fun hc => ?_) | refine Exists.intro _ (And.intro (w64 (by omega) (by omega)) ?_) | refine Exists.intro _ (And.intro (wU (by omega) (by omega)) ?_) | refine And.intro ⟨rfl, leb rfl⟩ ?_ | refine stI (by repeat first | exact .hd | apply In.tl) ?_ | refine And.intro ⟨rfl, leb rfl, rfl⟩ ?_ | refine ⟨⟨by omega, by first | omega | exact ltm (by omega)⟩, lenm (by intro _; rfl), ?_⟩ | refine Exists.intro _ (And.intro (getm (by omega) (by first | omega | exact ltm_inv (by omega))) ?_) | refine And.intro (leb rfl) ?_ | refine And.intro (show (0 : Int) ≤ _ by omega) ?_ | refine slI (by repeat first | exact .hd | apply In.tl) ?_ | refine apI (by repeat first | exact .hd | apply In.tl) ?_ | refine mpI (by repeat first | exact .hd | apply In.tl) ?_ | refine And.intro ⟨by decide, by decide⟩ ?_ | refine And.intro (by decide) ?_ | refine .inr ⟨⟨leb rfl, leb rfl, rfl, rfl⟩, ?_⟩ | refine ⟨⟨by omega, by omega⟩, rfl, ?_⟩ | refine ⟨⟨rfl, by omega, rfl, by (show _ + 1 < 4294967296); omega, rfl⟩, .inr ⟨leb rfl, ?_⟩⟩ | refine Exists.intro _ (And.intro (find_C _ _) ?_) | refine Exists.intro _ (And.intro (put_C _ _ _) ?_) | fail)
          · rw [decide_eq_true hc]; exact fin1 rfl
          · rw [decide_eq_false hc]; exact fin1 rfl
        · cases hj
      · cases hj
    · cases h
end Go.Ai
set_option linter.unusedVariables false
set_option linter.unusedSimpArgs false
namespace Go.Proofs.Ytlgbbabijifflaa.mdl
attribute [local irreducible] Go.Ai.wrapI Go.Ai.arith.bits Go.Ai.shlI Go.Ai.shrI
open Go Go.Ai Go.Proofs.Ytlgbbabijifflaa.L1R
theorem mixed : Try.prog.follows .mixedOrders = true := by kernel_rfl
theorem nilOk : HandsOk Try.prog (hands []) := hands_ok .nil
structure ModD where
  w : Int
  val : List Int
  rel : List (List Int)
  deriving DecidableEq
instance : Inhabited ModD := ⟨⟨0, [], []⟩⟩
def setC (x : Int) : List AV := [.int .u64 x]
def setsC (l : List Int) : List AV := [.list (l.map setC)]
def modC (m : ModD) : List AV := [.int .i64 m.w, .list (m.val.map setC), .list (m.rel.map setsC)]
def setK : CC Int := (CC.one .u64).as setC fun _ => rfl
def setsK : CC (List Int) := (CC.one (.list setK)).as setsC fun _ => rfl
def modK : CC ModD := (((CC.cons .i64 (CC.cons (.list setK) (CC.one (.list setsK)))).by (fun x => ⟨x.1, x.2.1, x.2.2⟩) (fun m => (m.w, m.val, m.rel)) (fun _ => rfl) (fun _ => rfl)) : CC ModD).as modC fun _ => rfl
abbrev ModD.Ok (m : ModD) : Prop := (∀ s ∈ m.val, U64 s) ∧ ∀ r ∈ m.rel, ∀ s ∈ r, U64 s
def allS (n : Int) : Int := if n ≥ 64 then 18446744073709551615 else 2 ^ n.toNat - 1
def g104 : List AV → Option (List AV) := con (.one .i64) (fun n => 0 ≤ n) fun n => [.int .u64 (allS n)]
set_option maxRecDepth 100000 in
theorem run104 {hd : Hands} {n : Nat} {x : Int} (hx : 0 ≤ x) {K : List AV → Ah → Prop} (hK : ∀ A, K [.int .u64 (allS x)] A) : aB hd n ir104 (.int .i64 x :: .undef :: .undef :: .undef :: .undef :: .undef :: .undef :: .undef :: []) [] K := by
  repeat' ((conv => whnf); first | refine ⟨rfl, fun hc => ?_, fun hc => ?_⟩ | refine ⟨fun hc => ?_, fun hc => ?_⟩ | refine ⟨rfl, _, w64 (by omega) (by omega), ?_⟩ | refine ⟨_, w64 (by omega) (by omega), ?_⟩ | refine ⟨_, wU (by omega) (by omega), ?_⟩ | refine ⟨rfl, rfl, ?_⟩ | refine And.intro (show (0 : Int) ≤ _ by omega) ?_ | refine ldI (by repeat first | exact .hd | apply In.tl) ?_ | refine stI (by repeat first | exact .hd | apply In.tl) ?_ | refine slI (by repeat first | exact .hd | apply In.tl) ?_ | refine apI (by repeat first | exact .hd | apply In.tl) ?_ | refine mpI (by repeat first | exact .hd | apply In.tl) ?_ | refine ⟨⟨rfl, leb rfl, rfl⟩, ?_⟩ | refine ⟨⟨rfl, leb rfl⟩, ?_⟩ | refine ⟨⟨by decide, by decide⟩, ?_⟩ | refine ⟨rfl, ?_⟩ | refine ⟨leb rfl, ?_⟩ | refine ⟨by decide, ?_⟩ | refine .inr ⟨⟨leb rfl, leb rfl, rfl, rfl⟩, ?_⟩ | refine ⟨⟨by omega, by first | omega | exact ltm (by omega)⟩, lenm (by intro _; rfl), ?_⟩ | refine ⟨_, getm (by omega) (by first | omega | exact ltm_inv (by omega)), ?_⟩ | refine ⟨⟨by omega, by omega⟩, rfl, ?_⟩ | refine ⟨⟨rfl, by omega, rfl, by (show _ + 1 < 4294967296); omega, rfl⟩, .inr ⟨leb rfl, ?_⟩⟩ | refine ⟨_, find_C _ _, ?_⟩ | refine ⟨_, put_C _ _ _, ?_⟩ | fail)
  · have := hK []
    rw [allS, if_pos hc] at this
    exact this
  · obtain ⟨k, rfl⟩ := Int.eq_ofNat_of_zero_le hx
    have hk : k < 64 := by omega
    refine ⟨_, shl_one hk, ?_⟩
    have h1 : 2 ^ k ≤ 2 ^ 63 := Nat.pow_le_pow_right (by decide) (by omega)
    have h2 : 0 < 2 ^ k := Nat.pow_pos (by decide)
    have := hK []
    rw [allS, if_neg hc, Int.toNat_natCast] at this
    have e : ((2 ^ k : Nat) : Int) = 2 ^ k := by norm_cast
    rw [← e] at this
    generalize 2 ^ k = q at *
    repeat' ((conv => whnf); first | refine ⟨rfl, fun hc => ?_, fun hc => ?_⟩ | refine ⟨fun hc => ?_, fun hc => ?_⟩ | refine ⟨rfl, _, w64 (by omega) (by omega), ?_⟩ | refine ⟨_, w64 (by omega) (by omega), ?_⟩ | refine ⟨_, wU (by omega) (by omega), ?_⟩ | refine ⟨rfl, rfl, ?_⟩ | refine And.intro (show (0 : Int) ≤ _ by omega) ?_ | refine ldI (by repeat first | exact .hd | apply In.tl) ?_ | refine stI (by repeat first | exact .hd | apply In.tl) ?_ | refine slI (by repeat first | exact .hd | apply In.tl) ?_ | refine apI (by repeat first | exact .hd | apply In.tl) ?_ | refine mpI (by repeat first | exact .hd | apply In.tl) ?_ | refine ⟨⟨rfl, leb rfl, rfl⟩, ?_⟩ | refine ⟨⟨rfl, leb rfl⟩, ?_⟩ | refine ⟨⟨by decide, by decide⟩, ?_⟩ | refine ⟨rfl, ?_⟩ | refine ⟨leb rfl, ?_⟩ | refine ⟨by decide, ?_⟩ | refine .inr ⟨⟨leb rfl, leb rfl, rfl, rfl⟩, ?_⟩ | refine ⟨⟨by omega, by first | omega | exact ltm (by omega)⟩, lenm (by intro _; rfl), ?_⟩ | refine ⟨_, getm (by omega) (by first | omega | exact ltm_inv (by omega)), ?_⟩ | refine ⟨⟨by omega, by omega⟩, rfl, ?_⟩ | refine ⟨⟨rfl, by omega, rfl, by (show _ + 1 < 4294967296); omega, rfl⟩, .inr ⟨leb rfl, ?_⟩⟩ | refine ⟨_, find_C _ _, ?_⟩ | refine ⟨_, put_C _ _ _, ?_⟩ | fail)
    exact this
theorem c104 : IsoOk Try.prog 104 g104 := iso_con mixed nilOk Try.func104 cir104 fun x hx => ⟨0, _, rfl, run104 hx fun A => fin1 rfl⟩
theorem all_nat {n : Int} (h0 : 0 ≤ n) (h : n ≤ 64) : allS n = ((2 ^ n.toNat - 1 : Nat) : Int) := by
  obtain ⟨k, rfl⟩ := Int.eq_ofNat_of_zero_le h0
  have hp : 0 < 2 ^ k := Nat.pow_pos (by decide)
  unfold allS
  rw [Int.toNat_natCast]
  by_cases h64 : (k : Int) ≥ 64
  · obtain rfl : k = 64 := by omega
    rfl
  · rw [if_neg h64]
    have : ((2 ^ k - 1 : Nat) : Int) = ((2 ^ k : Nat) : Int) - 1 := by omega
    rw [this]
    norm_cast
theorem andNot_low {s n : Nat} : s &&& (s ^^^ (2 ^ n - 1)) = 0 ↔ s < 2 ^ n := by
  constructor
  · intro h
    refine Nat.lt_pow_two_of_testBit s fun i hi => ?_
    have h1 := congrArg (fun x => Nat.testBit x i) h
    simp only [Nat.testBit_and, Nat.testBit_xor, Nat.testBit_two_pow_sub_one, Nat.zero_testBit] at h1
    have h2 : ¬ i < n := by omega
    simpa [h2] using h1
  · intro h
    refine Nat.eq_of_testBit_eq fun i => ?_
    simp only [Nat.testBit_and, Nat.testBit_xor, Nat.testBit_two_pow_sub_one, Nat.zero_testBit]
    by_cases hi : i < n
    · simp [hi]
    · have : s.testBit i = false := Nat.testBit_lt_two_pow (Nat.lt_of_lt_of_le h (Nat.pow_le_pow_right (by decide) (by omega)))
      simp [this]
def outB (n s : Int) : Bool := decide (¬ s < 2 ^ n.toNat)
theorem out_spec {s n : Int} (hs : U64 s) (h0 : 0 ≤ n) (h : n ≤ 64) : (¬ arith.bits .andNot .u64 s (allS n) = 0) ↔ outB n s = true := by
  obtain ⟨a, rfl⟩ := Int.eq_ofNat_of_zero_le hs.1
  have ha : a < 18446744073709551616 := by have := hs.2; omega
  have hlt : 2 ^ n.toNat ≤ 18446744073709551616 := Nat.le_trans (Nat.pow_le_pow_right (by decide) (by omega) : 2 ^ n.toNat ≤ 2 ^ 64) (by decide)
  have hpos : 0 < 2 ^ n.toNat := Nat.pow_pos (by decide)
  have hq : 2 ^ n.toNat - 1 < 18446744073709551616 := by
    generalize 2 ^ n.toNat = q at *
    omega
  have e1 := bitsU .andNot (a := a) (b := 2 ^ n.toNat - 1) ha hq
  rw [all_nat h0 h, e1]
  simp only [outB, decide_eq_true_eq]
  have e : ((2 : Int) ^ n.toNat) = ((2 ^ n.toNat : Nat) : Int) := (Int.natCast_pow 2 n.toNat).symm
  rw [e]
  have := @andNot_low a n.toNat
  rw [Int.ofNat_lt, ← this]
  simp only [Int.natCast_eq_zero]
def g103 (args : List AV) : Option (List AV) := match args with
  | [.int .u64 s, .fptr [[.int .i64 n]] 0 0] => if U64 s ∧ 0 ≤ n ∧ n ≤ 64 then some [.bool (outB n s)] else none
  | _ => none
def T1 : Tab := [(104, ⟨.iso, g104⟩)]
theorem k104 {T : Tab} (hT : Go.Ai.look T 104 = some ⟨.iso, g104⟩) {n : Int} (h : 0 ≤ n) : (hands T).iso 104 [.int .i64 n] = some [.int .u64 (allS n)] := hat hT (con_at (x := n) h rfl rfl)
set_option maxRecDepth 100000 in
theorem run103 {n : Nat} {s x : Int} (hs : U64 s) (h0 : 0 ≤ x) (h : x ≤ 64) {K : List AV → Ah → Prop} (hK : ∀ A, K [.bool (outB x s)] A) : aB (hands T1) n ir103 (.int .u64 s :: .fptr [[.int .i64 x]] 0 0 :: .undef :: .undef :: .undef :: .undef :: .undef :: .undef :: .undef :: []) [] K := by
  have e := out_spec hs h0 h
  refine ⟨_, rfl, ?_⟩
  repeat' ((conv => whnf); first | refine ⟨rfl, fun hc => ?_, fun hc => ?_⟩ | refine ⟨fun hc => ?_, fun hc => ?_⟩ | refine ⟨rfl, _, w64 (by omega) (by omega), ?_⟩ | refine ⟨_, w64 (by omega) (by omega), ?_⟩ | refine ⟨_, wU (by omega) (by omega), ?_⟩ | refine ⟨rfl, rfl, ?_⟩ | refine And.intro (show (0 : Int) ≤ _ by omega) ?_ | refine ldI (by repeat first | exact .hd | apply In.tl) ?_ | refine stI (by repeat first | exact .hd | apply In.tl) ?_ | refine slI (by repeat first | exact .hd | apply In.tl) ?_ | refine apI (by repeat first | exact .hd | apply In.tl) ?_ | refine mpI (by repeat first | exact .hd | apply In.tl) ?_ | refine ⟨⟨rfl, leb rfl, rfl⟩, ?_⟩ | refine ⟨⟨rfl, leb rfl⟩, ?_⟩ | refine ⟨⟨by decide, by decide⟩, ?_⟩ | refine ⟨rfl, ?_⟩ | refine ⟨leb rfl, ?_⟩ | refine ⟨by decide, ?_⟩ | refine .inr ⟨⟨leb rfl, leb rfl, rfl, rfl⟩, ?_⟩ | refine ⟨⟨by omega, by first | omega | exact ltm (by omega)⟩, lenm (by intro _; rfl), ?_⟩ | refine ⟨_, getm (by omega) (by first | omega | exact ltm_inv (by omega)), ?_⟩ | refine ⟨⟨by omega, by omega⟩, rfl, ?_⟩ | refine ⟨⟨rfl, by omega, rfl, by (show _ + 1 < 4294967296); omega, rfl⟩, .inr ⟨leb rfl, ?_⟩⟩ | refine ⟨_, find_C _ _, ?_⟩ | refine ⟨_, put_C _ _ _, ?_⟩ | refine ⟨_, _, _, true, fun _ H hR => ⟨H, rfl, hR⟩, k104 rfl h0, rfl, ?_⟩ | refine ⟨_, _, _, false, fun _ H hR => ⟨H, rfl, hR⟩, k104 rfl h0, rfl, ?_⟩ | fail)
  refine ⟨_, rfl, ?_⟩
  repeat' ((conv => whnf); first | refine ⟨rfl, fun hc => ?_, fun hc => ?_⟩ | refine ⟨fun hc => ?_, fun hc => ?_⟩ | refine ⟨rfl, _, w64 (by omega) (by omega), ?_⟩ | refine ⟨_, w64 (by omega) (by omega), ?_⟩ | refine ⟨_, wU (by omega) (by omega), ?_⟩ | refine ⟨rfl, rfl, ?_⟩ | refine And.intro (show (0 : Int) ≤ _ by omega) ?_ | refine ldI (by repeat first | exact .hd | apply In.tl) ?_ | refine stI (by repeat first | exact .hd | apply In.tl) ?_ | refine slI (by repeat first | exact .hd | apply In.tl) ?_ | refine apI (by repeat first | exact .hd | apply In.tl) ?_ | refine mpI (by repeat first | exact .hd | apply In.tl) ?_ | refine ⟨⟨rfl, leb rfl, rfl⟩, ?_⟩ | refine ⟨⟨rfl, leb rfl⟩, ?_⟩ | refine ⟨⟨by decide, by decide⟩, ?_⟩ | refine ⟨rfl, ?_⟩ | refine ⟨leb rfl, ?_⟩ | refine ⟨by decide, ?_⟩ | refine .inr ⟨⟨leb rfl, leb rfl, rfl, rfl⟩, ?_⟩ | refine ⟨⟨by omega, by first | omega | exact ltm (by omega)⟩, lenm (by intro _; rfl), ?_⟩ | refine ⟨_, getm (by omega) (by first | omega | exact ltm_inv (by omega)), ?_⟩ | refine ⟨⟨by omega, by omega⟩, rfl, ?_⟩ | refine ⟨⟨rfl, by omega, rfl, by (show _ + 1 < 4294967296); omega, rfl⟩, .inr ⟨leb rfl, ?_⟩⟩ | refine ⟨_, find_C _ _, ?_⟩ | refine ⟨_, put_C _ _ _, ?_⟩ | fail)
  · have := hK []
    rw [e.1 hc] at this
    exact this
  · have := hK []
    rw [Bool.eq_false_iff.2 fun h => hc (e.2 h)] at this
    exact this
theorem ok1 : HandsOk Try.prog (hands T1) := hands_ok (.cons c104 .nil)
theorem c103 : IsoOk Try.prog 103 g103 := iso_of .iso (by decide) mixed ok1 Try.func103 cir103 fun args rs h => by
  unfold g103 at h
  split at h
  · split at h
    · rename_i hh
      injection h with h; subst h
      exact ⟨0, _, rfl, run103 hh.1 hh.2.1 hh.2.2 fun A => fin1 rfl⟩
    · cases h
  · cases h
theorem c94 : IsoOk Try.prog 94 (idxF 1 false 103 g103) := idx_ok mixed c103 Try.func94 cir94
theorem c54 : IsoOk Try.prog 54 (conF 1 false 103 g103) := con_ok (i := 94) mixed c94 Try.func54 cir54
theorem con_any {α : Type} {k : Nat} {ag : Bool} {c : Nat} {g : List AV → Option (List AV)} {caps : List AV} {xs : List α} {f : α → List AV} {p : α → Bool} (hp : ∀ x ∈ xs, askG g ag caps (f x) = some (p x)) (hk : ∀ x, (f x).length = k) (hs : ∀ x, (f x).all selfV = true) (hc : caps.all selfV = true) (hl : xs.length < most) :
    conF k ag c g [.list (xs.map f), .func c caps] = some [.bool (xs.any p)] := by
  have hok : okI k (xs.map f) caps = true := by
    simp only [okI, Bool.and_eq_true, List.all_map, List.all_eq_true, Function.comp_def, beq_iff_eq, decide_eq_true_eq, List.length_map]
    exact ⟨⟨fun x _ => ⟨hk x, fun y hy => List.all_eq_true.1 (hs x) y hy⟩, fun x hx => List.all_eq_true.1 hc x hx⟩, hl⟩
  have key : ∀ (ys : List α) (i : Nat), (∀ x ∈ ys, askG g ag caps (f x) = some (p x)) → ∃ r : Int, idxG g ag caps (ys.map f) i = some r ∧ decide (r ≥ 0) = ys.any p := by
    intro ys
    induction ys with
    | nil => exact fun i _ => ⟨-1, rfl, rfl⟩
    | cons y ys ih =>
      intro i h
      simp only [List.map_cons, idxG, h y (by simp), List.any_cons]
      cases hy : p y with
      | true => exact ⟨i, rfl, by simp⟩
      | false =>
        obtain ⟨r, h1, h2⟩ := ih (i + 1) fun x hx => h x (by simp [hx])
        exact ⟨r, h1, by simp [h2]⟩
  obtain ⟨r, h1, h2⟩ := key xs 0 hp
  have hb : Nat.beq c c = true := by simp [Nat.beq_eq]
  simp only [conF, idxF, hb, hok, Bool.and_self, h1, h2]
def T2 : Tab := [(54, ⟨.iso, conF 1 false 103 g103⟩)]
theorem ok2 : HandsOk Try.prog (hands T2) := hands_ok (.cons c54 .nil)
theorem k54 {T : Tab} (hT : Go.Ai.look T 54 = some ⟨.iso, conF 1 false 103 g103⟩) {l : List Int} {n : Int} (hl : ∀ s ∈ l, U64 s) (h0 : 0 ≤ n ∧ n ≤ 64) (hm : l.length < most) : (hands T).iso 54 [.list (l.map setC), .func 103 [.fptr [[.int .i64 n]] 0 0]] = some [.bool (l.any (outB n))] :=
  hat hT (con_any (fun x hx => by
    show (match g103 [.int .u64 x, .fptr [[.int .i64 n]] 0 0] with
      | some [.bool b] => some b
      | _ => none) = _
    simp only [g103, if_pos (⟨hl x hx, h0⟩ : U64 x ∧ 0 ≤ n ∧ n ≤ 64)]) (fun _ => rfl) (fun _ => rfl) rfl hm)
abbrev ok73 (x : List Int × Int) : Prop := (∀ s ∈ x.1, U64 s) ∧ (0 ≤ x.2 ∧ x.2 ≤ 64) ∧ x.1.length < most
def g73 : List AV → Option (List AV) := con (.cons (.list setK) (.one .i64)) ok73 fun x => [.bool (x.1.any (outB x.2))]
set_option maxRecDepth 100000 in
theorem run73 {n : Nat} {l : List Int} {x : Int} (h : ok73 (l, x)) {K : List AV → Ah → Prop} (hK : ∀ A, K [.bool (l.any (outB x))] A) : aB (hands T2) n ir73 (.list (l.map setC) :: .int .i64 x :: .undef :: .undef :: .undef :: .undef :: .undef :: .undef :: []) [] K := by
  refine ⟨rfl, ?_⟩
  intro l3 hl3
  repeat' ((conv => whnf); first | refine ⟨rfl, fun hc => ?_, fun hc => ?_⟩ | refine ⟨fun hc => ?_, fun hc => ?_⟩ | refine ⟨rfl, _, w64 (by omega) (by omega), ?_⟩ | refine ⟨_, w64 (by omega) (by omega), ?_⟩ | refine ⟨_, wU (by omega) (by omega), ?_⟩ | refine ⟨rfl, rfl, ?_⟩ | refine And.intro (show (0 : Int) ≤ _ by omega) ?_ | refine ldI (by repeat first | exact .hd | apply In.tl) ?_ | refine stI (by repeat first | exact .hd | apply In.tl) ?_ | refine slI (by repeat first | exact .hd | apply In.tl) ?_ | refine apI (by repeat first | exact .hd | apply In.tl) ?_ | refine mpI (by repeat first | exact .hd | apply In.tl) ?_ | refine ⟨⟨rfl, leb rfl, rfl⟩, ?_⟩ | refine ⟨⟨rfl, leb rfl⟩, ?_⟩ | refine ⟨⟨by decide, by decide⟩, ?_⟩ | refine ⟨rfl, ?_⟩ | refine ⟨leb rfl, ?_⟩ | refine ⟨by decide, ?_⟩ | refine .inr ⟨⟨leb rfl, leb rfl, rfl, rfl⟩, ?_⟩ | refine ⟨⟨by omega, by first | omega | exact ltm (by omega)⟩, lenm (by intro _; rfl), ?_⟩ | refine ⟨_, getm (by omega) (by first | omega | exact ltm_inv (by omega)), ?_⟩ | refine ⟨⟨by omega, by omega⟩, rfl, ?_⟩ | refine ⟨⟨rfl, by omega, rfl, by (show _ + 1 < 4294967296); omega, rfl⟩, .inr ⟨leb rfl, ?_⟩⟩ | refine ⟨_, find_C _ _, ?_⟩ | refine ⟨_, put_C _ _ _, ?_⟩ | fail)
  refine ⟨_, _, _, true, FrzL.frz (.cons (.self (d := 11) rfl) (.cons (.func (d := 11) (.cons (.ptr (d := 9) (i := 0) rfl rfl) .nil)) .nil)), k54 rfl h.1 h.2.1 h.2.2, rfl, ?_⟩
  exact hK _
theorem c73 : IsoOk Try.prog 73 g73 := iso_con mixed ok2 Try.func73 cir73 fun x hx => ⟨0, _, rfl, run73 hx fun A => fin1 rfl⟩
def T3 : Tab := [(73, ⟨.iso, g73⟩)]
theorem ok3 : HandsOk Try.prog (hands T3) := hands_ok (.cons c73 .nil)
theorem k73 {T : Tab} (hT : Go.Ai.look T 73 = some ⟨.iso, g73⟩) {l : List Int} {n : Int} (h : ok73 (l, n)) : (hands T).iso 73 [.list (l.map setC), .int .i64 n] = some [.bool (l.any (outB n))] := hat hT (con_at (x := (l, n)) h rfl rfl)
def g75 (args : List AV) : Option (List AV) := match args with
  | [.list es, .fptr [.int .i64 n :: _] 0 0] => match decs setK.dec es with
    | some l => if ok73 (l, n) then some [.bool (l.any (outB n))] else none
    | none => none
  | _ => none
set_option maxRecDepth 100000 in
theorem run75 {n : Nat} {l : List Int} {x : Int} {r : List AV} (h : ok73 (l, x)) {K : List AV → Ah → Prop} (hK : ∀ A, K [.bool (l.any (outB x))] A) : aB (hands T3) n ir75 (.list (l.map setC) :: .fptr [.int .i64 x :: r] 0 0 :: .undef :: .undef :: .undef :: .undef :: .undef :: .undef :: []) [] K := by
  repeat' ((conv => whnf); first | refine ⟨rfl, fun hc => ?_, fun hc => ?_⟩ | refine ⟨fun hc => ?_, fun hc => ?_⟩ | refine ⟨rfl, _, w64 (by omega) (by omega), ?_⟩ | refine ⟨_, w64 (by omega) (by omega), ?_⟩ | refine ⟨_, wU (by omega) (by omega), ?_⟩ | refine ⟨rfl, rfl, ?_⟩ | refine And.intro (show (0 : Int) ≤ _ by omega) ?_ | refine ldI (by repeat first | exact .hd | apply In.tl) ?_ | refine stI (by repeat first | exact .hd | apply In.tl) ?_ | refine slI (by repeat first | exact .hd | apply In.tl) ?_ | refine apI (by repeat first | exact .hd | apply In.tl) ?_ | refine mpI (by repeat first | exact .hd | apply In.tl) ?_ | refine ⟨⟨rfl, leb rfl, rfl⟩, ?_⟩ | refine ⟨⟨rfl, leb rfl⟩, ?_⟩ | refine ⟨⟨by decide, by decide⟩, ?_⟩ | refine ⟨rfl, ?_⟩ | refine ⟨leb rfl, ?_⟩ | refine ⟨by decide, ?_⟩ | refine .inr ⟨⟨leb rfl, leb rfl, rfl, rfl⟩, ?_⟩ | refine ⟨⟨by omega, by first | omega | exact ltm (by omega)⟩, lenm (by intro _; rfl), ?_⟩ | refine ⟨_, getm (by omega) (by first | omega | exact ltm_inv (by omega)), ?_⟩ | refine ⟨⟨by omega, by omega⟩, rfl, ?_⟩ | refine ⟨⟨rfl, by omega, rfl, by (show _ + 1 < 4294967296); omega, rfl⟩, .inr ⟨leb rfl, ?_⟩⟩ | refine ⟨_, find_C _ _, ?_⟩ | refine ⟨_, put_C _ _ _, ?_⟩ | fail)
  refine ⟨_, rfl, ?_⟩
  repeat' ((conv => whnf); first | refine ⟨rfl, fun hc => ?_, fun hc => ?_⟩ | refine ⟨fun hc => ?_, fun hc => ?_⟩ | refine ⟨rfl, _, w64 (by omega) (by omega), ?_⟩ | refine ⟨_, w64 (by omega) (by omega), ?_⟩ | refine ⟨_, wU (by omega) (by omega), ?_⟩ | refine ⟨rfl, rfl, ?_⟩ | refine And.intro (show (0 : Int) ≤ _ by omega) ?_ | refine ldI (by repeat first | exact .hd | apply In.tl) ?_ | refine stI (by repeat first | exact .hd | apply In.tl) ?_ | refine slI (by repeat first | exact .hd | apply In.tl) ?_ | refine apI (by repeat first | exact .hd | apply In.tl) ?_ | refine mpI (by repeat first | exact .hd | apply In.tl) ?_ | refine ⟨⟨rfl, leb rfl, rfl⟩, ?_⟩ | refine ⟨⟨rfl, leb rfl⟩, ?_⟩ | refine ⟨⟨by decide, by decide⟩, ?_⟩ | refine ⟨rfl, ?_⟩ | refine ⟨leb rfl, ?_⟩ | refine ⟨by decide, ?_⟩ | refine .inr ⟨⟨leb rfl, leb rfl, rfl, rfl⟩, ?_⟩ | refine ⟨⟨by omega, by first | omega | exact ltm (by omega)⟩, lenm (by intro _; rfl), ?_⟩ | refine ⟨_, getm (by omega) (by first | omega | exact ltm_inv (by omega)), ?_⟩ | refine ⟨⟨by omega, by omega⟩, rfl, ?_⟩ | refine ⟨⟨rfl, by omega, rfl, by (show _ + 1 < 4294967296); omega, rfl⟩, .inr ⟨leb rfl, ?_⟩⟩ | refine ⟨_, find_C _ _, ?_⟩ | refine ⟨_, put_C _ _ _, ?_⟩ | refine ⟨_, _, _, true, fun _ H hR => ⟨H, rfl, hR⟩, k73 rfl h, rfl, ?_⟩ | refine ⟨_, _, _, false, fun _ H hR => ⟨H, rfl, hR⟩, k73 rfl h, rfl, ?_⟩ | fail)
  exact hK _
theorem c75 : IsoOk Try.prog 75 g75 := iso_of .iso (by decide) mixed ok3 Try.func75 cir75 fun args rs h => by
  unfold g75 at h
  split at h
  · split at h
    · rename_i l hl
      cases decs_inv setK hl
      split at h
      · rename_i hh
        injection h with h; subst h
        exact ⟨0, _, rfl, run75 hh fun A => fin1 rfl⟩
      · cases h
    · cases h
  · cases h
theorem c105 : IsoOk Try.prog 105 (idxF 1 false 75 g75) := idx_ok mixed c75 Try.func105 cir105
theorem c74 : IsoOk Try.prog 74 (conF 1 false 75 g75) := con_ok (i := 105) mixed c105 Try.func74 cir74
theorem k74 {T : Tab} (hT : Go.Ai.look T 74 = some ⟨.iso, conF 1 false 75 g75⟩) {m : ModD} (hm : ∀ r ∈ m.rel, ok73 (r, m.w)) (hl : m.rel.length < most) : (hands T).iso 74 [.list (m.rel.map setsC), .func 75 [.fptr [modC m] 0 0]] = some [.bool (m.rel.any fun r => r.any (outB m.w))] :=
  hat hT (con_any (fun r hr => by
    show (match g75 [.list (r.map setC), .fptr [modC m] 0 0] with
      | some [.bool b] => some b
      | _ => none) = _
    have e : decs setK.dec (r.map setC) = some r := decs_map setK r
    simp only [g75, modC, e, if_pos (hm r hr)]) (fun _ => rfl) (fun _ => rfl) rfl hl)
def chkM (m : ModD) : Int :=
  if m.w < 1 ∨ m.w > 64 then 2 else if m.rel.length > 4 ∨ m.val.length > 8 then 8 else
  if m.rel.any (fun r => decide (¬ (r.length : Int) = m.w)) then 3 else
  if (m.val.any (outB m.w) || m.rel.any fun r => r.any (outB m.w)) then 2 else 0
def T4 : Tab := [(73, ⟨.iso, g73⟩), (74, ⟨.iso, conF 1 false 75 g75⟩)]
theorem ok4 : HandsOk Try.prog (hands T4) := hands_ok (.cons c73 (.cons c74 .nil))
def g33 : List AV → Option (List AV) := con (.one (.agg modK)) ModD.Ok fun m => [.int .i64 (chkM m)]
theorem any_false {α : Type} {xs : List α} {p : α → Bool} (h : ∀ x ∈ xs, p x = false) : xs.any p = false := by
  rw [List.any_eq_false]; exact fun x hx => by rw [h x hx]; decide
set_option maxRecDepth 100000 in
set_option maxHeartbeats 1000000 in
theorem run33 {n : Nat} {m : ModD} (h : m.Ok) (hn : 4 < n) {K : List AV → Ah → Prop} (hK : ∀ A, K [.int .i64 (chkM m)] A) : aB (hands T4) n ir33 (.agg (modC m) :: .undef :: .undef :: .undef :: .undef :: .undef :: .undef :: .undef :: .undef :: .undef :: .undef :: .undef :: .undef :: .undef :: .undef :: .undef :: .undef :: .undef :: .undef :: .undef :: .undef :: .undef :: .undef :: .undef :: .undef :: .undef :: .undef :: .undef :: .undef :: .undef :: .undef :: .undef :: .undef :: .undef :: .undef :: .undef :: .undef :: .undef :: .undef :: .undef :: .undef :: .undef :: .undef :: .undef :: .undef :: .undef :: .undef :: []) [] K := by
  refine ⟨rfl, ?_⟩
  intro l1 hl1
  have hKx : ∀ {x : Int} {A : Ah}, chkM m = x → K [.int .i64 x] A := fun e => e ▸ hK _
  repeat' ((conv => whnf); first | refine ⟨rfl, fun hc => ?_, fun hc => ?_⟩ | refine ⟨fun hc => ?_, fun hc => ?_⟩ | refine ⟨rfl, _, w64 (by omega) (by omega), ?_⟩ | refine ⟨_, w64 (by omega) (by omega), ?_⟩ | refine ⟨_, wU (by omega) (by omega), ?_⟩ | refine ⟨rfl, rfl, ?_⟩ | refine And.intro (show (0 : Int) ≤ _ by omega) ?_ | refine ldI (by repeat first | exact .hd | apply In.tl) ?_ | refine stI (by repeat first | exact .hd | apply In.tl) ?_ | refine slI (by repeat first | exact .hd | apply In.tl) ?_ | refine apI (by repeat first | exact .hd | apply In.tl) ?_ | refine mpI (by repeat first | exact .hd | apply In.tl) ?_ | refine ⟨⟨rfl, leb rfl, rfl⟩, ?_⟩ | refine ⟨⟨rfl, leb rfl⟩, ?_⟩ | refine ⟨⟨by decide, by decide⟩, ?_⟩ | refine ⟨rfl, ?_⟩ | refine ⟨leb rfl, ?_⟩ | refine ⟨by decide, ?_⟩ | refine .inr ⟨⟨leb rfl, leb rfl, rfl, rfl⟩, ?_⟩ | refine ⟨⟨by omega, by first | omega | exact ltm (by omega)⟩, lenm (by intro _; rfl), ?_⟩ | refine ⟨_, getm (by omega) (by first | omega | exact ltm_inv (by omega)), ?_⟩ | refine ⟨⟨by omega, by omega⟩, rfl, ?_⟩ | refine ⟨⟨rfl, by omega, rfl, by (show _ + 1 < 4294967296); omega, rfl⟩, .inr ⟨leb rfl, ?_⟩⟩ | refine ⟨_, find_C _ _, ?_⟩ | refine ⟨_, put_C _ _ _, ?_⟩ | fail)
  · exact hKx (by rw [chkM, if_pos (by omega)])
  · exact hKx (by rw [chkM, if_pos (by omega)])
  · simp only [List.length_map] at hc
    exact hKx (by rw [chkM, if_neg (by omega), if_pos (by omega)])
  · rename_i c1
    simp only [List.length_map] at hc c1
    exact hKx (by rw [chkM, if_neg (by omega), if_pos (by omega)])
  rename_i b1 b2 b3
  simp only [List.length_map] at hc b3
  have hw : ¬ (m.w < 1 ∨ m.w > 64) := by omega
  have hs : ¬ (m.rel.length > 4 ∨ m.val.length > 8) := by omega
  refine aLoop_up (fun k env A => A = [(l1, some (.cells (modC m) 0 0 false false))] ∧ (∀ r ∈ m.rel.take k, (r.length : Int) = m.w) ∧ IEnv (fun g => (g 0 :: .ptr l1 0 0 :: g 2 :: g 3 :: g 4 :: g 5 :: g 6 :: g 7 :: g 8 :: g 9 :: g 10 :: g 11 :: g 12 :: g 13 :: g 14 :: g 15 :: g 16 :: g 17 :: g 18 :: g 19 :: g 20 :: g 21 :: g 22 :: g 23 :: .list (m.rel.map setsC) :: .int .i64 (m.rel.map setsC).length :: .int .i64 (k : Int) :: g 27 :: g 28 :: g 29 :: g 30 :: g 31 :: g 32 :: g 33 :: g 34 :: g 35 :: g 36 :: g 37 :: g 38 :: g 39 :: g 40 :: g 41 :: g 42 :: g 43 :: g 44 :: g 45 :: g 46 :: [])) env) m.rel.length (.refl _) ⟨rfl, fun r hr => by simp at hr, .mk rfl⟩ (by omega) ?_
  rintro k env A hk ⟨rfl, hI, ⟨g, rfl⟩⟩
  refine ⟨rfl, fun h4 => ?_, fun h4 => ?_⟩
  · have h4 := ltm_inv h4
    have hk' : k < m.rel.length := by omega
    repeat' ((conv => whnf); first | refine ⟨rfl, fun hc => ?_, fun hc => ?_⟩ | refine ⟨fun hc => ?_, fun hc => ?_⟩ | refine ⟨rfl, _, w64 (by omega) (by omega), ?_⟩ | refine ⟨_, w64 (by omega) (by omega), ?_⟩ | refine ⟨_, wU (by omega) (by omega), ?_⟩ | refine ⟨rfl, rfl, ?_⟩ | refine And.intro (show (0 : Int) ≤ _ by omega) ?_ | refine ldI (by repeat first | exact .hd | apply In.tl) ?_ | refine stI (by repeat first | exact .hd | apply In.tl) ?_ | refine slI (by repeat first | exact .hd | apply In.tl) ?_ | refine apI (by repeat first | exact .hd | apply In.tl) ?_ | refine mpI (by repeat first | exact .hd | apply In.tl) ?_ | refine ⟨⟨rfl, leb rfl, rfl⟩, ?_⟩ | refine ⟨⟨rfl, leb rfl⟩, ?_⟩ | refine ⟨⟨by decide, by decide⟩, ?_⟩ | refine ⟨rfl, ?_⟩ | refine ⟨leb rfl, ?_⟩ | refine ⟨by decide, ?_⟩ | refine .inr ⟨⟨leb rfl, leb rfl, rfl, rfl⟩, ?_⟩ | refine ⟨⟨by omega, by first | omega | exact ltm (by omega)⟩, lenm (by intro _; rfl), ?_⟩ | refine ⟨_, getm (by omega) (by first | omega | exact ltm_inv (by omega)), ?_⟩ | refine ⟨⟨by omega, by omega⟩, rfl, ?_⟩ | refine ⟨⟨rfl, by omega, rfl, by (show _ + 1 < 4294967296); omega, rfl⟩, .inr ⟨leb rfl, ?_⟩⟩ | refine ⟨_, find_C _ _, ?_⟩ | refine ⟨_, put_C _ _ _, ?_⟩ | fail)
    · simp only [setsC, List.length_map] at hc
      refine hKx ?_
      rw [chkM, if_neg hw, if_neg hs, if_pos]
      rw [List.any_eq_true]
      exact ⟨_, nthD_mem (by omega) h4, decide_eq_true hc⟩
    · simp only [List.length_map, Decidable.not_not] at hc
      refine ⟨_, hk', .refl _, rfl, fun r hr => ?_, .mk rfl⟩
      rw [List.take_succ_eq_append_getElem hk', List.mem_append] at hr
      rcases hr with hr | hr
      · exact hI r hr
      · simp only [List.mem_singleton] at hr
        subst hr
        rw [← nthD_nat hk']
        exact hc
  · have h4 := ltm_not h4
    obtain rfl : k = m.rel.length := by omega
    rw [List.take_length] at hI
    have hf : (m.rel.any fun r => decide (¬ (r.length : Int) = m.w)) = false := any_false fun r hr => decide_eq_false (by rw [hI r hr]; simp)
    have hc2 : chkM m = if (m.val.any (outB m.w) || m.rel.any fun r => r.any (outB m.w)) then 2 else 0 := by
      rw [chkM, if_neg hw, if_neg hs, if_neg (by rw [hf]; decide)]
    have hr : ∀ r ∈ m.rel, ok73 (r, m.w) := fun r hr => ⟨h.2 r hr, by omega, by have := hI r hr; simp only [most]; omega⟩
    repeat' ((conv => whnf); first | refine ⟨rfl, fun hc => ?_, fun hc => ?_⟩ | refine ⟨fun hc => ?_, fun hc => ?_⟩ | refine ⟨rfl, _, w64 (by omega) (by omega), ?_⟩ | refine ⟨_, w64 (by omega) (by omega), ?_⟩ | refine ⟨_, wU (by omega) (by omega), ?_⟩ | refine ⟨rfl, rfl, ?_⟩ | refine And.intro (show (0 : Int) ≤ _ by omega) ?_ | refine ldI (by repeat first | exact .hd | apply In.tl) ?_ | refine stI (by repeat first | exact .hd | apply In.tl) ?_ | refine slI (by repeat first | exact .hd | apply In.tl) ?_ | refine apI (by repeat first | exact .hd | apply In.tl) ?_ | refine mpI (by repeat first | exact .hd | apply In.tl) ?_ | refine ⟨⟨rfl, leb rfl, rfl⟩, ?_⟩ | refine ⟨⟨rfl, leb rfl⟩, ?_⟩ | refine ⟨⟨by decide, by decide⟩, ?_⟩ | refine ⟨rfl, ?_⟩ | refine ⟨leb rfl, ?_⟩ | refine ⟨by decide, ?_⟩ | refine .inr ⟨⟨leb rfl, leb rfl, rfl, rfl⟩, ?_⟩ | refine ⟨⟨by omega, by first | omega | exact ltm (by omega)⟩, lenm (by intro _; rfl), ?_⟩ | refine ⟨_, getm (by omega) (by first | omega | exact ltm_inv (by omega)), ?_⟩ | refine ⟨⟨by omega, by omega⟩, rfl, ?_⟩ | refine ⟨⟨rfl, by omega, rfl, by (show _ + 1 < 4294967296); omega, rfl⟩, .inr ⟨leb rfl, ?_⟩⟩ | refine ⟨_, find_C _ _, ?_⟩ | refine ⟨_, put_C _ _ _, ?_⟩ | refine ⟨_, _, _, true, fun _ H hR => ⟨H, rfl, hR⟩, k73 rfl ⟨h.1, by omega, by simp only [most]; omega⟩, rfl, ?_⟩ | refine ⟨_, _, _, false, fun _ H hR => ⟨H, rfl, hR⟩, k73 rfl ⟨h.1, by omega, by simp only [most]; omega⟩, rfl, ?_⟩ | fail)
    cases hv : m.val.any (outB m.w) with
    | true =>
      repeat' ((conv => whnf); first | refine ⟨rfl, fun hc => ?_, fun hc => ?_⟩ | refine ⟨fun hc => ?_, fun hc => ?_⟩ | refine ⟨rfl, _, w64 (by omega) (by omega), ?_⟩ | refine ⟨_, w64 (by omega) (by omega), ?_⟩ | refine ⟨_, wU (by omega) (by omega), ?_⟩ | refine ⟨rfl, rfl, ?_⟩ | refine And.intro (show (0 : Int) ≤ _ by omega) ?_ | refine ldI (by repeat first | exact .hd | apply In.tl) ?_ | refine stI (by repeat first | exact .hd | apply In.tl) ?_ | refine slI (by repeat first | exact .hd | apply In.tl) ?_ | refine apI (by repeat first | exact .hd | apply In.tl) ?_ | refine mpI (by repeat first | exact .hd | apply In.tl) ?_ | refine ⟨⟨rfl, leb rfl, rfl⟩, ?_⟩ | refine ⟨⟨rfl, leb rfl⟩, ?_⟩ | refine ⟨⟨by decide, by decide⟩, ?_⟩ | refine ⟨rfl, ?_⟩ | refine ⟨leb rfl, ?_⟩ | refine ⟨by decide, ?_⟩ | refine .inr ⟨⟨leb rfl, leb rfl, rfl, rfl⟩, ?_⟩ | refine ⟨⟨by omega, by first | omega | exact ltm (by omega)⟩, lenm (by intro _; rfl), ?_⟩ | refine ⟨_, getm (by omega) (by first | omega | exact ltm_inv (by omega)), ?_⟩ | refine ⟨⟨by omega, by omega⟩, rfl, ?_⟩ | refine ⟨⟨rfl, by omega, rfl, by (show _ + 1 < 4294967296); omega, rfl⟩, .inr ⟨leb rfl, ?_⟩⟩ | refine ⟨_, find_C _ _, ?_⟩ | refine ⟨_, put_C _ _ _, ?_⟩ | fail)
      exact hKx (by rw [hc2, hv]; rfl)
    | false =>
      repeat' ((conv => whnf); first | refine ⟨rfl, fun hc => ?_, fun hc => ?_⟩ | refine ⟨fun hc => ?_, fun hc => ?_⟩ | refine ⟨rfl, _, w64 (by omega) (by omega), ?_⟩ | refine ⟨_, w64 (by omega) (by omega), ?_⟩ | refine ⟨_, wU (by omega) (by omega), ?_⟩ | refine ⟨rfl, rfl, ?_⟩ | refine And.intro (show (0 : Int) ≤ _ by omega) ?_ | refine ldI (by repeat first | exact .hd | apply In.tl) ?_ | refine stI (by repeat first | exact .hd | apply In.tl) ?_ | refine slI (by repeat first | exact .hd | apply In.tl) ?_ | refine apI (by repeat first | exact .hd | apply In.tl) ?_ | refine mpI (by repeat first | exact .hd | apply In.tl) ?_ | refine ⟨⟨rfl, leb rfl, rfl⟩, ?_⟩ | refine ⟨⟨rfl, leb rfl⟩, ?_⟩ | refine ⟨⟨by decide, by decide⟩, ?_⟩ | refine ⟨rfl, ?_⟩ | refine ⟨leb rfl, ?_⟩ | refine ⟨by decide, ?_⟩ | refine .inr ⟨⟨leb rfl, leb rfl, rfl, rfl⟩, ?_⟩ | refine ⟨⟨by omega, by first | omega | exact ltm (by omega)⟩, lenm (by intro _; rfl), ?_⟩ | refine ⟨_, getm (by omega) (by first | omega | exact ltm_inv (by omega)), ?_⟩ | refine ⟨⟨by omega, by omega⟩, rfl, ?_⟩ | refine ⟨⟨rfl, by omega, rfl, by (show _ + 1 < 4294967296); omega, rfl⟩, .inr ⟨leb rfl, ?_⟩⟩ | refine ⟨_, find_C _ _, ?_⟩ | refine ⟨_, put_C _ _ _, ?_⟩ | fail)
      refine ⟨_, _, _, true, FrzL.frz (.cons (.self (d := 11) rfl) (.cons (.func (d := 11) (.cons (.ptr (d := 9) (i := 0) rfl rfl) .nil)) .nil)), k74 rfl hr (by simp only [most]; omega), rfl, ?_⟩
      cases hv2 : (m.rel.any fun r => r.any (outB m.w)) with
      | true =>
        repeat' ((conv => whnf); first | refine ⟨rfl, fun hc => ?_, fun hc => ?_⟩ | refine ⟨fun hc => ?_, fun hc => ?_⟩ | refine ⟨rfl, _, w64 (by omega) (by omega), ?_⟩ | refine ⟨_, w64 (by omega) (by omega), ?_⟩ | refine ⟨_, wU (by omega) (by omega), ?_⟩ | refine ⟨rfl, rfl, ?_⟩ | refine And.intro (show (0 : Int) ≤ _ by omega) ?_ | refine ldI (by repeat first | exact .hd | apply In.tl) ?_ | refine stI (by repeat first | exact .hd | apply In.tl) ?_ | refine slI (by repeat first | exact .hd | apply In.tl) ?_ | refine apI (by repeat first | exact .hd | apply In.tl) ?_ | refine mpI (by repeat first | exact .hd | apply In.tl) ?_ | refine ⟨⟨rfl, leb rfl, rfl⟩, ?_⟩ | refine ⟨⟨rfl, leb rfl⟩, ?_⟩ | refine ⟨⟨by decide, by decide⟩, ?_⟩ | refine ⟨rfl, ?_⟩ | refine ⟨leb rfl, ?_⟩ | refine ⟨by decide, ?_⟩ | refine .inr ⟨⟨leb rfl, leb rfl, rfl, rfl⟩, ?_⟩ | refine ⟨⟨by omega, by first | omega | exact ltm (by omega)⟩, lenm (by intro _; rfl), ?_⟩ | refine ⟨_, getm (by omega) (by first | omega | exact ltm_inv (by omega)), ?_⟩ | refine ⟨⟨by omega, by omega⟩, rfl, ?_⟩ | refine ⟨⟨rfl, by omega, rfl, by (show _ + 1 < 4294967296); omega, rfl⟩, .inr ⟨leb rfl, ?_⟩⟩ | refine ⟨_, find_C _ _, ?_⟩ | refine ⟨_, put_C _ _ _, ?_⟩ | fail)
        exact hKx (by rw [hc2, hv, hv2]; rfl)
      | false =>
        repeat' ((conv => whnf); first | refine ⟨rfl, fun hc => ?_, fun hc => ?_⟩ | refine ⟨fun hc => ?_, fun hc => ?_⟩ | refine ⟨rfl, _, w64 (by omega) (by omega), ?_⟩ | refine ⟨_, w64 (by omega) (by omega), ?_⟩ | refine ⟨_, wU (by omega) (by omega), ?_⟩ | refine ⟨rfl, rfl, ?_⟩ | refine And.intro (show (0 : Int) ≤ _ by omega) ?_ | refine ldI (by repeat first | exact .hd | apply In.tl) ?_ | refine stI (by repeat first | exact .hd | apply In.tl) ?_ | refine slI (by repeat first | exact .hd | apply In.tl) ?_ | refine apI (by repeat first | exact .hd | apply In.tl) ?_ | refine mpI (by repeat first | exact .hd | apply In.tl) ?_ | refine ⟨⟨rfl, leb rfl, rfl⟩, ?_⟩ | refine ⟨⟨rfl, leb rfl⟩, ?_⟩ | refine ⟨⟨by decide, by decide⟩, ?_⟩ | refine ⟨rfl, ?_⟩ | refine ⟨leb rfl, ?_⟩ | refine ⟨by decide, ?_⟩ | refine .inr ⟨⟨leb rfl, leb rfl, rfl, rfl⟩, ?_⟩ | refine ⟨⟨by omega, by first | omega | exact ltm (by omega)⟩, lenm (by intro _; rfl), ?_⟩ | refine ⟨_, getm (by omega) (by first | omega | exact ltm_inv (by omega)), ?_⟩ | refine ⟨⟨by omega, by omega⟩, rfl, ?_⟩ | refine ⟨⟨rfl, by omega, rfl, by (show _ + 1 < 4294967296); omega, rfl⟩, .inr ⟨leb rfl, ?_⟩⟩ | refine ⟨_, find_C _ _, ?_⟩ | refine ⟨_, put_C _ _ _, ?_⟩ | fail)
        exact hKx (by rw [hc2, hv, hv2]; rfl)
theorem c33 : IsoOk Try.prog 33 g33 := iso_con mixed ok4 Try.func33 cir33 fun m hm => ⟨5, _, rfl, run33 hm (by decide) fun A => fin1 rfl⟩
end Go.Proofs.Ytlgbbabijifflaa.mdl
set_option linter.unusedVariables false
set_option linter.unusedSimpArgs false
namespace Go.Proofs.Ytlgbbabijifflaa.mdl
attribute [local irreducible] Go.Ai.wrapI Go.Ai.arith.bits Go.Ai.shlI Go.Ai.shrI
open Go Go.Ai Go.Proofs.Ytlgbbabijifflaa.L1R
theorem take_same {α : Type} {x y : List α} {k : Nat} (h : x.take k = y.take k) (hx : k < x.length) (hy : k < y.length) (e : x[k] = y[k]) : x.take (k + 1) = y.take (k + 1) := by
  rw [List.take_succ_eq_append_getElem hx, List.take_succ_eq_append_getElem hy, h, e]
theorem same_of_take {α : Type} {x y : List α} (hl : x.length = y.length) (h : x.take x.length = y.take x.length) : x = y := by
  rw [List.take_length, hl, List.take_length] at h; exact h
abbrev ok65 (x : List Int × List Int) : Prop := x.1.length < most
def g65 : List AV → Option (List AV) := con (.cons (.list setK) (.one (.list setK))) ok65 fun x => [.bool (decide (x.1 = x.2))]
set_option maxRecDepth 100000 in
theorem run65 {hd : Hands} {n : Nat} {x y : List Int} (hx : x.length < most) (hn : x.length < n) {K : List AV → Ah → Prop} (hK : ∀ A, K [.bool (decide (x = y))] A) : aB hd n ir65 (.list (x.map setC) :: .list (y.map setC) :: .undef :: .undef :: .undef :: .undef :: .undef :: .undef :: .undef :: .undef :: .undef :: .undef :: .undef :: .undef :: .undef :: .undef :: .undef :: .undef :: .undef :: .undef :: .undef :: .undef :: .undef :: .undef :: .undef :: .undef :: []) [] K := by
  have hx' : x.length < 4294967296 := hx
  have no : ¬ x = y → ∀ A, K [.bool false] A := fun h A => decide_eq_false h ▸ hK A
  repeat' ((conv => whnf); first | refine ⟨rfl, fun hc => ?_, fun hc => ?_⟩ | refine ⟨fun hc => ?_, fun hc => ?_⟩ | refine ⟨rfl, _, w64 (by omega) (by omega), ?_⟩ | refine ⟨_, w64 (by omega) (by omega), ?_⟩ | refine ⟨_, wU (by omega) (by omega), ?_⟩ | refine ⟨rfl, rfl, ?_⟩ | refine And.intro (show (0 : Int) ≤ _ by omega) ?_ | refine ldI (by repeat first | exact .hd | apply In.tl) ?_ | refine stI (by repeat first | exact .hd | apply In.tl) ?_ | refine slI (by repeat first | exact .hd | apply In.tl) ?_ | refine apI (by repeat first | exact .hd | apply In.tl) ?_ | refine mpI (by repeat first | exact .hd | apply In.tl) ?_ | refine ⟨⟨rfl, leb rfl, rfl⟩, ?_⟩ | refine ⟨⟨rfl, leb rfl⟩, ?_⟩ | refine ⟨⟨by decide, by decide⟩, ?_⟩ | refine ⟨rfl, ?_⟩ | refine ⟨leb rfl, ?_⟩ | refine ⟨by decide, ?_⟩ | refine .inr ⟨⟨leb rfl, leb rfl, rfl, rfl⟩, ?_⟩ | refine ⟨⟨by omega, by first | omega | exact ltm (by omega)⟩, lenm (by intro _; rfl), ?_⟩ | refine ⟨_, getm (by omega) (by first | omega | exact ltm_inv (by omega)), ?_⟩ | refine ⟨⟨by omega, by omega⟩, rfl, ?_⟩ | refine ⟨⟨rfl, by omega, rfl, by (show _ + 1 < 4294967296); omega, rfl⟩, .inr ⟨leb rfl, ?_⟩⟩ | refine ⟨_, find_C _ _, ?_⟩ | refine ⟨_, put_C _ _ _, ?_⟩ | fail)
  · simp only [List.length_map] at hc
    exact no (fun e => hc (by rw [e])) _
  simp only [List.length_map] at hc
  have hl : x.length = y.length := by omega
  refine aLoop_up (fun k env A => A = [] ∧ x.take k = y.take k ∧ IEnv (fun g => (.list (x.map setC) :: .list (y.map setC) :: g 2 :: g 3 :: g 4 :: .int .i64 (k : Int) :: g 6 :: g 7 :: g 8 :: g 9 :: g 10 :: g 11 :: g 12 :: g 13 :: g 14 :: g 15 :: g 16 :: g 17 :: g 18 :: g 19 :: g 20 :: g 21 :: g 22 :: g 23 :: g 24 :: g 25 :: [])) env) x.length (.refl _) ⟨rfl, rfl, .mk rfl⟩ hn ?_
  rintro k env A hk ⟨rfl, hI, ⟨g, rfl⟩⟩
  refine ⟨rfl, fun h4 => ?_, fun h4 => ?_⟩
  · have h4 := ltm_inv h4
    have hk' : k < x.length := by omega
    intro b hb
    repeat' ((conv => whnf); first | refine ⟨rfl, fun hc => ?_, fun hc => ?_⟩ | refine ⟨fun hc => ?_, fun hc => ?_⟩ | refine ⟨rfl, _, w64 (by omega) (by omega), ?_⟩ | refine ⟨_, w64 (by omega) (by omega), ?_⟩ | refine ⟨_, wU (by omega) (by omega), ?_⟩ | refine ⟨rfl, rfl, ?_⟩ | refine And.intro (show (0 : Int) ≤ _ by omega) ?_ | refine ldI (by repeat first | exact .hd | apply In.tl) ?_ | refine stI (by repeat first | exact .hd | apply In.tl) ?_ | refine slI (by repeat first | exact .hd | apply In.tl) ?_ | refine apI (by repeat first | exact .hd | apply In.tl) ?_ | refine mpI (by repeat first | exact .hd | apply In.tl) ?_ | refine ⟨⟨rfl, leb rfl, rfl⟩, ?_⟩ | refine ⟨⟨rfl, leb rfl⟩, ?_⟩ | refine ⟨⟨by decide, by decide⟩, ?_⟩ | refine ⟨rfl, ?_⟩ | refine ⟨leb rfl, ?_⟩ | refine ⟨by decide, ?_⟩ | refine .inr ⟨⟨leb rfl, leb rfl, rfl, rfl⟩, ?_⟩ | refine ⟨⟨by omega, by first | omega | exact ltm (by omega)⟩, lenm (by intro _; rfl), ?_⟩ | refine ⟨_, getm (by omega) (by first | omega | exact ltm_inv (by omega)), ?_⟩ | refine ⟨⟨by omega, by omega⟩, rfl, ?_⟩ | refine ⟨⟨rfl, by omega, rfl, by (show _ + 1 < 4294967296); omega, rfl⟩, .inr ⟨leb rfl, ?_⟩⟩ | refine ⟨_, find_C _ _, ?_⟩ | refine ⟨_, put_C _ _ _, ?_⟩ | fail)
    · exact no (fun e => hc (by rw [e])) _
    · rw [nthD_nat hk', nthD_nat (by omega)] at hc
      exact ⟨_, hk', .refl _, rfl, take_same hI hk' (by omega) (Decidable.not_not.1 hc), .mk rfl⟩
  · have h4 := ltm_not h4
    obtain rfl : k = x.length := by omega
    have := hK []
    rw [decide_eq_true (same_of_take hl hI)] at this
    exact this
theorem c65 : IsoOk Try.prog 65 g65 := iso_con mixed nilOk Try.func65 cir65 fun x hx => ⟨_, _, rfl, run65 hx (Nat.lt_succ_self _) fun A => fin1 rfl⟩
theorem k65 {T : Tab} (hT : Go.Ai.look T 65 = some ⟨.iso, g65⟩) {x y : List Int} (h : x.length < most) {b : Bool} (hb : decide (x = y) = b) : (hands T).iso 65 [.list (x.map setC), .list (y.map setC)] = some [.bool b] := hat hT (con_at (x := (x, y)) h rfl (by rw [hb]))
def T5 : Tab := [(65, ⟨.iso, g65⟩)]
theorem ok5 : HandsOk Try.prog (hands T5) := hands_ok (.cons c65 .nil)
abbrev ok24 (x : ModD × ModD) : Prop := x.1.val.length < most ∧ x.1.rel.length < most ∧ ∀ r ∈ x.1.rel, r.length < most
def g24 : List AV → Option (List AV) := con (.cons (.agg modK) (.one (.agg modK))) ok24 fun x => [.bool (decide (x.1 = x.2))]
set_option maxRecDepth 100000 in
set_option maxHeartbeats 1000000 in
theorem run24 {n : Nat} {x y : ModD} (h : ok24 (x, y)) (hn : x.rel.length < n) {K : List AV → Ah → Prop} (hK : ∀ A, K [.bool (decide (x = y))] A) : aB (hands T5) n ir24 (.agg (modC x) :: .agg (modC y) :: .undef :: .undef :: .undef :: .undef :: .undef :: .undef :: .undef :: .undef :: .undef :: .undef :: .undef :: .undef :: .undef :: .undef :: .undef :: .undef :: .undef :: .undef :: .undef :: .undef :: .undef :: .undef :: .undef :: .undef :: .undef :: .undef :: .undef :: .undef :: .undef :: .undef :: .undef :: .undef :: .undef :: .undef :: .undef :: .undef :: .undef :: .undef :: .undef :: .undef :: .undef :: .undef :: .undef :: .undef :: .undef :: []) [] K := by
  obtain ⟨h1, h2, h3⟩ := h
  simp only at h1 h2 h3
  have h2' : x.rel.length < 4294967296 := h2
  have no : ¬ x = y → ∀ A, K [.bool false] A := fun h A => decide_eq_false h ▸ hK A
  refine ⟨rfl, ?_⟩
  intro l2 hl2
  refine ⟨rfl, ?_⟩
  intro l3 hl3
  repeat' ((conv => whnf); first | refine ⟨rfl, fun hc => ?_, fun hc => ?_⟩ | refine ⟨fun hc => ?_, fun hc => ?_⟩ | refine ⟨rfl, _, w64 (by omega) (by omega), ?_⟩ | refine ⟨_, w64 (by omega) (by omega), ?_⟩ | refine ⟨_, wU (by omega) (by omega), ?_⟩ | refine ⟨rfl, rfl, ?_⟩ | refine And.intro (show (0 : Int) ≤ _ by omega) ?_ | refine ldI (by repeat first | exact .hd | apply In.tl) ?_ | refine stI (by repeat first | exact .hd | apply In.tl) ?_ | refine slI (by repeat first | exact .hd | apply In.tl) ?_ | refine apI (by repeat first | exact .hd | apply In.tl) ?_ | refine mpI (by repeat first | exact .hd | apply In.tl) ?_ | refine ⟨⟨rfl, leb rfl, rfl⟩, ?_⟩ | refine ⟨⟨rfl, leb rfl⟩, ?_⟩ | refine ⟨⟨by decide, by decide⟩, ?_⟩ | refine ⟨rfl, ?_⟩ | refine ⟨leb rfl, ?_⟩ | refine ⟨by decide, ?_⟩ | refine .inr ⟨⟨leb rfl, leb rfl, rfl, rfl⟩, ?_⟩ | refine ⟨⟨by omega, by first | omega | exact ltm (by omega)⟩, lenm (by intro _; rfl), ?_⟩ | refine ⟨_, getm (by omega) (by first | omega | exact ltm_inv (by omega)), ?_⟩ | refine ⟨⟨by omega, by omega⟩, rfl, ?_⟩ | refine ⟨⟨rfl, by omega, rfl, by (show _ + 1 < 4294967296); omega, rfl⟩, .inr ⟨leb rfl, ?_⟩⟩ | refine ⟨_, find_C _ _, ?_⟩ | refine ⟨_, put_C _ _ _, ?_⟩ | fail)
  · exact no (fun e => hc (by rw [e])) _
  have c1 := hc
  by_cases hv : x.val = y.val
  · repeat' ((conv => whnf); first | refine ⟨rfl, fun hc => ?_, fun hc => ?_⟩ | refine ⟨fun hc => ?_, fun hc => ?_⟩ | refine ⟨rfl, _, w64 (by omega) (by omega), ?_⟩ | refine ⟨_, w64 (by omega) (by omega), ?_⟩ | refine ⟨_, wU (by omega) (by omega), ?_⟩ | refine ⟨rfl, rfl, ?_⟩ | refine And.intro (show (0 : Int) ≤ _ by omega) ?_ | refine ldI (by repeat first | exact .hd | apply In.tl) ?_ | refine stI (by repeat first | exact .hd | apply In.tl) ?_ | refine slI (by repeat first | exact .hd | apply In.tl) ?_ | refine apI (by repeat first | exact .hd | apply In.tl) ?_ | refine mpI (by repeat first | exact .hd | apply In.tl) ?_ | refine ⟨⟨rfl, leb rfl, rfl⟩, ?_⟩ | refine ⟨⟨rfl, leb rfl⟩, ?_⟩ | refine ⟨⟨by decide, by decide⟩, ?_⟩ | refine ⟨rfl, ?_⟩ | refine ⟨leb rfl, ?_⟩ | refine ⟨by decide, ?_⟩ | refine .inr ⟨⟨leb rfl, leb rfl, rfl, rfl⟩, ?_⟩ | refine ⟨⟨by omega, by first | omega | exact ltm (by omega)⟩, lenm (by intro _; rfl), ?_⟩ | refine ⟨_, getm (by omega) (by first | omega | exact ltm_inv (by omega)), ?_⟩ | refine ⟨⟨by omega, by omega⟩, rfl, ?_⟩ | refine ⟨⟨rfl, by omega, rfl, by (show _ + 1 < 4294967296); omega, rfl⟩, .inr ⟨leb rfl, ?_⟩⟩ | refine ⟨_, find_C _ _, ?_⟩ | refine ⟨_, put_C _ _ _, ?_⟩ | refine ⟨_, _, _, true, fun _ H hR => ⟨H, rfl, hR⟩, k65 rfl h1 (decide_eq_true hv), rfl, ?_⟩ | refine ⟨_, _, _, false, fun _ H hR => ⟨H, rfl, hR⟩, k65 rfl h1 (decide_eq_true hv), rfl, ?_⟩ | fail)
    · simp only [List.length_map] at hc
      exact no (fun e => hc (by rw [e])) _
    simp only [List.length_map] at hc
    have hl : x.rel.length = y.rel.length := by omega
    refine aLoop_up (fun k env A => A = [(l2, some (.cells (modC x) 0 0 false false)), (l3, some (.cells (modC y) 0 0 false false))] ∧ x.rel.take k = y.rel.take k ∧ IEnv (fun g => (g 0 :: g 1 :: .ptr l2 0 0 :: .ptr l3 0 0 :: g 4 :: .int .i64 (k : Int) :: g 6 :: g 7 :: g 8 :: g 9 :: g 10 :: g 11 :: g 12 :: g 13 :: g 14 :: g 15 :: g 16 :: g 17 :: g 18 :: g 19 :: g 20 :: g 21 :: g 22 :: g 23 :: g 24 :: g 25 :: g 26 :: g 27 :: g 28 :: g 29 :: g 30 :: g 31 :: g 32 :: g 33 :: g 34 :: g 35 :: g 36 :: g 37 :: g 38 :: g 39 :: g 40 :: g 41 :: g 42 :: g 43 :: g 44 :: g 45 :: g 46 :: [])) env) x.rel.length (.refl _) ⟨rfl, rfl, .mk rfl⟩ hn ?_
    rintro k env A hk ⟨rfl, hI, ⟨g, rfl⟩⟩
    repeat' ((conv => whnf); first | refine ⟨rfl, fun hc => ?_, fun hc => ?_⟩ | refine ⟨fun hc => ?_, fun hc => ?_⟩ | refine ⟨rfl, _, w64 (by omega) (by omega), ?_⟩ | refine ⟨_, w64 (by omega) (by omega), ?_⟩ | refine ⟨_, wU (by omega) (by omega), ?_⟩ | refine ⟨rfl, rfl, ?_⟩ | refine And.intro (show (0 : Int) ≤ _ by omega) ?_ | refine ldI (by repeat first | exact .hd | apply In.tl) ?_ | refine stI (by repeat first | exact .hd | apply In.tl) ?_ | refine slI (by repeat first | exact .hd | apply In.tl) ?_ | refine apI (by repeat first | exact .hd | apply In.tl) ?_ | refine mpI (by repeat first | exact .hd | apply In.tl) ?_ | refine ⟨⟨rfl, leb rfl, rfl⟩, ?_⟩ | refine ⟨⟨rfl, leb rfl⟩, ?_⟩ | refine ⟨⟨by decide, by decide⟩, ?_⟩ | refine ⟨rfl, ?_⟩ | refine ⟨leb rfl, ?_⟩ | refine ⟨by decide, ?_⟩ | refine .inr ⟨⟨leb rfl, leb rfl, rfl, rfl⟩, ?_⟩ | refine ⟨⟨by omega, by first | omega | exact ltm (by omega)⟩, lenm (by intro _; rfl), ?_⟩ | refine ⟨_, getm (by omega) (by first | omega | exact ltm_inv (by omega)), ?_⟩ | refine ⟨⟨by omega, by omega⟩, rfl, ?_⟩ | refine ⟨⟨rfl, by omega, rfl, by (show _ + 1 < 4294967296); omega, rfl⟩, .inr ⟨leb rfl, ?_⟩⟩ | refine ⟨_, find_C _ _, ?_⟩ | refine ⟨_, put_C _ _ _, ?_⟩ | fail)
    · have h4 := ltm_inv hc
      have hk' : k < x.rel.length := by omega
      intro b hb
      repeat' ((conv => whnf); first | refine ⟨rfl, fun hc => ?_, fun hc => ?_⟩ | refine ⟨fun hc => ?_, fun hc => ?_⟩ | refine ⟨rfl, _, w64 (by omega) (by omega), ?_⟩ | refine ⟨_, w64 (by omega) (by omega), ?_⟩ | refine ⟨_, wU (by omega) (by omega), ?_⟩ | refine ⟨rfl, rfl, ?_⟩ | refine And.intro (show (0 : Int) ≤ _ by omega) ?_ | refine ldI (by repeat first | exact .hd | apply In.tl) ?_ | refine stI (by repeat first | exact .hd | apply In.tl) ?_ | refine slI (by repeat first | exact .hd | apply In.tl) ?_ | refine apI (by repeat first | exact .hd | apply In.tl) ?_ | refine mpI (by repeat first | exact .hd | apply In.tl) ?_ | refine ⟨⟨rfl, leb rfl, rfl⟩, ?_⟩ | refine ⟨⟨rfl, leb rfl⟩, ?_⟩ | refine ⟨⟨by decide, by decide⟩, ?_⟩ | refine ⟨rfl, ?_⟩ | refine ⟨leb rfl, ?_⟩ | refine ⟨by decide, ?_⟩ | refine .inr ⟨⟨leb rfl, leb rfl, rfl, rfl⟩, ?_⟩ | refine ⟨⟨by omega, by first | omega | exact ltm (by omega)⟩, lenm (by intro _; rfl), ?_⟩ | refine ⟨_, getm (by omega) (by first | omega | exact ltm_inv (by omega)), ?_⟩ | refine ⟨⟨by omega, by omega⟩, rfl, ?_⟩ | refine ⟨⟨rfl, by omega, rfl, by (show _ + 1 < 4294967296); omega, rfl⟩, .inr ⟨leb rfl, ?_⟩⟩ | refine ⟨_, find_C _ _, ?_⟩ | refine ⟨_, put_C _ _ _, ?_⟩ | fail)
      by_cases hr : nthD x.rel k = nthD y.rel k
      · repeat' ((conv => whnf); first | refine ⟨rfl, fun hc => ?_, fun hc => ?_⟩ | refine ⟨fun hc => ?_, fun hc => ?_⟩ | refine ⟨rfl, _, w64 (by omega) (by omega), ?_⟩ | refine ⟨_, w64 (by omega) (by omega), ?_⟩ | refine ⟨_, wU (by omega) (by omega), ?_⟩ | refine ⟨rfl, rfl, ?_⟩ | refine And.intro (show (0 : Int) ≤ _ by omega) ?_ | refine ldI (by repeat first | exact .hd | apply In.tl) ?_ | refine stI (by repeat first | exact .hd | apply In.tl) ?_ | refine slI (by repeat first | exact .hd | apply In.tl) ?_ | refine apI (by repeat first | exact .hd | apply In.tl) ?_ | refine mpI (by repeat first | exact .hd | apply In.tl) ?_ | refine ⟨⟨rfl, leb rfl, rfl⟩, ?_⟩ | refine ⟨⟨rfl, leb rfl⟩, ?_⟩ | refine ⟨⟨by decide, by decide⟩, ?_⟩ | refine ⟨rfl, ?_⟩ | refine ⟨leb rfl, ?_⟩ | refine ⟨by decide, ?_⟩ | refine .inr ⟨⟨leb rfl, leb rfl, rfl, rfl⟩, ?_⟩ | refine ⟨⟨by omega, by first | omega | exact ltm (by omega)⟩, lenm (by intro _; rfl), ?_⟩ | refine ⟨_, getm (by omega) (by first | omega | exact ltm_inv (by omega)), ?_⟩ | refine ⟨⟨by omega, by omega⟩, rfl, ?_⟩ | refine ⟨⟨rfl, by omega, rfl, by (show _ + 1 < 4294967296); omega, rfl⟩, .inr ⟨leb rfl, ?_⟩⟩ | refine ⟨_, find_C _ _, ?_⟩ | refine ⟨_, put_C _ _ _, ?_⟩ | refine ⟨_, _, _, true, fun _ H hR => ⟨H, rfl, hR⟩, k65 rfl (h3 _ (nthD_mem (by omega) h4)) (decide_eq_true hr), rfl, ?_⟩ | refine ⟨_, _, _, false, fun _ H hR => ⟨H, rfl, hR⟩, k65 rfl (h3 _ (nthD_mem (by omega) h4)) (decide_eq_true hr), rfl, ?_⟩ | fail)
        rw [nthD_nat hk', nthD_nat (by omega)] at hr
        exact ⟨_, hk', Sub.take 2, rfl, take_same hI hk' (by omega) hr, .mk rfl⟩
      · repeat' ((conv => whnf); first | refine ⟨rfl, fun hc => ?_, fun hc => ?_⟩ | refine ⟨fun hc => ?_, fun hc => ?_⟩ | refine ⟨rfl, _, w64 (by omega) (by omega), ?_⟩ | refine ⟨_, w64 (by omega) (by omega), ?_⟩ | refine ⟨_, wU (by omega) (by omega), ?_⟩ | refine ⟨rfl, rfl, ?_⟩ | refine And.intro (show (0 : Int) ≤ _ by omega) ?_ | refine ldI (by repeat first | exact .hd | apply In.tl) ?_ | refine stI (by repeat first | exact .hd | apply In.tl) ?_ | refine slI (by repeat first | exact .hd | apply In.tl) ?_ | refine apI (by repeat first | exact .hd | apply In.tl) ?_ | refine mpI (by repeat first | exact .hd | apply In.tl) ?_ | refine ⟨⟨rfl, leb rfl, rfl⟩, ?_⟩ | refine ⟨⟨rfl, leb rfl⟩, ?_⟩ | refine ⟨⟨by decide, by decide⟩, ?_⟩ | refine ⟨rfl, ?_⟩ | refine ⟨leb rfl, ?_⟩ | refine ⟨by decide, ?_⟩ | refine .inr ⟨⟨leb rfl, leb rfl, rfl, rfl⟩, ?_⟩ | refine ⟨⟨by omega, by first | omega | exact ltm (by omega)⟩, lenm (by intro _; rfl), ?_⟩ | refine ⟨_, getm (by omega) (by first | omega | exact ltm_inv (by omega)), ?_⟩ | refine ⟨⟨by omega, by omega⟩, rfl, ?_⟩ | refine ⟨⟨rfl, by omega, rfl, by (show _ + 1 < 4294967296); omega, rfl⟩, .inr ⟨leb rfl, ?_⟩⟩ | refine ⟨_, find_C _ _, ?_⟩ | refine ⟨_, put_C _ _ _, ?_⟩ | refine ⟨_, _, _, true, fun _ H hR => ⟨H, rfl, hR⟩, k65 rfl (h3 _ (nthD_mem (by omega) h4)) (decide_eq_false hr), rfl, ?_⟩ | refine ⟨_, _, _, false, fun _ H hR => ⟨H, rfl, hR⟩, k65 rfl (h3 _ (nthD_mem (by omega) h4)) (decide_eq_false hr), rfl, ?_⟩ | fail)
        exact no (fun e => hr (by rw [e])) _
    · have h4 := ltm_not hc
      obtain rfl : k = x.rel.length := by omega
      have hxy : x = y := by
        obtain ⟨a, b, c⟩ := x
        obtain ⟨a', b', c'⟩ := y
        simp only at c1 hv hI hl
        rw [ModD.mk.injEq]
        exact ⟨Decidable.not_not.1 c1, hv, same_of_take hl hI⟩
      have := hK [(l2, some (.cells (modC x) 0 0 false false)), (l3, some (.cells (modC y) 0 0 false false))]
      rw [decide_eq_true hxy] at this
      exact this
  · repeat' ((conv => whnf); first | refine ⟨rfl, fun hc => ?_, fun hc => ?_⟩ | refine ⟨fun hc => ?_, fun hc => ?_⟩ | refine ⟨rfl, _, w64 (by omega) (by omega), ?_⟩ | refine ⟨_, w64 (by omega) (by omega), ?_⟩ | refine ⟨_, wU (by omega) (by omega), ?_⟩ | refine ⟨rfl, rfl, ?_⟩ | refine And.intro (show (0 : Int) ≤ _ by omega) ?_ | refine ldI (by repeat first | exact .hd | apply In.tl) ?_ | refine stI (by repeat first | exact .hd | apply In.tl) ?_ | refine slI (by repeat first | exact .hd | apply In.tl) ?_ | refine apI (by repeat first | exact .hd | apply In.tl) ?_ | refine mpI (by repeat first | exact .hd | apply In.tl) ?_ | refine ⟨⟨rfl, leb rfl, rfl⟩, ?_⟩ | refine ⟨⟨rfl, leb rfl⟩, ?_⟩ | refine ⟨⟨by decide, by decide⟩, ?_⟩ | refine ⟨rfl, ?_⟩ | refine ⟨leb rfl, ?_⟩ | refine ⟨by decide, ?_⟩ | refine .inr ⟨⟨leb rfl, leb rfl, rfl, rfl⟩, ?_⟩ | refine ⟨⟨by omega, by first | omega | exact ltm (by omega)⟩, lenm (by intro _; rfl), ?_⟩ | refine ⟨_, getm (by omega) (by first | omega | exact ltm_inv (by omega)), ?_⟩ | refine ⟨⟨by omega, by omega⟩, rfl, ?_⟩ | refine ⟨⟨rfl, by omega, rfl, by (show _ + 1 < 4294967296); omega, rfl⟩, .inr ⟨leb rfl, ?_⟩⟩ | refine ⟨_, find_C _ _, ?_⟩ | refine ⟨_, put_C _ _ _, ?_⟩ | refine ⟨_, _, _, true, fun _ H hR => ⟨H, rfl, hR⟩, k65 rfl h1 (decide_eq_false hv), rfl, ?_⟩ | refine ⟨_, _, _, false, fun _ H hR => ⟨H, rfl, hR⟩, k65 rfl h1 (decide_eq_false hv), rfl, ?_⟩ | fail)
    exact no (fun e => hv (by rw [e])) _
theorem c24 : IsoOk Try.prog 24 g24 := iso_con mixed ok5 Try.func24 cir24 fun x hx => ⟨_, _, rfl, run24 hx (Nat.lt_succ_self _) fun A => fin1 rfl⟩
theorem k24 {T : Tab} (hT : Go.Ai.look T 24 = some ⟨.iso, g24⟩) {x y : ModD} (h : ok24 (x, y)) {b : Bool} (hb : decide (x = y) = b) : (hands T).iso 24 [.agg (modC x), .agg (modC y)] = some [.bool b] := hat hT (con_at (x := (x, y)) h rfl (by rw [hb]))
end Go.Proofs.Ytlgbbabijifflaa.mdl
set_option linter.unusedVariables false
set_option linter.unusedSimpArgs false
namespace Go.Proofs.Ytlgbbabijifflaa.runs
open Go Go.Ai Go.Proofs.Ytlgbbabijifflaa.L1R
theorem wrap64 {n : Int} (h1 : -9223372036854775808 ≤ n) (h2 : n ≤ 9223372036854775807) : wrapI .i64 n = n := by
  simp only [wrapI, topN, modN]
  omega
abbrev I64 (n : Int) : Prop := -9223372036854775808 ≤ n ∧ n ≤ 9223372036854775807
theorem mixed : Try.prog.follows .mixedOrders = true := by kernel_rfl
structure RunD where
  loc : List (List Int)
  fac : List Int
structure SysD where
  ag : Int
  fa : Int
  len : Int
  runs : List RunD
def intsC (l : List Int) : List (List AV) := l.map fun x => [.int .i64 x]
def locsC (ls : List (List Int)) : List (List AV) := ls.map fun l => [.list (intsC l)]
def facsC (fs : List Int) : List (List AV) := fs.map fun x => [.int .u64 x]
def runC (r : RunD) : List AV := [.list (locsC r.loc), .list (facsC r.fac)]
def sysC (s : SysD) : List AV := [.int .i64 s.ag, .int .i64 s.fa, .int .i64 s.len, .list (s.runs.map runC)]
def dAll {α : Type} (d : List AV → Option α) : List (List AV) → Option (List α)
  | [] => some []
  | e :: es => (d e).bind fun x => (dAll d es).map fun xs => x :: xs
theorem dAll_map {α : Type} {d : List AV → Option α} {c : α → List AV} (h : ∀ x, d (c x) = some x) : ∀ (xs : List α), dAll d (xs.map c) = some xs
  | [] => rfl
  | x :: xs => by simp [dAll, h, dAll_map h xs]
def dInt : List AV → Option Int
  | [.int .i64 x] => some x
  | _ => none
def dLoc : List AV → Option (List Int)
  | [.list es] => dAll dInt es
  | _ => none
def dFac : List AV → Option Int
  | [.int .u64 x] => some x
  | _ => none
def dRun : List AV → Option RunD
  | [.list a, .list b] => (dAll dLoc a).bind fun a => (dAll dFac b).map fun b => ⟨a, b⟩
  | _ => none
def dSys : List AV → Option SysD
  | [.int .i64 a, .int .i64 f, .int .i64 l, .list rs] => (dAll dRun rs).map fun rs => ⟨a, f, l, rs⟩
  | _ => none
theorem dInts (l : List Int) : dAll dInt (intsC l) = some l := dAll_map (c := fun x => [AV.int .i64 x]) (fun _ => rfl) l
theorem dLocs (l : List (List Int)) : dAll dLoc (locsC l) = some l := dAll_map (c := fun l => [AV.list (intsC l)]) (fun l => dInts l) l
theorem dFacs (l : List Int) : dAll dFac (facsC l) = some l := dAll_map (c := fun x => [AV.int .u64 x]) (fun _ => rfl) l
theorem dRuns (l : List RunD) : dAll dRun (l.map runC) = some l := dAll_map (fun r => by simp [dRun, runC, dLocs, dFacs]) l
theorem dSys_C (s : SysD) : dSys (sysC s) = some s := by simp [dSys, sysC, dRuns]
abbrev U64 (n : Int) : Prop := 0 ≤ n ∧ n ≤ 18446744073709551615
def RunD.Ok (r : RunD) : Prop := (∀ l ∈ r.loc, ∀ x ∈ l, I64 x) ∧ ∀ f ∈ r.fac, U64 f
def SysD.Ok (s : SysD) : Prop := I64 s.ag ∧ I64 s.fa ∧ I64 s.len ∧ ∀ r ∈ s.runs, r.Ok
def firstS (p : List AV → Bool) : List (List AV) → Nat → Int
  | [], _ => -1
  | e :: es, i => if p e then i else firstS p es (i + 1)
theorem first_any (p : List AV → Bool) : ∀ (es : List (List AV)) (i : Nat), (firstS p es i ≥ 0) ↔ es.any p = true
  | [], i => by simp [firstS]
  | e :: es, i => by
    simp only [firstS, List.any_cons, Bool.or_eq_true]
    split
    · rename_i h; simp [h]
    · rename_i h; rw [first_any p es (i + 1)]; simp [h]
theorem first_bound (p : List AV → Bool) : ∀ (es : List (List AV)) (i : Nat), -1 ≤ firstS p es i ∧ firstS p es i ≤ i + es.length
  | [], i => by simp [firstS]
  | e :: es, i => by
    have := first_bound p es (i + 1)
    simp only [firstS, List.length_cons]
    split <;> omega
def lenNe (ag : Int) : List AV → Bool
  | [.list l] => decide (¬ (l.length : Int) = ag)
  | _ => false
def isL : List AV → Bool
  | [.list _] => true
  | _ => false
def high (fa : Int) : List AV → Bool
  | [.int .u64 f] => decide (¬ f / 2 ^ fa.toNat = 0)
  | _ => false
def isU : List AV → Bool
  | [.int .u64 f] => decide (U64 f)
  | _ => false
def g53 (args : List AV) : Option (List AV) := match args with
  | [.list l, .fptr [.int .i64 ag :: _] 0 0] => some [.bool (lenNe ag [.list l])]
  | _ => none
def g55 (args : List AV) : Option (List AV) := match args with
  | [.int .u64 f, .fptr [_ :: .int .i64 fa :: _] 0 0] => if U64 f ∧ 0 ≤ fa ∧ fa ≤ 63 then some [.bool (high fa [.int .u64 f])] else none
  | _ => none
def g93 (args : List AV) : Option (List AV) := match args with
  | [.list es, .func 53 [.fptr [.int .i64 ag :: r] 0 0]] => if es.all isL && es.length < most then some [.int .i64 (firstS (lenNe ag) es 0)] else none
  | _ => none
def g52 (args : List AV) : Option (List AV) := match args with
  | [.list es, .func 53 [.fptr [.int .i64 ag :: r] 0 0]] => if es.all isL && es.length < most then some [.bool (es.any (lenNe ag))] else none
  | _ => none
def g94 (args : List AV) : Option (List AV) := match args with
  | [.list es, .func 55 [.fptr [x :: .int .i64 fa :: r] 0 0]] => if es.all isU && es.length < most && decide (0 ≤ fa ∧ fa ≤ 63) then some [.int .i64 (firstS (high fa) es 0)] else none
  | _ => none
def g54 (args : List AV) : Option (List AV) := match args with
  | [.list es, .func 55 [.fptr [x :: .int .i64 fa :: r] 0 0]] => if es.all isU && es.length < most && decide (0 ≤ fa ∧ fa ≤ 63) then some [.bool (es.any (high fa))] else none
  | _ => none
set_option maxRecDepth 100000 in
theorem run53 {hd : Hands} {n : Nat} {l : List (List AV)} {ag : Int} {r : List AV} {K : List AV → Ah → Prop} (hK : ∀ x A, x = lenNe ag [.list l] → K [.bool x] A) : aB hd n ir53 (.list l :: .fptr [.int .i64 ag :: r] 0 0 :: .undef :: .undef :: .undef :: .undef :: .undef :: .undef :: .undef :: []) [] K := by
  repeat' ((conv => whnf); first | refine ⟨rfl, fun hc => ?_, fun hc => ?_⟩ | refine ⟨fun hc => ?_, fun hc => ?_⟩ | refine ⟨rfl, _, wrap64 (by omega) (by omega), ?_⟩ | refine ⟨_, wrap64 (by omega) (by omega), ?_⟩ | refine ⟨_, wrapU (by omega) (by omega), ?_⟩ | refine ⟨rfl, rfl, ?_⟩ | refine ⟨_, _, _, _, _, gi (by repeat first | exact .hd | apply In.tl), ?_⟩ | refine ⟨_, _, _, _, gi (by repeat first | exact .hd | apply In.tl), ⟨rfl, by exact leb rfl, by exact rfl⟩, ?_⟩ | refine ⟨_, gi (by repeat first | exact .hd | apply In.tl), ?_⟩ | refine ⟨⟨rfl, leb rfl⟩, ?_⟩ | refine ⟨⟨by decide, by decide⟩, ?_⟩ | refine ⟨rfl, ?_⟩ | refine ⟨leb rfl, ?_⟩ | refine ⟨by decide, ?_⟩ | refine .inr ⟨⟨leb rfl, leb rfl, rfl, rfl⟩, ?_⟩ | (intro l hl) | fail)
  refine ⟨_, rfl, ?_⟩
  repeat' ((conv => whnf); first | refine ⟨rfl, fun hc => ?_, fun hc => ?_⟩ | refine ⟨fun hc => ?_, fun hc => ?_⟩ | refine ⟨rfl, _, wrap64 (by omega) (by omega), ?_⟩ | refine ⟨_, wrap64 (by omega) (by omega), ?_⟩ | refine ⟨_, wrapU (by omega) (by omega), ?_⟩ | refine ⟨rfl, rfl, ?_⟩ | refine ⟨_, _, _, _, _, gi (by repeat first | exact .hd | apply In.tl), ?_⟩ | refine ⟨_, _, _, _, gi (by repeat first | exact .hd | apply In.tl), ⟨rfl, by exact leb rfl, by exact rfl⟩, ?_⟩ | refine ⟨_, gi (by repeat first | exact .hd | apply In.tl), ?_⟩ | refine ⟨⟨rfl, leb rfl⟩, ?_⟩ | refine ⟨⟨by decide, by decide⟩, ?_⟩ | refine ⟨rfl, ?_⟩ | refine ⟨leb rfl, ?_⟩ | refine ⟨by decide, ?_⟩ | refine .inr ⟨⟨leb rfl, leb rfl, rfl, rfl⟩, ?_⟩ | (intro l hl) | fail)
  · exact hK _ _ (by simp only [lenNe]; exact (decide_eq_true hc).symm)
  · exact hK _ _ (by simp only [lenNe]; exact (decide_eq_false hc).symm)
theorem shrU {x : Int} (h : 0 ≤ x) {n : Int} (h1 : 0 ≤ n) (h2 : n ≤ 63) : shrI x (min n.toNat IntKind.u64.bits) = x / 2 ^ n.toNat := by
  rw [shr_eq h]
  congr 2
  simp only [IntKind.bits]
  omega
set_option maxRecDepth 100000 in
theorem run55 {hd : Hands} {n : Nat} {f fa : Int} {x : AV} {r : List AV} (hf : U64 f) (h1 : 0 ≤ fa) (h2 : fa ≤ 63) {K : List AV → Ah → Prop} (hK : ∀ x A, x = high fa [.int .u64 f] → K [.bool x] A) : aB hd n ir55 (.int .u64 f :: .fptr [x :: .int .i64 fa :: r] 0 0 :: .undef :: .undef :: .undef :: .undef :: .undef :: .undef :: .undef :: []) [] K := by
  repeat' ((conv => whnf); first | refine ⟨rfl, fun hc => ?_, fun hc => ?_⟩ | refine ⟨fun hc => ?_, fun hc => ?_⟩ | refine ⟨rfl, _, wrap64 (by omega) (by omega), ?_⟩ | refine ⟨_, wrap64 (by omega) (by omega), ?_⟩ | refine ⟨_, wrapU (by omega) (by omega), ?_⟩ | refine ⟨rfl, rfl, ?_⟩ | refine ⟨_, _, _, _, _, gi (by repeat first | exact .hd | apply In.tl), ?_⟩ | refine ⟨_, _, _, _, gi (by repeat first | exact .hd | apply In.tl), ⟨rfl, by exact leb rfl, by exact rfl⟩, ?_⟩ | refine ⟨_, gi (by repeat first | exact .hd | apply In.tl), ?_⟩ | refine ⟨⟨rfl, leb rfl⟩, ?_⟩ | refine ⟨⟨by decide, by decide⟩, ?_⟩ | refine ⟨rfl, ?_⟩ | refine ⟨leb rfl, ?_⟩ | refine ⟨by decide, ?_⟩ | refine .inr ⟨⟨leb rfl, leb rfl, rfl, rfl⟩, ?_⟩ | (intro l hl) | fail)
  refine ⟨_, rfl, ?_⟩
  refine ⟨h1, _, shrU hf.1 h1 h2, ?_⟩
  repeat' ((conv => whnf); first | refine ⟨rfl, fun hc => ?_, fun hc => ?_⟩ | refine ⟨fun hc => ?_, fun hc => ?_⟩ | refine ⟨rfl, _, wrap64 (by omega) (by omega), ?_⟩ | refine ⟨_, wrap64 (by omega) (by omega), ?_⟩ | refine ⟨_, wrapU (by omega) (by omega), ?_⟩ | refine ⟨rfl, rfl, ?_⟩ | refine ⟨_, _, _, _, _, gi (by repeat first | exact .hd | apply In.tl), ?_⟩ | refine ⟨_, _, _, _, gi (by repeat first | exact .hd | apply In.tl), ⟨rfl, by exact leb rfl, by exact rfl⟩, ?_⟩ | refine ⟨_, gi (by repeat first | exact .hd | apply In.tl), ?_⟩ | refine ⟨⟨rfl, leb rfl⟩, ?_⟩ | refine ⟨⟨by decide, by decide⟩, ?_⟩ | refine ⟨rfl, ?_⟩ | refine ⟨leb rfl, ?_⟩ | refine ⟨by decide, ?_⟩ | refine .inr ⟨⟨leb rfl, leb rfl, rfl, rfl⟩, ?_⟩ | (intro l hl) | fail)
  · exact hK _ _ (by simp only [high]; exact (decide_eq_true hc).symm)
  · exact hK _ _ (by simp only [high]; exact (decide_eq_false hc).symm)
end Go.Proofs.Ytlgbbabijifflaa.runs
set_option linter.unusedVariables false
set_option linter.unusedSimpArgs false
namespace Go.Proofs.Ytlgbbabijifflaa.runs
open Go Go.Ai Go.Proofs.Ytlgbbabijifflaa.L1R
theorem len1 {es : List (List AV)} (p : List AV → Bool) (hp : ∀ e, p e = true → e.length = 1) (h : es.all p = true) : lenIs 1 es = true := by
  cases es with
  | nil => rfl
  | cons e es =>
    simp only [List.all_cons, Bool.and_eq_true] at h
    simp [lenIs, hp e h.1]
theorem isL_len (e : List AV) (h : isL e = true) : e.length = 1 := by
  unfold isL at h; split at h <;> simp_all
theorem isU_len (e : List AV) (h : isU e = true) : e.length = 1 := by
  unfold isU at h; split at h <;> simp_all
theorem isL_get {e : List AV} (h : isL e = true) : ∃ l, e = [.list l] := by
  unfold isL at h; split at h
  · exact ⟨_, rfl⟩
  · cases h
theorem isU_get {e : List AV} (h : isU e = true) : ∃ f, e = [.int .u64 f] ∧ U64 f := by
  unfold isU at h; split at h
  · exact ⟨_, rfl, by simpa using h⟩
  · cases h
def TA : Tab := [(53, ⟨.iso, g53⟩), (55, ⟨.iso, g55⟩)]
theorem h53 {l : List (List AV)} {ag : Int} {r : List AV} {b : Bool} (h : lenNe ag [.list l] = b) : (hands TA).iso 53 [.list l, .fptr [.int .i64 ag :: r] 0 0] = some [.bool b] := by subst h; rfl
theorem h55 {f fa : Int} {x : AV} {r : List AV} {b : Bool} (hf : U64 f) (h0 : 0 ≤ fa ∧ fa ≤ 63) (h : high fa [.int .u64 f] = b) : (hands TA).iso 55 [.int .u64 f, .fptr [x :: .int .i64 fa :: r] 0 0] = some [.bool b] := by
  subst h
  show (if U64 f ∧ 0 ≤ fa ∧ fa ≤ 63 then _ else _) = _
  exact if_pos ⟨hf, h0.1, h0.2⟩
set_option maxRecDepth 100000 in
theorem run93 {n : Nat} {es : List (List AV)} {ag : Int} {r : List AV} (hes : es.all isL = true) (hl : es.length < most) {K : List AV → Ah → Prop} (hK : ∀ x A, x = firstS (lenNe ag) es 0 → K [.int .i64 x] A) : aB (hands TA) (n + es.length + 1) ir93 (.list es :: .func 53 [.fptr [.int .i64 ag :: r] 0 0] :: .undef :: .undef :: .undef :: .undef :: .undef :: .undef :: .undef :: .undef :: .undef :: .undef :: .undef :: .undef :: .undef :: .undef :: .undef :: .undef :: .undef :: []) [] K := by
  have hl' : es.length < 4294967296 := hl
  repeat' ((conv => whnf); first | refine ⟨rfl, fun hc => ?_, fun hc => ?_⟩ | refine ⟨fun hc => ?_, fun hc => ?_⟩ | refine ⟨rfl, _, wrap64 (by omega) (by omega), ?_⟩ | refine ⟨_, wrap64 (by omega) (by omega), ?_⟩ | refine ⟨_, wrapU (by omega) (by omega), ?_⟩ | refine ⟨rfl, rfl, ?_⟩ | refine ⟨_, _, _, _, _, gi (by repeat first | exact .hd | apply In.tl), ?_⟩ | refine ⟨_, _, _, _, gi (by repeat first | exact .hd | apply In.tl), ⟨rfl, by exact leb rfl, by exact rfl⟩, ?_⟩ | refine ⟨_, gi (by repeat first | exact .hd | apply In.tl), ?_⟩ | refine ⟨⟨rfl, leb rfl⟩, ?_⟩ | refine ⟨⟨by decide, by decide⟩, ?_⟩ | refine ⟨rfl, ?_⟩ | refine ⟨leb rfl, ?_⟩ | refine ⟨by decide, ?_⟩ | refine .inr ⟨⟨leb rfl, leb rfl, rfl, rfl⟩, ?_⟩ | (intro l hl) | fail)
  refine aLoop_by (fun m env A => A = [] ∧ ∃ k : Nat, IEnv (fun g => (.list es :: .func 53 [.fptr [.int .i64 ag :: r] 0 0] :: g 2 :: g 3 :: g 4 :: g 5 :: g 6 :: .int .i64 es.length :: .int .i64 (k : Int) :: g 9 :: g 10 :: g 11 :: g 12 :: g 13 :: g 14 :: g 15 :: g 16 :: g 17 :: g 18 :: [])) env ∧ k ≤ es.length ∧ m = es.length - k ∧ firstS (lenNe ag) (es.drop k) k = firstS (lenNe ag) es 0) (m := es.length) (.refl _) ⟨rfl, 0, .mk rfl, by omega, by omega, by simp⟩ (by omega) ?_
  rintro m env A ⟨rfl, k, ⟨g, rfl⟩, hk, hm, hs⟩
  refine ⟨rfl, fun h4 => ?_, fun h4 => ?_⟩
  · have hk' : k < es.length := by omega
    have hx := List.all_eq_true.1 hes es[k] (List.getElem_mem hk')
    obtain ⟨l, he⟩ := isL_get hx
    rw [List.drop_eq_getElem_cons hk', firstS] at hs
    refine ⟨⟨by omega, by omega⟩, len1 isL isL_len hes, es[k], by simp [hk'], ?_⟩
    rw [he] at hs ⊢
    rcases Bool.eq_false_or_eq_true ((lenNe ag) [.list l]) with hb | hb
    · rw [if_pos hb] at hs
      repeat' ((conv => whnf); first | refine ⟨rfl, fun hc => ?_, fun hc => ?_⟩ | refine ⟨fun hc => ?_, fun hc => ?_⟩ | refine ⟨rfl, _, wrap64 (by omega) (by omega), ?_⟩ | refine ⟨_, wrap64 (by omega) (by omega), ?_⟩ | refine ⟨_, wrapU (by omega) (by omega), ?_⟩ | refine ⟨rfl, rfl, ?_⟩ | refine ⟨_, _, _, _, _, gi (by repeat first | exact .hd | apply In.tl), ?_⟩ | refine ⟨_, _, _, _, gi (by repeat first | exact .hd | apply In.tl), ⟨rfl, by exact leb rfl, by exact rfl⟩, ?_⟩ | refine ⟨_, gi (by repeat first | exact .hd | apply In.tl), ?_⟩ | refine ⟨⟨rfl, leb rfl⟩, ?_⟩ | refine ⟨⟨by decide, by decide⟩, ?_⟩ | refine ⟨rfl, ?_⟩ | refine ⟨leb rfl, ?_⟩ | refine ⟨by decide, ?_⟩ | refine .inr ⟨⟨leb rfl, leb rfl, rfl, rfl⟩, ?_⟩ | (intro l hl) | refine ⟨_, _, _, true, fun _ H hR => ⟨H, rfl, hR⟩, h53 hb, rfl, ?_⟩ | refine ⟨_, _, _, false, fun _ H hR => ⟨H, rfl, hR⟩, h53 hb, rfl, ?_⟩ | fail)
      exact hK _ _ hs
    · rw [if_neg (by rw [hb]; simp)] at hs
      repeat' ((conv => whnf); first | refine ⟨rfl, fun hc => ?_, fun hc => ?_⟩ | refine ⟨fun hc => ?_, fun hc => ?_⟩ | refine ⟨rfl, _, wrap64 (by omega) (by omega), ?_⟩ | refine ⟨_, wrap64 (by omega) (by omega), ?_⟩ | refine ⟨_, wrapU (by omega) (by omega), ?_⟩ | refine ⟨rfl, rfl, ?_⟩ | refine ⟨_, _, _, _, _, gi (by repeat first | exact .hd | apply In.tl), ?_⟩ | refine ⟨_, _, _, _, gi (by repeat first | exact .hd | apply In.tl), ⟨rfl, by exact leb rfl, by exact rfl⟩, ?_⟩ | refine ⟨_, gi (by repeat first | exact .hd | apply In.tl), ?_⟩ | refine ⟨⟨rfl, leb rfl⟩, ?_⟩ | refine ⟨⟨by decide, by decide⟩, ?_⟩ | refine ⟨rfl, ?_⟩ | refine ⟨leb rfl, ?_⟩ | refine ⟨by decide, ?_⟩ | refine .inr ⟨⟨leb rfl, leb rfl, rfl, rfl⟩, ?_⟩ | (intro l hl) | refine ⟨_, _, _, true, fun _ H hR => ⟨H, rfl, hR⟩, h53 hb, rfl, ?_⟩ | refine ⟨_, _, _, false, fun _ H hR => ⟨H, rfl, hR⟩, h53 hb, rfl, ?_⟩ | fail)
      exact ⟨es.length - (k + 1), _, by omega, .refl _, rfl, k + 1, .mk rfl, by omega, rfl, hs⟩
  · obtain rfl : k = es.length := by omega
    simp only [List.drop_length, firstS] at hs
    exact hK _ _ hs
set_option maxRecDepth 100000 in
theorem run94 {n : Nat} {es : List (List AV)} {fa : Int} {x : AV} {r : List AV} (hes : es.all isU = true) (hl : es.length < most) (hfa : 0 ≤ fa ∧ fa ≤ 63) {K : List AV → Ah → Prop} (hK : ∀ x A, x = firstS (high fa) es 0 → K [.int .i64 x] A) : aB (hands TA) (n + es.length + 1) ir94 (.list es :: .func 55 [.fptr [x :: .int .i64 fa :: r] 0 0] :: .undef :: .undef :: .undef :: .undef :: .undef :: .undef :: .undef :: .undef :: .undef :: .undef :: .undef :: .undef :: .undef :: .undef :: .undef :: .undef :: .undef :: []) [] K := by
  have hl' : es.length < 4294967296 := hl
  repeat' ((conv => whnf); first | refine ⟨rfl, fun hc => ?_, fun hc => ?_⟩ | refine ⟨fun hc => ?_, fun hc => ?_⟩ | refine ⟨rfl, _, wrap64 (by omega) (by omega), ?_⟩ | refine ⟨_, wrap64 (by omega) (by omega), ?_⟩ | refine ⟨_, wrapU (by omega) (by omega), ?_⟩ | refine ⟨rfl, rfl, ?_⟩ | refine ⟨_, _, _, _, _, gi (by repeat first | exact .hd | apply In.tl), ?_⟩ | refine ⟨_, _, _, _, gi (by repeat first | exact .hd | apply In.tl), ⟨rfl, by exact leb rfl, by exact rfl⟩, ?_⟩ | refine ⟨_, gi (by repeat first | exact .hd | apply In.tl), ?_⟩ | refine ⟨⟨rfl, leb rfl⟩, ?_⟩ | refine ⟨⟨by decide, by decide⟩, ?_⟩ | refine ⟨rfl, ?_⟩ | refine ⟨leb rfl, ?_⟩ | refine ⟨by decide, ?_⟩ | refine .inr ⟨⟨leb rfl, leb rfl, rfl, rfl⟩, ?_⟩ | (intro l hl) | fail)
  refine aLoop_by (fun m env A => A = [] ∧ ∃ k : Nat, IEnv (fun g => (.list es :: .func 55 [.fptr [x :: .int .i64 fa :: r] 0 0] :: g 2 :: g 3 :: g 4 :: g 5 :: g 6 :: .int .i64 es.length :: .int .i64 (k : Int) :: g 9 :: g 10 :: g 11 :: g 12 :: g 13 :: g 14 :: g 15 :: g 16 :: g 17 :: g 18 :: [])) env ∧ k ≤ es.length ∧ m = es.length - k ∧ firstS (high fa) (es.drop k) k = firstS (high fa) es 0) (m := es.length) (.refl _) ⟨rfl, 0, .mk rfl, by omega, by omega, by simp⟩ (by omega) ?_
  rintro m env A ⟨rfl, k, ⟨g, rfl⟩, hk, hm, hs⟩
  refine ⟨rfl, fun h4 => ?_, fun h4 => ?_⟩
  · have hk' : k < es.length := by omega
    have hx := List.all_eq_true.1 hes es[k] (List.getElem_mem hk')
    obtain ⟨l, he, hu⟩ := isU_get hx
    rw [List.drop_eq_getElem_cons hk', firstS] at hs
    refine ⟨⟨by omega, by omega⟩, len1 isU isU_len hes, es[k], by simp [hk'], ?_⟩
    rw [he] at hs ⊢
    rcases Bool.eq_false_or_eq_true ((high fa) [.int .u64 l]) with hb | hb
    · rw [if_pos hb] at hs
      repeat' ((conv => whnf); first | refine ⟨rfl, fun hc => ?_, fun hc => ?_⟩ | refine ⟨fun hc => ?_, fun hc => ?_⟩ | refine ⟨rfl, _, wrap64 (by omega) (by omega), ?_⟩ | refine ⟨_, wrap64 (by omega) (by omega), ?_⟩ | refine ⟨_, wrapU (by omega) (by omega), ?_⟩ | refine ⟨rfl, rfl, ?_⟩ | refine ⟨_, _, _, _, _, gi (by repeat first | exact .hd | apply In.tl), ?_⟩ | refine ⟨_, _, _, _, gi (by repeat first | exact .hd | apply In.tl), ⟨rfl, by exact leb rfl, by exact rfl⟩, ?_⟩ | refine ⟨_, gi (by repeat first | exact .hd | apply In.tl), ?_⟩ | refine ⟨⟨rfl, leb rfl⟩, ?_⟩ | refine ⟨⟨by decide, by decide⟩, ?_⟩ | refine ⟨rfl, ?_⟩ | refine ⟨leb rfl, ?_⟩ | refine ⟨by decide, ?_⟩ | refine .inr ⟨⟨leb rfl, leb rfl, rfl, rfl⟩, ?_⟩ | (intro l hl) | refine ⟨_, _, _, true, fun _ H hR => ⟨H, rfl, hR⟩, h55 hu hfa hb, rfl, ?_⟩ | refine ⟨_, _, _, false, fun _ H hR => ⟨H, rfl, hR⟩, h55 hu hfa hb, rfl, ?_⟩ | fail)
      exact hK _ _ hs
    · rw [if_neg (by rw [hb]; simp)] at hs
      repeat' ((conv => whnf); first | refine ⟨rfl, fun hc => ?_, fun hc => ?_⟩ | refine ⟨fun hc => ?_, fun hc => ?_⟩ | refine ⟨rfl, _, wrap64 (by omega) (by omega), ?_⟩ | refine ⟨_, wrap64 (by omega) (by omega), ?_⟩ | refine ⟨_, wrapU (by omega) (by omega), ?_⟩ | refine ⟨rfl, rfl, ?_⟩ | refine ⟨_, _, _, _, _, gi (by repeat first | exact .hd | apply In.tl), ?_⟩ | refine ⟨_, _, _, _, gi (by repeat first | exact .hd | apply In.tl), ⟨rfl, by exact leb rfl, by exact rfl⟩, ?_⟩ | refine ⟨_, gi (by repeat first | exact .hd | apply In.tl), ?_⟩ | refine ⟨⟨rfl, leb rfl⟩, ?_⟩ | refine ⟨⟨by decide, by decide⟩, ?_⟩ | refine ⟨rfl, ?_⟩ | refine ⟨leb rfl, ?_⟩ | refine ⟨by decide, ?_⟩ | refine .inr ⟨⟨leb rfl, leb rfl, rfl, rfl⟩, ?_⟩ | (intro l hl) | refine ⟨_, _, _, true, fun _ H hR => ⟨H, rfl, hR⟩, h55 hu hfa hb, rfl, ?_⟩ | refine ⟨_, _, _, false, fun _ H hR => ⟨H, rfl, hR⟩, h55 hu hfa hb, rfl, ?_⟩ | fail)
      exact ⟨es.length - (k + 1), _, by omega, .refl _, rfl, k + 1, .mk rfl, by omega, rfl, hs⟩
  · obtain rfl : k = es.length := by omega
    simp only [List.drop_length, firstS] at hs
    exact hK _ _ hs
end Go.Proofs.Ytlgbbabijifflaa.runs
set_option linter.unusedVariables false
set_option linter.unusedSimpArgs false
namespace Go.Proofs.Ytlgbbabijifflaa.runs
open Go Go.Ai Go.Proofs.Ytlgbbabijifflaa.L1R
def TB : Tab := [(93, ⟨.iso, g93⟩), (94, ⟨.iso, g94⟩)]
theorem h93 {es : List (List AV)} {ag : Int} {r : List AV} (h1 : es.all isL = true) (h2 : es.length < most) : (hands TB).iso 93 [.list es, .func 53 [.fptr [.int .i64 ag :: r] 0 0]] = some [.int .i64 (firstS (lenNe ag) es 0)] := by
  show (if (es.all isL && es.length < most) = true then _ else _) = _
  exact if_pos (by simp [h1, h2])
theorem h94 {es : List (List AV)} {fa : Int} {x : AV} {r : List AV} (h1 : es.all isU = true) (h2 : es.length < most) (h3 : 0 ≤ fa ∧ fa ≤ 63) : (hands TB).iso 94 [.list es, .func 55 [.fptr [x :: .int .i64 fa :: r] 0 0]] = some [.int .i64 (firstS (high fa) es 0)] := by
  show (if (es.all isU && es.length < most && decide (0 ≤ fa ∧ fa ≤ 63)) = true then _ else _) = _
  exact if_pos (by simp [h1, h2, h3])
set_option maxRecDepth 100000 in
theorem run52 {n : Nat} {es : List (List AV)} {ag : Int} {r : List AV} (h1 : es.all isL = true) (h2 : es.length < most) {K : List AV → Ah → Prop} (hK : ∀ A, K [.bool (es.any (lenNe ag))] A) : aB (hands TB) n ir52 (.list es :: .func 53 [.fptr [.int .i64 ag :: r] 0 0] :: .undef :: .undef :: .undef :: .undef :: .undef :: .undef :: .undef :: []) [] K := by
  have hf := first_any (lenNe ag) es 0
  repeat' ((conv => whnf); first | refine ⟨rfl, fun hc => ?_, fun hc => ?_⟩ | refine ⟨fun hc => ?_, fun hc => ?_⟩ | refine ⟨rfl, _, wrap64 (by omega) (by omega), ?_⟩ | refine ⟨_, wrap64 (by omega) (by omega), ?_⟩ | refine ⟨_, wrapU (by omega) (by omega), ?_⟩ | refine ⟨rfl, rfl, ?_⟩ | refine ⟨_, _, _, _, _, gi (by repeat first | exact .hd | apply In.tl), ?_⟩ | refine ⟨_, _, _, _, gi (by repeat first | exact .hd | apply In.tl), ⟨rfl, by exact leb rfl, by exact rfl⟩, ?_⟩ | refine ⟨_, gi (by repeat first | exact .hd | apply In.tl), ?_⟩ | refine ⟨⟨rfl, leb rfl⟩, ?_⟩ | refine ⟨⟨by decide, by decide⟩, ?_⟩ | refine ⟨rfl, ?_⟩ | refine ⟨leb rfl, ?_⟩ | refine ⟨by decide, ?_⟩ | refine .inr ⟨⟨leb rfl, leb rfl, rfl, rfl⟩, ?_⟩ | (intro l hl) | refine ⟨_, _, _, true, fun _ H hR => ⟨H, rfl, hR⟩, h93 h1 h2, rfl, ?_⟩ | refine ⟨_, _, _, false, fun _ H hR => ⟨H, rfl, hR⟩, h93 h1 h2, rfl, ?_⟩ | fail)
  · have := hf.1 hc
    rw [this] at hK
    exact hK _
  · have : es.any (lenNe ag) = false := by
      cases h : es.any (lenNe ag) with
      | false => rfl
      | true => exact absurd (hf.2 h) hc
    rw [this] at hK
    exact hK _
set_option maxRecDepth 100000 in
theorem run54 {n : Nat} {es : List (List AV)} {fa : Int} {x : AV} {r : List AV} (h1 : es.all isU = true) (h2 : es.length < most) (h3 : 0 ≤ fa ∧ fa ≤ 63) {K : List AV → Ah → Prop} (hK : ∀ A, K [.bool (es.any (high fa))] A) : aB (hands TB) n ir54 (.list es :: .func 55 [.fptr [x :: .int .i64 fa :: r] 0 0] :: .undef :: .undef :: .undef :: .undef :: .undef :: .undef :: .undef :: []) [] K := by
  have hf := first_any (high fa) es 0
  repeat' ((conv => whnf); first | refine ⟨rfl, fun hc => ?_, fun hc => ?_⟩ | refine ⟨fun hc => ?_, fun hc => ?_⟩ | refine ⟨rfl, _, wrap64 (by omega) (by omega), ?_⟩ | refine ⟨_, wrap64 (by omega) (by omega), ?_⟩ | refine ⟨_, wrapU (by omega) (by omega), ?_⟩ | refine ⟨rfl, rfl, ?_⟩ | refine ⟨_, _, _, _, _, gi (by repeat first | exact .hd | apply In.tl), ?_⟩ | refine ⟨_, _, _, _, gi (by repeat first | exact .hd | apply In.tl), ⟨rfl, by exact leb rfl, by exact rfl⟩, ?_⟩ | refine ⟨_, gi (by repeat first | exact .hd | apply In.tl), ?_⟩ | refine ⟨⟨rfl, leb rfl⟩, ?_⟩ | refine ⟨⟨by decide, by decide⟩, ?_⟩ | refine ⟨rfl, ?_⟩ | refine ⟨leb rfl, ?_⟩ | refine ⟨by decide, ?_⟩ | refine .inr ⟨⟨leb rfl, leb rfl, rfl, rfl⟩, ?_⟩ | (intro l hl) | refine ⟨_, _, _, true, fun _ H hR => ⟨H, rfl, hR⟩, h94 h1 h2 h3, rfl, ?_⟩ | refine ⟨_, _, _, false, fun _ H hR => ⟨H, rfl, hR⟩, h94 h1 h2 h3, rfl, ?_⟩ | fail)
  · have := hf.1 hc
    rw [this] at hK
    exact hK _
  · have : es.any (high fa) = false := by
      cases h : es.any (high fa) with
      | false => rfl
      | true => exact absurd (hf.2 h) hc
    rw [this] at hK
    exact hK _
def formB (s : SysD) (r : RunD) : Bool := decide (¬ (r.loc.length : Int) = s.len) || decide (¬ (r.fac.length : Int) = s.len) || r.loc.any fun l => decide (¬ (l.length : Int) = s.ag)
def highB (s : SysD) (r : RunD) : Bool := r.fac.any fun f => decide (¬ f / 2 ^ s.fa.toNat = 0)
def chkS (s : SysD) : Int :=
  if s.ag < 0 ∨ s.ag > 4 ∨ s.fa < 0 ∨ s.fa > 8 ∨ s.len < 1 ∨ s.len > 16 then 2 else
  if (s.runs.length : Int) > 64 ∨ (s.runs.length : Int) * s.len > 512 then 8 else
  if s.runs.length = 0 then 3 else if s.runs.any (formB s) then 3 else if s.runs.any (highB s) then 2 else 0
theorem locs_any (ag : Int) (l : List (List Int)) : (locsC l).any (lenNe ag) = l.any fun l => decide (¬ (l.length : Int) = ag) := by
  simp [locsC, List.any_map, Function.comp_def, lenNe, intsC]
theorem facs_any (fa : Int) (l : List Int) : (facsC l).any (high fa) = l.any fun f => decide (¬ f / 2 ^ fa.toNat = 0) := by
  simp [facsC, List.any_map, Function.comp_def, high]
theorem locs_all (l : List (List Int)) : (locsC l).all isL = true := by simp [locsC, isL]
theorem facs_all {l : List Int} (h : ∀ f ∈ l, U64 f) : (facsC l).all isU = true := by
  simp only [facsC, List.all_map, List.all_eq_true, Function.comp_def, isU]
  exact fun f hf => decide_eq_true (h f hf)
def TC : Tab := [(52, ⟨.iso, g52⟩), (54, ⟨.iso, g54⟩)]
theorem h52 {l : List (List Int)} {ag : Int} {r : List AV} {b : Bool} (h2 : l.length < most) (hb : (l.any fun l => decide (¬ (l.length : Int) = ag)) = b) : (hands TC).iso 52 [.list (locsC l), .func 53 [.fptr [.int .i64 ag :: r] 0 0]] = some [.bool b] := by
  rw [← hb, ← locs_any]
  show (if ((locsC l).all isL && (locsC l).length < most) = true then _ else _) = _
  exact if_pos (by simp [locs_all]; simpa [locsC] using h2)
theorem h54 {l : List Int} {fa : Int} {x : AV} {r : List AV} {b : Bool} (h1 : ∀ f ∈ l, U64 f) (h2 : l.length < most) (h3 : 0 ≤ fa ∧ fa ≤ 63) (hb : (l.any fun f => decide (¬ f / 2 ^ fa.toNat = 0)) = b) : (hands TC).iso 54 [.list (facsC l), .func 55 [.fptr [x :: .int .i64 fa :: r] 0 0]] = some [.bool b] := by
  rw [← hb, ← facs_any]
  show (if ((facsC l).all isU && (facsC l).length < most && decide (0 ≤ fa ∧ fa ≤ 63)) = true then _ else _) = _
  exact if_pos (by simp [facs_all h1, h3]; simpa [facsC] using h2)
theorem runs_len (rs : List RunD) : lenIs 2 (rs.map runC) = true := by cases rs <;> rfl
theorem runs_get {rs : List RunD} {k : Nat} (h : k < rs.length) : (rs.map runC)[((k : Nat) : Int).toNat]? = some (runC rs[k]) := by simp [h]
set_option maxRecDepth 100000 in
set_option maxHeartbeats 1000000 in
theorem run13 {n : Nat} {s : SysD} (hok : s.Ok) (hl : s.runs.length ≤ 9223372036854775807) (hlo : ∀ r ∈ s.runs, r.loc.length < most ∧ r.fac.length < most) {K : List AV → Ah → Prop} (hK : ∀ x A, x = chkS s → K [.int .i64 x] A) : aB (hands TC) (n + s.runs.length + 1) ir13 (.agg (sysC s) :: .undef :: .undef :: .undef :: .undef :: .undef :: .undef :: .undef :: .undef :: .undef :: .undef :: .undef :: .undef :: .undef :: .undef :: .undef :: .undef :: .undef :: .undef :: .undef :: .undef :: .undef :: .undef :: .undef :: .undef :: .undef :: .undef :: .undef :: .undef :: .undef :: .undef :: .undef :: .undef :: .undef :: .undef :: .undef :: .undef :: .undef :: .undef :: .undef :: .undef :: .undef :: .undef :: .undef :: .undef :: .undef :: .undef :: .undef :: .undef :: .undef :: .undef :: .undef :: .undef :: .undef :: .undef :: .undef :: .undef :: .undef :: .undef :: .undef :: .undef :: .undef :: .undef :: .undef :: .undef :: .undef :: .undef :: .undef :: .undef :: .undef :: .undef :: .undef :: .undef :: .undef :: .undef :: .undef :: .undef :: .undef :: .undef :: .undef :: .undef :: .undef :: .undef :: .undef :: .undef :: .undef :: .undef :: .undef :: .undef :: .undef :: .undef :: .undef :: []) [] K := by
  obtain ⟨⟨a1, a2⟩, ⟨f1, f2⟩, ⟨t1, t2⟩, hrs⟩ := hok
  refine ⟨rfl, ?_⟩
  intro l1 hl1
  repeat' ((conv => whnf); first | refine ⟨rfl, fun hc => ?_, fun hc => ?_⟩ | refine ⟨fun hc => ?_, fun hc => ?_⟩ | refine ⟨rfl, _, wrap64 (by omega) (by omega), ?_⟩ | refine ⟨_, wrap64 (by omega) (by omega), ?_⟩ | refine ⟨_, wrapU (by omega) (by omega), ?_⟩ | refine ⟨rfl, rfl, ?_⟩ | refine ⟨_, _, _, _, _, gi (by repeat first | exact .hd | apply In.tl), ?_⟩ | refine ⟨_, _, _, _, gi (by repeat first | exact .hd | apply In.tl), ⟨rfl, by exact leb rfl, by exact rfl⟩, ?_⟩ | refine ⟨_, gi (by repeat first | exact .hd | apply In.tl), ?_⟩ | refine ⟨⟨rfl, leb rfl⟩, ?_⟩ | refine ⟨⟨by decide, by decide⟩, ?_⟩ | refine ⟨rfl, ?_⟩ | refine ⟨leb rfl, ?_⟩ | refine ⟨by decide, ?_⟩ | refine .inr ⟨⟨leb rfl, leb rfl, rfl, rfl⟩, ?_⟩ | (intro l hl) | fail)
  · exact hK _ _ (by rw [chkS, if_pos (by omega)])
  · exact hK _ _ (by rw [chkS, if_pos (by omega)])
  · exact hK _ _ (by rw [chkS, if_pos (by omega)])
  · exact hK _ _ (by rw [chkS, if_pos (by omega)])
  · exact hK _ _ (by rw [chkS, if_pos (by omega)])
  · exact hK _ _ (by rw [chkS, if_pos (by omega)])
  · simp only [List.length_map] at hc
    exact hK _ _ (by rw [chkS, if_neg (by omega), if_pos (by omega)])
  · rename_i c0 c1 c2 c3 c4 c5
    simp only [List.length_map] at hc
    have hm1 : 0 ≤ (s.runs.length : Int) * s.len := Int.mul_nonneg (by omega) (by omega)
    have hm2 : (s.runs.length : Int) * s.len ≤ 64 * 16 := Int.mul_le_mul (by omega) (by omega) (by omega) (by omega)
    have hlm : ((s.runs.map runC).length : Int) = s.runs.length := by simp
    refine ⟨(s.runs.length : Int) * s.len, by rw [hlm]; exact wrap64 (by omega) (by omega), ?_⟩
    have hrng : ¬ (s.ag < 0 ∨ s.ag > 4 ∨ s.fa < 0 ∨ s.fa > 8 ∨ s.len < 1 ∨ s.len > 16) := by omega
    repeat' ((conv => whnf); first | refine ⟨rfl, fun hc => ?_, fun hc => ?_⟩ | refine ⟨fun hc => ?_, fun hc => ?_⟩ | refine ⟨rfl, _, wrap64 (by omega) (by omega), ?_⟩ | refine ⟨_, wrap64 (by omega) (by omega), ?_⟩ | refine ⟨_, wrapU (by omega) (by omega), ?_⟩ | refine ⟨rfl, rfl, ?_⟩ | refine ⟨_, _, _, _, _, gi (by repeat first | exact .hd | apply In.tl), ?_⟩ | refine ⟨_, _, _, _, gi (by repeat first | exact .hd | apply In.tl), ⟨rfl, by exact leb rfl, by exact rfl⟩, ?_⟩ | refine ⟨_, gi (by repeat first | exact .hd | apply In.tl), ?_⟩ | refine ⟨⟨rfl, leb rfl⟩, ?_⟩ | refine ⟨⟨by decide, by decide⟩, ?_⟩ | refine ⟨rfl, ?_⟩ | refine ⟨leb rfl, ?_⟩ | refine ⟨by decide, ?_⟩ | refine .inr ⟨⟨leb rfl, leb rfl, rfl, rfl⟩, ?_⟩ | (intro l hl) | fail)
    · exact hK _ _ (by rw [chkS, if_neg hrng, if_pos (by omega)])
    · rename_i c6
      simp only [List.length_map] at hc
      exact hK _ _ (by rw [chkS, if_neg hrng, if_neg (by omega), if_pos (by omega)])
    · rename_i c6
      simp only [List.length_map] at hc
      have hsz : ¬ ((s.runs.length : Int) > 64 ∨ (s.runs.length : Int) * s.len > 512) := by omega
      have hne : ¬ s.runs.length = 0 := by omega
      have ret3 : ∀ r ∈ s.runs, formB s r = true → ∀ A, K [.int .i64 3] A := fun r hr hf A => hK _ _ (by rw [chkS, if_neg hrng, if_neg hsz, if_neg hne, if_pos (List.any_eq_true.2 ⟨r, hr, hf⟩)])
      refine aLoop_by (fun m env A => A = [(l1, some (.cells (sysC s) 0 0 false false))] ∧ ∃ k : Nat, IEnv (fun g => (g 0 :: .ptr l1 0 0 :: .int .i64 0 :: g 3 :: g 4 :: g 5 :: g 6 :: g 7 :: g 8 :: g 9 :: g 10 :: g 11 :: g 12 :: g 13 :: g 14 :: g 15 :: g 16 :: g 17 :: g 18 :: g 19 :: g 20 :: g 21 :: g 22 :: g 23 :: g 24 :: g 25 :: g 26 :: g 27 :: g 28 :: g 29 :: g 30 :: g 31 :: g 32 :: g 33 :: g 34 :: g 35 :: g 36 :: g 37 :: g 38 :: g 39 :: g 40 :: g 41 :: g 42 :: g 43 :: g 44 :: g 45 :: g 46 :: g 47 :: g 48 :: g 49 :: g 50 :: g 51 :: g 52 :: .list (s.runs.map runC) :: .int .i64 (s.runs.map runC).length :: .int .i64 (k : Int) :: g 56 :: g 57 :: g 58 :: g 59 :: g 60 :: g 61 :: g 62 :: g 63 :: g 64 :: g 65 :: g 66 :: g 67 :: g 68 :: g 69 :: g 70 :: g 71 :: g 72 :: g 73 :: g 74 :: g 75 :: g 76 :: g 77 :: g 78 :: g 79 :: g 80 :: g 81 :: g 82 :: g 83 :: g 84 :: g 85 :: g 86 :: g 87 :: g 88 :: g 89 :: g 90 :: g 91 :: [])) env ∧ k ≤ s.runs.length ∧ m = s.runs.length - k ∧ (s.runs.take k).any (formB s) = false) (m := s.runs.length) (.refl _) ⟨rfl, 0, .mk rfl, by omega, by omega, by simp⟩ (by omega) ?_
      rintro m env A ⟨rfl, k, ⟨g, rfl⟩, hk, hm, hs⟩
      refine ⟨rfl, fun h4 => ?_, fun h4 => ?_⟩
      · simp only [List.length_map] at h4
        have hk' : k < s.runs.length := by omega
        have hmem : s.runs[k] ∈ s.runs := List.getElem_mem hk'
        have hnext : formB s s.runs[k] = false → (s.runs.take (k + 1)).any (formB s) = false := fun h => by
          rw [List.take_succ_eq_append_getElem hk', List.any_append, hs]; simp [h]
        have hl1' : ((locsC s.runs[k].loc).length : Int) = s.runs[k].loc.length := by simp [locsC]
        have hl2' : ((facsC s.runs[k].fac).length : Int) = s.runs[k].fac.length := by simp [facsC]
        refine ⟨⟨by omega, by simp; omega⟩, runs_len _, _, runs_get hk', ?_⟩
        intro l4 hl4
        rcases Bool.eq_false_or_eq_true (s.runs[k].loc.any fun l => decide (¬ (l.length : Int) = s.ag)) with hb | hb
        · repeat' ((conv => whnf); first | refine ⟨rfl, fun hc => ?_, fun hc => ?_⟩ | refine ⟨fun hc => ?_, fun hc => ?_⟩ | refine ⟨rfl, _, wrap64 (by omega) (by omega), ?_⟩ | refine ⟨_, wrap64 (by omega) (by omega), ?_⟩ | refine ⟨_, wrapU (by omega) (by omega), ?_⟩ | refine ⟨rfl, rfl, ?_⟩ | refine ⟨_, _, _, _, _, gi (by repeat first | exact .hd | apply In.tl), ?_⟩ | refine ⟨_, _, _, _, gi (by repeat first | exact .hd | apply In.tl), ⟨rfl, by exact leb rfl, by exact rfl⟩, ?_⟩ | refine ⟨_, gi (by repeat first | exact .hd | apply In.tl), ?_⟩ | refine ⟨⟨rfl, leb rfl⟩, ?_⟩ | refine ⟨⟨by decide, by decide⟩, ?_⟩ | refine ⟨rfl, ?_⟩ | refine ⟨leb rfl, ?_⟩ | refine ⟨by decide, ?_⟩ | refine .inr ⟨⟨leb rfl, leb rfl, rfl, rfl⟩, ?_⟩ | fail)
          · rw [hl1'] at hc
            exact ret3 _ hmem (by simp only [formB, decide_eq_true hc, Bool.true_or]) _
          · rw [hl2'] at hc
            exact ret3 _ hmem (by simp only [formB, decide_eq_true hc, Bool.true_or, Bool.or_true]) _
          · refine ⟨_, _, _, true, FrzL.frz (.cons (.self (d := 11) rfl) (.cons (.func (d := 11) (.cons (.ptr (i := 0) (d := 9) rfl rfl) .nil)) .nil)), h52 (hlo _ hmem).1 hb, rfl, ?_⟩
            repeat' ((conv => whnf); first | refine ⟨rfl, fun hc => ?_, fun hc => ?_⟩ | refine ⟨fun hc => ?_, fun hc => ?_⟩ | refine ⟨rfl, _, wrap64 (by omega) (by omega), ?_⟩ | refine ⟨_, wrap64 (by omega) (by omega), ?_⟩ | refine ⟨_, wrapU (by omega) (by omega), ?_⟩ | refine ⟨rfl, rfl, ?_⟩ | refine ⟨_, _, _, _, _, gi (by repeat first | exact .hd | apply In.tl), ?_⟩ | refine ⟨_, _, _, _, gi (by repeat first | exact .hd | apply In.tl), ⟨rfl, by exact leb rfl, by exact rfl⟩, ?_⟩ | refine ⟨_, gi (by repeat first | exact .hd | apply In.tl), ?_⟩ | refine ⟨⟨rfl, leb rfl⟩, ?_⟩ | refine ⟨⟨by decide, by decide⟩, ?_⟩ | refine ⟨rfl, ?_⟩ | refine ⟨leb rfl, ?_⟩ | refine ⟨by decide, ?_⟩ | refine .inr ⟨⟨leb rfl, leb rfl, rfl, rfl⟩, ?_⟩ | fail)
            exact ret3 _ hmem (by simp only [formB, hb, Bool.or_true]) _
        · repeat' ((conv => whnf); first | refine ⟨rfl, fun hc => ?_, fun hc => ?_⟩ | refine ⟨fun hc => ?_, fun hc => ?_⟩ | refine ⟨rfl, _, wrap64 (by omega) (by omega), ?_⟩ | refine ⟨_, wrap64 (by omega) (by omega), ?_⟩ | refine ⟨_, wrapU (by omega) (by omega), ?_⟩ | refine ⟨rfl, rfl, ?_⟩ | refine ⟨_, _, _, _, _, gi (by repeat first | exact .hd | apply In.tl), ?_⟩ | refine ⟨_, _, _, _, gi (by repeat first | exact .hd | apply In.tl), ⟨rfl, by exact leb rfl, by exact rfl⟩, ?_⟩ | refine ⟨_, gi (by repeat first | exact .hd | apply In.tl), ?_⟩ | refine ⟨⟨rfl, leb rfl⟩, ?_⟩ | refine ⟨⟨by decide, by decide⟩, ?_⟩ | refine ⟨rfl, ?_⟩ | refine ⟨leb rfl, ?_⟩ | refine ⟨by decide, ?_⟩ | refine .inr ⟨⟨leb rfl, leb rfl, rfl, rfl⟩, ?_⟩ | fail)
          · rw [hl1'] at hc
            exact ret3 _ hmem (by simp only [formB, decide_eq_true hc, Bool.true_or]) _
          · rw [hl2'] at hc
            exact ret3 _ hmem (by simp only [formB, decide_eq_true hc, Bool.true_or, Bool.or_true]) _
          · rename_i c7
            rw [hl1'] at c7
            rw [hl2'] at hc
            refine ⟨_, _, _, true, FrzL.frz (.cons (.self (d := 11) rfl) (.cons (.func (d := 11) (.cons (.ptr (i := 0) (d := 9) rfl rfl) .nil)) .nil)), h52 (hlo _ hmem).1 hb, rfl, ?_⟩
            repeat' ((conv => whnf); first | refine ⟨rfl, fun hc => ?_, fun hc => ?_⟩ | refine ⟨fun hc => ?_, fun hc => ?_⟩ | refine ⟨rfl, _, wrap64 (by omega) (by omega), ?_⟩ | refine ⟨_, wrap64 (by omega) (by omega), ?_⟩ | refine ⟨_, wrapU (by omega) (by omega), ?_⟩ | refine ⟨rfl, rfl, ?_⟩ | refine ⟨_, _, _, _, _, gi (by repeat first | exact .hd | apply In.tl), ?_⟩ | refine ⟨_, _, _, _, gi (by repeat first | exact .hd | apply In.tl), ⟨rfl, by exact leb rfl, by exact rfl⟩, ?_⟩ | refine ⟨_, gi (by repeat first | exact .hd | apply In.tl), ?_⟩ | refine ⟨⟨rfl, leb rfl⟩, ?_⟩ | refine ⟨⟨by decide, by decide⟩, ?_⟩ | refine ⟨rfl, ?_⟩ | refine ⟨leb rfl, ?_⟩ | refine ⟨by decide, ?_⟩ | refine .inr ⟨⟨leb rfl, leb rfl, rfl, rfl⟩, ?_⟩ | fail)
            exact ⟨s.runs.length - (k + 1), _, by omega, Sub.take 1, rfl, k + 1, .mk rfl, by omega, rfl, hnext (by simp only [formB, hb, decide_eq_false c7, decide_eq_false hc, Bool.or_false])⟩
      · simp only [List.length_map] at h4
        obtain rfl : k = s.runs.length := by omega
        rw [List.take_length] at hs
        have ret2 : ∀ r ∈ s.runs, highB s r = true → ∀ A, K [.int .i64 2] A := fun r hr hf A => hK _ _ (by rw [chkS, if_neg hrng, if_neg hsz, if_neg hne, if_neg (by rw [hs]; simp), if_pos (List.any_eq_true.2 ⟨r, hr, hf⟩)])
        repeat' ((conv => whnf); first | refine ⟨rfl, fun hc => ?_, fun hc => ?_⟩ | refine ⟨fun hc => ?_, fun hc => ?_⟩ | refine ⟨rfl, _, wrap64 (by omega) (by omega), ?_⟩ | refine ⟨_, wrap64 (by omega) (by omega), ?_⟩ | refine ⟨_, wrapU (by omega) (by omega), ?_⟩ | refine ⟨rfl, rfl, ?_⟩ | refine ⟨_, _, _, _, _, gi (by repeat first | exact .hd | apply In.tl), ?_⟩ | refine ⟨_, _, _, _, gi (by repeat first | exact .hd | apply In.tl), ⟨rfl, by exact leb rfl, by exact rfl⟩, ?_⟩ | refine ⟨_, gi (by repeat first | exact .hd | apply In.tl), ?_⟩ | refine ⟨⟨rfl, leb rfl⟩, ?_⟩ | refine ⟨⟨by decide, by decide⟩, ?_⟩ | refine ⟨rfl, ?_⟩ | refine ⟨leb rfl, ?_⟩ | refine ⟨by decide, ?_⟩ | refine .inr ⟨⟨leb rfl, leb rfl, rfl, rfl⟩, ?_⟩ | fail)
        refine aLoop_by (fun m env A => A = [(l1, some (.cells (sysC s) 0 0 false false))] ∧ ∃ k : Nat, IEnv (fun g => (g 0 :: .ptr l1 0 0 :: .int .i64 0 :: g 3 :: g 4 :: g 5 :: g 6 :: g 7 :: g 8 :: g 9 :: g 10 :: g 11 :: g 12 :: g 13 :: g 14 :: g 15 :: g 16 :: g 17 :: g 18 :: g 19 :: g 20 :: g 21 :: g 22 :: g 23 :: g 24 :: g 25 :: g 26 :: g 27 :: g 28 :: g 29 :: g 30 :: g 31 :: g 32 :: g 33 :: g 34 :: g 35 :: g 36 :: g 37 :: g 38 :: g 39 :: g 40 :: g 41 :: g 42 :: g 43 :: g 44 :: g 45 :: g 46 :: g 47 :: g 48 :: g 49 :: g 50 :: g 51 :: g 52 :: g 53 :: g 54 :: g 55 :: g 56 :: g 57 :: g 58 :: g 59 :: g 60 :: g 61 :: g 62 :: g 63 :: g 64 :: g 65 :: g 66 :: g 67 :: g 68 :: g 69 :: g 70 :: g 71 :: g 72 :: g 73 :: g 74 :: g 75 :: g 76 :: g 77 :: g 78 :: g 79 :: g 80 :: .list (s.runs.map runC) :: .int .i64 (s.runs.map runC).length :: .int .i64 (k : Int) :: g 84 :: g 85 :: g 86 :: g 87 :: g 88 :: g 89 :: g 90 :: g 91 :: [])) env ∧ k ≤ s.runs.length ∧ m = s.runs.length - k ∧ (s.runs.take k).any (highB s) = false) (m := s.runs.length) (.refl _) ⟨rfl, 0, .mk rfl, by omega, by omega, by simp⟩ (by omega) ?_
        rintro m env A ⟨rfl, k, ⟨g, rfl⟩, hk, hm, hs2⟩
        refine ⟨rfl, fun h4 => ?_, fun h4 => ?_⟩
        · simp only [List.length_map] at h4
          have hk' : k < s.runs.length := by omega
          have hmem : s.runs[k] ∈ s.runs := List.getElem_mem hk'
          have hnext : highB s s.runs[k] = false → (s.runs.take (k + 1)).any (highB s) = false := fun h => by
            rw [List.take_succ_eq_append_getElem hk', List.any_append, hs2]; simp [h]
          refine ⟨⟨by omega, by simp; omega⟩, runs_len _, _, runs_get hk', ?_⟩
          intro l6 hl6
          rcases Bool.eq_false_or_eq_true (highB s s.runs[k]) with hb | hb
          · repeat' ((conv => whnf); first | refine ⟨rfl, fun hc => ?_, fun hc => ?_⟩ | refine ⟨fun hc => ?_, fun hc => ?_⟩ | refine ⟨rfl, _, wrap64 (by omega) (by omega), ?_⟩ | refine ⟨_, wrap64 (by omega) (by omega), ?_⟩ | refine ⟨_, wrapU (by omega) (by omega), ?_⟩ | refine ⟨rfl, rfl, ?_⟩ | refine ⟨_, _, _, _, _, gi (by repeat first | exact .hd | apply In.tl), ?_⟩ | refine ⟨_, _, _, _, gi (by repeat first | exact .hd | apply In.tl), ⟨rfl, by exact leb rfl, by exact rfl⟩, ?_⟩ | refine ⟨_, gi (by repeat first | exact .hd | apply In.tl), ?_⟩ | refine ⟨⟨rfl, leb rfl⟩, ?_⟩ | refine ⟨⟨by decide, by decide⟩, ?_⟩ | refine ⟨rfl, ?_⟩ | refine ⟨leb rfl, ?_⟩ | refine ⟨by decide, ?_⟩ | refine .inr ⟨⟨leb rfl, leb rfl, rfl, rfl⟩, ?_⟩ | fail)
            refine ⟨_, _, _, true, FrzL.frz (.cons (.self (d := 11) rfl) (.cons (.func (d := 11) (.cons (.ptr (i := 0) (d := 9) rfl rfl) .nil)) .nil)), h54 (hrs _ hmem).2 (hlo _ hmem).2 ⟨by omega, by omega⟩ hb, rfl, ?_⟩
            repeat' ((conv => whnf); first | refine ⟨rfl, fun hc => ?_, fun hc => ?_⟩ | refine ⟨fun hc => ?_, fun hc => ?_⟩ | refine ⟨rfl, _, wrap64 (by omega) (by omega), ?_⟩ | refine ⟨_, wrap64 (by omega) (by omega), ?_⟩ | refine ⟨_, wrapU (by omega) (by omega), ?_⟩ | refine ⟨rfl, rfl, ?_⟩ | refine ⟨_, _, _, _, _, gi (by repeat first | exact .hd | apply In.tl), ?_⟩ | refine ⟨_, _, _, _, gi (by repeat first | exact .hd | apply In.tl), ⟨rfl, by exact leb rfl, by exact rfl⟩, ?_⟩ | refine ⟨_, gi (by repeat first | exact .hd | apply In.tl), ?_⟩ | refine ⟨⟨rfl, leb rfl⟩, ?_⟩ | refine ⟨⟨by decide, by decide⟩, ?_⟩ | refine ⟨rfl, ?_⟩ | refine ⟨leb rfl, ?_⟩ | refine ⟨by decide, ?_⟩ | refine .inr ⟨⟨leb rfl, leb rfl, rfl, rfl⟩, ?_⟩ | fail)
            exact ret2 _ hmem hb _
          · repeat' ((conv => whnf); first | refine ⟨rfl, fun hc => ?_, fun hc => ?_⟩ | refine ⟨fun hc => ?_, fun hc => ?_⟩ | refine ⟨rfl, _, wrap64 (by omega) (by omega), ?_⟩ | refine ⟨_, wrap64 (by omega) (by omega), ?_⟩ | refine ⟨_, wrapU (by omega) (by omega), ?_⟩ | refine ⟨rfl, rfl, ?_⟩ | refine ⟨_, _, _, _, _, gi (by repeat first | exact .hd | apply In.tl), ?_⟩ | refine ⟨_, _, _, _, gi (by repeat first | exact .hd | apply In.tl), ⟨rfl, by exact leb rfl, by exact rfl⟩, ?_⟩ | refine ⟨_, gi (by repeat first | exact .hd | apply In.tl), ?_⟩ | refine ⟨⟨rfl, leb rfl⟩, ?_⟩ | refine ⟨⟨by decide, by decide⟩, ?_⟩ | refine ⟨rfl, ?_⟩ | refine ⟨leb rfl, ?_⟩ | refine ⟨by decide, ?_⟩ | refine .inr ⟨⟨leb rfl, leb rfl, rfl, rfl⟩, ?_⟩ | fail)
            refine ⟨_, _, _, true, FrzL.frz (.cons (.self (d := 11) rfl) (.cons (.func (d := 11) (.cons (.ptr (i := 0) (d := 9) rfl rfl) .nil)) .nil)), h54 (hrs _ hmem).2 (hlo _ hmem).2 ⟨by omega, by omega⟩ hb, rfl, ?_⟩
            repeat' ((conv => whnf); first | refine ⟨rfl, fun hc => ?_, fun hc => ?_⟩ | refine ⟨fun hc => ?_, fun hc => ?_⟩ | refine ⟨rfl, _, wrap64 (by omega) (by omega), ?_⟩ | refine ⟨_, wrap64 (by omega) (by omega), ?_⟩ | refine ⟨_, wrapU (by omega) (by omega), ?_⟩ | refine ⟨rfl, rfl, ?_⟩ | refine ⟨_, _, _, _, _, gi (by repeat first | exact .hd | apply In.tl), ?_⟩ | refine ⟨_, _, _, _, gi (by repeat first | exact .hd | apply In.tl), ⟨rfl, by exact leb rfl, by exact rfl⟩, ?_⟩ | refine ⟨_, gi (by repeat first | exact .hd | apply In.tl), ?_⟩ | refine ⟨⟨rfl, leb rfl⟩, ?_⟩ | refine ⟨⟨by decide, by decide⟩, ?_⟩ | refine ⟨rfl, ?_⟩ | refine ⟨leb rfl, ?_⟩ | refine ⟨by decide, ?_⟩ | refine .inr ⟨⟨leb rfl, leb rfl, rfl, rfl⟩, ?_⟩ | fail)
            exact ⟨s.runs.length - (k + 1), _, by omega, Sub.take 1, rfl, k + 1, .mk rfl, by omega, rfl, hnext hb⟩
        · simp only [List.length_map] at h4
          obtain rfl : k = s.runs.length := by omega
          rw [List.take_length] at hs2
          exact hK _ _ (by rw [chkS, if_neg hrng, if_neg hsz, if_neg hne, if_neg (by rw [hs]; simp), if_neg (by rw [hs2]; simp)])
end Go.Proofs.Ytlgbbabijifflaa.runs
set_option linter.unusedVariables false
set_option linter.unusedSimpArgs false
namespace Go.Proofs.Ytlgbbabijifflaa.runs
open Go Go.Ai Go.Proofs.Ytlgbbabijifflaa.L1R
theorem locs_len (ls : List (List Int)) : lenIs 1 (locsC ls) = true := by cases ls <;> rfl
theorem ints_len (l : List Int) : lenIs 1 (intsC l) = true := by cases l <;> rfl
theorem locs_get {ls : List (List Int)} {k : Nat} (h : k < ls.length) : (locsC ls)[((k : Nat) : Int).toNat]? = some [.list (intsC ls[k])] := by simp [locsC, h]
theorem ints_get {l : List Int} {k : Nat} (h : k < l.length) : (intsC l)[((k : Nat) : Int).toNat]? = some [.int .i64 l[k]] := by simp [intsC, h]
theorem locs_length (ls : List (List Int)) : (locsC ls).length = ls.length := by simp [locsC]
theorem ints_length (l : List Int) : (intsC l).length = l.length := by simp [intsC]
set_option maxRecDepth 100000 in
theorem run57 {hd : Hands} {n : Nat} {s : SysD} {a r t : Nat} (hr : r < s.runs.length) (ht : t < s.runs[r].loc.length) (ha : a < s.runs[r].loc[t].length) {K : List AV → Ah → Prop} (hK : ∀ A, K [.int .i64 (s.runs[r].loc[t][a])] A) : aB hd n ir57 (.agg (sysC s) :: .int .i64 (a : Int) :: .agg [.int .i64 (r : Int), .int .i64 (t : Int)] :: .undef :: .undef :: .undef :: .undef :: .undef :: .undef :: .undef :: .undef :: .undef :: .undef :: .undef :: .undef :: .undef :: .undef :: .undef :: .undef :: .undef :: .undef :: []) [] K := by
  refine ⟨rfl, ?_⟩
  intro l3 hl3
  repeat' ((conv => whnf); first | refine ⟨rfl, fun hc => ?_, fun hc => ?_⟩ | refine ⟨fun hc => ?_, fun hc => ?_⟩ | refine ⟨rfl, _, wrap64 (by omega) (by omega), ?_⟩ | refine ⟨_, wrap64 (by omega) (by omega), ?_⟩ | refine ⟨_, wrapU (by omega) (by omega), ?_⟩ | refine ⟨rfl, rfl, ?_⟩ | refine ⟨_, _, _, _, _, gi (by repeat first | exact .hd | apply In.tl), ?_⟩ | refine ⟨_, _, _, _, gi (by repeat first | exact .hd | apply In.tl), ⟨rfl, by exact leb rfl, by exact rfl⟩, ?_⟩ | refine ⟨_, gi (by repeat first | exact .hd | apply In.tl), ?_⟩ | refine ⟨⟨rfl, leb rfl⟩, ?_⟩ | refine ⟨⟨by decide, by decide⟩, ?_⟩ | refine ⟨rfl, ?_⟩ | refine ⟨leb rfl, ?_⟩ | refine ⟨by decide, ?_⟩ | refine .inr ⟨⟨leb rfl, leb rfl, rfl, rfl⟩, ?_⟩ | fail)
  intro l5 hl5
  repeat' ((conv => whnf); first | refine ⟨rfl, fun hc => ?_, fun hc => ?_⟩ | refine ⟨fun hc => ?_, fun hc => ?_⟩ | refine ⟨rfl, _, wrap64 (by omega) (by omega), ?_⟩ | refine ⟨_, wrap64 (by omega) (by omega), ?_⟩ | refine ⟨_, wrapU (by omega) (by omega), ?_⟩ | refine ⟨rfl, rfl, ?_⟩ | refine ⟨_, _, _, _, _, gi (by repeat first | exact .hd | apply In.tl), ?_⟩ | refine ⟨_, _, _, _, gi (by repeat first | exact .hd | apply In.tl), ⟨rfl, by exact leb rfl, by exact rfl⟩, ?_⟩ | refine ⟨_, gi (by repeat first | exact .hd | apply In.tl), ?_⟩ | refine ⟨⟨rfl, leb rfl⟩, ?_⟩ | refine ⟨⟨by decide, by decide⟩, ?_⟩ | refine ⟨rfl, ?_⟩ | refine ⟨leb rfl, ?_⟩ | refine ⟨by decide, ?_⟩ | refine .inr ⟨⟨leb rfl, leb rfl, rfl, rfl⟩, ?_⟩ | fail)
  intro b hb
  repeat' ((conv => whnf); first | refine ⟨rfl, fun hc => ?_, fun hc => ?_⟩ | refine ⟨fun hc => ?_, fun hc => ?_⟩ | refine ⟨rfl, _, wrap64 (by omega) (by omega), ?_⟩ | refine ⟨_, wrap64 (by omega) (by omega), ?_⟩ | refine ⟨_, wrapU (by omega) (by omega), ?_⟩ | refine ⟨rfl, rfl, ?_⟩ | refine ⟨_, _, _, _, _, gi (by repeat first | exact .hd | apply In.tl), ?_⟩ | refine ⟨_, _, _, _, gi (by repeat first | exact .hd | apply In.tl), ⟨rfl, by exact leb rfl, by exact rfl⟩, ?_⟩ | refine ⟨_, gi (by repeat first | exact .hd | apply In.tl), ?_⟩ | refine ⟨⟨rfl, leb rfl⟩, ?_⟩ | refine ⟨⟨by decide, by decide⟩, ?_⟩ | refine ⟨rfl, ?_⟩ | refine ⟨leb rfl, ?_⟩ | refine ⟨by decide, ?_⟩ | refine .inr ⟨⟨leb rfl, leb rfl, rfl, rfl⟩, ?_⟩ | fail)
  refine ⟨⟨by omega, by simp; omega⟩, runs_len _, ?_⟩
  repeat' ((conv => whnf); first | refine ⟨rfl, fun hc => ?_, fun hc => ?_⟩ | refine ⟨fun hc => ?_, fun hc => ?_⟩ | refine ⟨rfl, _, wrap64 (by omega) (by omega), ?_⟩ | refine ⟨_, wrap64 (by omega) (by omega), ?_⟩ | refine ⟨_, wrapU (by omega) (by omega), ?_⟩ | refine ⟨rfl, rfl, ?_⟩ | refine ⟨_, _, _, _, _, gi (by repeat first | exact .hd | apply In.tl), ?_⟩ | refine ⟨_, _, _, _, gi (by repeat first | exact .hd | apply In.tl), ⟨rfl, by exact leb rfl, by exact rfl⟩, ?_⟩ | refine ⟨_, gi (by repeat first | exact .hd | apply In.tl), ?_⟩ | refine ⟨⟨rfl, leb rfl⟩, ?_⟩ | refine ⟨⟨by decide, by decide⟩, ?_⟩ | refine ⟨rfl, ?_⟩ | refine ⟨leb rfl, ?_⟩ | refine ⟨by decide, ?_⟩ | refine .inr ⟨⟨leb rfl, leb rfl, rfl, rfl⟩, ?_⟩ | fail)
  refine ⟨_, runs_get hr, ?_⟩
  repeat' ((conv => whnf); first | refine ⟨rfl, fun hc => ?_, fun hc => ?_⟩ | refine ⟨fun hc => ?_, fun hc => ?_⟩ | refine ⟨rfl, _, wrap64 (by omega) (by omega), ?_⟩ | refine ⟨_, wrap64 (by omega) (by omega), ?_⟩ | refine ⟨_, wrapU (by omega) (by omega), ?_⟩ | refine ⟨rfl, rfl, ?_⟩ | refine ⟨_, _, _, _, _, gi (by repeat first | exact .hd | apply In.tl), ?_⟩ | refine ⟨_, _, _, _, gi (by repeat first | exact .hd | apply In.tl), ⟨rfl, by exact leb rfl, by exact rfl⟩, ?_⟩ | refine ⟨_, gi (by repeat first | exact .hd | apply In.tl), ?_⟩ | refine ⟨⟨rfl, leb rfl⟩, ?_⟩ | refine ⟨⟨by decide, by decide⟩, ?_⟩ | refine ⟨rfl, ?_⟩ | refine ⟨leb rfl, ?_⟩ | refine ⟨by decide, ?_⟩ | refine .inr ⟨⟨leb rfl, leb rfl, rfl, rfl⟩, ?_⟩ | fail)
  refine ⟨⟨by omega, by simp [locs_length]; omega⟩, locs_len _, ?_⟩
  repeat' ((conv => whnf); first | refine ⟨rfl, fun hc => ?_, fun hc => ?_⟩ | refine ⟨fun hc => ?_, fun hc => ?_⟩ | refine ⟨rfl, _, wrap64 (by omega) (by omega), ?_⟩ | refine ⟨_, wrap64 (by omega) (by omega), ?_⟩ | refine ⟨_, wrapU (by omega) (by omega), ?_⟩ | refine ⟨rfl, rfl, ?_⟩ | refine ⟨_, _, _, _, _, gi (by repeat first | exact .hd | apply In.tl), ?_⟩ | refine ⟨_, _, _, _, gi (by repeat first | exact .hd | apply In.tl), ⟨rfl, by exact leb rfl, by exact rfl⟩, ?_⟩ | refine ⟨_, gi (by repeat first | exact .hd | apply In.tl), ?_⟩ | refine ⟨⟨rfl, leb rfl⟩, ?_⟩ | refine ⟨⟨by decide, by decide⟩, ?_⟩ | refine ⟨rfl, ?_⟩ | refine ⟨leb rfl, ?_⟩ | refine ⟨by decide, ?_⟩ | refine .inr ⟨⟨leb rfl, leb rfl, rfl, rfl⟩, ?_⟩ | fail)
  refine ⟨_, locs_get ht, ?_⟩
  repeat' ((conv => whnf); first | refine ⟨rfl, fun hc => ?_, fun hc => ?_⟩ | refine ⟨fun hc => ?_, fun hc => ?_⟩ | refine ⟨rfl, _, wrap64 (by omega) (by omega), ?_⟩ | refine ⟨_, wrap64 (by omega) (by omega), ?_⟩ | refine ⟨_, wrapU (by omega) (by omega), ?_⟩ | refine ⟨rfl, rfl, ?_⟩ | refine ⟨_, _, _, _, _, gi (by repeat first | exact .hd | apply In.tl), ?_⟩ | refine ⟨_, _, _, _, gi (by repeat first | exact .hd | apply In.tl), ⟨rfl, by exact leb rfl, by exact rfl⟩, ?_⟩ | refine ⟨_, gi (by repeat first | exact .hd | apply In.tl), ?_⟩ | refine ⟨⟨rfl, leb rfl⟩, ?_⟩ | refine ⟨⟨by decide, by decide⟩, ?_⟩ | refine ⟨rfl, ?_⟩ | refine ⟨leb rfl, ?_⟩ | refine ⟨by decide, ?_⟩ | refine .inr ⟨⟨leb rfl, leb rfl, rfl, rfl⟩, ?_⟩ | fail)
  refine ⟨⟨by omega, by simp [ints_length]; omega⟩, ints_len _, ?_⟩
  repeat' ((conv => whnf); first | refine ⟨rfl, fun hc => ?_, fun hc => ?_⟩ | refine ⟨fun hc => ?_, fun hc => ?_⟩ | refine ⟨rfl, _, wrap64 (by omega) (by omega), ?_⟩ | refine ⟨_, wrap64 (by omega) (by omega), ?_⟩ | refine ⟨_, wrapU (by omega) (by omega), ?_⟩ | refine ⟨rfl, rfl, ?_⟩ | refine ⟨_, _, _, _, _, gi (by repeat first | exact .hd | apply In.tl), ?_⟩ | refine ⟨_, _, _, _, gi (by repeat first | exact .hd | apply In.tl), ⟨rfl, by exact leb rfl, by exact rfl⟩, ?_⟩ | refine ⟨_, gi (by repeat first | exact .hd | apply In.tl), ?_⟩ | refine ⟨⟨rfl, leb rfl⟩, ?_⟩ | refine ⟨⟨by decide, by decide⟩, ?_⟩ | refine ⟨rfl, ?_⟩ | refine ⟨leb rfl, ?_⟩ | refine ⟨by decide, ?_⟩ | refine .inr ⟨⟨leb rfl, leb rfl, rfl, rfl⟩, ?_⟩ | fail)
  refine ⟨_, ints_get ha, ?_⟩
  repeat' ((conv => whnf); first | refine ⟨rfl, fun hc => ?_, fun hc => ?_⟩ | refine ⟨fun hc => ?_, fun hc => ?_⟩ | refine ⟨rfl, _, wrap64 (by omega) (by omega), ?_⟩ | refine ⟨_, wrap64 (by omega) (by omega), ?_⟩ | refine ⟨_, wrapU (by omega) (by omega), ?_⟩ | refine ⟨rfl, rfl, ?_⟩ | refine ⟨_, _, _, _, _, gi (by repeat first | exact .hd | apply In.tl), ?_⟩ | refine ⟨_, _, _, _, gi (by repeat first | exact .hd | apply In.tl), ⟨rfl, by exact leb rfl, by exact rfl⟩, ?_⟩ | refine ⟨_, gi (by repeat first | exact .hd | apply In.tl), ?_⟩ | refine ⟨⟨rfl, leb rfl⟩, ?_⟩ | refine ⟨⟨by decide, by decide⟩, ?_⟩ | refine ⟨rfl, ?_⟩ | refine ⟨leb rfl, ?_⟩ | refine ⟨by decide, ?_⟩ | refine .inr ⟨⟨leb rfl, leb rfl, rfl, rfl⟩, ?_⟩ | fail)
  exact hK _
set_option maxRecDepth 100000 in
theorem run59 {hd : Hands} {n : Nat} {x y : List Int} (hx : x.length < most) (hy : y.length < most) {K : List AV → Ah → Prop} (hK : ∀ b A, b = decide (x = y) → K [.bool b] A) : aB hd (n + x.length + 1) ir59 (.list (intsC x) :: .list (intsC y) :: .undef :: .undef :: .undef :: .undef :: .undef :: .undef :: .undef :: .undef :: .undef :: .undef :: .undef :: .undef :: .undef :: .undef :: .undef :: .undef :: .undef :: .undef :: .undef :: .undef :: .undef :: .undef :: .undef :: .undef :: []) [] K := by
  have hx' : x.length < 4294967296 := hx
  have hy' : y.length < 4294967296 := hy
  repeat' ((conv => whnf); first | refine ⟨rfl, fun hc => ?_, fun hc => ?_⟩ | refine ⟨fun hc => ?_, fun hc => ?_⟩ | refine ⟨rfl, _, wrap64 (by omega) (by omega), ?_⟩ | refine ⟨_, wrap64 (by omega) (by omega), ?_⟩ | refine ⟨_, wrapU (by omega) (by omega), ?_⟩ | refine ⟨rfl, rfl, ?_⟩ | refine ⟨_, _, _, _, _, gi (by repeat first | exact .hd | apply In.tl), ?_⟩ | refine ⟨_, _, _, _, gi (by repeat first | exact .hd | apply In.tl), ⟨rfl, by exact leb rfl, by exact rfl⟩, ?_⟩ | refine ⟨_, gi (by repeat first | exact .hd | apply In.tl), ?_⟩ | refine ⟨⟨rfl, leb rfl⟩, ?_⟩ | refine ⟨⟨by decide, by decide⟩, ?_⟩ | refine ⟨rfl, ?_⟩ | refine ⟨leb rfl, ?_⟩ | refine ⟨by decide, ?_⟩ | refine .inr ⟨⟨leb rfl, leb rfl, rfl, rfl⟩, ?_⟩ | (intro l hl) | fail)
  · simp only [ints_length] at hc
    exact hK _ _ (decide_eq_false fun e => hc (by rw [e])).symm
  simp only [ints_length] at hc
  have hxy : x.length = y.length := by omega
  refine aLoop_by (fun m env A => A = [] ∧ ∃ k : Nat, IEnv (fun g => (.list (intsC x) :: .list (intsC y) :: g 2 :: g 3 :: g 4 :: g 5 :: g 6 :: g 7 :: g 8 :: g 9 :: g 10 :: g 11 :: .int .i64 (intsC x).length :: .int .i64 (k : Int) :: g 14 :: g 15 :: g 16 :: g 17 :: g 18 :: g 19 :: g 20 :: g 21 :: g 22 :: g 23 :: g 24 :: g 25 :: [])) env ∧ k ≤ x.length ∧ m = x.length - k ∧ x.take k = y.take k) (m := x.length) (.refl _) ⟨rfl, 0, .mk rfl, by omega, by omega, by simp⟩ (by omega) ?_
  rintro m env A ⟨rfl, k, ⟨g, rfl⟩, hk, hm, hs⟩
  refine ⟨rfl, fun h4 => ?_, fun h4 => ?_⟩
  · simp only [ints_length] at h4
    have hk1 : k < x.length := by omega
    have hk2 : k < y.length := by omega
    repeat' ((conv => whnf); first | refine ⟨rfl, fun hc => ?_, fun hc => ?_⟩ | refine ⟨fun hc => ?_, fun hc => ?_⟩ | refine ⟨rfl, _, wrap64 (by omega) (by omega), ?_⟩ | refine ⟨_, wrap64 (by omega) (by omega), ?_⟩ | refine ⟨_, wrapU (by omega) (by omega), ?_⟩ | refine ⟨rfl, rfl, ?_⟩ | refine ⟨_, _, _, _, _, gi (by repeat first | exact .hd | apply In.tl), ?_⟩ | refine ⟨_, _, _, _, gi (by repeat first | exact .hd | apply In.tl), ⟨rfl, by exact leb rfl, by exact rfl⟩, ?_⟩ | refine ⟨_, gi (by repeat first | exact .hd | apply In.tl), ?_⟩ | refine ⟨⟨rfl, leb rfl⟩, ?_⟩ | refine ⟨⟨by decide, by decide⟩, ?_⟩ | refine ⟨rfl, ?_⟩ | refine ⟨leb rfl, ?_⟩ | refine ⟨by decide, ?_⟩ | refine .inr ⟨⟨leb rfl, leb rfl, rfl, rfl⟩, ?_⟩ | fail)
    intro b hb
    repeat' ((conv => whnf); first | refine ⟨rfl, fun hc => ?_, fun hc => ?_⟩ | refine ⟨fun hc => ?_, fun hc => ?_⟩ | refine ⟨rfl, _, wrap64 (by omega) (by omega), ?_⟩ | refine ⟨_, wrap64 (by omega) (by omega), ?_⟩ | refine ⟨_, wrapU (by omega) (by omega), ?_⟩ | refine ⟨rfl, rfl, ?_⟩ | refine ⟨_, _, _, _, _, gi (by repeat first | exact .hd | apply In.tl), ?_⟩ | refine ⟨_, _, _, _, gi (by repeat first | exact .hd | apply In.tl), ⟨rfl, by exact leb rfl, by exact rfl⟩, ?_⟩ | refine ⟨_, gi (by repeat first | exact .hd | apply In.tl), ?_⟩ | refine ⟨⟨rfl, leb rfl⟩, ?_⟩ | refine ⟨⟨by decide, by decide⟩, ?_⟩ | refine ⟨rfl, ?_⟩ | refine ⟨leb rfl, ?_⟩ | refine ⟨by decide, ?_⟩ | refine .inr ⟨⟨leb rfl, leb rfl, rfl, rfl⟩, ?_⟩ | fail)
    refine ⟨⟨by omega, by simp [ints_length]; omega⟩, ints_len _, _, ints_get hk1, ?_⟩
    repeat' ((conv => whnf); first | refine ⟨rfl, fun hc => ?_, fun hc => ?_⟩ | refine ⟨fun hc => ?_, fun hc => ?_⟩ | refine ⟨rfl, _, wrap64 (by omega) (by omega), ?_⟩ | refine ⟨_, wrap64 (by omega) (by omega), ?_⟩ | refine ⟨_, wrapU (by omega) (by omega), ?_⟩ | refine ⟨rfl, rfl, ?_⟩ | refine ⟨_, _, _, _, _, gi (by repeat first | exact .hd | apply In.tl), ?_⟩ | refine ⟨_, _, _, _, gi (by repeat first | exact .hd | apply In.tl), ⟨rfl, by exact leb rfl, by exact rfl⟩, ?_⟩ | refine ⟨_, gi (by repeat first | exact .hd | apply In.tl), ?_⟩ | refine ⟨⟨rfl, leb rfl⟩, ?_⟩ | refine ⟨⟨by decide, by decide⟩, ?_⟩ | refine ⟨rfl, ?_⟩ | refine ⟨leb rfl, ?_⟩ | refine ⟨by decide, ?_⟩ | refine .inr ⟨⟨leb rfl, leb rfl, rfl, rfl⟩, ?_⟩ | fail)
    refine ⟨⟨by omega, by simp [ints_length]; omega⟩, ints_len _, _, ints_get hk2, ?_⟩
    repeat' ((conv => whnf); first | refine ⟨rfl, fun hc => ?_, fun hc => ?_⟩ | refine ⟨fun hc => ?_, fun hc => ?_⟩ | refine ⟨rfl, _, wrap64 (by omega) (by omega), ?_⟩ | refine ⟨_, wrap64 (by omega) (by omega), ?_⟩ | refine ⟨_, wrapU (by omega) (by omega), ?_⟩ | refine ⟨rfl, rfl, ?_⟩ | refine ⟨_, _, _, _, _, gi (by repeat first | exact .hd | apply In.tl), ?_⟩ | refine ⟨_, _, _, _, gi (by repeat first | exact .hd | apply In.tl), ⟨rfl, by exact leb rfl, by exact rfl⟩, ?_⟩ | refine ⟨_, gi (by repeat first | exact .hd | apply In.tl), ?_⟩ | refine ⟨⟨rfl, leb rfl⟩, ?_⟩ | refine ⟨⟨by decide, by decide⟩, ?_⟩ | refine ⟨rfl, ?_⟩ | refine ⟨leb rfl, ?_⟩ | refine ⟨by decide, ?_⟩ | refine .inr ⟨⟨leb rfl, leb rfl, rfl, rfl⟩, ?_⟩ | fail)
    · exact hK _ _ (decide_eq_false fun e => hc (by subst e; rfl)).symm
    · have hc' : x[k] = y[k] := Classical.byContradiction fun h => hc h
      exact ⟨x.length - (k + 1), _, by omega, Sub.take 0, rfl, k + 1, .mk rfl, by omega, rfl, by rw [List.take_succ_eq_append_getElem hk1, List.take_succ_eq_append_getElem hk2, hs, hc']⟩
  · simp only [ints_length] at h4
    obtain rfl : k = x.length := by omega
    rw [List.take_length, hxy, List.take_length] at hs
    exact hK _ _ (decide_eq_true hs).symm
def noRep (l : List Int) : Prop := ∀ k (h : k + 1 < l.length), l[k + 1] ≠ l[k]
set_option maxRecDepth 100000 in
theorem run95 {hd : Hands} {n : Nat} {x : List Int} (hx : x.length < most) (hr : noRep x) {K : List AV → Ah → Prop} (hK : ∀ A, K [.list (intsC x)] A) : aB hd (n + x.length + 1) ir95 (.list (intsC x) :: .undef :: .undef :: .undef :: .undef :: .undef :: .undef :: .undef :: .undef :: .undef :: .undef :: .undef :: .undef :: .undef :: .undef :: .undef :: .undef :: .undef :: .undef :: .undef :: .undef :: .undef :: .undef :: .undef :: .undef :: .undef :: .undef :: .undef :: .undef :: .undef :: .undef :: .undef :: .undef :: .undef :: .undef :: .undef :: .undef :: .undef :: .undef :: .undef :: .undef :: .undef :: .undef :: .undef :: .undef :: .undef :: .undef :: .undef :: .undef :: .undef :: .undef :: .undef :: .undef :: .undef :: .undef :: .undef :: .undef :: .undef :: .undef :: .undef :: .undef :: []) [] K := by
  have hx' : x.length < 4294967296 := hx
  repeat' ((conv => whnf); first | refine ⟨rfl, fun hc => ?_, fun hc => ?_⟩ | refine ⟨fun hc => ?_, fun hc => ?_⟩ | refine ⟨rfl, _, wrap64 (by omega) (by omega), ?_⟩ | refine ⟨_, wrap64 (by omega) (by omega), ?_⟩ | refine ⟨_, wrapU (by omega) (by omega), ?_⟩ | refine ⟨rfl, rfl, ?_⟩ | refine ⟨_, _, _, _, _, gi (by repeat first | exact .hd | apply In.tl), ?_⟩ | refine ⟨_, _, _, _, gi (by repeat first | exact .hd | apply In.tl), ⟨rfl, by exact leb rfl, by exact rfl⟩, ?_⟩ | refine ⟨_, gi (by repeat first | exact .hd | apply In.tl), ?_⟩ | refine ⟨⟨rfl, leb rfl⟩, ?_⟩ | refine ⟨⟨by decide, by decide⟩, ?_⟩ | refine ⟨rfl, ?_⟩ | refine ⟨leb rfl, ?_⟩ | refine ⟨by decide, ?_⟩ | refine .inr ⟨⟨leb rfl, leb rfl, rfl, rfl⟩, ?_⟩ | (intro l hl) | fail)
  · exact hK _
  simp only [ints_length] at hc
  refine aLoop_by (fun m env A => A = [] ∧ ∃ k : Nat, IEnv (fun g => (.list (intsC x) :: g 1 :: g 2 :: .int .i64 (k : Int) :: g 4 :: g 5 :: g 6 :: g 7 :: g 8 :: g 9 :: g 10 :: g 11 :: g 12 :: g 13 :: g 14 :: g 15 :: g 16 :: g 17 :: g 18 :: g 19 :: g 20 :: g 21 :: g 22 :: g 23 :: g 24 :: g 25 :: g 26 :: g 27 :: g 28 :: g 29 :: g 30 :: g 31 :: g 32 :: g 33 :: g 34 :: g 35 :: g 36 :: g 37 :: g 38 :: g 39 :: g 40 :: g 41 :: g 42 :: g 43 :: g 44 :: g 45 :: g 46 :: g 47 :: g 48 :: g 49 :: g 50 :: g 51 :: g 52 :: g 53 :: g 54 :: g 55 :: g 56 :: g 57 :: g 58 :: g 59 :: g 60 :: [])) env ∧ 1 ≤ k ∧ k ≤ x.length ∧ m = x.length - k) (m := x.length - 1) (.refl _) ⟨rfl, 1, .mk rfl, by omega, by omega, by omega⟩ (by omega) ?_
  rintro m env A ⟨rfl, k, ⟨g, rfl⟩, hk0, hk, hm⟩
  refine ⟨rfl, fun h4 => ?_, fun h4 => ?_⟩
  · simp only [ints_length] at h4
    have hk1 : k < x.length := by omega
    have hk2 : k - 1 < x.length := by omega
    have hget : (intsC x)[((k : Int) - 1).toNat]? = some [.int .i64 x[k - 1]] := by
      rw [show ((k : Int) - 1).toNat = k - 1 by omega]; simp [intsC, hk2]
    have hne : x[k] ≠ x[k - 1] := by
      have := hr (k - 1) (by omega)
      simpa [show k - 1 + 1 = k by omega] using this
    repeat' ((conv => whnf); first | refine ⟨rfl, fun hc => ?_, fun hc => ?_⟩ | refine ⟨fun hc => ?_, fun hc => ?_⟩ | refine ⟨rfl, _, wrap64 (by omega) (by omega), ?_⟩ | refine ⟨_, wrap64 (by omega) (by omega), ?_⟩ | refine ⟨_, wrapU (by omega) (by omega), ?_⟩ | refine ⟨rfl, rfl, ?_⟩ | refine ⟨_, _, _, _, _, gi (by repeat first | exact .hd | apply In.tl), ?_⟩ | refine ⟨_, _, _, _, gi (by repeat first | exact .hd | apply In.tl), ⟨rfl, by exact leb rfl, by exact rfl⟩, ?_⟩ | refine ⟨_, gi (by repeat first | exact .hd | apply In.tl), ?_⟩ | refine ⟨⟨rfl, leb rfl⟩, ?_⟩ | refine ⟨⟨by decide, by decide⟩, ?_⟩ | refine ⟨rfl, ?_⟩ | refine ⟨leb rfl, ?_⟩ | refine ⟨by decide, ?_⟩ | refine .inr ⟨⟨leb rfl, leb rfl, rfl, rfl⟩, ?_⟩ | fail)
    intro b hb
    repeat' ((conv => whnf); first | refine ⟨rfl, fun hc => ?_, fun hc => ?_⟩ | refine ⟨fun hc => ?_, fun hc => ?_⟩ | refine ⟨rfl, _, wrap64 (by omega) (by omega), ?_⟩ | refine ⟨_, wrap64 (by omega) (by omega), ?_⟩ | refine ⟨_, wrapU (by omega) (by omega), ?_⟩ | refine ⟨rfl, rfl, ?_⟩ | refine ⟨_, _, _, _, _, gi (by repeat first | exact .hd | apply In.tl), ?_⟩ | refine ⟨_, _, _, _, gi (by repeat first | exact .hd | apply In.tl), ⟨rfl, by exact leb rfl, by exact rfl⟩, ?_⟩ | refine ⟨_, gi (by repeat first | exact .hd | apply In.tl), ?_⟩ | refine ⟨⟨rfl, leb rfl⟩, ?_⟩ | refine ⟨⟨by decide, by decide⟩, ?_⟩ | refine ⟨rfl, ?_⟩ | refine ⟨leb rfl, ?_⟩ | refine ⟨by decide, ?_⟩ | refine .inr ⟨⟨leb rfl, leb rfl, rfl, rfl⟩, ?_⟩ | fail)
    refine ⟨⟨by omega, by simp [ints_length]; omega⟩, ints_len _, _, ints_get hk1, ?_⟩
    repeat' ((conv => whnf); first | refine ⟨rfl, fun hc => ?_, fun hc => ?_⟩ | refine ⟨fun hc => ?_, fun hc => ?_⟩ | refine ⟨rfl, _, wrap64 (by omega) (by omega), ?_⟩ | refine ⟨_, wrap64 (by omega) (by omega), ?_⟩ | refine ⟨_, wrapU (by omega) (by omega), ?_⟩ | refine ⟨rfl, rfl, ?_⟩ | refine ⟨_, _, _, _, _, gi (by repeat first | exact .hd | apply In.tl), ?_⟩ | refine ⟨_, _, _, _, gi (by repeat first | exact .hd | apply In.tl), ⟨rfl, by exact leb rfl, by exact rfl⟩, ?_⟩ | refine ⟨_, gi (by repeat first | exact .hd | apply In.tl), ?_⟩ | refine ⟨⟨rfl, leb rfl⟩, ?_⟩ | refine ⟨⟨by decide, by decide⟩, ?_⟩ | refine ⟨rfl, ?_⟩ | refine ⟨leb rfl, ?_⟩ | refine ⟨by decide, ?_⟩ | refine .inr ⟨⟨leb rfl, leb rfl, rfl, rfl⟩, ?_⟩ | fail)
    refine ⟨⟨by omega, by simp [ints_length]; omega⟩, ints_len _, _, hget, ?_⟩
    repeat' ((conv => whnf); first | refine ⟨rfl, fun hc => ?_, fun hc => ?_⟩ | refine ⟨fun hc => ?_, fun hc => ?_⟩ | refine ⟨rfl, _, wrap64 (by omega) (by omega), ?_⟩ | refine ⟨_, wrap64 (by omega) (by omega), ?_⟩ | refine ⟨_, wrapU (by omega) (by omega), ?_⟩ | refine ⟨rfl, rfl, ?_⟩ | refine ⟨_, _, _, _, _, gi (by repeat first | exact .hd | apply In.tl), ?_⟩ | refine ⟨_, _, _, _, gi (by repeat first | exact .hd | apply In.tl), ⟨rfl, by exact leb rfl, by exact rfl⟩, ?_⟩ | refine ⟨_, gi (by repeat first | exact .hd | apply In.tl), ?_⟩ | refine ⟨⟨rfl, leb rfl⟩, ?_⟩ | refine ⟨⟨by decide, by decide⟩, ?_⟩ | refine ⟨rfl, ?_⟩ | refine ⟨leb rfl, ?_⟩ | refine ⟨by decide, ?_⟩ | refine .inr ⟨⟨leb rfl, leb rfl, rfl, rfl⟩, ?_⟩ | fail)
    · exact absurd hc hne
    · exact ⟨x.length - (k + 1), _, by omega, Sub.take 0, rfl, k + 1, .mk rfl, by omega, by omega, rfl⟩
  · exact hK _
end Go.Proofs.Ytlgbbabijifflaa.runs
set_option linter.unusedVariables false
set_option linter.unusedSimpArgs false
namespace Go.Proofs.Ytlgbbabijifflaa.runs
open Go Go.Ai Go.Proofs.Ytlgbbabijifflaa.L1R
def sysFine (s : SysD) : Prop := s.Ok ∧ s.runs.length ≤ 64 ∧ ∀ r ∈ s.runs, r.loc.length < most ∧ r.fac.length < most
instance (r : RunD) : Decidable r.Ok := by unfold RunD.Ok; infer_instance
instance (s : SysD) : Decidable s.Ok := by unfold SysD.Ok; infer_instance
instance (s : SysD) : Decidable (sysFine s) := by unfold sysFine; infer_instance
def g13 (args : List AV) : Option (List AV) := match args with
  | [.agg xs] => (dSys xs).bind fun s => if sysFine s then some [.int .i64 (chkS s)] else none
  | _ => none
def ptC (L i : Nat) : List AV := [.int .i64 ((i / L : Nat) : Int), .int .i64 ((i % L : Nat) : Int)]
def ptsF (L c : Nat) : List AV := (List.range c).flatMap (ptC L)
def ptsC (L c : Nat) : List (List AV) := (List.range c).map (ptC L)
def numP (s : SysD) : Nat := if chkS s = 0 then s.runs.length * s.len.toNat else 0
theorem ptsF_len (L c : Nat) : (ptsF L c).length = c * 2 := by
  induction c with
  | zero => rfl
  | succ c ih => simp [ptsF, List.range_succ, ptC] at ih ⊢; omega
theorem ptsF_succ (L c : Nat) : ptsF L (c + 1) = ptsF L c ++ ptC L c := by simp [ptsF, List.range_succ]
theorem ptsF_chunk (L : Nat) : ∀ c, chunk 2 c (ptsF L c) = ptsC L c := fun c => by
  have h : ptsF L c = (ptsC L c).flatten := by simp [ptsF, ptsC, List.flatMap_def]
  have h2 : (ptsC L c).length = c := by simp [ptsC]
  have h3 := chunk_flat (k := 2) (ptsC L c) (by simp [ptsC, ptC])
  rw [h2] at h3
  rw [h, h3]
theorem ptsF_self (L c : Nat) : (ptsF L c).all selfV = true := by
  simp [ptsF, ptC, selfV]
def PV (lp : Nat) : Nat → AV
  | 0 => .nilsl
  | j + 1 => .ref lp 0 (j + 1) (j + 1) 2
def PA (L lp : Nat) : Nat → Ah
  | 0 => []
  | j + 1 => [(lp, some (.cells (ptsF L (j + 1)) 2 (j + 1) true false))]
def TD : Tab := [(13, ⟨.iso, g13⟩), (57, ⟨.iso, fun _ => none⟩)]
theorem h13 {s : SysD} (h : sysFine s) {c : Int} (hc : chkS s = c) : (hands TD).iso 13 [.agg (sysC s)] = some [.int .i64 c] := by
  subst hc
  show (dSys (sysC s)).bind _ = _
  rw [dSys_C]
  exact if_pos h
theorem chk_ok {s : SysD} (h : chkS s = 0) : 0 ≤ s.ag ∧ s.ag ≤ 4 ∧ 0 ≤ s.fa ∧ s.fa ≤ 8 ∧ 1 ≤ s.len ∧ s.len ≤ 16 ∧ s.runs.length ≤ 64 ∧ 0 < s.runs.length ∧ ∀ r ∈ s.runs, (r.loc.length : Int) = s.len ∧ (r.fac.length : Int) = s.len ∧ (∀ l ∈ r.loc, (l.length : Int) = s.ag) ∧ ∀ f ∈ r.fac, f / 2 ^ s.fa.toNat = 0 := by
  unfold chkS at h
  split at h
  · cases h
  rename_i h1
  split at h
  · cases h
  rename_i h2
  split at h
  · cases h
  rename_i h3
  split at h
  · cases h
  rename_i h4
  split at h
  · cases h
  rename_i h5
  refine ⟨by omega, by omega, by omega, by omega, by omega, by omega, by omega, by omega, fun r hr => ?_⟩
  simp only [List.any_eq_true, not_exists, not_and, Bool.not_eq_true] at h4 h5
  have a := h4 r hr
  have b := h5 r hr
  simp only [formB, Bool.or_eq_false_iff, decide_eq_false_iff_not, List.any_eq_false, decide_eq_true_eq] at a
  simp only [highB, List.any_eq_false, decide_eq_true_eq] at b
  refine ⟨by omega, by omega, fun l hl => ?_, fun f hf => ?_⟩
  · have := a.2 l hl; omega
  · have := b f hf; omega
set_option maxRecDepth 100000 in
set_option maxHeartbeats 1000000 in
theorem run56 {n : Nat} {s : SysD} (hf : sysFine s) {K : List AV → Ah → Prop} (hK : ∀ rs' A, Fin .iso A rs' [.list (ptsC s.len.toNat (numP s))] → K rs' A) : aB (hands TD) (n + 80) ir56 (.agg (sysC s) :: .undef :: .undef :: .undef :: .undef :: .undef :: .undef :: .undef :: .undef :: .undef :: .undef :: .undef :: .undef :: .undef :: .undef :: .undef :: .undef :: .undef :: .undef :: .undef :: .undef :: .undef :: .undef :: .undef :: .undef :: .undef :: .undef :: .undef :: .undef :: []) [] K := by
  refine ⟨rfl, ?_⟩
  intro l1 hl1
  by_cases h0 : chkS s = 0
  · repeat' ((conv => whnf); first | refine ⟨rfl, fun hc => ?_, fun hc => ?_⟩ | refine ⟨fun hc => ?_, fun hc => ?_⟩ | refine ⟨rfl, _, wrap64 (by omega) (by omega), ?_⟩ | refine ⟨_, wrap64 (by omega) (by omega), ?_⟩ | refine ⟨_, wrapU (by omega) (by omega), ?_⟩ | refine ⟨rfl, rfl, ?_⟩ | refine ⟨_, _, _, _, _, gi (by repeat first | exact .hd | apply In.tl), ?_⟩ | refine ⟨_, _, _, _, gi (by repeat first | exact .hd | apply In.tl), ⟨rfl, by exact leb rfl, by exact rfl⟩, ?_⟩ | refine ⟨_, gi (by repeat first | exact .hd | apply In.tl), ?_⟩ | refine ⟨⟨rfl, leb rfl⟩, ?_⟩ | refine ⟨⟨by decide, by decide⟩, ?_⟩ | refine ⟨rfl, ?_⟩ | refine ⟨leb rfl, ?_⟩ | refine ⟨by decide, ?_⟩ | refine .inr ⟨⟨leb rfl, leb rfl, rfl, rfl⟩, ?_⟩ | (intro l hl) | refine ⟨_, _, _, true, fun _ H hR => ⟨H, rfl, hR⟩, h13 hf h0, rfl, ?_⟩ | refine ⟨_, _, _, false, fun _ H hR => ⟨H, rfl, hR⟩, h13 hf h0, rfl, ?_⟩ | fail)
    obtain ⟨q1, q2, q3, q4, q5, q6, q7, q8, q9⟩ := chk_ok h0
    · exact absurd rfl hc
    obtain ⟨q1, q2, q3, q4, q5, q6, q7, q8, q9⟩ := chk_ok h0
    obtain ⟨L, hL⟩ : ∃ L : Nat, s.len = L := ⟨s.len.toNat, by omega⟩
    have hLn : s.len.toNat = L := by omega
    refine aLoop_by (fun m env A => ∃ (k lp : Nat), A = [(l1, some (.cells (sysC s) 0 0 false false))] ++ PA L lp (k * L) ∧ IEnv (fun g => (g 0 :: .ptr l1 0 0 :: g 2 :: PV lp (k * L) :: g 4 :: g 5 :: g 6 :: g 7 :: g 8 :: g 9 :: g 10 :: .int .i64 (s.runs.map runC).length :: .int .i64 (k : Int) :: g 13 :: g 14 :: g 15 :: g 16 :: g 17 :: g 18 :: g 19 :: g 20 :: g 21 :: g 22 :: g 23 :: g 24 :: g 25 :: g 26 :: g 27 :: g 28 :: [])) env ∧ k ≤ s.runs.length ∧ m = s.runs.length - k) (m := s.runs.length) (A0 := [(l1, some (.cells (sysC s) 0 0 false false))] ++ PA L 0 (0 * L)) (by rw [Nat.zero_mul]; exact .refl _) ⟨0, 0, rfl, .mk (by rw [Nat.zero_mul]; rfl), by omega, by omega⟩ (by omega) ?_
    rintro m env A ⟨k, lp, rfl, ⟨g, rfl⟩, hk, hm⟩
    refine ⟨rfl, fun h4 => ?_, fun h4 => ?_⟩
    · simp only [List.length_map] at h4
      repeat' ((conv => whnf); first | refine ⟨rfl, fun hc => ?_, fun hc => ?_⟩ | refine ⟨fun hc => ?_, fun hc => ?_⟩ | refine ⟨rfl, _, wrap64 (by omega) (by omega), ?_⟩ | refine ⟨_, wrap64 (by omega) (by omega), ?_⟩ | refine ⟨_, wrapU (by omega) (by omega), ?_⟩ | refine ⟨rfl, rfl, ?_⟩ | refine ⟨_, _, _, _, _, gi (by repeat first | exact .hd | apply In.tl), ?_⟩ | refine ⟨_, _, _, _, gi (by repeat first | exact .hd | apply In.tl), ⟨rfl, by exact leb rfl, by exact rfl⟩, ?_⟩ | refine ⟨_, gi (by repeat first | exact .hd | apply In.tl), ?_⟩ | refine ⟨⟨rfl, leb rfl⟩, ?_⟩ | refine ⟨⟨by decide, by decide⟩, ?_⟩ | refine ⟨rfl, ?_⟩ | refine ⟨leb rfl, ?_⟩ | refine ⟨by decide, ?_⟩ | refine .inr ⟨⟨leb rfl, leb rfl, rfl, rfl⟩, ?_⟩ | fail)
      refine aLoop_by (fun m env A => ∃ (t lp : Nat), A = [(l1, some (.cells (sysC s) 0 0 false false))] ++ PA L lp (k * L + t) ∧ IEnv (fun g => (g 0 :: .ptr l1 0 0 :: g 2 :: PV lp (k * L + t) :: .int .i64 (k : Int) :: g 5 :: g 6 :: g 7 :: g 8 :: g 9 :: g 10 :: .int .i64 (s.runs.map runC).length :: .int .i64 (k : Int) :: g 13 :: g 14 :: g 15 :: .int .i64 s.len :: .int .i64 (t : Int) :: g 18 :: g 19 :: g 20 :: g 21 :: g 22 :: g 23 :: g 24 :: g 25 :: g 26 :: g 27 :: g 28 :: [])) env ∧ t ≤ L ∧ m = L - t) (m := L) (.refl _) ⟨0, lp, rfl, .mk rfl, by omega, by omega⟩ (by omega) ?_
      rintro m env A ⟨t, lp, rfl, ⟨g, rfl⟩, ht, hm⟩
      refine ⟨rfl, fun h5 => ?_, fun h5 => ?_⟩
      · have hkL : k * L + t < 64 * 17 := by
          have : k * L ≤ 63 * 16 := Nat.mul_le_mul (by omega) (by omega)
          omega
        have hdiv : ptC L (k * L + t) = [.int .i64 (k : Int), .int .i64 (t : Int)] := by
          have e1 : (k * L + t) / L = k := by rw [Nat.mul_comm, Nat.mul_add_div (by omega), Nat.div_eq_of_lt (by omega)]; omega
          have e2 : (k * L + t) % L = t := by rw [Nat.mul_comm, Nat.mul_add_mod]; exact Nat.mod_eq_of_lt (by omega)
          simp only [ptC, e1, e2]
        have hsucc := ptsF_succ L (k * L + t)
        rw [hdiv] at hsucc
        have hlen := ptsF_len L (k * L + t)
        have he : k * L + (t + 1) = (k * L + t) + 1 := by omega
        generalize hcc : k * L + t = c at *
        cases c with
        | zero =>
          repeat' ((conv => whnf); first | refine ⟨rfl, fun hc => ?_, fun hc => ?_⟩ | refine ⟨fun hc => ?_, fun hc => ?_⟩ | refine ⟨rfl, _, wrap64 (by omega) (by omega), ?_⟩ | refine ⟨_, wrap64 (by omega) (by omega), ?_⟩ | refine ⟨_, wrapU (by omega) (by omega), ?_⟩ | refine ⟨rfl, rfl, ?_⟩ | refine ⟨_, _, _, _, _, gi (by repeat first | exact .hd | apply In.tl), ?_⟩ | refine ⟨_, _, _, _, gi (by repeat first | exact .hd | apply In.tl), ⟨rfl, by exact leb rfl, by exact rfl⟩, ?_⟩ | refine ⟨_, gi (by repeat first | exact .hd | apply In.tl), ?_⟩ | refine ⟨⟨rfl, leb rfl⟩, ?_⟩ | refine ⟨⟨by decide, by decide⟩, ?_⟩ | refine ⟨rfl, ?_⟩ | refine ⟨leb rfl, ?_⟩ | refine ⟨by decide, ?_⟩ | refine .inr ⟨⟨leb rfl, leb rfl, rfl, rfl⟩, ?_⟩ | fail)
          intro lq hlq
          repeat' ((conv => whnf); first | refine ⟨rfl, fun hc => ?_, fun hc => ?_⟩ | refine ⟨fun hc => ?_, fun hc => ?_⟩ | refine ⟨rfl, _, wrap64 (by omega) (by omega), ?_⟩ | refine ⟨_, wrap64 (by omega) (by omega), ?_⟩ | refine ⟨_, wrapU (by omega) (by omega), ?_⟩ | refine ⟨rfl, rfl, ?_⟩ | refine ⟨_, _, _, _, _, gi (by repeat first | exact .hd | apply In.tl), ?_⟩ | refine ⟨_, _, _, _, gi (by repeat first | exact .hd | apply In.tl), ⟨rfl, by exact leb rfl, by exact rfl⟩, ?_⟩ | refine ⟨_, gi (by repeat first | exact .hd | apply In.tl), ?_⟩ | refine ⟨⟨rfl, leb rfl⟩, ?_⟩ | refine ⟨⟨by decide, by decide⟩, ?_⟩ | refine ⟨rfl, ?_⟩ | refine ⟨leb rfl, ?_⟩ | refine ⟨by decide, ?_⟩ | refine .inr ⟨⟨leb rfl, leb rfl, rfl, rfl⟩, ?_⟩ | fail)
          exact ⟨L - (t + 1), _, by omega, .refl _, t + 1, lq, by rw [he]; simp only [PA, hsucc]; rfl, .mk (by rw [he]; rfl), by omega, rfl⟩
        | succ j =>
          repeat' ((conv => whnf); first | refine ⟨rfl, fun hc => ?_, fun hc => ?_⟩ | refine ⟨fun hc => ?_, fun hc => ?_⟩ | refine ⟨rfl, _, wrap64 (by omega) (by omega), ?_⟩ | refine ⟨_, wrap64 (by omega) (by omega), ?_⟩ | refine ⟨_, wrapU (by omega) (by omega), ?_⟩ | refine ⟨rfl, rfl, ?_⟩ | refine ⟨_, _, _, _, _, gi (by repeat first | exact .hd | apply In.tl), ?_⟩ | refine ⟨_, _, _, _, gi (by repeat first | exact .hd | apply In.tl), ⟨rfl, by exact leb rfl, by exact rfl⟩, ?_⟩ | refine ⟨_, gi (by repeat first | exact .hd | apply In.tl), ?_⟩ | refine ⟨⟨rfl, leb rfl⟩, ?_⟩ | refine ⟨⟨by decide, by decide⟩, ?_⟩ | refine ⟨rfl, ?_⟩ | refine ⟨leb rfl, ?_⟩ | refine ⟨by decide, ?_⟩ | refine .inr ⟨⟨leb rfl, leb rfl, rfl, rfl⟩, ?_⟩ | fail)
          refine ⟨1, _, _, rfl, ⟨rfl, by rw [hlen]; omega, rfl, (by show j + 1 + 1 < 4294967296; omega), rfl⟩, .inr ⟨Nat.le_of_ble_eq_true rfl, ?_⟩⟩
          repeat' ((conv => whnf); first | refine ⟨rfl, fun hc => ?_, fun hc => ?_⟩ | refine ⟨fun hc => ?_, fun hc => ?_⟩ | refine ⟨rfl, _, wrap64 (by omega) (by omega), ?_⟩ | refine ⟨_, wrap64 (by omega) (by omega), ?_⟩ | refine ⟨_, wrapU (by omega) (by omega), ?_⟩ | refine ⟨rfl, rfl, ?_⟩ | refine ⟨_, _, _, _, _, gi (by repeat first | exact .hd | apply In.tl), ?_⟩ | refine ⟨_, _, _, _, gi (by repeat first | exact .hd | apply In.tl), ⟨rfl, by exact leb rfl, by exact rfl⟩, ?_⟩ | refine ⟨_, gi (by repeat first | exact .hd | apply In.tl), ?_⟩ | refine ⟨⟨rfl, leb rfl⟩, ?_⟩ | refine ⟨⟨by decide, by decide⟩, ?_⟩ | refine ⟨rfl, ?_⟩ | refine ⟨leb rfl, ?_⟩ | refine ⟨by decide, ?_⟩ | refine .inr ⟨⟨leb rfl, leb rfl, rfl, rfl⟩, ?_⟩ | fail)
          exact ⟨L - (t + 1), _, by omega, .refl _, t + 1, lp, by rw [he]; simp only [PA, hsucc]; rfl, .mk (by rw [he]; rfl), by omega, rfl⟩
      · obtain rfl : t = L := by omega
        have he : (k + 1) * t = k * t + t := Nat.succ_mul k t
        repeat' ((conv => whnf); first | refine ⟨rfl, fun hc => ?_, fun hc => ?_⟩ | refine ⟨fun hc => ?_, fun hc => ?_⟩ | refine ⟨rfl, _, wrap64 (by omega) (by omega), ?_⟩ | refine ⟨_, wrap64 (by omega) (by omega), ?_⟩ | refine ⟨_, wrapU (by omega) (by omega), ?_⟩ | refine ⟨rfl, rfl, ?_⟩ | refine ⟨_, _, _, _, _, gi (by repeat first | exact .hd | apply In.tl), ?_⟩ | refine ⟨_, _, _, _, gi (by repeat first | exact .hd | apply In.tl), ⟨rfl, by exact leb rfl, by exact rfl⟩, ?_⟩ | refine ⟨_, gi (by repeat first | exact .hd | apply In.tl), ?_⟩ | refine ⟨⟨rfl, leb rfl⟩, ?_⟩ | refine ⟨⟨by decide, by decide⟩, ?_⟩ | refine ⟨rfl, ?_⟩ | refine ⟨leb rfl, ?_⟩ | refine ⟨by decide, ?_⟩ | refine .inr ⟨⟨leb rfl, leb rfl, rfl, rfl⟩, ?_⟩ | fail)
        exact ⟨s.runs.length - (k + 1), _, by omega, .refl _, k + 1, lp, by rw [he], .mk (by rw [he]; rfl), by omega, rfl⟩
    · simp only [List.length_map] at h4
      obtain rfl : k = s.runs.length := by omega
      have hnum : numP s = s.runs.length * L := by simp only [numP, h0, if_true, hLn]
      rw [hnum, hLn] at hK
      generalize s.runs.length * L = c at *
      cases c with
      | zero =>
        repeat' ((conv => whnf); first | refine ⟨rfl, fun hc => ?_, fun hc => ?_⟩ | refine ⟨fun hc => ?_, fun hc => ?_⟩ | refine ⟨rfl, _, wrap64 (by omega) (by omega), ?_⟩ | refine ⟨_, wrap64 (by omega) (by omega), ?_⟩ | refine ⟨_, wrapU (by omega) (by omega), ?_⟩ | refine ⟨rfl, rfl, ?_⟩ | refine ⟨_, _, _, _, _, gi (by repeat first | exact .hd | apply In.tl), ?_⟩ | refine ⟨_, _, _, _, gi (by repeat first | exact .hd | apply In.tl), ⟨rfl, by exact leb rfl, by exact rfl⟩, ?_⟩ | refine ⟨_, gi (by repeat first | exact .hd | apply In.tl), ?_⟩ | refine ⟨⟨rfl, leb rfl⟩, ?_⟩ | refine ⟨⟨by decide, by decide⟩, ?_⟩ | refine ⟨rfl, ?_⟩ | refine ⟨leb rfl, ?_⟩ | refine ⟨by decide, ?_⟩ | refine .inr ⟨⟨leb rfl, leb rfl, rfl, rfl⟩, ?_⟩ | fail)
        exact hK _ _ (Fin.frz (FrzL.frz (.cons .nilsl .nil)))
      | succ j =>
        repeat' ((conv => whnf); first | refine ⟨rfl, fun hc => ?_, fun hc => ?_⟩ | refine ⟨fun hc => ?_, fun hc => ?_⟩ | refine ⟨rfl, _, wrap64 (by omega) (by omega), ?_⟩ | refine ⟨_, wrap64 (by omega) (by omega), ?_⟩ | refine ⟨_, wrapU (by omega) (by omega), ?_⟩ | refine ⟨rfl, rfl, ?_⟩ | refine ⟨_, _, _, _, _, gi (by repeat first | exact .hd | apply In.tl), ?_⟩ | refine ⟨_, _, _, _, gi (by repeat first | exact .hd | apply In.tl), ⟨rfl, by exact leb rfl, by exact rfl⟩, ?_⟩ | refine ⟨_, gi (by repeat first | exact .hd | apply In.tl), ?_⟩ | refine ⟨⟨rfl, leb rfl⟩, ?_⟩ | refine ⟨⟨by decide, by decide⟩, ?_⟩ | refine ⟨rfl, ?_⟩ | refine ⟨leb rfl, ?_⟩ | refine ⟨by decide, ?_⟩ | refine .inr ⟨⟨leb rfl, leb rfl, rfl, rfl⟩, ?_⟩ | fail)
        exact hK _ _ (Fin.frz (FrzL.frz (.cons (.row (i := 1) (d := 10) rfl (by have := ptsF_len L (j + 1); unfold cut; rw [if_pos (by omega)]; simp [← this]) (ptsF_self _ _) (ptsF_chunk _ _)) .nil)))
  · repeat' ((conv => whnf); first | refine ⟨rfl, fun hc => ?_, fun hc => ?_⟩ | refine ⟨fun hc => ?_, fun hc => ?_⟩ | refine ⟨rfl, _, wrap64 (by omega) (by omega), ?_⟩ | refine ⟨_, wrap64 (by omega) (by omega), ?_⟩ | refine ⟨_, wrapU (by omega) (by omega), ?_⟩ | refine ⟨rfl, rfl, ?_⟩ | refine ⟨_, _, _, _, _, gi (by repeat first | exact .hd | apply In.tl), ?_⟩ | refine ⟨_, _, _, _, gi (by repeat first | exact .hd | apply In.tl), ⟨rfl, by exact leb rfl, by exact rfl⟩, ?_⟩ | refine ⟨_, gi (by repeat first | exact .hd | apply In.tl), ?_⟩ | refine ⟨⟨rfl, leb rfl⟩, ?_⟩ | refine ⟨⟨by decide, by decide⟩, ?_⟩ | refine ⟨rfl, ?_⟩ | refine ⟨leb rfl, ?_⟩ | refine ⟨by decide, ?_⟩ | refine .inr ⟨⟨leb rfl, leb rfl, rfl, rfl⟩, ?_⟩ | (intro l hl) | refine ⟨_, _, _, true, fun _ H hR => ⟨H, rfl, hR⟩, h13 hf rfl, rfl, ?_⟩ | refine ⟨_, _, _, false, fun _ H hR => ⟨H, rfl, hR⟩, h13 hf rfl, rfl, ?_⟩ | fail)
    · have hnum : numP s = 0 := by simp only [numP, h0, if_false]
      rw [hnum] at hK
      exact hK _ _ (Fin.frz (FrzL.frz (.cons .nilsl .nil)))
    · exact absurd (Classical.byContradiction fun h => hc h) h0
end Go.Proofs.Ytlgbbabijifflaa.runs
set_option linter.unusedVariables false
set_option linter.unusedSimpArgs false
namespace Go.Proofs.Ytlgbbabijifflaa.runs
open Go Go.Ai Go.Proofs.Ytlgbbabijifflaa.L1R
theorem fin1 {A : Ah} {v : AV} (h : selfV v = true) : Fin .iso A [v] [v] := Fin.frz (FrzL.frz (.cons (.self (d := 11) h) .nil))
theorem dAll_inv {α : Type} {d : List AV → Option α} {c : α → List AV} (h : ∀ e x, d e = some x → e = c x) : ∀ {es : List (List AV)} {xs : List α}, dAll d es = some xs → es = xs.map c
  | [], xs, e => by
    simp only [dAll, Option.some.injEq] at e
    subst e; rfl
  | y :: es, xs, e => by
    simp only [dAll, Option.bind_eq_some_iff, Option.map_eq_some_iff] at e
    obtain ⟨x, h1, r, h2, rfl⟩ := e
    rw [h _ _ h1, dAll_inv h h2]; rfl
theorem dInt_inv {e : List AV} {x : Int} (h : dInt e = some x) : e = [.int .i64 x] := by
  unfold dInt at h
  split at h
  · injection h with h; subst h; rfl
  · cases h
theorem dInts_inv {es : List (List AV)} {xs : List Int} (h : dAll dInt es = some xs) : es = intsC xs := dAll_inv (fun _ _ => dInt_inv) h
theorem dLoc_inv {e : List AV} {x : List Int} (h : dLoc e = some x) : e = [.list (intsC x)] := by
  unfold dLoc at h
  split at h
  · rw [dInts_inv h]
  · cases h
theorem dFac_inv {e : List AV} {x : Int} (h : dFac e = some x) : e = [.int .u64 x] := by
  unfold dFac at h
  split at h
  · injection h with h; subst h; rfl
  · cases h
theorem dRun_inv {e : List AV} {x : RunD} (h : dRun e = some x) : e = runC x := by
  unfold dRun at h
  split at h
  · simp only [Option.bind_eq_some_iff, Option.map_eq_some_iff] at h
    obtain ⟨x, h1, y, h2, rfl⟩ := h
    rw [dAll_inv (fun _ _ => dLoc_inv) h1, dAll_inv (fun _ _ => dFac_inv) h2]; rfl
  · cases h
theorem dSys_inv {e : List AV} {x : SysD} (h : dSys e = some x) : e = sysC x := by
  unfold dSys at h
  split at h
  · simp only [Option.map_eq_some_iff] at h
    obtain ⟨y, h1, rfl⟩ := h
    rw [dAll_inv (fun _ _ => dRun_inv) h1]; rfl
  · cases h
theorem nilOk : HandsOk Try.prog (hands []) := hands_ok .nil
theorem c53 : IsoOk Try.prog 53 g53 := iso_of .iso (by decide) mixed nilOk Try.func53 cir53 fun args rs h => by
  unfold g53 at h
  split at h
  · injection h with h; subst h
    exact ⟨0, _, rfl, run53 fun x A e => by subst e; exact fin1 rfl⟩
  · cases h
theorem c55 : IsoOk Try.prog 55 g55 := iso_of .iso (by decide) mixed nilOk Try.func55 cir55 fun args rs h => by
  unfold g55 at h
  split at h
  · split at h
    · rename_i hh
      injection h with h; subst h
      exact ⟨0, _, rfl, run55 hh.1 hh.2.1 hh.2.2 fun x A e => by subst e; exact fin1 rfl⟩
    · cases h
  · cases h
theorem okA : HandsOk Try.prog (hands TA) := hands_ok (.cons c53 (.cons c55 .nil))
theorem c93 : IsoOk Try.prog 93 g93 := iso_of .iso (by decide) mixed okA Try.func93 cir93 fun args rs h => by
  unfold g93 at h
  split at h
  · split at h
    · rename_i hh
      simp only [Bool.and_eq_true, decide_eq_true_eq] at hh
      injection h with h; subst h
      exact ⟨_, _, rfl, run93 (n := 0) hh.1 hh.2 fun x A e => by subst e; exact fin1 rfl⟩
    · cases h
  · cases h
theorem c94 : IsoOk Try.prog 94 g94 := iso_of .iso (by decide) mixed okA Try.func94 cir94 fun args rs h => by
  unfold g94 at h
  split at h
  · split at h
    · rename_i hh
      simp only [Bool.and_eq_true, decide_eq_true_eq] at hh
      injection h with h; subst h
      exact ⟨_, _, rfl, run94 (n := 0) hh.1.1 hh.1.2 hh.2 fun x A e => by subst e; exact fin1 rfl⟩
    · cases h
  · cases h
theorem okB : HandsOk Try.prog (hands TB) := hands_ok (.cons c93 (.cons c94 .nil))
theorem c52 : IsoOk Try.prog 52 g52 := iso_of .iso (by decide) mixed okB Try.func52 cir52 fun args rs h => by
  unfold g52 at h
  split at h
  · split at h
    · rename_i hh
      simp only [Bool.and_eq_true, decide_eq_true_eq] at hh
      injection h with h; subst h
      exact ⟨0, _, rfl, run52 hh.1 hh.2 fun A => fin1 rfl⟩
    · cases h
  · cases h
theorem c54 : IsoOk Try.prog 54 g54 := iso_of .iso (by decide) mixed okB Try.func54 cir54 fun args rs h => by
  unfold g54 at h
  split at h
  · split at h
    · rename_i hh
      simp only [Bool.and_eq_true, decide_eq_true_eq] at hh
      injection h with h; subst h
      exact ⟨0, _, rfl, run54 hh.1.1 hh.1.2 hh.2 fun A => fin1 rfl⟩
    · cases h
  · cases h
theorem okC : HandsOk Try.prog (hands TC) := hands_ok (.cons c52 (.cons c54 .nil))
theorem c13 : IsoOk Try.prog 13 g13 := iso_of .iso (by decide) mixed okC Try.func13 cir13 fun args rs h => by
  unfold g13 at h
  split at h
  · simp only [Option.bind_eq_some_iff] at h
    obtain ⟨s, h1, h⟩ := h
    cases dSys_inv h1
    split at h
    · rename_i hh
      injection h with h; subst h
      exact ⟨_, _, rfl, run13 (n := 0) hh.1 (by have := hh.2.1; omega) hh.2.2 fun x A e => by subst e; exact fin1 rfl⟩
    · cases h
  · cases h
theorem c57n : IsoOk Try.prog 57 (fun _ => none) := iso_of .iso (by decide) mixed nilOk Try.func57 cir57 fun args rs h => by cases h
theorem okD : HandsOk Try.prog (hands TD) := hands_ok (.cons c13 (.cons c57n .nil))
end Go.Proofs.Ytlgbbabijifflaa.runs
