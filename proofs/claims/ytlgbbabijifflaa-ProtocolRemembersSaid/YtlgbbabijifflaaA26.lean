/- Contracts of library functions: slices.Clone. -/
import Derived.Test.YtlgbbabijifflaaA25
set_option linter.unusedVariables false
set_option linter.unusedSimpArgs false
namespace Go.Ai
open Go.RowKit
/-- Temporaries of which some are not known. -/
def IEnv (L : (Nat → AV) → List AV) (env : List AV) : Prop := ∃ g, env = L g
theorem IEnv.mk {L : (Nat → AV) → List AV} {env : List AV} (h : env = L (getL env)) : IEnv L env := ⟨_, h⟩
theorem Fin.thaw {A : Ah} {rs' rs : List AV} (h : ∀ H, Rep A H → ∃ H1, mapH thawV H rs' = some (rs, H1)) : Fin .thaw A rs' rs := fun H hR => by
  obtain ⟨H1, e⟩ := h H hR
  simp only [finish, if_true, e, Option.map_some]
/-- Values that freeze to themselves, and freeze nothing. -/
def selfV : AV → Bool
  | .int _ _ => true
  | .bool _ => true
  | .str _ => true
  | .list _ => true
  | .fptr _ _ _ => true
  | .nilptr => true
  | .nilfn => true
  | _ => false
theorem freeze_self {d : Nat} {H : Hp} {v : AV} (h : selfV v = true) : freezeV (d + 1) H v = some (v, H) := by
  cases v <;> first | rfl | (simp [selfV] at h)
theorem freeze_selfs {d : Nat} {H : Hp} : ∀ (l : List AV), l.all selfV = true → mapH (freezeV (d + 1)) H l = some (l, H)
  | [], _ => rfl
  | x :: l, h => by
    simp only [List.all_cons, Bool.and_eq_true] at h
    simp only [mapH, freeze_self h.1, freeze_selfs l h.2]
theorem freeze_rows {d : Nat} {H : Hp} : ∀ (l : List (List AV)), (∀ e ∈ l, e.all selfV = true) → mapH (mapH (freezeV (d + 1))) H l = some (l, H)
  | [], _ => rfl
  | e :: l, h => by
    simp only [mapH, freeze_selfs e (h e (by simp)), freeze_rows l fun e he => h e (by simp [he])]
theorem chunk_flat {k : Nat} : ∀ (es : List (List AV)), (∀ e ∈ es, e.length = k) → chunk k es.length es.flatten = es
  | [], _ => rfl
  | e :: es, h => by
    have h0 := h e (by simp)
    simp only [List.length_cons, chunk, List.flatten_cons]
    rw [List.take_left' h0, List.drop_left' h0, chunk_flat es fun e he => h e (by simp [he])]
/-- The code of slices.Clone: elements of k cells. -/
def cloneIR (k bytes : Nat) (z : List AV) : IFunc := ⟨8, [.tmp 2],
  .seq (.region [⟨some 2, none, .mov (.c .nilsl)⟩])
   (.seq (.seq (.region [⟨some 3, none, .mov (.t 0)⟩,
    ⟨some 4, none, .eqn 0 false (.t 3)⟩])
   (.cond (.t 4) (.seq (.region [⟨some 2, none, .mov (.c .nilsl)⟩])
   (.ret)) (.skip)))
   (.seq (.region [⟨some 5, none, .rlit 0 k z []⟩,
    ⟨some 6, none, .mov (.t 0)⟩,
    ⟨some 7, none, .append k bytes (.t 5) (.t 6)⟩,
    ⟨some 2, none, .mov (.t 7)⟩])
   (.ret)))⟩
/-- What can be cloned: elements of k cells, which freeze to themselves. -/
def cloneOk (k : Nat) (es : List (List AV)) : Bool := es.length < most && es.all fun e => e.length == k && e.all fun x => selfV x && AV.one x
def cloneG (k : Nat) (args : List AV) : Option (List AV) := match args with
  | [.list []] => some [.mt]
  | [.list (e :: es)] => if cloneOk k (e :: es) then some [.own k (e :: es)] else none
  | _ => none
theorem clone_run {k bytes : Nat} {z : List AV} {e : List AV} {es : List (List AV)} (h : cloneOk k (e :: es) = true) : aB (hands []) 1 (cloneIR k bytes z) (.list (e :: es) :: .undef :: .undef :: .undef :: .undef :: .undef :: .undef :: .undef :: []) [] fun rs' A => Fin .thaw A rs' [.own k (e :: es)] := by
  simp only [cloneOk, Bool.and_eq_true, decide_eq_true_eq, List.all_eq_true, beq_iff_eq] at h
  obtain ⟨h1, h2⟩ := h
  have hk : ∀ x ∈ e :: es, x.length = k := fun x hx => (h2 x hx).1
  have hf := (flat_get (e :: es) hk).1
  refine ⟨rfl, .inr ⟨⟨by simp, h1, hf, List.all_eq_true.2 fun x hx => ?_⟩, fun l _ => ?_⟩⟩
  · obtain ⟨r, hr, hx⟩ := List.mem_flatten.1 hx
    exact ((h2 r hr).2 x hx).2
  · refine Fin.thaw fun H hR => ?_
    have hl : H[l]? = some (some (.cells (e :: es).flatten k 1 true false)) := hR.get (l, _) (List.mem_singleton.2 rfl)
    refine ⟨H.set l none, ?_⟩
    simp only [mapH, thawV, getC, hl, Option.bind_some, fSet_eq]
    rw [if_pos ⟨trivial, trivial, trivial, trivial, hf.symm⟩, show ((e :: es).length : Nat) = (e :: es).length from rfl]
    have := chunk_flat (e :: es) hk
    simp only [this]
    have hr := freeze_rows (d := 11) (H := H.set l none) (e :: es) fun r hr => List.all_eq_true.2 fun x hx => ((h2 r hr).2 x hx).1
    rw [show depth = 11 + 1 from rfl, hr]
    rfl
section
variable {P : Program}
theorem clone_ok {f : Nat} {fn : Func} {k bytes : Nat} {z : List AV} (hm : P.follows .mixedOrders = true) (hfn : P.funcs[f]? = some fn) (hc : compile P fn = some (cloneIR k bytes z)) : IsoOk P f (cloneG k) := by
  have hen := compile_enters hfn hc
  have hh : HandsOk P (hands []) := hands_ok .nil
  refine ⟨hen, fun Pr w args vs rs hp ha hg => ?_⟩
  unfold cloneG at hg
  split at hg
  · injection hg with hg
    subst hg
    have hsz : vs.size = 1 := by simpa using ha.1.symm
    obtain ⟨u, rfl⟩ : ∃ u, vs = #[u] := ⟨vs[0], by apply Array.ext <;> simp [hsz]; intro i hi; obtain rfl : i = 0 := by omega
                                                   rfl⟩
    have hu : PR Pr w (.list []) u := ha.2 0 _ u rfl rfl
    obtain ⟨A, c, rfl, hc0⟩ : ∃ A c, u = .slice A 0 c ∧ (A = none → c = 0) := by
      generalize hx : AV.list [] = x at hu
      cases hu <;> simp at hx
      · rename_i A c h; exact ⟨A, c, rfl, h⟩
      · subst hx; exact ⟨_, _, rfl, fun h => by cases h⟩
    have conv : ∀ (v : AV) (h1 : evalB (hands []) 1 (cloneIR k bytes z) [v] [] = some ([if A = none then .nilsl else .mtn], [])), PR Pr w v (.slice A 0 c) → Calls P f #[.slice A 0 c] w (IsoPost Pr w [.mt]) := fun v h1 hv => by
      have h2 : finish .thaw ([if A = none then AV.nilsl else .mtn], []) = some [if A = none then .nilsl else .mtn] := by
        split <;> rfl
      refine (iso_core (how := .thaw) (by simp) hm hh hfn hc h1 h2 hp ⟨rfl, fun i x u hx hu => by cases i <;> simp at hx hu; subst hx hu; exact hv⟩).mono ?_
      rintro e w' ⟨us, rfl, Pr', p1, p2, p3, p4, p5, blk, p6, p7⟩
      refine ⟨us, rfl, Pr', p1, p2, p3, p4, by simpa using p5, blk, fun i v u hv hu => ?_, fun i j v v' hv hv' ho => ?_⟩
      · cases i <;> simp at hv
        subst hv
        have := p6 0 _ u rfl hu
        split at this
        · simp only [RetR] at this ⊢
          generalize hx : AV.nilsl = x at this
          cases this <;> simp at hx
          exact .mt none
        · simp only [RetR] at this ⊢
          generalize hx : AV.mtn = x at this
          cases this <;> simp at hx
          exact .mt _
      · cases i <;> simp at hv
        subst hv
        simp [isOwn] at ho
    cases A with
    | none =>
      obtain rfl := hc0 rfl
      exact conv .nilsl rfl .nilsl
    | some a => exact conv .emp rfl (.emp a c)
  · rename_i e es
    split at hg
    · rename_i hok
      injection hg with hg
      subst hg
      obtain ⟨rs', H', h1, A', hR, h2⟩ := aB_out (F := []) (args := [.list (e :: es)]) rfl RepF.nil (clone_run (k := k) (bytes := bytes) (z := z) hok)
      exact iso_core (how := .thaw) (by simp) hm hh hfn hc h1 (h2 H' hR.base) hp ha
    · cases hg
  · cases hg
/-- The same, its result written no more. -/
def cloneF (k : Nat) (args : List AV) : Option (List AV) := match args with
  | [.list es] => if cloneOk k es && es.all fun e => e.all flat1 then some [.list es] else none
  | _ => none
theorem FreshOk.weaken {f : Nat} {g g' : List AV → Option (List AV)} (h : FreshOk P f g) (hw : ∀ args rs, g' args = some rs → ∃ rs', g args = some rs' ∧ rs.length = rs'.length ∧ ∀ Pr w (i : Nat) (v v' : AV) (u : Value), rs[i]? = some v → rs'[i]? = some v' → PR Pr w v' u → PR Pr w v u) : FreshOk P f g' := by
  refine ⟨h.1, fun Pr w args vs rs hp ha hg => ?_⟩
  obtain ⟨rs', h1, h2, h3⟩ := hw args rs hg
  refine (h.2 Pr w args vs rs' hp ha h1).mono ?_
  rintro e w' ⟨us, rfl, hb, Pr', p1, p2, p3⟩
  refine ⟨us, rfl, hb, Pr', p1, h2.trans p2, fun i v u hv hu => ?_⟩
  have hi : i < rs'.length := by rw [← h2]; exact (List.getElem?_eq_some_iff.1 hv).1
  exact h3 Pr' w' i v _ u hv (List.getElem?_eq_getElem hi) (p3 i _ u (List.getElem?_eq_getElem hi) hu)
theorem cloneF_ok {f : Nat} {fn : Func} {k bytes : Nat} {z : List AV} (hm : P.follows .mixedOrders = true) (hfn : P.funcs[f]? = some fn) (hc : compile P fn = some (cloneIR k bytes z)) : FreshOk P f (cloneF k) := by
  refine (fresh_of (clone_ok hm hfn hc)).weaken fun args rs h => ?_
  unfold cloneF at h
  split at h
  · rename_i es
    split at h
    · rename_i hok
      injection h with h
      subst h
      simp only [Bool.and_eq_true] at hok
      cases es with
      | nil => exact ⟨[.mt], rfl, rfl, fun Pr w i v v' u hv hv' hp => by
          cases i <;> simp at hv hv'
          subst hv hv'
          generalize hx : AV.mt = x at hp
          cases hp <;> simp at hx
          exact .list0 _ _ fun _ => rfl⟩
      | cons e es => exact ⟨[.list (e :: es)], by simp only [cloneG, hok.1, if_true, Option.bind_some]; simp only [List.all_cons, List.all_nil, Bool.and_true, flatV, hok.2, if_true]; rfl, rfl, fun Pr w i v v' u hv hv' hp => by
          rw [hv] at hv'; injection hv' with hv'; subst hv'; exact hp⟩
    · cases h
  · cases h
end
end Go.Ai
