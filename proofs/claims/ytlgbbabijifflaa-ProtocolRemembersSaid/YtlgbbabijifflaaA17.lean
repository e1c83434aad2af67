/- Regions that draw their order. -/
import Derived.Test.YtlgbbabijifflaaA16
set_option linter.unusedVariables false
set_option linter.unusedSimpArgs false
namespace Go.Ai
theorem Agree.both {A : Acc} {H K : Hp} (h : Agree A H K) {l : Nat} (hl : l ∈ A.reads ∨ l ∈ A.writes) : unfO K[l]? = unfO H[l]? := by
  rcases hl with hl | hl
  · exact h.reads l hl
  · rw [h.writes l hl]
theorem acc_loc {hd : Hands} {slot : Nat} {env : List AV} {H K : Hp} {op : IOp} (ha : (accOf hd slot env H op).all = false) (h : Agree (accOf hd slot env H op) H K) : accOf hd slot env K op = accOf hd slot env H op := by
  cases op <;> simp only [accOf] at ha h ⊢
  case load n ag p => rw [reach_eq 1 _ fun l hl => h.both (.inl hl)]
  case slarr n k p lo hi => rw [reach_eq 1 _ fun l hl => h.both (.inl hl)]
  case lookup z ok ks m x => rw [reach_eq 1 _ fun l hl => h.both (.inl hl)]
  case store n p x => rw [reach_eq 1 _ fun l hl => h.both (.inr hl)]
  case mupd ks m x y => rw [reach_eq 1 _ fun l hl => h.both (.inr hl)]
  case clear k z x => rw [reach_eq 1 _ fun l hl => h.both (.inr hl)]
  case append k b s x => rw [reach_eq 1 _ fun l hl => h.both (.inl hl), reach_eq 1 _ fun l hl => h.both (.inr (List.mem_cons_of_mem _ hl))]
  case call f args =>
    split at ha
    · simp at ha
    · rename_i hf
      rw [if_neg hf] at h ⊢
      rw [if_neg hf]
      congr 1
      exact flatMap_congr' fun x hx => reach_eq depth x fun l hl => h.both (.inl (List.mem_flatMap.2 ⟨x, hx, hl⟩))
  case dyn fn args =>
    split at ha
    · rename_i f caps hfn
      split at ha
      · simp at ha
      · rename_i hf
        simp only [hfn, if_neg hf] at h ⊢
        congr 1
        exact flatMap_congr' fun x hx => reach_eq depth x fun l hl => h.both (.inl (List.mem_flatMap.2 ⟨x, hx, hl⟩))
    · simp at ha
theorem ev_congr {env env' : List AV} {x : Ex} (h : ∀ t ∈ x.use, getL env t = getL env' t) : x.ev env = x.ev env' := by
  cases x with
  | t n => exact h n (by simp [Ex.use])
  | c v => rfl
theorem evs_congr {env env' : List AV} : ∀ {xs : List Ex}, (∀ t ∈ usesL xs, getL env t = getL env' t) → xs.map (·.ev env) = xs.map (·.ev env')
  | [], _ => rfl
  | x :: xs, h => by
    simp only [usesL, List.flatMap_cons, List.mem_append] at h
    simp only [List.map_cons, ev_congr fun t ht => h t (.inl ht), evs_congr fun t ht => h t (.inr ht)]
theorem evo_congr {env env' : List AV} {x : Option Ex} (h : ∀ t ∈ useO x, getL env t = getL env' t) : evo env x = evo env' x := by
  cases x with
  | none => rfl
  | some x => simp only [evo, Option.map_some]; rw [ev_congr h]
theorem fill_congr {env env' : List AV} : ∀ (ps : List (Nat × Nat × Ex)) (cs : List AV), (∀ t ∈ ps.flatMap fun p => p.2.2.use, getL env t = getL env' t) → fillP env cs ps = fillP env' cs ps
  | [], cs, _ => rfl
  | (off, n, x) :: r, cs, h => by
    simp only [List.flatMap_cons, List.mem_append] at h
    simp only [fillP, ev_congr fun t ht => h t (.inl ht)]
    split
    · split
      · exact fill_congr r _ fun t ht => h t (.inr ht)
      · rfl
    · rfl
theorem evalP_congr {env env' : List AV} {op : IOp} (h : ∀ t ∈ op.uses, getL env t = getL env' t) : evalP env op = evalP env' op := by
  cases op <;> simp only [IOp.uses, List.mem_append] at h <;> simp only [evalP]
  case mov x => rw [ev_congr h]
  case pick c a b => rw [ev_congr fun t ht => h t (.inl ht), ev_congr fun t ht => h t (.inr (.inl ht)), ev_congr fun t ht => h t (.inr (.inr ht))]
  case bin op x y => rw [ev_congr fun t ht => h t (.inl ht), ev_congr fun t ht => h t (.inr ht)]
  case eqs n ks x y => rw [ev_congr fun t ht => h t (.inl ht), ev_congr fun t ht => h t (.inr ht)]
  case eqn k n x => rw [ev_congr h]
  case eqb n x y => rw [ev_congr fun t ht => h t (.inl ht), ev_congr fun t ht => h t (.inr ht)]
  case un op x => rw [ev_congr h]
  case conv k x => rw [ev_congr h]
  case nilck x => rw [ev_congr h]
  case extract x i => rw [ev_congr h]
  case build z ps => rw [fill_congr ps z h]
  case field o n a x => rw [ev_congr h]
  case faddr o x => rw [ev_congr h]
  case iaddr k x i => rw [ev_congr fun t ht => h t (.inl ht), ev_congr fun t ht => h t (.inr ht)]
  case iarr n k x i => rw [ev_congr fun t ht => h t (.inl ht), ev_congr fun t ht => h t (.inr ht)]
  case idxs x i => rw [ev_congr fun t ht => h t (.inl ht), ev_congr fun t ht => h t (.inr ht)]
  case idxa n k a x i => rw [ev_congr fun t ht => h t (.inl ht), ev_congr fun t ht => h t (.inr ht)]
  case slice k x lo hi => rw [ev_congr fun t ht => h t (.inl ht), evo_congr fun t ht => h t (.inr (.inl ht)), evo_congr fun t ht => h t (.inr (.inr ht))]
  case slstr x lo hi => rw [ev_congr fun t ht => h t (.inl ht), evo_congr fun t ht => h t (.inr (.inl ht)), evo_congr fun t ht => h t (.inr (.inr ht))]
  case len x => rw [ev_congr h]
  case lens x => rw [ev_congr h]
  case maxi xs => rw [evs_congr h]
  case mini xs => rw [evs_congr h]
  case mkfn f xs => rw [evs_congr h]
theorem evalH_congr {hd : Hands} {slot : Option Nat} {H : Hp} {env env' : List AV} {op : IOp} (h : ∀ t ∈ op.uses, getL env t = getL env' t) : evalH hd slot env H op = evalH hd slot env' H op := by
  by_cases hq : op.heapy = false ∧ op.calls = false
  · rw [evalH_pure hq.1 hq.2, evalH_pure hq.1 hq.2, evalP_congr h]
  cases op <;> simp only [IOp.heapy, IOp.calls, and_self, not_true_eq_false, Bool.true_eq_false, false_and, and_false, not_false_eq_true] at hq <;> simp only [IOp.uses, List.mem_append] at h <;> simp only [evalH]
  case tlit n k z ps => simp only [hTlit, pTlit]; rw [fill_congr ps _ h]
  case rlit n k z ps => simp only [hRlit]; rw [fill_congr ps _ h]
  case box n x => rw [ev_congr h]
  case load n a x => rw [ev_congr h]
  case store n p x => rw [ev_congr fun t ht => h t (.inl ht), ev_congr fun t ht => h t (.inr ht)]
  case mslice k b z l c => rw [ev_congr fun t ht => h t (.inl ht), ev_congr fun t ht => h t (.inr ht)]
  case slarr n k x lo hi => rw [ev_congr fun t ht => h t (.inl ht), evo_congr fun t ht => h t (.inr (.inl ht)), evo_congr fun t ht => h t (.inr (.inr ht))]
  case lookup z ok ks m x => rw [ev_congr fun t ht => h t (.inl ht), ev_congr fun t ht => h t (.inr ht)]
  case mupd ks m x v => rw [ev_congr fun t ht => h t (.inl ht), ev_congr fun t ht => h t (.inr (.inl ht)), ev_congr fun t ht => h t (.inr (.inr ht))]
  case append k b s x => rw [ev_congr fun t ht => h t (.inl ht), ev_congr fun t ht => h t (.inr ht)]
  case clear k z x => rw [ev_congr h]
  case call f xs => rw [evs_congr h]
  case dyn fn xs => rw [ev_congr fun t ht => h t (.inl ht), evs_congr fun t ht => h t (.inr ht)]
theorem accOf_congr {hd : Hands} {slot : Nat} {H : Hp} {env env' : List AV} {op : IOp} (h : ∀ t ∈ op.uses, getL env t = getL env' t) : accOf hd slot env H op = accOf hd slot env' H op := by
  cases op <;> simp only [IOp.uses, List.mem_append] at h <;> simp only [accOf]
  case load n a x => rw [ev_congr h]
  case store n p x => rw [ev_congr fun t ht => h t (.inl ht)]
  case slarr n k x lo hi => rw [ev_congr fun t ht => h t (.inl ht)]
  case lookup z ok ks m x => rw [ev_congr fun t ht => h t (.inl ht)]
  case mupd ks m x v => rw [ev_congr fun t ht => h t (.inl ht)]
  case append k b s x => rw [ev_congr fun t ht => h t (.inl ht), ev_congr fun t ht => h t (.inr ht)]
  case clear k z x => rw [ev_congr h]
  case call f xs => rw [evs_congr h]
  case dyn fn xs => rw [ev_congr fun t ht => h t (.inl ht), evs_congr fun t ht => h t (.inr ht)]
end Go.Ai
