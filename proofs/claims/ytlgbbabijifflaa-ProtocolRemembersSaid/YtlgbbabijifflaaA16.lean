/- Each operation has to do with what 'accOf' says, and with nothing else. -/
import Derived.Test.YtlgbbabijifflaaA15
set_option linter.unusedVariables false
set_option linter.unusedSimpArgs false
namespace Go.Ai
structure Agree (A : Acc) (H H2 : Hp) : Prop where
  len : H2.length = H.length
  writes : ∀ l ∈ A.writes, H2[l]? = H[l]?
  reads : ∀ l ∈ A.reads, unfO H2[l]? = unfO H[l]?
/-- Off the writes: the flags of F set, nothing else. -/
def Off (A : Acc) (F : List Nat) (H H' : Hp) : Prop := H'.length = H.length ∧ ∀ l : Nat, l ∉ A.writes → H'[l]? = if l ∈ F then frzO H[l]? else H[l]?
def Loc (A : Acc) (f : Hp → Option (AV × Hp)) (v : AV) (H H' : Hp) : Prop :=
  ∃ F : List Nat, (∀ l ∈ F, l ∈ A.reads) ∧ Off A F H H' ∧ ∀ H2, Agree A H H2 → ∃ H2', f H2 = some (v, H2') ∧ Off A F H2 H2' ∧ ∀ l ∈ A.writes, H2'[l]? = H'[l]?
/-- Nothing is written. -/
theorem Loc.same {A : Acc} {f : Hp → Option (AV × Hp)} {v : AV} {H : Hp} (h : ∀ H2, Agree A H H2 → f H2 = some (v, H2)) : Loc A f v H H :=
  ⟨[], fun l hl => by simp at hl, ⟨rfl, fun l _ => by simp⟩, fun H2 h2 => ⟨H2, h H2 h2, ⟨rfl, fun l _ => by simp⟩, h2.writes⟩⟩
/-- One place is written. -/
theorem Loc.put {A : Acc} {f : Hp → Option (AV × Hp)} {v : AV} {H : Hp} {l : Nat} {o : Option LObj} (hl : l ∈ A.writes) (h : ∀ H2, Agree A H H2 → f H2 = some (v, H2.set l o)) : Loc A f v H (H.set l o) := by
  have off : ∀ H : Hp, Off A [] H (H.set l o) := fun H => ⟨by simp, fun i hi => by
    have : l ≠ i := by rintro rfl; exact hi hl
    rw [List.getElem?_set_ne this]; simp⟩
  refine ⟨[], fun l hl => by simp at hl, off H, fun H2 h2 => ⟨_, h H2 h2, off H2, fun i hi => ?_⟩⟩
  rw [List.getElem?_set, List.getElem?_set, h2.len, h2.writes i hi]
theorem newAt_loc {slot : Nat} {o : LObj} {H H' : Hp} {l : Nat} (h : newAt (some slot) o H = some (l, H')) : l = slot ∧ H[slot]? = some none ∧ H' = H.set slot (some o) ∧ ∀ H2 : Hp, H2[slot]? = some none → newAt (some slot) o H2 = some (slot, H2.set slot (some o)) := by
  simp only [newAt, fO_eq, fSet_eq] at h ⊢
  split at h
  · rename_i hs
    simp only [Option.some.injEq, Prod.mk.injEq] at h
    obtain ⟨rfl, rfl⟩ := h
    exact ⟨rfl, hs, rfl, fun H2 h2 => by rw [h2]⟩
  · cases h
theorem takeIn_loc {slot : Nat} : ∀ (rs : List AV) (H H' : Hp) (vs : List AV), takeIn (some slot) H rs = some (vs, H') →
    (H' = H ∧ ∀ H2, takeIn (some slot) H2 rs = some (vs, H2)) ∨ (∃ o, H[slot]? = some none ∧ H' = H.set slot (some o) ∧ ∀ H2 : Hp, H2[slot]? = some none → takeIn (some slot) H2 rs = some (vs, H2.set slot (some o)))
  | [], H, H', vs, h => by
    simp only [takeIn, Option.some.injEq, Prod.mk.injEq] at h
    obtain ⟨rfl, rfl⟩ := h
    exact .inl ⟨rfl, fun H2 => rfl⟩
  | v :: r, H, H', vs, h => by
    by_cases hv : isOwn v = true
    · cases v <;> simp only [isOwn, Bool.false_eq_true] at hv
      rename_i k es
      simp only [takeIn] at h
      obtain ⟨⟨l, H1⟩, hnew, h⟩ := Option.bind_eq_some_iff.1 h
      simp only [Option.map_eq_some_iff, Prod.mk.injEq] at h
      obtain ⟨⟨vs', H2⟩, hT, rfl, rfl⟩ := h
      obtain ⟨rfl, n1, rfl, n3⟩ := newAt_loc hnew
      have hlt : l < H.length := (List.getElem?_eq_some_iff.1 n1).1
      rcases takeIn_loc r _ _ _ hT with ⟨h1, h2⟩ | ⟨o, h1, _⟩
      · refine .inr ⟨_, n1, h1, fun K hK => ?_⟩
        simp only [takeIn, n3 K hK, Option.bind_some, h2, Option.map_some]
      · simp [hlt] at h1
    · have heq : ∀ H, takeIn (some slot) H (v :: r) = (takeIn (some slot) H r).map fun q => (v :: q.1, q.2) := fun H => by
        cases v <;> first | rfl | (simp [isOwn] at hv)
      rw [heq] at h
      simp only [Option.map_eq_some_iff, Prod.mk.injEq] at h
      obtain ⟨⟨vs', H2⟩, hT, rfl, rfl⟩ := h
      rcases takeIn_loc r _ _ _ hT with ⟨h1, h2⟩ | ⟨o, h1, h2, h3⟩
      · exact .inl ⟨h1, fun K => by rw [heq, h2]; rfl⟩
      · exact .inr ⟨o, h1, h2, fun K hK => by rw [heq, h3 K hK]; rfl⟩
/-- A call of an isolated function. -/
theorem doCall_loc {hd : Hands} {slot f : Nat} {args : List AV} {H H' : Hp} {v : AV} (hf : hd.how f ≠ .shared) (h : doCall hd (some slot) f args H = some (v, H')) :
    Loc ⟨args.flatMap (reachV depth H), [slot], false⟩ (doCall hd (some slot) f args) v H H' := by
  simp only [doCall, if_neg hf] at h
  split at h
  · rename_i hfr
    obtain ⟨⟨as, Ha⟩, hfz, h⟩ := Option.bind_eq_some_iff.1 h
    simp only [Option.map_eq_some_iff, Prod.mk.injEq] at h
    obtain ⟨rs, hrs, rfl, rfl⟩ := h
    obtain ⟨F, a1, a2, a3⟩ := mapH_loc (S := fun l => l ∈ args.flatMap (reachV depth H)) args H Ha as hfz fun x hx K K' y hu h1 => freezeV_loc depth x K K' y _ h1 (by
      rw [reach_eq depth x fun l _ => hu l]
      exact fun l hl => List.mem_flatMap.2 ⟨x, hx, hl⟩)
    refine Loc.same fun K hK => ?_
    obtain ⟨K', b1, b2⟩ := a3 K hK.reads
    simp only [doCall, if_neg hf, if_pos hfr, b1, Option.bind_some, hrs, Option.map_some]
  rename_i hfr
  obtain ⟨⟨as, Ha⟩, hfz, h⟩ := Option.bind_eq_some_iff.1 h
  obtain ⟨rs, hrs, h⟩ := Option.bind_eq_some_iff.1 h
  simp only [Option.map_eq_some_iff, Prod.mk.injEq] at h
  obtain ⟨⟨ws, H1⟩, hT, rfl, rfl⟩ := h
  simp only at hrs hT
  obtain ⟨F, a1, a2, a3⟩ := mapH_loc (S := fun l => l ∈ args.flatMap (reachV depth H)) args H Ha as hfz fun x hx K K' y hu h1 => freezeV_loc depth x K K' y _ h1 (by
    rw [reach_eq depth x fun l _ => hu l]
    exact fun l hl => List.mem_flatMap.2 ⟨x, hx, hl⟩)
  have run : ∀ K K' ws' K1, mapH (freezeV depth) K args = some (as, K') → takeIn (some slot) (if rs.all flatV then K else K') rs = some (ws', K1) → doCall hd (some slot) f args K = some (pack ws', K1) := fun K K' ws' K1 e1 e2 => by
    simp only [doCall, if_neg hf, if_neg hfr, e1, Option.bind_some, hrs, e2, Option.map_some]
  by_cases hflat : rs.all flatV = true
  · rw [if_pos hflat] at hT
    rcases takeIn_loc rs _ _ _ hT with ⟨h1, h2⟩ | ⟨o, h1, h2, h3⟩
    · subst h1
      refine Loc.same fun K hK => ?_
      obtain ⟨K', b1, b2⟩ := a3 K hK.reads
      exact run K K' ws K b1 (by rw [if_pos hflat]; exact h2 K)
    · subst h2
      refine Loc.put (by simp) fun K hK => ?_
      obtain ⟨K', b1, b2⟩ := a3 K hK.reads
      exact run K K' ws _ b1 (by rw [if_pos hflat]; exact h3 K (by rw [hK.writes slot (by simp)]; exact h1))
  · rw [if_neg hflat] at hT
    refine ⟨F, a1, ?_⟩
    rcases takeIn_loc rs _ _ _ hT with ⟨h1, h2⟩ | ⟨o, h1, h2, h3⟩
    · subst h1
      refine ⟨⟨a2.1, fun l _ => a2.2 l⟩, fun K hK => ?_⟩
      obtain ⟨K', b1, b2⟩ := a3 K hK.reads
      refine ⟨K', run K K' ws K' b1 (by rw [if_neg hflat]; exact h2 K'), ⟨b2.1, fun l _ => b2.2 l⟩, fun l hl => ?_⟩
      simp only [List.mem_singleton] at hl
      subst hl
      rw [b2.2, a2.2, hK.writes l (by simp)]
    · subst h2
      have off : ∀ K K' : Hp, Flag F K K' → Off ⟨args.flatMap (reachV depth H), [slot], false⟩ F K (K'.set slot (some o)) := fun K K' hfl => ⟨by simp [hfl.1], fun l hl => by
        rw [List.getElem?_set_ne (by simp at hl; exact fun e => hl e.symm)]; exact hfl.2 l⟩
      refine ⟨off _ _ a2, fun K hK => ?_⟩
      obtain ⟨K', b1, b2⟩ := a3 K hK.reads
      have hs : K'[slot]? = Ha[slot]? := by rw [b2.2, a2.2, hK.writes slot (by simp)]
      refine ⟨_, run K K' ws _ b1 (by rw [if_neg hflat]; exact h3 K' (by rw [hs]; exact h1)), off _ _ b2, fun l hl => ?_⟩
      simp only [List.mem_singleton] at hl
      subst hl
      have hl1 : l < Ha.length := (List.getElem?_eq_some_iff.1 h1).1
      have hl2 : l < K'.length := (List.getElem?_eq_some_iff.1 (hs.trans h1)).1
      simp [hl1, hl2]
theorem slot_unf {H H2 : Hp} {l : Nat} (h : unfO H2[l]? = unfO H[l]?) {cs : List AV} {k g : Nat} {r f : Bool} (hc : H[l]? = some (some (.cells cs k g r f))) : ∃ f', H2[l]? = some (some (.cells cs k g r f')) := by
  obtain ⟨f', h1⟩ : ∃ f', getC H2 l = some (cs, k, g, r, f') := getC_unf' h (f := f) (by simp only [getC, hc])
  exact ⟨f', getC_some h1⟩
theorem slot_map {H H2 : Hp} {l : Nat} (h : unfO H2[l]? = unfO H[l]?) {es : List (AV × AV)} (hc : H[l]? = some (some (.mp es))) : H2[l]? = some (some (.mp es)) := by
  rw [hc] at h
  cases h2 : H2[l]? with
  | none => rw [h2] at h; simp [unfO] at h
  | some o => cases o with
    | none => rw [h2] at h; simp [unfO] at h
    | some o => cases o with
      | cells => rw [h2] at h; simp [unfO, unfL] at h
      | mp es' => rw [h2] at h; simp [unfO, unfL] at h; rw [h]
theorem mem_reach_ptr {H : Hp} {l o g : Nat} (d : Nat) : l ∈ reachV (d + 1) H (.ptr l o g) := by simp [reachV]
theorem mem_reach_ref {H : Hp} {l o n g k : Nat} (d : Nat) : l ∈ reachV (d + 1) H (.ref l o n g k) := by simp [reachV]
theorem mem_reach_map {H : Hp} {l : Nat} (d : Nat) : l ∈ reachV (d + 1) H (.map l) := by simp [reachV]
theorem load_loc {H H' : Hp} {n : Nat} {ag : Bool} {p v : AV} (h : hLoad H n ag p = some (v, H')) : Loc ⟨reachV 1 H p, [], false⟩ (fun H => hLoad H n ag p) v H H' := by
  unfold hLoad at h
  split at h
  · obtain ⟨c, h1, h⟩ := Option.bind_eq_some_iff.1 h
    obtain ⟨c', h2, h⟩ := Option.bind_eq_some_iff.1 h
    simp only [Option.map_eq_some_iff, Prod.mk.injEq] at h
    obtain ⟨v', h3, rfl, rfl⟩ := h
    exact Loc.same fun K hK => by simp [hLoad, h1, h2, h3]
  · obtain ⟨c, h1, h⟩ := Option.bind_eq_some_iff.1 h
    obtain ⟨c', h2, h⟩ := Option.bind_eq_some_iff.1 h
    simp only [Option.map_eq_some_iff, Prod.mk.injEq] at h
    obtain ⟨v', h3, rfl, rfl⟩ := h
    exact Loc.same fun K hK => by simp [hLoad, h1, h2, h3]
  · rename_i l o g
    split at h
    · rename_i cs k g' row frz hl
      split at h
      · rename_i hg
        obtain ⟨c, h1, h⟩ := Option.bind_eq_some_iff.1 h
        simp only [Option.map_eq_some_iff, Prod.mk.injEq] at h
        obtain ⟨v', h3, rfl, rfl⟩ := h
        refine Loc.same fun K hK => ?_
        obtain ⟨f', hK2⟩ := slot_unf (hK.reads l (by simp [reachV])) hl
        simp [hLoad, hK2, hg, h1, h3]
      · cases h
    · cases h
  · cases h
theorem slarr_loc {H H' : Hp} {n k : Nat} {p v : AV} {lo hi : Option AV} (h : hSlarr H n k p lo hi = some (v, H')) : Loc ⟨reachV 1 H p, [], false⟩ (fun H => hSlarr H n k p lo hi) v H H' := by
  unfold hSlarr at h
  split at h
  · rename_i l o g
    split at h
    · rename_i cs k' g' row frz hl
      split at h
      · rename_i hg
        simp only [Option.map_eq_some_iff, Prod.mk.injEq] at h
        obtain ⟨v', h3, rfl, rfl⟩ := h
        refine Loc.same fun K hK => ?_
        obtain ⟨f', hK2⟩ := slot_unf (hK.reads l (by simp [reachV])) hl
        simp only [hSlarr, hK2, if_pos hg, h3, Option.map_some]
      · cases h
    · cases h
  · cases h
theorem lookup_loc {H H' : Hp} {z m x v : AV} {ok : Bool} {ks : Option (List Nat)} (h : hLookup H z ok ks m x = some (v, H')) : Loc ⟨reachV 1 H m, [], false⟩ (fun H => hLookup H z ok ks m x) v H H' := by
  unfold hLookup at h
  split at h
  · rename_i l
    split at h
    · rename_i es hl
      split at h
      · cases h
      · rename_i hok
        simp only [Option.map_eq_some_iff, Prod.mk.injEq] at h
        obtain ⟨r, h3, rfl, rfl⟩ := h
        refine Loc.same fun K hK => ?_
        have hK2 := slot_map (hK.reads l (by simp [reachV])) hl
        simp only [hLookup, hK2, if_neg hok, h3, Option.map_some]
    · cases h
  · cases h
theorem store_loc {H H' : Hp} {n : Nat} {p x v : AV} (h : hStore H n p x = some (v, H')) : Loc ⟨[], reachV 1 H p, false⟩ (fun H => hStore H n p x) v H H' := by
  unfold hStore at h
  split at h
  · rename_i l o g
    split at h
    · rename_i cs k g' row frz hl
      split at h
      · rename_i ys hy
        split at h
        · rename_i hc
          simp only [setH, fO_eq, fSet_eq, Option.some.injEq, Prod.mk.injEq] at h
          obtain ⟨rfl, rfl⟩ := h
          refine Loc.put (by simp [reachV]) fun K hK => ?_
          have hK2 := (hK.writes l (by simp [reachV])).trans hl
          simp only [hStore, hK2, hy, if_pos hc, setH, fO_eq, fSet_eq]
        · cases h
      · cases h
    · cases h
  · cases h
theorem mupd_loc {H H' : Hp} {m x y v : AV} {ks : Option (List Nat)} (h : hMupd H ks m x y = some (v, H')) : Loc ⟨[], reachV 1 H m, false⟩ (fun H => hMupd H ks m x y) v H H' := by
  unfold hMupd at h
  split at h
  · rename_i l
    split at h
    · rename_i es hl
      split at h
      · cases h
      · rename_i hok
        obtain ⟨es', h1, h⟩ := Option.bind_eq_some_iff.1 h
        simp only [setH, fO_eq, fSet_eq, Option.some.injEq, Prod.mk.injEq] at h
        obtain ⟨rfl, rfl⟩ := h
        refine Loc.put (by simp [reachV]) fun K hK => ?_
        have hK2 := (hK.writes l (by simp [reachV])).trans hl
        simp only [hMupd, hK2, if_neg hok, h1, Option.bind_some, setH, fO_eq, fSet_eq]
    · cases h
  · cases h
theorem rowOf_loc {H K : Hp} {x : AV} {r : List AV × Nat} (hK : ∀ l ∈ reachV 1 H x, unfO K[l]? = unfO H[l]?) (h : rowOf H x = some r) : rowOf K x = some r := by
  cases x <;> simp only [rowOf] at h ⊢ <;> try exact h
  rename_i l o n g k
  obtain ⟨⟨cs, k1, g1, row, frz⟩, hc, h⟩ := Option.bind_eq_some_iff.1 h
  obtain ⟨f', hc'⟩ := getC_unf' (hK l (by simp [reachV])) hc
  rw [hc']
  exact h
theorem new_loc {slot : Nat} {A : Acc} {H H' : Hp} {o : LObj} {v : AV} {f : Hp → Option (AV × Hp)} {c : Nat → AV} (hA : slot ∈ A.writes) (h : (newAt (some slot) o H).map (fun r => (c r.1, r.2)) = some (v, H'))
    (hf : ∀ K, Agree A H K → f K = (newAt (some slot) o K).map fun r => (c r.1, r.2)) : Loc A f v H H' := by
  simp only [Option.map_eq_some_iff, Prod.mk.injEq] at h
  obtain ⟨⟨l, H1⟩, hn, rfl, rfl⟩ := h
  obtain ⟨rfl, n1, rfl, n3⟩ := newAt_loc hn
  refine Loc.put hA fun K hK => ?_
  rw [hf K hK, n3 K ((hK.writes l hA).trans n1)]
  rfl
theorem appNew_loc {slot k m : Nat} {A : Acc} {H H' : Hp} {ys : List AV} {v v0 : AV} (hA : slot ∈ A.writes) (h : appNew (some slot) H k ys m v0 = some (v, H')) : Loc A (fun K => appNew (some slot) K k ys m v0) v H H' := by
  unfold appNew at h
  split at h
  · rename_i hm
    simp only [Option.some.injEq, Prod.mk.injEq] at h
    obtain ⟨rfl, rfl⟩ := h
    exact Loc.same fun K _ => by simp [appNew, hm]
  · rename_i hm
    split at h
    · rename_i hc
      exact new_loc (c := fun l => .ref l 0 m 1 k) hA h fun K _ => by simp only [appNew, if_neg hm, if_pos hc]
    · cases h
theorem Loc.congr {A : Acc} {f g : Hp → Option (AV × Hp)} {v : AV} {H H' : Hp} (h : Loc A f v H H') (he : ∀ K, Agree A H K → g K = f K) : Loc A g v H H' := by
  obtain ⟨F, a1, a2, a3⟩ := h
  exact ⟨F, a1, a2, fun K hK => by rw [he K hK]; exact a3 K hK⟩
theorem append_loc {slot k : Nat} {H H' : Hp} {x y v : AV} (h : hAppend (some slot) H k x y = some (v, H')) : Loc ⟨reachV 1 H y, slot :: reachV 1 H x, false⟩ (fun K => hAppend (some slot) K k x y) v H H' := by
  unfold hAppend at h
  cases hrow : rowOf H y with
  | none => simp only [hrow] at h; cases h
  | some r =>
    obtain ⟨ys, m⟩ := r
    simp only [hrow] at h
    have hr : ∀ K, Agree ⟨reachV 1 H y, slot :: reachV 1 H x, false⟩ H K → rowOf K y = some (ys, m) := fun K hK => rowOf_loc hK.reads hrow
    split at h
    · exact (appNew_loc (by simp) h).congr fun K hK => by simp only [hAppend, hr K hK]
    · exact (appNew_loc (by simp) h).congr fun K hK => by simp only [hAppend, hr K hK]
    · exact (appNew_loc (by simp) h).congr fun K hK => by simp only [hAppend, hr K hK]
    · rename_i es
      split at h
      · rename_i hm
        simp only [Option.some.injEq, Prod.mk.injEq] at h
        obtain ⟨rfl, rfl⟩ := h
        exact Loc.same fun K hK => by simp only [hAppend, hr K hK, if_pos hm]
      · rename_i hm
        split at h
        · rename_i hc
          exact new_loc (c := fun l => .ref l 0 (es.length + m) 1 k) (by simp) h fun K hK => by simp only [hAppend, hr K hK, if_neg hm, if_pos hc]
        · cases h
    · rename_i l o n g k'
      unfold hAppRef at h
      split at h
      · rename_i cs k1 g' row frz hl
        split at h
        · rename_i hc
          have hK2 : ∀ K, Agree ⟨reachV 1 H y, slot :: reachV 1 H (.ref l o n g k'), false⟩ H K → K[l]? = some (some (.cells cs k1 g' row frz)) := fun K hK => (hK.writes l (by simp [reachV])).trans hl
          split at h
          · rename_i hm
            simp only [Option.some.injEq, Prod.mk.injEq] at h
            obtain ⟨rfl, rfl⟩ := h
            exact Loc.same fun K hK => by simp only [hAppend, hr K hK, hAppRef, hK2 K hK, if_pos hc, if_pos hm]
          · rename_i hm
            simp only [setH, fO_eq, fSet_eq, Option.some.injEq, Prod.mk.injEq] at h
            obtain ⟨rfl, rfl⟩ := h
            exact Loc.put (by simp [reachV]) fun K hK => by simp only [hAppend, hr K hK, hAppRef, hK2 K hK, if_pos hc, if_neg hm, setH, fO_eq, fSet_eq]
        · cases h
      · cases h
    · cases h
theorem clear_loc {k : Nat} {z : List AV} {H H' : Hp} {x v : AV} (h : hClear H k z x = some (v, H')) : Loc ⟨[], reachV 1 H x, false⟩ (fun K => hClear K k z x) v H H' := by
  unfold hClear at h
  split at h
  · simp only [Option.some.injEq, Prod.mk.injEq] at h; obtain ⟨rfl, rfl⟩ := h; exact Loc.same fun K _ => rfl
  · simp only [Option.some.injEq, Prod.mk.injEq] at h; obtain ⟨rfl, rfl⟩ := h; exact Loc.same fun K _ => rfl
  · simp only [Option.some.injEq, Prod.mk.injEq] at h; obtain ⟨rfl, rfl⟩ := h; exact Loc.same fun K _ => rfl
  · rename_i l o n g k'
    split at h
    · rename_i cs kk g' row frz hl
      split at h
      · rename_i hc
        simp only [setH, fO_eq, fSet_eq, Option.some.injEq, Prod.mk.injEq] at h
        obtain ⟨rfl, rfl⟩ := h
        refine Loc.put (by simp [reachV]) fun K hK => ?_
        have hK2 := (hK.writes l (by simp [reachV])).trans hl
        simp only [hClear, hK2, if_pos hc, setH, fO_eq, fSet_eq]
      · cases h
    · cases h
  · cases h
theorem alloc_loc {slot : Nat} {H H' : Hp} {z : List AV} {v : AV} (h : hAlloc (some slot) H z = some (v, H')) : Loc ⟨[], [slot], false⟩ (fun K => hAlloc (some slot) K z) v H H' :=
  new_loc (c := fun l => .ptr l 0 0) (by simp) h fun K _ => rfl
set_option maxHeartbeats 1000000 in
/-- Each operation has to do with what 'accOf' says. -/
theorem evalH_loc {hd : Hands} {slot : Nat} {env : List AV} {H H' : Hp} {op : IOp} {v : AV} (ha : (accOf hd slot env H op).all = false) (h : evalH hd (some slot) env H op = some (v, H')) :
    Loc (accOf hd slot env H op) (fun K => evalH hd (some slot) env K op) v H H' := by
  by_cases hq : op.heapy = false ∧ op.calls = false
  · have he : ∀ K, evalH hd (some slot) env K op = hPure K (evalP env op) := fun K => evalH_pure hq.1 hq.2
    rw [he] at h
    cases hp : evalP env op with
    | none => rw [hp] at h; simp [hPure] at h
    | some x =>
      rw [hp] at h
      simp only [hPure, Option.some.injEq, Prod.mk.injEq] at h
      obtain ⟨rfl, rfl⟩ := h
      exact Loc.same fun K _ => by simp only [he, hp, hPure]
  cases op <;> simp only [IOp.heapy, IOp.calls, and_self, not_true_eq_false, Bool.true_eq_false, false_and, and_false, not_false_eq_true] at hq
  case load n ag p => exact load_loc h
  case slarr n k p lo hi => exact slarr_loc h
  case lookup z ok ks m x => exact lookup_loc h
  case store n p x => exact store_loc h
  case mupd ks m x y => exact mupd_loc h
  case append k b s x => exact append_loc h
  case clear k z x => exact clear_loc h
  case alloc z => exact alloc_loc h
  case tlit n k z ps =>
    simp only [evalH, hTlit] at h
    have : H' = H := by
      split at h
      · split at h
        · simp only [Option.some.injEq, Prod.mk.injEq] at h; exact h.2.symm
        · cases h
      · simp only [Option.map_eq_some_iff, Prod.mk.injEq] at h; obtain ⟨_, _, _, h⟩ := h; exact h.symm
    subst this
    refine Loc.same fun K _ => ?_
    simp only [evalH, hTlit]
    split at h
    · rename_i h0
      rw [if_pos h0]
      split at h
      · rename_i h1
        rw [if_pos h1]
        simp only [Option.some.injEq, Prod.mk.injEq] at h
        rw [h.1]
      · cases h
    · rename_i h0
      rw [if_neg h0]
      simp only [Option.map_eq_some_iff, Prod.mk.injEq] at h ⊢
      obtain ⟨x, h1, rfl, _⟩ := h
      exact ⟨x, h1, rfl, trivial⟩
  case rlit n k z ps =>
    simp only [evalH, hRlit] at h
    split at h
    · rename_i h0
      split at h
      · rename_i h1
        simp only [Option.some.injEq, Prod.mk.injEq] at h
        obtain ⟨rfl, rfl⟩ := h
        exact Loc.same fun K _ => by simp only [evalH, hRlit, if_pos h0, if_pos h1]
      · cases h
    · rename_i h0
      obtain ⟨cs, h1, h⟩ := Option.bind_eq_some_iff.1 h
      exact new_loc (c := fun l => .ref l 0 n 0 k) (by simp [accOf]) h fun K _ => by simp only [evalH, hRlit, if_neg h0, h1, Option.bind_some]
  case box n x =>
    simp only [evalH, hBox] at h
    split at h
    · rename_i cs hcs
      split at h
      · rename_i hl
        exact (alloc_loc h).congr fun K _ => by simp only [evalH, hBox, hcs, if_pos hl]
      · cases h
    · cases h
  case mslice k b z l c =>
    simp only [evalH, hMslice] at h
    split at h
    · rename_i k1 n k2 m hl hc
      split at h
      · rename_i hcond
        exact new_loc (c := fun l => .ref l 0 n.toNat 0 k) (by simp [accOf]) h fun K _ => by simp only [evalH, hMslice, hl, hc, if_pos hcond]
      · cases h
    · cases h
  case mmap => exact new_loc (c := fun l => .map l) (by simp [accOf]) h fun K _ => rfl
  case call f args =>
    simp only [accOf] at ha ⊢
    split at ha
    · simp at ha
    · rename_i hf
      rw [if_neg hf]
      exact doCall_loc hf h
  case dyn fn args =>
    simp only [evalH, hDyn] at h
    split at h
    · rename_i f caps hfn
      simp only [accOf, hfn] at ha ⊢
      split at ha
      · simp at ha
      · rename_i hf
        rw [if_neg hf]
        exact (doCall_loc hf h).congr fun K _ => by simp only [evalH, hDyn, hfn]
    · cases h
end Go.Ai
