/- What an operation has to do with, and that it has to do with nothing else: for regions that draw their order. -/
import Derived.Test.YtlgbbabijifflaaA14
set_option linter.unusedVariables false
set_option linter.unusedSimpArgs false
namespace Go.Ai
def frzL : LObj → LObj
  | .cells cs k g r _ => .cells cs k g r true
  | .mp es => .mp es
def unfL : LObj → LObj
  | .cells cs k g r _ => .cells cs k g r false
  | .mp es => .mp es
abbrev Slot := Option (Option LObj)
def frzO (o : Slot) : Slot := o.map (·.map frzL)
def unfO (o : Slot) : Slot := o.map (·.map unfL)
theorem unf_frz (o : Slot) : unfO (frzO o) = unfO o := by
  cases o with
  | none => rfl
  | some o => cases o with
    | none => rfl
    | some o => cases o <;> rfl
theorem frz_frz (o : Slot) : frzO (frzO o) = frzO o := by
  cases o with
  | none => rfl
  | some o => cases o with
    | none => rfl
    | some o => cases o <;> rfl
/-- H' is H, the flags of F set. -/
def Flag (F : List Nat) (H H' : Hp) : Prop := H'.length = H.length ∧ ∀ l : Nat, H'[l]? = if l ∈ F then frzO H[l]? else H[l]?
theorem Flag.nil (H : Hp) : Flag [] H H := ⟨rfl, fun l => by simp⟩
theorem Flag.unf {F : List Nat} {H H' : Hp} (h : Flag F H H') (l : Nat) : unfO H'[l]? = unfO H[l]? := by
  rw [h.2 l]
  split
  · exact unf_frz _
  · rfl
theorem Flag.trans {F G : List Nat} {H H1 H2 : Hp} (h : Flag F H H1) (k : Flag G H1 H2) : Flag (F ++ G) H H2 := by
  refine ⟨k.1.trans h.1, fun l => ?_⟩
  rw [k.2 l, h.2 l]
  by_cases h1 : l ∈ F <;> by_cases h2 : l ∈ G <;> simp [h1, h2, frz_frz]
theorem getC_unf {H H2 : Hp} {l : Nat} (h : unfO H2[l]? = unfO H[l]?) : (getC H2 l).map (fun q => (q.1, q.2.1, q.2.2.1, q.2.2.2.1)) = (getC H l).map fun q => (q.1, q.2.1, q.2.2.1, q.2.2.2.1) := by
  unfold getC
  revert h
  cases H2[l]? with
  | none => cases H[l]? with
    | none => intro; rfl
    | some o => intro h; simp [unfO] at h
  | some o2 => cases H[l]? with
    | none => intro h; simp [unfO] at h
    | some o =>
      intro h
      simp only [unfO, Option.map_some, Option.some.injEq] at h
      cases o2 with
      | none => cases o with
        | none => rfl
        | some o => simp at h
      | some o2 => cases o with
        | none => simp at h
        | some o =>
          simp only [Option.map_some, Option.some.injEq] at h
          cases o2 <;> cases o <;> simp [unfL] at h ⊢
          exact h
theorem getC_unf' {H H2 : Hp} {l : Nat} (h : unfO H2[l]? = unfO H[l]?) {cs : List AV} {k g : Nat} {r f : Bool} (hc : getC H l = some (cs, k, g, r, f)) : ∃ f', getC H2 l = some (cs, k, g, r, f') := by
  have := getC_unf h
  rw [hc] at this
  simp only [Option.map_some, Option.map_eq_some_iff] at this
  obtain ⟨⟨cs', k', g', r', f'⟩, h1, h2⟩ := this
  simp only [Prod.mk.injEq] at h2
  obtain ⟨rfl, rfl, rfl, rfl⟩ := h2
  exact ⟨f', h1⟩
theorem flatMap_congr' {α β : Type} {f g : α → List β} : ∀ {l : List α}, (∀ x ∈ l, f x = g x) → l.flatMap f = l.flatMap g
  | [], _ => rfl
  | x :: l, h => by rw [List.flatMap_cons, List.flatMap_cons, h x (by simp), flatMap_congr' fun y hy => h y (by simp [hy])]
/-- What is reached does not hang on flags, nor on what is not reached. -/
theorem reach_eq {H H2 : Hp} : ∀ (d : Nat) (v : AV), (∀ l ∈ reachV d H v, unfO H2[l]? = unfO H[l]?) → reachV d H2 v = reachV d H v
  | 0, _, _ => rfl
  | d + 1, v, h => by
    have obj : ∀ l, (∀ l' ∈ l :: (match getC H l with | some (cs, _) => cs.flatMap (reachV d H) | none => []), unfO H2[l']? = unfO H[l']?) →
        (l :: (match getC H2 l with | some (cs, _) => cs.flatMap (reachV d H2) | none => [])) = l :: (match getC H l with | some (cs, _) => cs.flatMap (reachV d H) | none => []) := by
      intro l h
      have h0 := getC_unf (h l (by simp))
      cases hc : getC H l with
      | none =>
        rw [hc] at h0
        simp only [Option.map_none, Option.map_eq_none_iff] at h0
        rw [h0]
      | some q =>
        obtain ⟨cs, k, g, r, f⟩ := q
        obtain ⟨f', hc'⟩ := getC_unf' (h l (by simp)) hc
        rw [hc']
        simp only [hc] at h
        simp only
        congr 1
        exact flatMap_congr' fun x hx => reach_eq d x fun l' hl' => h l' (List.mem_cons_of_mem _ (List.mem_flatMap.2 ⟨x, hx, hl'⟩))
    cases v <;> simp only [reachV] at h ⊢
    case agg cs => exact flatMap_congr' fun x hx => reach_eq d x fun l' hl' => h l' (List.mem_flatMap.2 ⟨x, hx, hl'⟩)
    case func f cs => exact flatMap_congr' fun x hx => reach_eq d x fun l' hl' => h l' (List.mem_flatMap.2 ⟨x, hx, hl'⟩)
    case tmpl es => exact flatMap_congr' fun e he => flatMap_congr' fun x hx => reach_eq d x fun l' hl' => h l' (List.mem_flatMap.2 ⟨e, he, List.mem_flatMap.2 ⟨x, hx, hl'⟩⟩)
    case tptr es i j => exact flatMap_congr' fun e he => flatMap_congr' fun x hx => reach_eq d x fun l' hl' => h l' (List.mem_flatMap.2 ⟨e, he, List.mem_flatMap.2 ⟨x, hx, hl'⟩⟩)
    case ref l o n g k => exact obj l h
    case ptr l o g => exact obj l h
/-- Freezing, from wherever. -/
def FL {α β : Type} (f : Hp → α → Option (β × Hp)) (x : α) (H H' : Hp) (y : β) (S : Nat → Prop) : Prop :=
  ∃ F : List Nat, (∀ l ∈ F, S l) ∧ Flag F H H' ∧ ∀ H2, (∀ l, S l → unfO H2[l]? = unfO H[l]?) → ∃ H2', f H2 x = some (y, H2') ∧ Flag F H2 H2'
theorem mapH_loc {α β : Type} {f : Hp → α → Option (β × Hp)} {S : Nat → Prop} : ∀ (xs : List α) (H H' : Hp) (ys : List β), mapH f H xs = some (ys, H') →
    (∀ x ∈ xs, ∀ (H1 H1' : Hp) (y : β), (∀ l : Nat, unfO H1[l]? = unfO H[l]?) → f H1 x = some (y, H1') → FL f x H1 H1' y S) → FL (mapH f) xs H H' ys S
  | [], H, H', ys, h, _ => by
    simp only [mapH, Option.some.injEq, Prod.mk.injEq] at h
    obtain ⟨rfl, rfl⟩ := h
    exact ⟨[], fun l hl => by simp at hl, .nil _, fun H2 _ => ⟨H2, rfl, .nil _⟩⟩
  | x :: r, H, H', ys, h, hf => by
    simp only [mapH] at h
    split at h
    · cases h
    · rename_i y H1 h1
      split at h
      · cases h
      · rename_i ys' H2 h2
        simp only [Option.some.injEq, Prod.mk.injEq] at h
        obtain ⟨rfl, rfl⟩ := h
        obtain ⟨F, a1, a2, a3⟩ := hf x (by simp) H H1 y (fun l => rfl) h1
        obtain ⟨G, b1, b2, b3⟩ := mapH_loc r H1 H2 ys' h2 fun z hz H3 H3' w hw h3 => hf z (by simp [hz]) H3 H3' w (fun l => (hw l).trans (a2.unf l)) h3
        refine ⟨F ++ G, fun l hl => (List.mem_append.1 hl).elim (a1 l) (b1 l), a2.trans b2, fun K hK => ?_⟩
        obtain ⟨K1, c1, c2⟩ := a3 K hK
        obtain ⟨K2, d1, d2⟩ := b3 K1 fun l hl => (c2.unf l).trans ((hK l hl).trans (a2.unf l).symm)
        exact ⟨K2, by simp only [mapH, c1, d1], c2.trans d2⟩
theorem FL.map {α β γ : Type} {f : Hp → α → Option (β × Hp)} {g : Hp → α → Option (γ × Hp)} {x : α} {H H' : Hp} {y : β} {S : Nat → Prop} (c : β → γ) (hg : ∀ H, g H x = (f H x).map fun r => (c r.1, r.2)) (h : FL f x H H' y S) : FL g x H H' (c y) S := by
  obtain ⟨F, a1, a2, a3⟩ := h
  exact ⟨F, a1, a2, fun H2 h2 => let ⟨H2', b1, b2⟩ := a3 H2 h2; ⟨H2', by rw [hg, b1]; rfl, b2⟩⟩
theorem chunk_mem {k : Nat} : ∀ (n : Nat) (cs : List AV) (e : List AV) (x : AV), e ∈ chunk k n cs → x ∈ e → x ∈ cs
  | 0, cs, e, x, he, hx => by simp [chunk] at he
  | n + 1, cs, e, x, he, hx => by
    simp only [chunk, List.mem_cons] at he
    rcases he with rfl | he
    · exact List.mem_of_mem_take hx
    · exact List.mem_of_mem_drop (chunk_mem n _ e x he hx)
theorem cut_mem {cs c : List AV} {o n : Nat} (h : cut cs o n = some c) {x : AV} (hx : x ∈ c) : x ∈ cs := by
  obtain ⟨_, rfl⟩ := cut_some h
  exact List.mem_of_mem_drop (List.mem_of_mem_take hx)
theorem flag_set {H : Hp} {l : Nat} {cs : List AV} {k g : Nat} {r f : Bool} (h : getC H l = some (cs, k, g, r, f)) : Flag [l] H (H.set l (some (.cells cs k g r true))) := by
  have h1 := getC_some h
  have hlt := (List.getElem?_eq_some_iff.1 h1).1
  refine ⟨by simp, fun i => ?_⟩
  rw [List.getElem?_set]
  by_cases e : l = i
  · subst e
    rw [h1]
    simp [hlt, frzO, frzL]
  · rw [if_neg e, if_neg (by simp; exact fun h => e h.symm)]
set_option maxHeartbeats 1000000 in
theorem freezeV_loc : ∀ (d : Nat) (v : AV) (H H' : Hp) (y : AV) (S : Nat → Prop), freezeV d H v = some (y, H') → (∀ l ∈ reachV d H v, S l) → FL (freezeV d) v H H' y S
  | 0, v, H, H', y, S, h, hS => by simp [freezeV] at h
  | d + 1, v, H, H', y, S, h, hS => by
    have keep : ∀ y', (∀ H, freezeV (d + 1) H v = some (y', H)) → FL (freezeV (d + 1)) v H H' y S := by
      intro y' hy
      rw [hy] at h
      simp only [Option.some.injEq, Prod.mk.injEq] at h
      obtain ⟨rfl, rfl⟩ := h
      exact ⟨[], fun l hl => by simp at hl, .nil _, fun H2 _ => ⟨H2, hy H2, .nil _⟩⟩
    have list : ∀ (xs : List AV) (H H' : Hp) (ys : List AV), mapH (freezeV d) H xs = some (ys, H') → (∀ l ∈ xs.flatMap (reachV d H), S l) → FL (mapH (freezeV d)) xs H H' ys S := fun xs H H' ys h hS =>
      mapH_loc xs H H' ys h fun x hx H1 H1' y hu h1 => freezeV_loc d x H1 H1' y S h1 (by
        rw [reach_eq d x fun l hl => hu l]
        exact fun l hl => hS l (List.mem_flatMap.2 ⟨x, hx, hl⟩))
    have lists : ∀ (es : List (List AV)) (H H' : Hp) (ys : List (List AV)), mapH (mapH (freezeV d)) H es = some (ys, H') → (∀ e ∈ es, ∀ x ∈ e, ∀ l ∈ reachV d H x, S l) → FL (mapH (mapH (freezeV d))) es H H' ys S := fun es H H' ys h hS =>
      mapH_loc es H H' ys h fun e he H1 H1' y hu h1 => list e H1 H1' y h1 fun l hl => by
        obtain ⟨x, hx, hl⟩ := List.mem_flatMap.1 hl
        rw [reach_eq d x fun l hl => hu l] at hl
        exact hS e he x hx l hl
    cases v
    case int k n => exact keep _ fun H => rfl
    case bool b => exact keep _ fun H => rfl
    case str b => exact keep _ fun H => rfl
    case list es => exact keep _ fun H => rfl
    case fptr es i j => exact keep _ fun H => rfl
    case nilsl => exact keep _ fun H => rfl
    case mtn => exact keep _ fun H => rfl
    case mt => exact keep _ fun H => rfl
    case emp => exact keep _ fun H => rfl
    case nilptr => exact keep _ fun H => rfl
    case nilfn => exact keep _ fun H => rfl
    case agg cs =>
      simp only [freezeV, Option.map_eq_some_iff, Prod.mk.injEq] at h
      obtain ⟨⟨ys, H1⟩, h, rfl, rfl⟩ := h
      obtain ⟨F, a1, a2, a3⟩ := list cs H H1 ys h (by simpa only [reachV] using hS)
      exact ⟨F, a1, a2, fun H2 h2 => let ⟨H2', b1, b2⟩ := a3 H2 h2; ⟨H2', by simp only [freezeV, b1]; rfl, b2⟩⟩
    case func f cs =>
      simp only [freezeV, Option.map_eq_some_iff, Prod.mk.injEq] at h
      obtain ⟨⟨ys, H1⟩, h, rfl, rfl⟩ := h
      obtain ⟨F, a1, a2, a3⟩ := list cs H H1 ys h (by simpa only [reachV] using hS)
      exact ⟨F, a1, a2, fun H2 h2 => let ⟨H2', b1, b2⟩ := a3 H2 h2; ⟨H2', by simp only [freezeV, b1]; rfl, b2⟩⟩
    case tmpl es =>
      simp only [freezeV, Option.map_eq_some_iff, Prod.mk.injEq] at h
      obtain ⟨⟨ys, H1⟩, h, rfl, rfl⟩ := h
      obtain ⟨F, a1, a2, a3⟩ := lists es H H1 ys h (fun e he x hx l hl => hS l (by simp only [reachV]; exact List.mem_flatMap.2 ⟨e, he, List.mem_flatMap.2 ⟨x, hx, hl⟩⟩))
      exact ⟨F, a1, a2, fun H2 h2 => let ⟨H2', b1, b2⟩ := a3 H2 h2; ⟨H2', by simp only [freezeV, b1]; rfl, b2⟩⟩
    case tptr es i j =>
      simp only [freezeV, Option.map_eq_some_iff, Prod.mk.injEq] at h
      obtain ⟨⟨ys, H1⟩, h, rfl, rfl⟩ := h
      obtain ⟨F, a1, a2, a3⟩ := lists es H H1 ys h (fun e he x hx l hl => hS l (by simp only [reachV]; exact List.mem_flatMap.2 ⟨e, he, List.mem_flatMap.2 ⟨x, hx, hl⟩⟩))
      exact ⟨F, a1, a2, fun H2 h2 => let ⟨H2', b1, b2⟩ := a3 H2 h2; ⟨H2', by simp only [freezeV, b1]; rfl, b2⟩⟩
    case ref l o n g k =>
      simp only [freezeV] at h
      obtain ⟨⟨cs, k1, g1, row, frz⟩, hc, h⟩ := Option.bind_eq_some_iff.1 h
      simp only at h
      split at h
      · rename_i hg
        subst hg
        obtain ⟨c, hcut, h⟩ := Option.bind_eq_some_iff.1 h
        simp only [fSet_eq] at h
        obtain ⟨⟨ys, H1⟩, hm, h⟩ := Option.bind_eq_some_iff.1 h
        simp only [fV0_eq, Option.some.injEq, Prod.mk.injEq] at h
        obtain ⟨rfl, rfl⟩ := h
        have hfl := flag_set hc
        have hSl : S l := hS l (by simp [reachV])
        obtain ⟨F, a1, a2, a3⟩ := lists (chunk k n c) _ H1 ys hm (fun e he x hx l' hl' => hS l' (by
          rw [reach_eq d x fun l _ => hfl.unf l] at hl'
          simp only [reachV, hc]
          exact List.mem_cons_of_mem _ (List.mem_flatMap.2 ⟨x, cut_mem hcut (chunk_mem n c e x he hx), hl'⟩)))
        refine ⟨[l] ++ F, fun i hi => (List.mem_append.1 hi).elim (fun h => by simp at h; subst h; exact hSl) (a1 i), hfl.trans a2, fun H2 h2 => ?_⟩
        obtain ⟨f', hc2⟩ := getC_unf' (h2 l hSl) hc
        have hfl2 := flag_set hc2
        obtain ⟨H2', b1, b2⟩ := a3 _ fun i hi => (hfl2.unf i).trans ((h2 i hi).trans (hfl.unf i).symm)
        exact ⟨H2', by simp only [freezeV, hc2, Option.bind_some, if_true, hcut, fSet_eq, b1, fV0_eq], hfl2.trans b2⟩
      · cases h
    case ptr l o g =>
      simp only [freezeV] at h
      obtain ⟨⟨cs, k1, g1, row, frz⟩, hc, h⟩ := Option.bind_eq_some_iff.1 h
      simp only at h
      split at h
      · rename_i hg
        subst hg
        simp only [fSet_eq] at h
        obtain ⟨⟨ys, H1⟩, hm, h⟩ := Option.bind_eq_some_iff.1 h
        simp only [fLA_eq, Option.some.injEq, Prod.mk.injEq] at h
        obtain ⟨rfl, rfl⟩ := h
        have hfl := flag_set hc
        have hSl : S l := hS l (by simp [reachV])
        obtain ⟨F, a1, a2, a3⟩ := list cs _ H1 ys hm (fun l' hl' => hS l' (by
          obtain ⟨x, hx, hl'⟩ := List.mem_flatMap.1 hl'
          rw [reach_eq d x fun l _ => hfl.unf l] at hl'
          simp only [reachV, hc]
          exact List.mem_cons_of_mem _ (List.mem_flatMap.2 ⟨x, hx, hl'⟩)))
        refine ⟨[l] ++ F, fun i hi => (List.mem_append.1 hi).elim (fun h => by simp at h; subst h; exact hSl) (a1 i), hfl.trans a2, fun H2 h2 => ?_⟩
        obtain ⟨f', hc2⟩ := getC_unf' (h2 l hSl) hc
        have hfl2 := flag_set hc2
        obtain ⟨H2', b1, b2⟩ := a3 _ fun i hi => (hfl2.unf i).trans ((h2 i hi).trans (hfl.unf i).symm)
        exact ⟨H2', by simp only [freezeV, hc2, Option.bind_some, if_true, fSet_eq, b1, fLA_eq], hfl2.trans b2⟩
      · cases h
    all_goals simp [freezeV] at h
end Go.Ai
