/- Local memory: how each operation turns the state; freezing. -/
import Derived.Test.YtlgbbabijifflaaA4
set_option linter.unusedVariables false
set_option linter.unusedSimpArgs false
namespace Go.Ai
open Go.RowKit

/-- From a state to a later one of the same activation. -/
structure Step (B0 : Nat) (s t : Stt) : Prop where
  keeps : Keeps s t
  sim : Sim B0 t
  below : Below B0 s.w t.w
  prb : ∀ b, b < B0 → t.Pr b → s.Pr b
theorem Step.refl {B0 : Nat} {s : Stt} (h : Sim B0 s) : Step B0 s s := ⟨.refl s, h, Below.refl _ _, fun _ _ h => h⟩
theorem Step.trans {B0 : Nat} {s t u : Stt} (h : Step B0 s t) (k : Step B0 t u) : Step B0 s u :=
  ⟨h.keeps.trans k.keeps, k.sim, h.below.trans k.below, fun b hb hp => h.prb b hb (k.prb b hb hp)⟩

theorem ObjR.move {s t : Stt} {B0 b p : Nat} {o : LObj} (hk : Keeps s t) (hb : t.w.heap[b]? = s.w.heap[b]?) (hp : t.Pr b ↔ s.Pr b) (h : ObjR s B0 b p o) : ObjR t B0 b p o := by
  cases o with
  | cells cs k g row frz =>
    obtain ⟨h0, ⟨cur, e, h1, h2, h3⟩, h4, h5⟩ := h
    exact ⟨h0, ⟨cur, e, hb.trans h1, h2, fun j x hx => let ⟨u, hu, hv⟩ := h3 j x hx; ⟨u, hu, hv.move hk⟩⟩, fun e => hp.2 (h4 e), fun e hh => h5 e (hp.1 hh)⟩
  | mp es =>
    obtain ⟨h0, h1, h2, ents, clock, h3, h4, h5⟩ := h
    exact ⟨h0, fun hh => h1 (hp.1 hh), h2, ents, clock, hb.trans h3, h4, fun j e m he hm => ⟨(h5 j e m he hm).1.move hk, (h5 j e m he hm).2.move hk⟩⟩

theorem newAt_spec {slot : Option Nat} {o : LObj} {H H' : Hp} {l : Nat} (h : newAt slot o H = some (l, H')) :
    H'[l]? = some (some o) ∧ (∀ i, i ≠ l → ∀ q, H'[i]? = some (some q) ↔ H[i]? = some (some q)) ∧ (∀ q, H[l]? ≠ some (some q)) ∧ H.length ≤ H'.length ∧ l < H'.length := by
  unfold newAt at h
  cases slot with
  | none =>
    simp only [fN_eq, fO_eq, fSnoc_eq, Option.some.injEq, Prod.mk.injEq] at h
    obtain ⟨rfl, rfl⟩ := h
    refine ⟨by simp, fun i hi q => ?_, fun q => by simp, by simp, by simp⟩
    rcases Nat.lt_or_ge i H.length with h1 | h1
    · rw [List.getElem?_append_left h1]
    · have h2 : H.length < i := by omega
      rw [List.getElem?_eq_none (l := H ++ [some o]) (by simp; omega), List.getElem?_eq_none h1]
  | some j =>
    simp only [fO_eq, fSet_eq] at h
    split at h
    · rename_i hj
      simp only [Option.some.injEq, Prod.mk.injEq] at h
      obtain ⟨rfl, rfl⟩ := h
      have hlt : j < H.length := (List.getElem?_eq_some_iff.1 hj).1
      refine ⟨by simp [hlt], fun i hi q => by rw [List.getElem?_set_ne (Ne.symm hi)], fun q => by rw [hj]; simp, by simp, by simpa using hlt⟩
    · cases h

section
variable {s : Stt} {B0 : Nat}
/-- A new object, in a new block. -/
theorem step_new (hs : Sim B0 s) (hB : B0 ≤ s.w.heap.size) {slot : Option Nat} {o : LObj} {H' : Hp} {l : Nat} (hn : newAt slot o s.H = some (l, H')) {w' : World} {blk : Obj}
    (hh : w'.heap = s.w.heap.push blk) (hbel : Below B0 s.w w')
    (ho : match o with
      | .cells cs _ _ _ frz => frz = false ∧ ∃ cur e, blk = .cells cur e (0, 0) ∧ cs.length ≤ cur.size ∧ ∀ (j : Nat) (x : AV), cs[j]? = some x → ∃ u, cur[j]? = some u ∧ VR s x u
      | .mp es => es = [] ∧ ∃ c, blk = .map #[] c) :
    ∃ t, t.H = H' ∧ t.w = w' ∧ t.Pr = s.Pr ∧ Step B0 s t ∧ t.lay l = some (s.w.heap.size, 0) ∧ H'[l]? = some (some o) := by
  obtain ⟨n1, n2, n3, n4, n5⟩ := newAt_spec hn
  have hold : ∀ b, b < s.w.heap.size → w'.heap[b]? = s.w.heap[b]? := fun b hb => by rw [hh, Array.getElem?_push, if_neg (by omega)]
  have hnew : w'.heap[s.w.heap.size]? = some blk := by rw [hh, Array.getElem?_push, if_pos rfl]
  let t : Stt := ⟨fun i => if i = l then some (s.w.heap.size, 0) else s.lay i, H', s.Pr, w'⟩
  have hat : ∀ i g, atGen s.H i g → i ≠ l := by
    rintro i g ⟨cs, k, r, f, hi⟩ rfl
    exact n3 _ hi
  have hk : Keeps s t := by
    refine ⟨fun _ h => h, fun b hb => hold b (hs.old b hb), fun i g hg => ⟨g, Nat.le_refl _, ?_, fun _ => ⟨by simp [t, hat i g hg], fun b p hl => ?_⟩⟩, fun i es he => ?_⟩
    · have := hat i g hg
      obtain ⟨cs, k, r, f, hi⟩ := hg
      exact ⟨cs, k, r, f, (n2 i this _).2 hi⟩
    · simp only [t, bsize, hold b (hs.lay i b p hl).2]
    · have hne : i ≠ l := by rintro rfl; exact n3 _ he
      exact ⟨⟨es, (n2 i hne _).2 he⟩, by simp [t, hne]⟩
  have hsz : w'.heap.size = s.w.heap.size + 1 := by rw [hh]; simp
  have hnp : ¬ s.Pr s.w.heap.size := fun h => Nat.lt_irrefl _ (hs.old _ h)
  refine ⟨t, rfl, rfl, rfl, ⟨hk, ⟨fun i q hi => ?_, fun i i' b p p' hi hi' => ?_, fun b hb => ?_, fun i b p hi => ?_⟩, hbel, fun _ _ h => h⟩, by simp [t], n1⟩
  · by_cases hne : i = l
    · subst hne
      have : some (some o) = some (some q) := n1.symm.trans hi
      simp only [Option.some.injEq] at this
      subst this
      refine ⟨s.w.heap.size, 0, by simp [t], ?_⟩
      cases o with
      | cells cs k g row frz =>
        obtain ⟨rfl, cur, e, rfl, h1, h2⟩ := ho
        exact ⟨hB, ⟨cur, e, hnew, by omega, fun j x hx => let ⟨u, hu, hv⟩ := h2 j x hx; ⟨u, by simpa using hu, hv.move hk⟩⟩, fun h => by simp at h, fun _ => hnp⟩
      | mp es =>
        obtain ⟨rfl, c, rfl⟩ := ho
        exact ⟨hB, hnp, rfl, #[], c, hnew, rfl, fun j e m he => by simp at he⟩
    · obtain ⟨b, p, h1, h2⟩ := hs.obj i q ((n2 i hne q).1 hi)
      exact ⟨b, p, by simp [t, hne, h1], h2.move hk (hold b (hs.lay i b p h1).2) Iff.rfl⟩
  · simp only [t] at hi hi'
    split at hi <;> split at hi'
    · rename_i e1 e2; rw [e1, e2]
    · injection hi with hi; injection hi with h1 h2; subst h1
      have := (hs.lay _ _ _ hi').2; omega
    · injection hi' with hi'; injection hi' with h1 h2; subst h1
      have := (hs.lay _ _ _ hi).2; omega
    · exact hs.inj i i' b p p' hi hi'
  · have := hs.old b hb; simp only [t, hsz]; omega
  · simp only [t] at hi ⊢
    split at hi
    · injection hi with hi; injection hi with h1 h2
      subst h1
      rename_i e; subst e
      exact ⟨n5, by omega⟩
    · have := hs.lay i b p hi
      exact ⟨by omega, by omega⟩
/-- An object's cells are written, or it moves on to its next generation within its block. -/
theorem step_cells (hs : Sim B0 s) {l b p p' k k' g g' : Nat} {cs cs' : List AV} {row row' : Bool} {w' : World} {cur cur' : Array Value} {e : TypeId}
    (hl : s.H[l]? = some (some (.cells cs k g row false))) (hlay : s.lay l = some (b, p)) (hg : g' = g ∧ p' = p ∨ g < g')
    (hold : s.w.heap[b]? = some (.cells cur e (0, 0))) (hnew : w'.heap[b]? = some (.cells cur' e (0, 0))) (hsz : cur'.size = cur.size)
    (hoth : ∀ i, i ≠ b → w'.heap[i]? = s.w.heap[i]?) (hbel : Below B0 s.w w') (hlen : p' + cs'.length ≤ cur'.size)
    (hc : ∀ (j : Nat) (x : AV), cs'[j]? = some x → ∃ u, cur'[p' + j]? = some u ∧ VR s x u) :
    ∃ t, t.H = s.H.set l (some (.cells cs' k' g' row' false)) ∧ t.w = w' ∧ t.Pr = s.Pr ∧ t.lay l = some (b, p') ∧ Step B0 s t := by
  obtain ⟨b1, p1, e1, h0, _, _, hnp⟩ := hs.obj l _ hl
  rw [hlay] at e1
  injection e1 with e1
  injection e1 with e1 e2
  subst e1 e2
  have hnp := hnp rfl
  have hlt : l < s.H.length := (List.getElem?_eq_some_iff.1 hl).1
  have hbs : ∀ i, bsize w' i = bsize s.w i := fun i => by
    by_cases hi : i = b
    · subst hi; simp [bsize, hold, hnew, hsz]
    · simp only [bsize, hoth i hi]
  let t : Stt := ⟨fun i => if i = l then some (b, p') else s.lay i, s.H.set l (some (.cells cs' k' g' row' false)), s.Pr, w'⟩
  have hgl : atGen t.H l g' := ⟨cs', k', row', false, by simp [t, hlt]⟩
  have hk : Keeps s t := by
    refine ⟨fun _ h => h, fun i hi => hoth i (fun e => hnp (e ▸ hi)), fun i g1 h1 => ?_, fun i es he => ?_⟩
    · by_cases hi : i = l
      · subst hi
        have := atGen_inj h1 ⟨cs, k, row, false, hl⟩
        subst this
        refine ⟨g', by omega, hgl, fun e => ⟨?_, fun b2 p2 _ => hbs b2⟩⟩
        have : p' = p := by omega
        simp [t, hlay, this]
      · refine ⟨g1, Nat.le_refl _, ?_, fun _ => ⟨by simp [t, hi], fun b2 p2 _ => hbs b2⟩⟩
        obtain ⟨c1, k1, r1, f1, h2⟩ := h1
        exact ⟨c1, k1, r1, f1, by simp only [t]; rw [List.getElem?_set_ne (Ne.symm hi)]; exact h2⟩
    · have hi : i ≠ l := by rintro rfl; rw [hl] at he; simp at he
      exact ⟨⟨es, by simp only [t]; rw [List.getElem?_set_ne (Ne.symm hi)]; exact he⟩, by simp [t, hi]⟩
  have hsize : s.w.heap.size ≤ w'.heap.size := hbel.size
  refine ⟨t, rfl, rfl, rfl, by simp [t], hk, ⟨fun i q hi => ?_, fun i i' b1 p1 p2 hi hi' => ?_, fun i hi => ?_, fun i b1 p1 hi => ?_⟩, hbel, fun _ _ h => h⟩
  · by_cases hne : i = l
    · subst hne
      have : some (some (LObj.cells cs' k' g' row' false)) = some (some q) := by rw [← hi]; simp [t, hlt]
      simp only [Option.some.injEq] at this
      subst this
      exact ⟨b, p', by simp [t], h0, ⟨cur', e, hnew, hlen, fun j x hx => let ⟨u, hu, hv⟩ := hc j x hx; ⟨u, hu, hv.move hk⟩⟩, fun h => by simp at h, fun _ => hnp⟩
    · have hi' : s.H[i]? = some (some q) := by simp only [t] at hi; rw [List.getElem?_set_ne (Ne.symm hne)] at hi; exact hi
      obtain ⟨b1, p1, h1, h2⟩ := hs.obj i q hi'
      have hbne : b1 ≠ b := by rintro rfl; exact hne (hs.inj i l b1 p1 p h1 hlay)
      exact ⟨b1, p1, by simp [t, hne, h1], h2.move hk (hoth b1 hbne) Iff.rfl⟩
  · simp only [t] at hi hi'
    split at hi <;> split at hi'
    · rename_i e1 e2; rw [e1, e2]
    · injection hi with hi; injection hi with h1 h2; subst h1
      rename_i e1 e2
      exact absurd (hs.inj i' l b p2 p hi' hlay) e2
    · injection hi' with hi'; injection hi' with h1 h2; subst h1
      rename_i e1 e2
      exact absurd (hs.inj i l b p1 p hi hlay) e1
    · exact hs.inj i i' b1 p1 p2 hi hi'
  · have := hs.old i hi; simp only [t]; omega
  · simp only [t, List.length_set] at hi ⊢
    split at hi
    · injection hi with hi; injection hi with h1 h2
      subst h1
      rename_i e; subst e
      have := hs.lay i b p hlay
      exact ⟨hlt, by omega⟩
    · have := hs.lay i b1 p1 hi
      exact ⟨by omega, by omega⟩
/-- A map is written. -/
theorem step_map (hs : Sim B0 s) {l b : Nat} {es es' : List (AV × AV)} {w' : World} {ents : Array MapEntry} {clock : Nat}
    (hl : s.H[l]? = some (some (.mp es))) (hlay : s.lay l = some (b, 0)) (hnew : w'.heap[b]? = some (.map ents clock))
    (hoth : ∀ i, i ≠ b → w'.heap[i]? = s.w.heap[i]?) (hbel : Below B0 s.w w') (hlen : ents.size = es'.length)
    (hc : ∀ (j : Nat) (e : AV × AV) (m : MapEntry), es'[j]? = some e → ents[j]? = some m → VR s e.1 m.key ∧ VR s e.2 m.val) :
    ∃ t, t.H = s.H.set l (some (.mp es')) ∧ t.w = w' ∧ t.Pr = s.Pr ∧ t.lay l = some (b, 0) ∧ Step B0 s t := by
  obtain ⟨b1, p1, e1, h0, hnp, _, ents0, clock0, hold, _, _⟩ := hs.obj l _ hl
  rw [hlay] at e1
  injection e1 with e1
  injection e1 with e1 e2
  subst e1 e2
  have hlt : l < s.H.length := (List.getElem?_eq_some_iff.1 hl).1
  have hbs : ∀ i, bsize w' i = bsize s.w i := fun i => by
    by_cases hi : i = b
    · subst hi; simp [bsize, hold, hnew]
    · simp only [bsize, hoth i hi]
  let t : Stt := ⟨s.lay, s.H.set l (some (.mp es')), s.Pr, w'⟩
  have hk : Keeps s t := by
    refine ⟨fun _ h => h, fun i hi => hoth i (fun e => hnp (e ▸ hi)), fun i g1 h1 => ?_, fun i es1 he => ?_⟩
    · have hi : i ≠ l := by rintro rfl; obtain ⟨_, _, _, _, h2⟩ := h1; rw [hl] at h2; simp at h2
      refine ⟨g1, Nat.le_refl _, ?_, fun _ => ⟨rfl, fun b2 p2 _ => hbs b2⟩⟩
      obtain ⟨c1, k1, r1, f1, h2⟩ := h1
      exact ⟨c1, k1, r1, f1, by simp only [t]; rw [List.getElem?_set_ne (Ne.symm hi)]; exact h2⟩
    · by_cases hi : i = l
      · subst hi; exact ⟨⟨es', by simp [t, hlt]⟩, rfl⟩
      · exact ⟨⟨es1, by simp only [t]; rw [List.getElem?_set_ne (Ne.symm hi)]; exact he⟩, rfl⟩
  refine ⟨t, rfl, rfl, rfl, hlay, hk, ⟨fun i q hi => ?_, hs.inj, fun i hi => ?_, fun i b1 p1 hi => ?_⟩, hbel, fun _ _ h => h⟩
  · by_cases hne : i = l
    · subst hne
      have : some (some (LObj.mp es')) = some (some q) := by rw [← hi]; simp [t, hlt]
      simp only [Option.some.injEq] at this
      subst this
      exact ⟨b, 0, hlay, h0, hnp, rfl, ents, clock, hnew, hlen, fun j e m he hm => ⟨(hc j e m he hm).1.move hk, (hc j e m he hm).2.move hk⟩⟩
    · have hi' : s.H[i]? = some (some q) := by simp only [t] at hi; rw [List.getElem?_set_ne (Ne.symm hne)] at hi; exact hi
      obtain ⟨b1, p1, h1, h2⟩ := hs.obj i q hi'
      have hbne : b1 ≠ b := by rintro rfl; exact hne (hs.inj i l b1 p1 0 h1 hlay)
      exact ⟨b1, p1, h1, h2.move hk (hoth b1 hbne) Iff.rfl⟩
  · have := hs.old i hi; have := hbel.size; simp only [t]; omega
  · have := hs.lay i b1 p1 hi; have := hbel.size
    exact ⟨by simp [t]; omega, by simp only [t]; omega⟩
/-- An object is frozen. -/
theorem step_freeze (hs : Sim B0 s) {l b p k k' g : Nat} {cs : List AV} {row frz : Bool} (hl : s.H[l]? = some (some (.cells cs k g row frz))) (hlay : s.lay l = some (b, p)) :
    ∃ t, t.H = s.H.set l (some (.cells cs k' g row true)) ∧ t.w = s.w ∧ t.lay = s.lay ∧ (∀ i, t.Pr i ↔ s.Pr i ∨ i = b) ∧ Step B0 s t := by
  obtain ⟨b1, p1, e1, h0, hcur, hpr, _⟩ := hs.obj l _ hl
  rw [hlay] at e1
  injection e1 with e1
  injection e1 with e1 e2
  subst e1 e2
  have hlt : l < s.H.length := (List.getElem?_eq_some_iff.1 hl).1
  let t : Stt := ⟨s.lay, s.H.set l (some (.cells cs k' g row true)), fun i => s.Pr i ∨ i = b, s.w⟩
  have hk : Keeps s t := by
    refine ⟨fun _ h => .inl h, fun i hi => rfl, fun i g1 h1 => ⟨g1, Nat.le_refl _, ?_, fun _ => ⟨rfl, fun _ _ _ => rfl⟩⟩, fun i es1 he => ?_⟩
    · by_cases hi : i = l
      · subst hi
        have := atGen_inj h1 ⟨cs, k, row, frz, hl⟩
        subst this
        exact ⟨cs, k', row, true, by simp [t, hlt]⟩
      · obtain ⟨c1, k1, r1, f1, h2⟩ := h1
        exact ⟨c1, k1, r1, f1, by simp only [t]; rw [List.getElem?_set_ne (Ne.symm hi)]; exact h2⟩
    · have hi : i ≠ l := by rintro rfl; rw [hl] at he; simp at he
      exact ⟨⟨es1, by simp only [t]; rw [List.getElem?_set_ne (Ne.symm hi)]; exact he⟩, rfl⟩
  refine ⟨t, rfl, rfl, rfl, fun _ => Iff.rfl, hk, ⟨fun i q hi => ?_, hs.inj, fun i hi => ?_, fun i b1 p1 hi => ?_⟩, Below.refl _ _, fun i hi h => ?_⟩
  · by_cases hne : i = l
    · subst hne
      have : some (some (LObj.cells cs k' g row true)) = some (some q) := by rw [← hi]; simp [t, hlt]
      simp only [Option.some.injEq] at this
      subst this
      obtain ⟨cur, e, h1, h2, h3⟩ := hcur
      exact ⟨b, p, hlay, h0, ⟨cur, e, h1, h2, fun j x hx => let ⟨u, hu, hv⟩ := h3 j x hx; ⟨u, hu, hv.move hk⟩⟩, fun _ => .inr rfl, fun h => by simp at h⟩
    · have hi' : s.H[i]? = some (some q) := by simp only [t] at hi; rw [List.getElem?_set_ne (Ne.symm hne)] at hi; exact hi
      obtain ⟨b1, p1, h1, h2⟩ := hs.obj i q hi'
      have hbne : b1 ≠ b := by rintro rfl; exact hne (hs.inj i l b1 p1 p h1 hlay)
      exact ⟨b1, p1, h1, h2.move hk rfl ⟨fun h => h.resolve_right hbne, .inl⟩⟩
  · rcases hi with hi | rfl
    · exact hs.old i hi
    · exact (hs.lay l i p hlay).2
  · have := hs.lay i b1 p1 hi
    exact ⟨by simp [t]; omega, this.2⟩
  · rcases h with h | rfl
    · exact h
    · omega
end
end Go.Ai
