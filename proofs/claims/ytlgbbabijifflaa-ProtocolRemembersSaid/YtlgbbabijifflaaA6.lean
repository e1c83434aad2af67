/- Freezing: the pure value of a value, and what it leads to written no more. -/
import Derived.Test.YtlgbbabijifflaaA5
set_option linter.unusedVariables false
set_option linter.unusedSimpArgs false
namespace Go.Ai
open Go.RowKit

/-- The running's memory is part of the state's: what has been handed away is left out. -/
def SubH (H G : Hp) : Prop := ∀ (l : Nat) (o : LObj), H[l]? = some (some o) → G[l]? = some (some o)
theorem SubH.refl (H : Hp) : SubH H H := fun _ _ h => h
theorem SubH.set {H G : Hp} (h : SubH H G) {l : Nat} {o0 o : LObj} (hl : H[l]? = some (some o0)) : SubH (H.set l (some o)) (G.set l (some o)) := by
  intro i q hi
  rw [List.getElem?_set] at hi ⊢
  split
  · rename_i e
    subst e
    have h1 := (List.getElem?_eq_some_iff.1 hl).1
    have h2 := (List.getElem?_eq_some_iff.1 (h _ _ hl)).1
    simp only [if_true, h1] at hi
    simp only [h2, if_true]
    exact hi
  · rename_i e
    rw [if_neg e] at hi
    exact h _ _ hi
/-- The blocks that may be frozen from here. -/
def Among (s : Stt) (H : Hp) (b : Nat) : Prop := ∃ (l : Nat) (o : LObj) (p : Nat), H[l]? = some (some o) ∧ s.lay l = some (b, p)
structure Fz (B0 : Nat) (s : Stt) (H : Hp) (t : Stt) (H' : Hp) : Prop where
  step : Step B0 s t
  world : t.w = s.w
  lay : t.lay = s.lay
  sub : SubH H' t.H
  eq : s.H = H → t.H = H'
  pr : ∀ b, t.Pr b → s.Pr b ∨ Among s H b
  objs : ∀ (l : Nat) (o : LObj), H'[l]? = some (some o) → ∃ o' : LObj, H[l]? = some (some o')
theorem Fz.refl {B0 : Nat} {s : Stt} {H : Hp} (h : Sim B0 s) (hs : SubH H s.H) : Fz B0 s H s H := ⟨.refl h, rfl, rfl, hs, id, fun _ h => .inl h, fun l o h => ⟨o, h⟩⟩
theorem Fz.trans {B0 : Nat} {s t u : Stt} {H H1 H2 : Hp} (h : Fz B0 s H t H1) (k : Fz B0 t H1 u H2) : Fz B0 s H u H2 :=
  ⟨h.step.trans k.step, k.world.trans h.world, k.lay.trans h.lay, k.sub, fun e => k.eq (h.eq e), fun b hb => (k.pr b hb).elim (h.pr b) fun ⟨l, o, p, h1, h2⟩ =>
    let ⟨o', h3⟩ := h.objs l o h1; .inr ⟨l, o', p, h3, by rw [← h.lay]; exact h2⟩, fun l o ho => let ⟨o1, h1⟩ := k.objs l o ho; h.objs l o1 h1⟩
theorem Fz.vr {B0 : Nat} {s t : Stt} {H H' : Hp} (h : Fz B0 s H t H') {x : AV} {u : Value} (hx : VR s x u) : VR t x u := hx.move h.step.keeps
theorem Fz.pr' {B0 : Nat} {s t : Stt} {H H' : Hp} (h : Fz B0 s H t H') {x : AV} {u : Value} (hx : PR s.Pr s.w x u) : PR t.Pr t.w x u := hx.move h.step.keeps.pr h.step.keeps.fr

/-- What freezing one thing says, of whatever kind. -/
def FzOk {α β : Type} (B0 : Nat) (f : Hp → α → Option (β × Hp)) (R0 : Stt → α → Prop) (R1 : Stt → β → Prop) (x : α) : Prop :=
  ∀ (s : Stt) (H H' : Hp) (y : β), Sim B0 s → SubH H s.H → R0 s x → f H x = some (y, H') → ∃ t, Fz B0 s H t H' ∧ R1 t y
theorem mapH_ok {α β : Type} {B0 : Nat} {f : Hp → α → Option (β × Hp)} {R0 : Nat → Stt → α → Prop} {R1 : Nat → Stt → β → Prop}
    (hm0 : ∀ i s t H H' x, Fz B0 s H t H' → R0 i s x → R0 i t x) (hm1 : ∀ i s t H H' x, Fz B0 s H t H' → R1 i s x → R1 i t x) :
    ∀ (xs : List α) (n : Nat), (∀ (i : Nat) (x : α), xs[i]? = some x → FzOk B0 f (R0 (n + i)) (R1 (n + i)) x) → ∀ (s : Stt) (H H' : Hp) (ys : List β), Sim B0 s → SubH H s.H →
      (∀ (i : Nat) (x : α), xs[i]? = some x → R0 (n + i) s x) → mapH f H xs = some (ys, H') →
      ∃ t, Fz B0 s H t H' ∧ ys.length = xs.length ∧ ∀ (i : Nat) (y : β), ys[i]? = some y → R1 (n + i) t y
  | [], n, _, s, H, H', ys, hs, hsub, _, h => by
    simp only [mapH, Option.some.injEq, Prod.mk.injEq] at h
    obtain ⟨rfl, rfl⟩ := h
    exact ⟨s, .refl hs hsub, rfl, fun i y hy => by simp at hy⟩
  | x :: r, n, hf, s, H, H', ys, hs, hsub, h0, h => by
    simp only [mapH] at h
    split at h
    · cases h
    · rename_i y H1 h1
      split at h
      · cases h
      · rename_i ys' H2 h2
        simp only [Option.some.injEq, Prod.mk.injEq] at h
        obtain ⟨rfl, rfl⟩ := h
        obtain ⟨t, ht, hy⟩ := hf 0 x (by simp) s H H1 y hs hsub (h0 0 x (by simp)) h1
        obtain ⟨t2, ht2, hl, hys⟩ := mapH_ok hm0 hm1 r (n + 1) (fun i x hx => by have := hf (i + 1) x (by simpa using hx); rwa [show n + (i + 1) = n + 1 + i by omega] at this) t H1 H2 ys' ht.step.sim ht.sub
          (fun i x hx => by have := hm0 _ _ _ _ _ _ ht (h0 (i + 1) x (by simpa using hx)); rwa [show n + (i + 1) = n + 1 + i by omega] at this) h2
        refine ⟨t2, ht.trans ht2, by simp [hl], fun i z hz => ?_⟩
        cases i with
        | zero => simp at hz; subst hz; exact hm1 _ _ _ _ _ _ ht2 hy
        | succ i => have := hys i z (by simpa using hz); rwa [show n + 1 + i = n + (i + 1) by omega] at this
def ListR (U : Nat → Value) (s : Stt) (xs : List AV) : Prop := ∀ (j : Nat) (x : AV), xs[j]? = some x → VR s x (U j)
def ListP (k : Nat) (U : Nat → Value) (s : Stt) (xs : List AV) : Prop := xs.length = k ∧ ∀ (j : Nat) (x : AV), xs[j]? = some x → PR s.Pr s.w x (U j)
theorem chunk_get {k : Nat} : ∀ (n : Nat) (cs : List AV) (i : Nat) (e : List AV), (chunk k n cs)[i]? = some e → i < n ∧ e = (cs.drop (i * k)).take k
  | 0, cs, i, e, h => by simp [chunk] at h
  | n + 1, cs, i, e, h => by
    cases i with
    | zero => simp [chunk] at h; subst h; simp
    | succ i =>
      obtain ⟨h1, h2⟩ := chunk_get n (cs.drop k) i e (by simpa [chunk] using h)
      refine ⟨by omega, ?_⟩
      rw [h2, List.drop_drop, Nat.succ_mul, Nat.add_comm]
theorem chunk_length {k : Nat} : ∀ (n : Nat) (cs : List AV), (chunk k n cs).length = n
  | 0, cs => rfl
  | n + 1, cs => by simp [chunk, chunk_length n]
theorem chunk_cell {k n : Nat} {cs : List AV} (hl : cs.length = n * k) {i j : Nat} {e : List AV} {x : AV} (he : (chunk k n cs)[i]? = some e) (hx : e[j]? = some x) : j < k ∧ cs[i * k + j]? = some x := by
  obtain ⟨h1, rfl⟩ := chunk_get n cs i e he
  rw [List.getElem?_take] at hx
  split at hx
  · rename_i hj
    rw [List.getElem?_drop] at hx
    exact ⟨hj, hx⟩
  · cases hx
theorem chunk_elem {k n : Nat} {cs : List AV} (hl : cs.length = n * k) {i : Nat} {e : List AV} (he : (chunk k n cs)[i]? = some e) : e.length = k := by
  obtain ⟨h1, rfl⟩ := chunk_get n cs i e he
  have h2 := Nat.mul_le_mul_right k (show i + 1 ≤ n by omega)
  rw [Nat.succ_mul] at h2
  simp only [List.length_take, List.length_drop]
  omega
theorem getC_some {H : Hp} {l : Nat} {q : List AV × Nat × Nat × Bool × Bool} (h : getC H l = some q) : H[l]? = some (some (.cells q.1 q.2.1 q.2.2.1 q.2.2.2.1 q.2.2.2.2)) := by
  unfold getC at h
  split at h
  · rename_i h1
    injection h with h
    subst h
    exact h1
  · cases h
section
variable {B0 : Nat}
/-- The cells of an object, frozen first. -/
theorem fz_obj {s : Stt} {H : Hp} (hs : Sim B0 s) (hsub : SubH H s.H) {l k k' g : Nat} {cs : List AV} {row frz : Bool} (hl : H[l]? = some (some (.cells cs k g row frz))) :
    ∃ b p cur e, s.lay l = some (b, p) ∧ s.w.heap[b]? = some (.cells cur e (0, 0)) ∧ p + cs.length ≤ cur.size ∧
      ∃ t, Fz B0 s H t (H.set l (some (.cells cs k' g row true))) ∧ t.Pr b ∧ ∀ (j : Nat) (x : AV), cs[j]? = some x → ∃ u, cur[p + j]? = some u ∧ VR t x u := by
  have hl' := hsub _ _ hl
  obtain ⟨b, p, hlay, h0, ⟨cur, e, h1, h2, h3⟩, _, _⟩ := hs.obj l _ hl'
  obtain ⟨t, t1, t2, t3, t4, t5⟩ := step_freeze hs (k' := k') hl' hlay
  have hlt : l < H.length := (List.getElem?_eq_some_iff.1 hl).1
  refine ⟨b, p, cur, e, hlay, h1, h2, t, ⟨t5, t2, t3, ?_, fun e => by rw [t1, e], fun i hi => ?_, fun i q hq => ?_⟩, (t4 b).2 (.inr rfl), fun j x hx => ?_⟩
  · rw [t1]; exact hsub.set hl
  · rcases (t4 i).1 hi with h | rfl
    · exact .inl h
    · exact .inr ⟨l, _, p, hl, hlay⟩
  · rw [List.getElem?_set] at hq
    split at hq
    · rename_i e1; subst e1; exact ⟨_, hl⟩
    · exact ⟨_, hq⟩
  · obtain ⟨u, hu, hv⟩ := h3 j x hx
    exact ⟨u, hu, hv.move t5.keeps⟩
theorem listR_ok {d : Nat} (hd : ∀ (u : Value) (x : AV), FzOk B0 (freezeV d) (fun s x => VR s x u) (fun t y => PR t.Pr t.w y u) x) (U : Nat → Value) (xs : List AV) :
    FzOk B0 (mapH (freezeV d)) (ListR U) (ListP xs.length U) xs := by
  intro s H H' ys hs hsub h0 h
  obtain ⟨t, h1, h2, h3⟩ := mapH_ok (R0 := fun i s x => VR s x (U i)) (R1 := fun i t y => PR t.Pr t.w y (U i)) (fun i s t H H' x hf h => hf.vr h) (fun i s t H H' x hf h => hf.pr' h) xs 0
    (fun i x _ => hd _ x) s H H' ys hs hsub (fun i x hx => by simpa using h0 i x hx) h
  exact ⟨t, h1, h2, fun j x hx => by simpa using h3 j x hx⟩
theorem listsR_ok {d : Nat} (hd : ∀ (u : Value) (x : AV), FzOk B0 (freezeV d) (fun s x => VR s x u) (fun t y => PR t.Pr t.w y u) x) (U : Nat → Nat → Value) (k : Nat) (es : List (List AV)) (hk : ∀ e ∈ es, e.length = k)
    (s : Stt) (H H' : Hp) (ys : List (List AV)) (hs : Sim B0 s) (hsub : SubH H s.H) (h0 : ∀ (i : Nat) (e : List AV) (j : Nat) (x : AV), es[i]? = some e → e[j]? = some x → VR s x (U i j)) (h : mapH (mapH (freezeV d)) H es = some (ys, H')) :
    ∃ t, Fz B0 s H t H' ∧ ys.length = es.length ∧ (∀ e ∈ ys, e.length = k) ∧ ∀ (i : Nat) (e : List AV) (j : Nat) (x : AV), ys[i]? = some e → e[j]? = some x → PR t.Pr t.w x (U i j) := by
  obtain ⟨t, h1, h2, h3⟩ := mapH_ok (α := List AV) (β := List AV) (R0 := fun i s x => x.length = k ∧ ListR (U i) s x) (R1 := fun i t y => ListP k (U i) t y) (fun i s t H H' x hf h => ⟨h.1, fun j y hy => hf.vr (h.2 j y hy)⟩)
    (fun i s t H H' x hf h => ⟨h.1, fun j y hy => hf.pr' (h.2 j y hy)⟩) es 0
    (fun i x hx s H H' y hs hsub h0 h => by
      obtain ⟨t, a1, a2⟩ := listR_ok hd (U (0 + i)) x s H H' y hs hsub h0.2 h
      exact ⟨t, a1, a2.1.trans h0.1, a2.2⟩) s H H' ys hs hsub (fun i x hx => ⟨hk x (List.mem_of_getElem? hx), fun j y hy => by simpa using h0 i x j y hx hy⟩) h
  refine ⟨t, h1, h2, fun e he => ?_, fun i e j x he hx => ?_⟩
  · obtain ⟨i, hi⟩ := List.getElem?_of_mem he
    exact (h3 i e hi).1
  · simpa using (h3 i e he).2 j x hx
set_option maxHeartbeats 1000000 in
theorem freezeV_ok : ∀ (d : Nat) (u : Value) (x : AV), FzOk B0 (freezeV d) (fun s x => VR s x u) (fun t y => PR t.Pr t.w y u) x
  | 0, u, x => fun s H H' y hs hsub hx h => by simp [freezeV] at h
  | d + 1, u, x => fun s H H' y hs hsub hx h => by
    have ih := freezeV_ok d
    have hpure : ∀ {x y : AV} {u : Value}, VR s x u → (∀ Pr w, PR Pr w x u → PR Pr w y u) → (∀ u, VR s x u → PR s.Pr s.w x u) → PR s.Pr s.w y u := fun h1 h2 h3 => h2 _ _ (h3 _ h1)
    cases x
    case int => simp [freezeV] at h; obtain ⟨rfl, rfl⟩ := h; exact ⟨s, .refl hs hsub, by cases hx with | pure h => exact h⟩
    case bool => simp [freezeV] at h; obtain ⟨rfl, rfl⟩ := h; exact ⟨s, .refl hs hsub, by cases hx with | pure h => exact h⟩
    case str => simp [freezeV] at h; obtain ⟨rfl, rfl⟩ := h; exact ⟨s, .refl hs hsub, by cases hx with | pure h => exact h⟩
    case list => simp [freezeV] at h; obtain ⟨rfl, rfl⟩ := h; exact ⟨s, .refl hs hsub, by cases hx with | pure h => exact h⟩
    case fptr => simp [freezeV] at h; obtain ⟨rfl, rfl⟩ := h; exact ⟨s, .refl hs hsub, by cases hx with | pure h => exact h⟩
    case nilptr => simp [freezeV] at h; obtain ⟨rfl, rfl⟩ := h; exact ⟨s, .refl hs hsub, by cases hx with | pure h => exact h⟩
    case nilfn => simp [freezeV] at h; obtain ⟨rfl, rfl⟩ := h; exact ⟨s, .refl hs hsub, by cases hx with | pure h => exact h⟩
    case nilsl => simp [freezeV] at h; obtain ⟨rfl, rfl⟩ := h; exact ⟨s, .refl hs hsub, by cases hx with | pure h => cases h; exact .list0 _ _ fun _ => rfl⟩
    case mtn => simp [freezeV] at h; obtain ⟨rfl, rfl⟩ := h; exact ⟨s, .refl hs hsub, by cases hx with | pure h => cases h; exact .list0 _ _ fun _ => rfl⟩
    case mt => simp [freezeV] at h; obtain ⟨rfl, rfl⟩ := h; exact ⟨s, .refl hs hsub, by cases hx with | pure h => cases h; exact .list0 _ _ fun _ => rfl⟩
    case emp => simp [freezeV] at h; obtain ⟨rfl, rfl⟩ := h; exact ⟨s, .refl hs hsub, by cases hx with | pure h => cases h; exact .list0 _ _ fun h => by cases h⟩
    case agg cs =>
      simp only [freezeV, Option.map_eq_some_iff, Prod.mk.injEq] at h
      obtain ⟨⟨ys, H1⟩, h, rfl, rfl⟩ := h
      obtain ⟨vs, rfl, hl, hv⟩ := vr_agg hx
      obtain ⟨t, h1, h2, h3⟩ := listR_ok ih (fun j => vs.getD j undef) cs s H H1 ys hs hsub (fun j x hx => by
        have : j < vs.size := by have := (List.getElem?_eq_some_iff.1 hx).1; omega
        exact hv j x _ hx (by simp [this])) h
      refine ⟨t, h1, .agg _ _ (h2.trans hl) fun i x u hx hu => ?_⟩
      have := h3 i x hx
      simpa [Array.getD_eq_getD_getElem?, hu] using this
    case func f cs =>
      simp only [freezeV, Option.map_eq_some_iff, Prod.mk.injEq] at h
      obtain ⟨⟨ys, H1⟩, h, rfl, rfl⟩ := h
      obtain ⟨vs, rfl, hl, hv⟩ := vr_func hx
      obtain ⟨t, h1, h2, h3⟩ := listR_ok ih (fun j => vs.getD j undef) cs s H H1 ys hs hsub (fun j x hx => by
        have : j < vs.size := by have := (List.getElem?_eq_some_iff.1 hx).1; omega
        exact hv j x _ hx (by simp [this])) h
      refine ⟨t, h1, .func f _ _ (h2.trans hl) fun i x u hx hu => ?_⟩
      have := h3 i x hx
      simpa [Array.getD_eq_getD_getElem?, hu] using this
    case tmpl es =>
      simp only [freezeV, Option.map_eq_some_iff, Prod.mk.injEq] at h
      obtain ⟨⟨ys, H1⟩, h, rfl, rfl⟩ := h
      cases hx with
      | pure h => cases h
      | tmpl b o k _ U hb hk hw hh =>
        obtain ⟨t, h1, h2, h3, h4⟩ := listsR_ok ih U k es hk s H H1 ys hs hsub hh h
        refine ⟨t, h1, ?_⟩
        have := PR.list (Pr := t.Pr) (w := t.w) b o k es.length ys U (h1.step.keeps.pr b hb) (by omega) h3 (fun i e j x he hx => ?_) h4
        · rw [h2] at this; exact this
        · rw [h1.world]
          have hi : i < es.length := by have := (List.getElem?_eq_some_iff.1 he).1; omega
          have hj : j < es[i].length := by rw [hk _ (List.getElem_mem hi), ← h3 e (List.mem_of_getElem? he)]; exact (List.getElem?_eq_some_iff.1 hx).1
          exact hw i es[i] j es[i][j] (List.getElem?_eq_getElem hi) (List.getElem?_eq_getElem hj)
    case tptr es i0 j0 =>
      simp only [freezeV, Option.map_eq_some_iff, Prod.mk.injEq] at h
      obtain ⟨⟨ys, H1⟩, h, rfl, rfl⟩ := h
      cases hx with
      | pure h => cases h
      | tptr b o k _ _ _ U hb hk hw hh =>
        obtain ⟨t, h1, h2, h3, h4⟩ := listsR_ok ih U k es hk s H H1 ys hs hsub hh h
        refine ⟨t, h1, .fptr b o k i0 j0 ys U (h1.step.keeps.pr b hb) h3 (fun i e j x he hx => ?_) h4⟩
        rw [h1.world]
        have hi : i < es.length := by have := (List.getElem?_eq_some_iff.1 he).1; omega
        have hj : j < es[i].length := by rw [hk _ (List.getElem_mem hi), ← h3 e (List.mem_of_getElem? he)]; exact (List.getElem?_eq_some_iff.1 hx).1
        exact hw i es[i] j es[i][j] (List.getElem?_eq_getElem hi) (List.getElem?_eq_getElem hj)
    case ref l o n g k =>
      simp only [freezeV] at h
      obtain ⟨⟨cs, k1, g1, row, frz⟩, hc, h⟩ := Option.bind_eq_some_iff.1 h
      have hl := getC_some hc
      simp only at hl h
      split at h
      · rename_i hg
        subst hg
        obtain ⟨c, hcut, h⟩ := Option.bind_eq_some_iff.1 h
        simp only [fSet_eq] at h
        obtain ⟨⟨ys, H1⟩, hm, h⟩ := Option.bind_eq_some_iff.1 h
        simp only [fV0_eq, Option.some.injEq, Prod.mk.injEq] at h
        obtain ⟨rfl, rfl⟩ := h
        obtain ⟨A, cp, rfl, _, hn, hA, href⟩ := vr_ref hx
        obtain ⟨b, p, cur, e, hlay, hcur, hsz, t, hf, hpb, hcell⟩ := fz_obj hs hsub (k' := k1) hl
        obtain ⟨hc1, hc2⟩ := cut_some hcut
        have hclen : c.length = n * k := by rw [hc2]; simp; omega
        have hrep : ∀ (i : Nat) (e : List AV) (j : Nat) (x : AV), (chunk k n c)[i]? = some e → e[j]? = some x → ∃ u, cur[p + o + i * k + j]? = some u ∧ VR t x u := by
          intro i e j x he hx
          obtain ⟨hj, h1⟩ := chunk_cell hclen he hx
          have h2 : i * k + j < n * k := by rw [← hclen]; exact (List.getElem?_eq_some_iff.1 h1).1
          rw [hc2, List.getElem?_take, if_pos h2, List.getElem?_drop] at h1
          obtain ⟨u, hu, hv⟩ := hcell _ x h1
          exact ⟨u, by rw [← hu]; congr 1; omega, hv⟩
        obtain ⟨t2, h1, h2, h3, h4⟩ := listsR_ok ih (fun i j => cur.getD (p + o + i * k + j) undef) k (chunk k n c) (fun e he => by obtain ⟨i, hi⟩ := List.getElem?_of_mem he; exact chunk_elem hclen hi) t _ H1 ys hf.step.sim hf.sub
          (fun i e j x he hx => by obtain ⟨u, hu, hv⟩ := hrep i e j x he hx; simpa [Array.getD_eq_getD_getElem?, hu] using hv) hm
        refine ⟨t2, hf.trans h1, ?_⟩
        have hlen : ys.length = n := h2.trans (chunk_length n c)
        rcases Nat.eq_zero_or_pos n with h0 | h0
        · have : ys = [] := List.eq_nil_of_length_eq_zero (by omega)
          subst this
          subst h0
          exact .list0 A cp fun hA0 => (href ⟨cs, k1, row, frz, hsub _ _ hl⟩ b p hlay).1.resolve_right (by rw [hA0]; simp)
        · have hA' : A = some ⟨b, p + o, none⟩ := by
            have := (href ⟨cs, k1, row, frz, hsub _ _ hl⟩ b p hlay).1
            rcases this with h | h
            · omega
            · exact h
          subst hA'
          rw [← hlen]
          refine .list b (p + o) k cp ys _ (h1.step.keeps.pr b hpb) (by omega) h3 (fun i e j x he hx => ?_) h4
          rw [h1.world, hf.world]
          have hi : i < (chunk k n c).length := by have := (List.getElem?_eq_some_iff.1 he).1; rw [chunk_length]; omega
          have hj : j < (chunk k n c)[i].length := by rw [chunk_elem hclen (List.getElem?_eq_getElem hi), ← h3 e (List.mem_of_getElem? he)]; exact (List.getElem?_eq_some_iff.1 hx).1
          obtain ⟨u, hu, _⟩ := hrep i _ j _ (List.getElem?_eq_getElem hi) (List.getElem?_eq_getElem hj)
          simp [World.cell?, hcur, hu, Array.getD_eq_getD_getElem?]
      · cases h
    case ptr l o g =>
      simp only [freezeV] at h
      obtain ⟨⟨cs, k1, g1, row, frz⟩, hc, h⟩ := Option.bind_eq_some_iff.1 h
      have hl := getC_some hc
      simp only at hl h
      split at h
      · rename_i hg
        subst hg
        simp only [fSet_eq] at h
        obtain ⟨⟨ys, H1⟩, hm, h⟩ := Option.bind_eq_some_iff.1 h
        simp only [fLA_eq, Option.some.injEq, Prod.mk.injEq] at h
        obtain ⟨rfl, rfl⟩ := h
        obtain ⟨a, rfl, _, href⟩ := vr_ptr hx
        obtain ⟨b, p, cur, e, hlay, hcur, hsz, t, hf, hpb, hcell⟩ := fz_obj hs hsub (k' := k1) hl
        obtain ⟨t2, h1, h2, h3⟩ := listR_ok ih (fun j => cur.getD (p + j) undef) cs t _ H1 ys hf.step.sim hf.sub
          (fun j x hx => by obtain ⟨u, hu, hv⟩ := hcell j x hx; simpa [Array.getD_eq_getD_getElem?, hu] using hv) hm
        refine ⟨t2, hf.trans h1, ?_⟩
        have ha := href ⟨cs, k1, row, frz, hsub _ _ hl⟩ b p hlay
        subst ha
        have := PR.fptr (Pr := t2.Pr) (w := t2.w) b p cs.length 0 o [ys] (fun _ j => cur.getD (p + j) undef) (h1.step.keeps.pr b hpb) (fun e he => by simp at he; subst he; exact h2) (fun i e j x he hx => ?_) (fun i e j x he hx => ?_)
        · simpa using this
        · cases i with
          | succ i => simp at he
          | zero =>
            simp at he; subst he
            rw [h1.world, hf.world]
            have hj : j < cs.length := by rw [← h2]; exact (List.getElem?_eq_some_iff.1 hx).1
            obtain ⟨u, hu, _⟩ := hcell j _ (List.getElem?_eq_getElem hj)
            simp [World.cell?, hcur, hu, Array.getD_eq_getD_getElem?]
        · cases i with
          | succ i => simp at he
          | zero => simp at he; subst he; exact h3 j x hx
      · cases h
    all_goals simp [freezeV] at h
end
end Go.Ai
