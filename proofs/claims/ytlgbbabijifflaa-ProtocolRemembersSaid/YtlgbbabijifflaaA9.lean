/- append, clear. -/
import Derived.Test.YtlgbbabijifflaaA8
set_option linter.unusedVariables false
set_option linter.unusedSimpArgs false
namespace Go.Ai
open Go.RowKit
section
variable {P : Program} {s : Stt} {B0 : Nat}
theorem flat_get {k : Nat} : ∀ (es : List (List AV)), (∀ e ∈ es, e.length = k) → es.flatten.length = es.length * k ∧ ∀ (m : Nat) (x : AV), es.flatten[m]? = some x → ∃ i e j, es[i]? = some e ∧ e[j]? = some x ∧ m = i * k + j
  | [], _ => by simp
  | e :: r, hk => by
    obtain ⟨h1, h2⟩ := flat_get r (fun e he => hk e (by simp [he]))
    have he : e.length = k := hk e (by simp)
    refine ⟨by rw [List.flatten_cons, List.length_append, h1, he, List.length_cons, Nat.succ_mul]; omega, fun m x hx => ?_⟩
    rw [List.flatten_cons] at hx
    by_cases hm : m < k
    · rw [List.getElem?_append_left (by omega)] at hx
      exact ⟨0, e, m, rfl, hx, by omega⟩
    · rw [List.getElem?_append_right (by omega), he] at hx
      obtain ⟨i, e', j, a1, a2, a3⟩ := h2 _ x hx
      exact ⟨i + 1, e', j, by simpa using a1, a2, by rw [Nat.succ_mul]; omega⟩
theorem rowOf_cells (hs : Sim B0 s) {x : AV} {vx : Value} {ys : List AV} {m : Nat} (hx : VR s x vx) (h : rowOf s.H x = some (ys, m)) :
    ∃ A c, vx = .slice A m c ∧ (m = 0 → ys = []) ∧ ∀ (j : Nat) (y : AV), ys[j]? = some y → ∃ b q, A = some ⟨b, q, none⟩ ∧ ∃ u, s.w.cell? ⟨b, q + j, none⟩ = some u ∧ VR s y u := by
  unfold rowOf at h
  split at h
  case h_1 => simp only [Option.some.injEq, Prod.mk.injEq] at h; obtain ⟨rfl, rfl⟩ := h; cases hx with | pure hx => cases hx; exact ⟨_, _, rfl, fun _ => rfl, fun j y hy => by simp at hy⟩
  case h_2 => simp only [Option.some.injEq, Prod.mk.injEq] at h; obtain ⟨rfl, rfl⟩ := h; cases hx with | pure hx => cases hx; exact ⟨_, _, rfl, fun _ => rfl, fun j y hy => by simp at hy⟩
  case h_3 => simp only [Option.some.injEq, Prod.mk.injEq] at h; obtain ⟨rfl, rfl⟩ := h; cases hx with | pure hx => cases hx; exact ⟨_, _, rfl, fun _ => rfl, fun j y hy => by simp at hy⟩
  case h_4 => simp only [Option.some.injEq, Prod.mk.injEq] at h; obtain ⟨rfl, rfl⟩ := h; cases hx with | pure hx => cases hx; exact ⟨_, _, rfl, fun _ => rfl, fun j y hy => by simp at hy⟩
  case h_5 es =>
    simp only [Option.some.injEq, Prod.mk.injEq] at h
    obtain ⟨rfl, rfl⟩ := h
    cases hx with
    | pure hx =>
      cases hx with
      | list0 A c _ => exact ⟨A, c, rfl, fun _ => rfl, fun j y hy => by simp at hy⟩
      | list b o k c _ U hb hc hk hw hh =>
        obtain ⟨f1, f2⟩ := flat_get es hk
        refine ⟨_, c, rfl, fun h => by have : es = [] := List.eq_nil_of_length_eq_zero h; subst this; rfl, fun j y hy => ?_⟩
        obtain ⟨i, e, j', a1, a2, a3⟩ := f2 j y hy
        exact ⟨b, o, rfl, U i j', by rw [← hw i e j' y a1 a2, a3]; congr 2; omega, .pure (hh i e j' y a1 a2)⟩
  case h_6 es =>
    simp only [Option.some.injEq, Prod.mk.injEq] at h
    obtain ⟨rfl, rfl⟩ := h
    cases hx with
    | pure hx => cases hx
    | tmpl b o k _ U hb hk hw hh =>
      obtain ⟨f1, f2⟩ := flat_get es hk
      refine ⟨_, _, rfl, fun h => by have : es = [] := List.eq_nil_of_length_eq_zero h; subst this; rfl, fun j y hy => ?_⟩
      obtain ⟨i, e, j', a1, a2, a3⟩ := f2 j y hy
      exact ⟨b, o, rfl, U i j', by rw [← hw i e j' y a1 a2, a3]; congr 2; omega, hh i e j' y a1 a2⟩
  case h_7 l o n g k =>
    obtain ⟨⟨cs, k1, g1, row, frz⟩, hc, h⟩ := Option.bind_eq_some_iff.1 h
    have hl := getC_some hc
    simp only at hl h
    split at h
    · rename_i hg
      subst hg
      simp only [Option.map_eq_some_iff, Prod.mk.injEq] at h
      obtain ⟨c, hcut, rfl, rfl⟩ := h
      obtain ⟨h1, h2⟩ := cut_get hcut
      obtain ⟨A, cp, rfl, _, hn, hA, href⟩ := vr_ref hx
      obtain ⟨b, p, cur, e, hlay, _, hcur, hsz, _, hcells, _⟩ := obj_cells hs hl
      refine ⟨A, cp, rfl, fun h => List.eq_nil_of_length_eq_zero (by rw [h1, h, Nat.zero_mul]), fun j y hy => ?_⟩
      obtain ⟨h3, h4⟩ := h2 j y hy
      have hn0 : 0 < n := by rcases Nat.eq_zero_or_pos n with h | h; · rw [h, Nat.zero_mul] at h4; omega
                             · exact h
      have hA' := (href ⟨cs, k1, row, frz, hl⟩ b p hlay).1
      obtain ⟨u, hu, hv⟩ := hcells _ y h3
      exact ⟨b, p + o, hA'.resolve_left (by omega), u, by rw [← hu]; congr 2; omega, hv⟩
    · cases h
  case h_8 => cases h
theorem run_first (k m c : Nat) {A : Option Addr} {ys : List AV} (hl : ys.length = m * k) (h : ∀ (j : Nat) (y : AV), ys[j]? = some y → ∃ b q, A = some ⟨b, q, none⟩ ∧ ∃ u, s.w.cell? ⟨b, q + j, none⟩ = some u ∧ VR s y u) (n : Nat) :
    ∃ us : Array Value, (∀ W : World, (∀ a, W.cell? a = s.w.cell? a) → (Builtin.firstCells k m (.slice A n c)).run P W = .ok us W) ∧ us.size = m * k ∧ ∀ (i : Nat) (y : AV) (u : Value), ys[i]? = some y → us[i]? = some u → VR s y u := by
  rcases Nat.eq_zero_or_pos (m * k) with h0 | h0
  · refine ⟨#[], ?_, by simp [h0], fun i y u _ hu => by simp at hu⟩
    cases A <;> simp [Builtin.firstCells, h0, loadCells, loadCellsFrom]
  · obtain ⟨b, q, rfl, u0, hu0, _⟩ := h 0 ys[0] (List.getElem?_eq_getElem (by omega))
    have hload := fun (W : World) (hW : ∀ a, W.cell? a = s.w.cell? a) => run_loadCells (P := P) W ⟨b, q, none⟩ (m * k) (fun j => (s.w.cell? ⟨b, q + j, none⟩).getD undef) (fun j hj => by
      obtain ⟨b', q', e, u, hu, _⟩ := h j _ (List.getElem?_eq_getElem (show j < ys.length by omega))
      injection e with e; injection e with e1 e2; subst e1 e2
      simp [addr_add, hW, hu])
    refine ⟨_, fun W hW => by simpa [Builtin.firstCells] using hload W hW, by simp, fun i y u hy hu => ?_⟩
    obtain ⟨b', q', e, u', hu', hv⟩ := h i y hy
    injection e with e; injection e with e1 e2; subst e1 e2
    have hi : i < m * k := by rw [← hl]; exact (List.getElem?_eq_some_iff.1 hy).1
    simp [hi, hu'] at hu
    subst hu
    exact hv
theorem run_append_has {t ty e : TypeId} {i : TypeInfo} {ts : Array TypeId} {vs : Array Value} {base A : Option Addr} {sLen sCap m c : Nat} {news : Array Value} (h0 : ts[0]? = some t) (h1 : ts[1]? = some t) (hv0 : vs[0]? = some (.slice base sLen sCap)) (hv1 : vs[1]? = some (.slice A m c))
    (ht : P.underlying t = some (.slice e)) (hi : P.info? e = some i) (hnews : (Builtin.firstCells i.size m (.slice A m c)).run P s.w = .ok news s.w) (hroom : sLen + m ≤ sCap) {w' : World}
    (hst : match base with | some a => (storeCells (a.add (sLen * i.size)) news.toList).run P s.w = .ok () w' | none => w' = s.w) :
    (Builtin.append_ ts ty vs).run P s.w = .ok (.slice base (sLen + m) sCap) w' := by
  cases base with
  | none => simp only at hst; subst hst; simp [Builtin.append_, h0, h1, hv0, hv1, run_underlying ht, sizeOf, typeInfo, hi, Builtin.lenOf, hroom, hnews]
  | some a => simp [Builtin.append_, h0, h1, hv0, hv1, run_underlying ht, sizeOf, typeInfo, hi, Builtin.lenOf, hroom, hnews, hst]
theorem run_append_new {t ty e : TypeId} {i : TypeInfo} {z : Value} {ts : Array TypeId} {vs : Array Value} {base A : Option Addr} {sLen sCap m c : Nat} {olds news : Array Value} (h0 : ts[0]? = some t) (h1 : ts[1]? = some t) (hv0 : vs[0]? = some (.slice base sLen sCap)) (hv1 : vs[1]? = some (.slice A m c))
    (ht : P.underlying t = some (.slice e)) (hi : P.info? e = some i) (hz : i.zero = some z) (hb0 : i.bytes ≠ 0) (hb : i.bytes ≤ 32768) (holds : (Builtin.firstCells i.size sLen (.slice base sLen sCap)).run P s.w.drew = .ok olds s.w.drew) (hnews : (Builtin.firstCells i.size m (.slice A m c)).run P s.w.drew = .ok news s.w.drew)
    (hgrow : sCap < sLen + m) (hmost : sLen + m < most) :
    (Builtin.append_ ts ty vs).run P s.w = .ok (.slice (some ⟨s.w.heap.size, 0, none⟩) (sLen + m) (grownCap s.w (sLen + m) sCap e)) (s.w.drew.alloc (.cells (olds ++ news ++ Builtin.zeroCells z.cells (grownCap s.w (sLen + m) sCap e - (sLen + m))) e)) := by
  simp only [most] at hmost
  have hbytes : (sLen + m) * i.bytes ≤ 140737488355328 := by
    have := Nat.mul_le_mul (show sLen + m ≤ 4294967296 by omega) hb
    omega
  have hfits := growslice_fits hgrow hbytes
  have h63 : ¬ ((sLen + m : Nat) : Int) > IntKind.i64.max := by simp [IntKind.max, IntKind.bits, IntKind.signed]; omega
  have hno : ¬ (sLen + m ≤ sCap) := by omega
  have hfits' : ¬ Builtin.nextslicecap (sLen + m) sCap * i.bytes > 281474976710656 := by omega
  simp [Builtin.append_, h0, h1, hv0, hv1, run_underlying ht, sizeOf, typeInfo, hi, Builtin.lenOf, hno, hnews, holds, hb0, hfits', zeroValue, hz, newRow, Question.forced, grownCap]
/-- An object moves to a new block, and to its next generation. -/
theorem step_move (hs : Sim B0 s) (hB : B0 ≤ s.w.heap.size) {l k k' g g' : Nat} {cs cs' : List AV} {row row' : Bool} {w' : World} {us : Array Value} {e : TypeId}
    (hl : s.H[l]? = some (some (.cells cs k g row false))) (hg : g < g') (hw : w'.heap = s.w.heap.push (.cells us e)) (hbel : Below B0 s.w w') (hlen : cs'.length ≤ us.size)
    (hc : ∀ (j : Nat) (x : AV), cs'[j]? = some x → ∃ u, us[j]? = some u ∧ VR s x u) :
    ∃ t, t.H = s.H.set l (some (.cells cs' k' g' row' false)) ∧ t.w = w' ∧ t.Pr = s.Pr ∧ t.lay l = some (s.w.heap.size, 0) ∧ Step B0 s t := by
  obtain ⟨b, p, hlay, h0, _, _, _⟩ := hs.obj l _ hl
  have hlt : l < s.H.length := (List.getElem?_eq_some_iff.1 hl).1
  have hold : ∀ b, b < s.w.heap.size → w'.heap[b]? = s.w.heap[b]? := fun b hb => by rw [hw, Array.getElem?_push, if_neg (by omega)]
  have hnew : w'.heap[s.w.heap.size]? = some (.cells us e (0, 0)) := by rw [hw, Array.getElem?_push, if_pos rfl]
  have hsz : w'.heap.size = s.w.heap.size + 1 := by rw [hw]; simp
  let t : Stt := ⟨fun i => if i = l then some (s.w.heap.size, 0) else s.lay i, s.H.set l (some (.cells cs' k' g' row' false)), s.Pr, w'⟩
  have hgl : atGen t.H l g' := ⟨cs', k', row', false, by simp [t, hlt]⟩
  have hk : Keeps s t := by
    refine ⟨fun _ h => h, fun i hi => hold i (hs.old i hi), fun i g1 h1 => ?_, fun i es he => ?_⟩
    · by_cases hi : i = l
      · subst hi
        have := atGen_inj h1 ⟨cs, k, row, false, hl⟩
        subst this
        exact ⟨g', by omega, hgl, fun e => by omega⟩
      · refine ⟨g1, Nat.le_refl _, ?_, fun _ => ⟨by simp [t, hi], fun b2 p2 h2 => by simp only [bsize, t, hold b2 (hs.lay i b2 p2 h2).2]⟩⟩
        obtain ⟨c1, k1, r1, f1, h2⟩ := h1
        exact ⟨c1, k1, r1, f1, by simp only [t]; rw [List.getElem?_set_ne (Ne.symm hi)]; exact h2⟩
    · have hi : i ≠ l := by rintro rfl; rw [hl] at he; simp at he
      exact ⟨⟨es, by simp only [t]; rw [List.getElem?_set_ne (Ne.symm hi)]; exact he⟩, by simp [t, hi]⟩
  have hnp : ¬ s.Pr s.w.heap.size := fun h => Nat.lt_irrefl _ (hs.old _ h)
  refine ⟨t, rfl, rfl, rfl, by simp [t], hk, ⟨fun i q hi => ?_, fun i i' b1 p1 p2 hi hi' => ?_, fun i hi => ?_, fun i b1 p1 hi => ?_⟩, hbel, fun _ _ h => h⟩
  · by_cases hne : i = l
    · subst hne
      have : some (some (LObj.cells cs' k' g' row' false)) = some (some q) := by rw [← hi]; simp [t, hlt]
      simp only [Option.some.injEq] at this
      subst this
      exact ⟨s.w.heap.size, 0, by simp [t], hB, ⟨us, e, hnew, by omega, fun j x hx => let ⟨u, hu, hv⟩ := hc j x hx; ⟨u, by simpa using hu, hv.move hk⟩⟩, fun h => by simp at h, fun _ => hnp⟩
    · have hi' : s.H[i]? = some (some q) := by simp only [t] at hi; rw [List.getElem?_set_ne (Ne.symm hne)] at hi; exact hi
      obtain ⟨b1, p1, h1, h2⟩ := hs.obj i q hi'
      exact ⟨b1, p1, by simp [t, hne, h1], h2.move hk (hold b1 (hs.lay i b1 p1 h1).2) Iff.rfl⟩
  · simp only [t] at hi hi'
    split at hi <;> split at hi'
    · rename_i e1 e2; rw [e1, e2]
    · injection hi with hi; injection hi with h1 h2; subst h1
      have := (hs.lay _ _ _ hi').2; omega
    · injection hi' with hi'; injection hi' with h1 h2; subst h1
      have := (hs.lay _ _ _ hi).2; omega
    · exact hs.inj i i' b1 p1 p2 hi hi'
  · have := hs.old i hi; simp only [t]; omega
  · simp only [t, List.length_set] at hi ⊢
    split at hi
    · injection hi with hi; injection hi with h1 h2
      rename_i e1; subst e1
      exact ⟨hlt, by omega⟩
    · have := hs.lay i b1 p1 hi
      exact ⟨by omega, by omega⟩
/-- An append that grows: the new row. -/
theorem h_grow (hs : Sim B0 s) (hB : B0 ≤ s.w.heap.size) {t ty e : TypeId} {i : TypeInfo} {z : List AV} {ts : Array TypeId} {vs : Array Value} {base A : Option Addr} {sLen sCap m c l : Nat} {ys xs : List AV} {slot : Option Nat} {H' : Hp} (h0 : ts[0]? = some t) (h1 : ts[1]? = some t) (hv0 : vs[0]? = some (.slice base sLen sCap)) (hv1 : vs[1]? = some (.slice A m c))
    (ht : P.underlying t = some (.slice e)) (hi : P.info? e = some i) (hz : tzeroK P e = some z) (hb0 : i.bytes ≠ 0) (hb : i.bytes ≤ 32768)
    (hx : xs.length = sLen * i.size) (hx' : ∀ (j : Nat) (y : AV), xs[j]? = some y → ∃ b q, base = some ⟨b, q, none⟩ ∧ ∃ u, s.w.cell? ⟨b, q + j, none⟩ = some u ∧ VR s y u)
    (hy : ys.length = m * i.size) (hy' : ∀ (j : Nat) (y : AV), ys[j]? = some y → ∃ b q, A = some ⟨b, q, none⟩ ∧ ∃ u, s.w.cell? ⟨b, q + j, none⟩ = some u ∧ VR s y u)
    (hgrow : sCap < sLen + m) (hmost : sLen + m < most) (hn : newAt slot (.cells (xs ++ ys) i.size 1 true false) s.H = some (l, H')) :
    ∃ u s', (Builtin.append_ ts ty vs).run P s.w = .ok u s'.w ∧ VR s' (.ref l 0 (sLen + m) 1 i.size) u ∧ s'.H = H' ∧ Step B0 s s' := by
  obtain ⟨i', zv, hi', hzv, hcz, hzl, hzs⟩ := tzeroK_spec s hz
  rw [hi] at hi'; injection hi' with hi'; subst hi'
  obtain ⟨olds, o1, o2, o3⟩ := run_first (P := P) i.size sLen sCap hx hx' sLen
  obtain ⟨news, n1, n2, n3⟩ := run_first (P := P) i.size m c hy hy' m
  have hrun := run_append_new (P := P) (ty := ty) h0 h1 hv0 hv1 ht hi hzv hb0 hb (o1 s.w.drew fun _ => rfl) (n1 s.w.drew fun _ => rfl) hgrow hmost
  have hcap := grownCap_ge s.w (sLen + m) sCap e
  obtain ⟨t1, t2, t3, t4, t5⟩ := h_row hs hB (w' := s.w.drew.alloc (.cells (olds ++ news ++ Builtin.zeroCells zv.cells (grownCap s.w (sLen + m) sCap e - (sLen + m))) e)) (us := olds ++ news ++ Builtin.zeroCells zv.cells (grownCap s.w (sLen + m) sCap e - (sLen + m))) (e := e)
    (n := sLen + m) (c := grownCap s.w (sLen + m) sCap e) hn rfl (Below.alloc (Below.drew (.refl _ _)) hB _) (by simp [hx, hy, o2, n2]) (fun j y hj => by
      by_cases h : j < sLen * i.size
      · rw [List.getElem?_append_left (by omega)] at hj
        have hj' : j < olds.size := by omega
        exact ⟨olds[j], by rw [Array.getElem?_append_left (by simp; omega), Array.getElem?_append_left hj', Array.getElem?_eq_getElem hj'], o3 j y _ hj (Array.getElem?_eq_getElem hj')⟩
      · rw [List.getElem?_append_right (by omega), hx] at hj
        have hj' : j - sLen * i.size < news.size := by rw [n2, ← hy]; exact (List.getElem?_eq_some_iff.1 hj).1
        exact ⟨news[j - sLen * i.size], by rw [Array.getElem?_append_left (by simp; omega), Array.getElem?_append_right (by omega), o2, Array.getElem?_eq_getElem hj'], n3 _ y _ hj (Array.getElem?_eq_getElem hj')⟩) hcap
    (by simp only [Array.size_append, size_zeroCells, o2, n2, hzs, ← Nat.add_mul]; exact Nat.mul_le_mul_right _ (by omega))
  exact ⟨_, t1, by rw [t2]; exact hrun, t3, t4, t5⟩
theorem Step.of_run {u : Value} {w : World} (h : w = s.w) (hs : Sim B0 s) : Step B0 s s := .refl hs
/-- An append of nothing. -/
theorem h_none (hs : Sim B0 s) {t ty e : TypeId} {i : TypeInfo} {ts : Array TypeId} {vs : Array Value} {base A : Option Addr} {sLen sCap c : Nat} (h0 : ts[0]? = some t) (h1 : ts[1]? = some t) (hv0 : vs[0]? = some (.slice base sLen sCap)) (hv1 : vs[1]? = some (.slice A 0 c))
    (ht : P.underlying t = some (.slice e)) (hi : P.info? e = some i) (hle : sLen ≤ sCap) : (Builtin.append_ ts ty vs).run P s.w = .ok (.slice base sLen sCap) s.w := by
  obtain ⟨us, h2, h3, _⟩ := run_first (P := P) (s := s) (A := A) (ys := []) i.size 0 c (by simp) (fun j y hy => by simp at hy) 0
  have : us = #[] := by simpa using h3
  subst this
  refine run_append_has (P := P) (ty := ty) h0 h1 hv0 hv1 ht hi (h2 s.w fun _ => rfl) (by omega) ?_
  cases base <;> simp [storeCells]
theorem h_append {t ty e : TypeId} {i : TypeInfo} {z : List AV} {ts : Array TypeId} {vs : Array Value} {x y v : AV} {vx vy : Value} {slot : Option Nat} {H' : Hp} (hs : Sim B0 s) (hB : B0 ≤ s.w.heap.size) (h0 : ts[0]? = some t) (h1 : ts[1]? = some t) (hv0 : vs[0]? = some vx) (hv1 : vs[1]? = some vy)
    (ht : P.underlying t = some (.slice e)) (hi : P.info? e = some i) (hz : tzeroK P e = some z) (hk0 : i.size ≠ 0) (hb0 : i.bytes ≠ 0) (hb : i.bytes ≤ 32768) (hx : VR s x vx) (hy : VR s y vy) (h : hAppend slot s.H i.size x y = some (v, H')) :
    ∃ u s', (Builtin.append_ ts ty vs).run P s.w = .ok u s'.w ∧ VR s' v u ∧ s'.H = H' ∧ Step B0 s s' := by
  unfold hAppend at h
  cases hrow : rowOf s.H y with
  | none => simp only [hrow] at h; cases h
  | some r =>
    obtain ⟨ys, m⟩ := r
    simp only [hrow] at h
    obtain ⟨A, c, rfl, hm0, hcells⟩ := rowOf_cells hs hy hrow
    have new : ∀ {base : Option Addr} {v0 : AV}, VR s v0 (.slice base 0 0) → vx = .slice base 0 0 → appNew slot s.H i.size ys m v0 = some (v, H') →
        ∃ u s', (Builtin.append_ ts ty vs).run P s.w = .ok u s'.w ∧ VR s' v u ∧ s'.H = H' ∧ Step B0 s s' := by
      intro base v0 hv he hh
      subst he
      unfold appNew at hh
      split at hh
      · rename_i hm
        subst hm
        simp only [Option.some.injEq, Prod.mk.injEq] at hh
        obtain ⟨rfl, rfl⟩ := hh
        exact ⟨_, s, h_none hs h0 h1 hv0 hv1 ht hi (Nat.le_refl _), hv, rfl, .refl hs⟩
      · rename_i hm
        split at hh
        · rename_i hc
          simp only [Option.map_eq_some_iff, Prod.mk.injEq] at hh
          obtain ⟨⟨l, H1⟩, hn, rfl, rfl⟩ := hh
          obtain ⟨u, s', r1, r2, r3, r4⟩ := h_grow (P := P) (ty := ty) hs hB (xs := []) h0 h1 hv0 hv1 ht hi hz hb0 hb (by simp) (fun j y hy => by simp at hy) hc.2.1 hcells (by omega) (by simpa using hc.1) (by simpa using hn)
          exact ⟨u, s', r1, by simpa using r2, r3, r4⟩
        · cases hh
    split at h
    · have := hx; cases this with | pure hp => cases hp; exact new hx rfl h
    · have := hx; cases this with | pure hp => cases hp; exact new hx rfl h
    · have := hx; cases this with | pure hp => cases hp; exact new hx rfl h
    · rename_i es
      have hx' := hx
      cases hx' with
      | pure hp => cases hp
      | tmpl b o k _ U hb' hk hw hh =>
        split at h
        · rename_i hm
          subst hm
          simp only [Option.some.injEq, Prod.mk.injEq] at h
          obtain ⟨rfl, rfl⟩ := h
          exact ⟨_, s, h_none hs h0 h1 hv0 hv1 ht hi (Nat.le_refl _), hx, rfl, .refl hs⟩
        · split at h
          · rename_i hm hc
            obtain ⟨c1, c2, c3, c4⟩ := hc
            simp only [Option.map_eq_some_iff, Prod.mk.injEq] at h
            obtain ⟨⟨l, H1⟩, hn, rfl, rfl⟩ := h
            have hkk : es = [] ∨ i.size = k := by
              by_cases he : es = []
              · exact .inl he
              · exact .inr (lenIs_spec c1 hk he)
            obtain ⟨f1, f2⟩ := flat_get es hk
            have hfl : es.flatten.length = es.length * i.size := by
              rcases hkk with h | h
              · subst h; simp
              · rw [h]; exact f1
            obtain ⟨u, s', r1, r2, r3, r4⟩ := h_grow (P := P) (ty := ty) hs hB (xs := es.flatten) h0 h1 hv0 hv1 ht hi hz hb0 hb hfl (fun j y hy => by
              obtain ⟨i', e', j', a1, a2, a3⟩ := f2 j y hy
              exact ⟨b, o, rfl, U i' j', by rw [← hw i' e' j' y a1 a2, a3]; congr 2; omega, hh i' e' j' y a1 a2⟩) c3 hcells (by omega) c2 hn
            exact ⟨u, s', r1, r2, r3, r4⟩
          · cases h
    · rename_i l o n g k'
      unfold hAppRef at h
      split at h
      · rename_i cs k1 g' row frz hl
        split at h
        · rename_i hc
          obtain ⟨rfl, rfl, rfl, rfl, hfull, hylen, hmost, hone⟩ := hc
          obtain ⟨A', cp, rfl, _, hn, hA, href⟩ := vr_ref hx
          obtain ⟨b, p, cur, e', hlay, hB0, hcur, hsz, hcells1, hcells2, hbs⟩ := obj_cells hs hl
          have hr := href ⟨cs, k1, true, false, hl⟩ b p hlay
          split at h
          · rename_i hm
            subst hm
            simp only [Option.some.injEq, Prod.mk.injEq] at h
            obtain ⟨rfl, rfl⟩ := h
            exact ⟨_, s, h_none hs h0 h1 hv0 hv1 ht hi hn, hx, rfl, .refl hs⟩
          · rename_i hm
            simp only [setH, fO_eq, fSet_eq, Option.some.injEq, Prod.mk.injEq] at h
            obtain ⟨rfl, rfl⟩ := h
            have hlt : l < s.H.length := (List.getElem?_eq_some_iff.1 hl).1
            by_cases hroom : n + m ≤ cp
            · obtain ⟨hA'', hfit⟩ := hr
              have hA3 := hA''.resolve_left (by omega)
              subst hA3
              obtain ⟨news, n1, n2, n3⟩ := run_first (P := P) i.size m c hylen hcells m
              have hle : (n + m) * i.size ≤ cp * i.size := Nat.mul_le_mul_right _ hroom
              rw [Nat.add_mul] at hle
              have hst := run_storeCells_at P b (p + o + n * i.size) e' news.toList 0 cur s.w hcur (by simp [n2]; omega) (all_one (s := s) (by simp [hylen, n2]) (fun i y v hy hv => n3 i y v hy (by simpa using hv)) hone)
              simp only [Nat.add_zero] at hst
              have hfit' : p + o + n * i.size + news.toList.length ≤ cur.toList.length := by simp [n2]; omega
              obtain ⟨t1, e1, e2, e3, e4, e5⟩ := step_cells hs (k' := i.size) (row' := true) (cs' := cs.drop o ++ ys) (p' := p + o) (g' := g + 1) (w' := s.w.setRow b (cur.toList.take (p + o + n * i.size) ++ news.toList ++ cur.toList.drop (p + o + n * i.size + news.toList.length)).toArray) hl hlay (.inr (by omega)) hcur
                (setRow_heap s.w b cur _ e' _ hcur) (by simp only [List.size_toArray]; rw [seg_size _ _ _ hfit']; simp) (fun i hi => setRow_other s.w b i _ hi)
                ⟨rfl, rfl, rfl, by simp, fun i hi => setRow_other s.w b i _ (by omega)⟩
                (by simp only [List.size_toArray]; rw [seg_size _ _ _ hfit']; simp [hylen]; omega)
                (fun j x hx => by
                  simp only [List.getElem?_toArray]
                  rw [seg_get _ _ _ hfit']
                  by_cases hj : j < n * i.size
                  · rw [List.getElem?_append_left (by simp; omega), List.getElem?_drop] at hx
                    obtain ⟨u, hu, hv⟩ := hcells1 _ x hx
                    refine ⟨u, ?_, hv⟩
                    rw [if_pos (by omega), ← hu, Array.getElem?_toList]
                    congr 1; omega
                  · rw [List.getElem?_append_right (by simp; omega)] at hx
                    have hjl : (cs.drop o).length = n * i.size := by simp; omega
                    rw [hjl] at hx
                    have hj2 : j - n * i.size < m * i.size := by rw [← hylen]; exact (List.getElem?_eq_some_iff.1 hx).1
                    have hj3 : j - n * i.size < news.size := by omega
                    refine ⟨news[j - n * i.size], ?_, n3 _ x _ hx (Array.getElem?_eq_getElem hj3)⟩
                    rw [if_neg (by omega), if_pos (by simp [n2]; omega), show p + o + j - (p + o + n * i.size) = j - n * i.size by omega, Array.getElem?_toList, Array.getElem?_eq_getElem hj3])
              refine ⟨_, t1, run_append_has (P := P) (ty := ty) h0 h1 hv0 hv1 ht hi (n1 s.w fun _ => rfl) hroom (by simp only [addr_add]; rw [hst, e2]), ?_, e1, e5⟩
              have hat : atGen t1.H l (g + 1) := ⟨cs.drop o ++ ys, i.size, true, false, by rw [e1]; simp [hlt]⟩
              refine .ref l 0 (n + m) (g + 1) i.size _ cp ⟨_, Nat.le_refl _, hat⟩ hroom (fun _ => ⟨_, rfl⟩) fun _ b' p' hlay' => ?_
              rw [e4] at hlay'
              simp only [Option.some.injEq, Prod.mk.injEq] at hlay'
              obtain ⟨rfl, rfl⟩ := hlay'
              refine ⟨.inr rfl, ?_⟩
              have : bsize t1.w b = cur.size := by
                rw [e2]; simp only [bsize, setRow_heap s.w b cur _ e' _ hcur, List.size_toArray]; rw [seg_size _ _ _ hfit']; simp
              rw [this, ← hbs]; exact hfit
            · -- a new block: the object moves there
              obtain ⟨i', zv, hi', hzv, hcz, hzl, hzs⟩ := tzeroK_spec s hz
              rw [hi] at hi'; injection hi' with hi'; subst hi'
              have hdl : (cs.drop o).length = n * i.size := by simp; omega
              obtain ⟨olds, o1, o2, o3⟩ := run_first (P := P) (s := s) (A := A') (ys := cs.drop o) i.size n cp hdl (fun j y hy => by
                have hj : j < n * i.size := by rw [← hdl]; exact (List.getElem?_eq_some_iff.1 hy).1
                rw [List.getElem?_drop] at hy
                obtain ⟨u, hu, hv⟩ := hcells2 _ y hy
                have hcp : cp ≠ 0 := by rintro rfl; have : n = 0 := by omega
                                        subst this; omega
                exact ⟨b, p + o, hr.1.resolve_left hcp, u, by rw [← hu]; congr 2; omega, hv⟩) n
              obtain ⟨news, n1, n2, n3⟩ := run_first (P := P) i.size m c hylen hcells m
              have hrun := run_append_new (P := P) (ty := ty) h0 h1 hv0 hv1 ht hi hzv hb0 hb (o1 s.w.drew fun _ => rfl) (n1 s.w.drew fun _ => rfl) (by omega) hmost
              have hcap := grownCap_ge s.w (n + m) cp e
              have hus : (n + m) * i.size ≤ grownCap s.w (n + m) cp e * i.size := Nat.mul_le_mul_right _ hcap
              obtain ⟨t1, e1, e2, e3, e4, e5⟩ := step_move hs hB (k' := i.size) (row' := true) (cs' := cs.drop o ++ ys) (g' := g + 1) (w' := s.w.drew.alloc (.cells (olds ++ news ++ Builtin.zeroCells zv.cells (grownCap s.w (n + m) cp e - (n + m))) e)) (us := olds ++ news ++ Builtin.zeroCells zv.cells (grownCap s.w (n + m) cp e - (n + m))) (e := e) hl (by omega) rfl (Below.alloc (Below.drew (.refl _ _)) hB _)
                (by simp [o2, n2, hylen]; omega) (fun j y hj => by
                  by_cases h : j < n * i.size
                  · rw [List.getElem?_append_left (by omega)] at hj
                    have hj' : j < olds.size := by omega
                    exact ⟨olds[j], by rw [Array.getElem?_append_left (by simp; omega), Array.getElem?_append_left hj', Array.getElem?_eq_getElem hj'], o3 j y _ hj (Array.getElem?_eq_getElem hj')⟩
                  · rw [List.getElem?_append_right (by omega), hdl] at hj
                    have hj' : j - n * i.size < news.size := by rw [n2, ← hylen]; exact (List.getElem?_eq_some_iff.1 hj).1
                    exact ⟨news[j - n * i.size], by rw [Array.getElem?_append_left (by simp; omega), Array.getElem?_append_right (by omega), o2, Array.getElem?_eq_getElem hj'], n3 _ y _ hj (Array.getElem?_eq_getElem hj')⟩)
              refine ⟨_, t1, by rw [e2]; exact hrun, ?_, e1, e5⟩
              have hat : atGen t1.H l (g + 1) := ⟨cs.drop o ++ ys, i.size, true, false, by rw [e1]; simp [hlt]⟩
              refine .ref l 0 (n + m) (g + 1) i.size _ _ ⟨_, Nat.le_refl _, hat⟩ hcap (fun _ => ⟨_, rfl⟩) fun _ b' p' hlay' => ?_
              rw [e4] at hlay'
              simp only [Option.some.injEq, Prod.mk.injEq] at hlay'
              obtain ⟨rfl, rfl⟩ := hlay'
              refine ⟨.inr rfl, ?_⟩
              rw [e2]
              have : bsize (s.w.drew.alloc (.cells (olds ++ news ++ Builtin.zeroCells zv.cells (grownCap s.w (n + m) cp e - (n + m))) e)) s.w.heap.size = (olds ++ news ++ Builtin.zeroCells zv.cells (grownCap s.w (n + m) cp e - (n + m))).size := by
                have h := heap_alloc_new s.w.drew (.cells (olds ++ news ++ Builtin.zeroCells zv.cells (grownCap s.w (n + m) cp e - (n + m))) e)
                have h' : (s.w.drew.alloc (.cells (olds ++ news ++ Builtin.zeroCells zv.cells (grownCap s.w (n + m) cp e - (n + m))) e)).heap[s.w.heap.size]? = _ := h
                simp only [bsize, h']
              rw [this]
              simp only [Array.size_append, size_zeroCells, o2, n2, hzs, ← Nat.add_mul, Nat.zero_add]
              exact Nat.mul_le_mul_right _ (by omega)
        · cases h
      · cases h
    · cases h
end
end Go.Ai
