/- Slices: literals, make, append, clear. -/
import Derived.Test.YtlgbbabijifflaaA7
import Derived.Laws.Append
import Derived.Laws.AppendOwn
set_option linter.unusedVariables false
set_option linter.unusedSimpArgs false
namespace Go.Ai
open Go.RowKit
section
variable {P : Program} {s : Stt} {B0 : Nat}
theorem tzeroK_spec (s : Stt) {t : TypeId} {z : List AV} (h : tzeroK P t = some z) : ∃ i zv, P.info? t = some i ∧ i.zero = some zv ∧ cellsOf zv = some z ∧ z.length = i.size ∧ zv.cells.size = i.size := by
  simp only [tzeroK, tzero, tsize] at h
  obtain ⟨z', h1, h⟩ := Option.bind_eq_some_iff.1 h
  obtain ⟨k, h2, h⟩ := Option.bind_eq_some_iff.1 h
  split at h
  · rename_i hk
    injection h with h
    subst h
    obtain ⟨i, hi, h1⟩ := Option.bind_eq_some_iff.1 h1
    obtain ⟨zv, hz, h1⟩ := Option.bind_eq_some_iff.1 h1
    simp only [hi, Option.map_some, Option.some.injEq] at h2
    subst h2
    exact ⟨i, zv, hi, hz, h1, hk, by rw [← (cellsOf_VR (s := s) h1).1]; exact hk⟩
  · cases h
/-- Zero cells, row after row. -/
theorem zero_VR {zv : Value} {z : List AV} {k n : Nat} (hc : cellsOf zv = some z) (hk : z.length = k) :
    ((List.replicate n z).flatten).length = ((Array.range (n * k)).map (zv.cells[· % zv.cells.size]!)).size ∧
    ∀ (i : Nat) (x : AV) (u : Value), ((List.replicate n z).flatten)[i]? = some x → ((Array.range (n * k)).map (zv.cells[· % zv.cells.size]!))[i]? = some u → VR s x u := by
  obtain ⟨h1, h2⟩ := cellsOf_VR (s := s) hc
  obtain ⟨h3, h4⟩ := zrep (n := n) hk
  refine ⟨by simp [h3], fun i x u hx hu => ?_⟩
  obtain ⟨h5, h6⟩ := h4 i x hx
  have hzs : zv.cells.size = k := by omega
  have hlt : i % k < zv.cells.size := by have := (List.getElem?_eq_some_iff.1 h5).1; omega
  simp only [Array.getElem?_map, Array.getElem?_range, h6, if_true, Option.map_some, Option.some.injEq] at hu
  subst hu
  rw [hzs]
  exact h2 _ x _ h5 (by simp [hlt])
/-- A new row: the value that stands for it. -/
theorem h_row (hs : Sim B0 s) (hB : B0 ≤ s.w.heap.size) {slot : Option Nat} {cs : List AV} {k g n c l : Nat} {us : Array Value} {H' : Hp} {w' : World} {e : TypeId} (hn : newAt slot (.cells cs k g true false) s.H = some (l, H'))
    (hw : w'.heap = s.w.heap.push (.cells us e)) (hb : Below B0 s.w w') (hl : cs.length ≤ us.size) (hv : ∀ (i : Nat) (y : AV), cs[i]? = some y → ∃ u, us[i]? = some u ∧ VR s y u)
    (hnc : n ≤ c) (hc : c * k ≤ us.size) : ∃ t, t.w = w' ∧ VR t (.ref l 0 n g k) (.slice (some ⟨s.w.heap.size, 0, none⟩) n c) ∧ t.H = H' ∧ Step B0 s t := by
  obtain ⟨t, t1, t2, t3, t4, t5, t6⟩ := step_new hs hB hn (w' := w') (blk := .cells us e (0, 0)) hw hb ⟨rfl, us, e, rfl, hl, hv⟩
  have hat : atGen t.H l g := ⟨cs, k, true, false, by rw [t1]; exact t6⟩
  refine ⟨t, t2, .ref l 0 n g k _ c ⟨g, Nat.le_refl _, hat⟩ hnc (fun _ => ⟨_, rfl⟩) (fun _ b p hlay => ?_), t1, t4⟩
  rw [t5] at hlay
  simp only [Option.some.injEq, Prod.mk.injEq] at hlay
  rw [← hlay.1, ← hlay.2]
  refine ⟨.inr rfl, ?_⟩
  have : bsize t.w s.w.heap.size = us.size := by
    rw [t2]; simp [bsize, hw]
  omega
/-- A block of no object: nothing leads to it but what is written no more. -/
theorem step_block (hs : Sim B0 s) (hB : B0 ≤ s.w.heap.size) {w' : World} {blk : Obj} (hw : w'.heap = s.w.heap.push blk) (hb : Below B0 s.w w') :
    ∃ t, t.w = w' ∧ t.H = s.H ∧ t.Pr s.w.heap.size ∧ Step B0 s t := by
  have hold : ∀ b, b < s.w.heap.size → w'.heap[b]? = s.w.heap[b]? := fun b hb => by rw [hw, Array.getElem?_push, if_neg (by omega)]
  have hsz : w'.heap.size = s.w.heap.size + 1 := by rw [hw]; simp
  let t : Stt := ⟨s.lay, s.H, fun b => s.Pr b ∨ b = s.w.heap.size, w'⟩
  have hk : Keeps s t := ⟨fun _ h => .inl h, fun b hb => hold b (hs.old b hb), fun l g h => ⟨g, Nat.le_refl _, h, fun _ => ⟨rfl, fun b p hl => by simp only [bsize, t, hold b (hs.lay l b p hl).2]⟩⟩, fun l es h => ⟨⟨es, h⟩, rfl⟩⟩
  refine ⟨t, rfl, rfl, .inr rfl, hk, ⟨fun l o hl => ?_, hs.inj, fun b hb => ?_, fun l b p hl => ?_⟩, hb, fun b hb h => ?_⟩
  · obtain ⟨b, p, h1, h2⟩ := hs.obj l o hl
    have := (hs.lay l b p h1).2
    exact ⟨b, p, h1, h2.move hk (hold b this) ⟨fun h => h.resolve_right (by omega), .inl⟩⟩
  · rcases hb with hb | rfl
    · have := hs.old b hb; simp only [t]; omega
    · simp only [t]; omega
  · have := hs.lay l b p hl
    exact ⟨this.1, by simp only [t]; omega⟩
  · rcases h with h | rfl
    · exact h
    · omega
theorem map_range0 {α : Type} (f : Nat → α) : (Array.range 0).map f = #[] := Array.eq_empty_of_size_eq_zero (by simp)
/-- A slice literal: what is laid. -/
theorem run_rlit {t e : TypeId} {k n : Nat} {z : List AV} {env : List AV} {a : Act} {parts : Array (Nat × Operand)} {ps : List (Nat × Nat × Ex)} {w : World} (hu : P.underlying t = some (.slice e)) (hsz : tsize P e = some k) (hz : tzeroK P e = some z)
    (hp : cparts (fun i => some (i * k, k)) parts.toList = some ps) (hsmall : ¬ n * k > 65536) (hev : ∀ (o : Operand) (x : Ex), ex o = some x → VR s (x.ev env) (a.eval o))
    (h : if n = 0 then ps.isEmpty = true else ∃ cs, fillP env ((List.replicate n z).flatten) ps = some cs) :
    ∃ us : Array Value, (Instr.buildSlice t n (parts.map fun (i, x) => (i, a.eval x))).run P w = .ok (.slice (some ⟨w.heap.size, 0, none⟩) n n) (w.alloc (.cells us e)) ∧
      (n ≠ 0 → ∀ cs, fillP env ((List.replicate n z).flatten) ps = some cs → cs.length = us.size ∧ cs.length = n * k ∧ ∀ (i : Nat) (x : AV) (u : Value), cs[i]? = some x → us[i]? = some u → VR s x u) := by
  obtain ⟨i, zv, hi, hzv, hc, hzl, hzs⟩ := tzeroK_spec s hz
  have hk : i.size = k := by simpa [tsize, hi] using hsz
  subst hk
  have hb : ¬ n * i.size > 2 ^ 24 := by omega
  by_cases h0 : n = 0
  · subst h0
    simp only [if_true, List.isEmpty_iff] at h
    subst h
    have hpn : parts.toList = [] := by
      cases hpl : parts.toList with
      | nil => rfl
      | cons q r =>
        rw [hpl] at hp
        simp only [cparts] at hp
        split at hp <;> simp at hp
    have hpe : parts = #[] := by simpa using hpn
    subst hpe
    refine ⟨#[], by simp [Instr.buildSlice, run_underlying hu, sizeOf, typeInfo, hi, Instr.fill, newRow, map_range0], fun h => absurd rfl h⟩
  · rw [if_neg h0] at h
    obtain ⟨cs, hcs⟩ := h
    by_cases hk0 : i.size = 0
    · obtain ⟨q1, q2⟩ := zero_VR (s := s) (n := n) hc hzl
      obtain ⟨us, hf, hl, hv⟩ := g_fill (a := a) (s := s) hev parts.toList ps _ cs _ hp q1 q2 hcs
      refine ⟨us, ?_, fun _ cs' hcs' => ?_⟩
      · have hf' : Instr.fill (fun j => some (j * i.size, i.size)) #[] ((parts.map fun (i, x) => (i, a.eval x)).toList) = some us := by
          have e0 : (Array.range (n * i.size)).map (zv.cells[· % zv.cells.size]!) = #[] := by rw [hk0, Nat.mul_zero, map_range0]
          have e1 : (parts.map fun (i, x) => (i, a.eval x)).toList = parts.toList.map fun (i, x) => (i, a.eval x) := by simp
          rw [← hf, e0, e1]
        simp only [hk0] at hf'
        simp at hf'
        simp [Instr.buildSlice, run_underlying hu, sizeOf, typeInfo, hi, hk0, newRow, map_range0]
        simp [hf']
      · rw [hcs] at hcs'; injection hcs' with hcs'; subst hcs'
        exact ⟨hl, by rw [fill_size _ _ _ hcs, (zrep (n := n) hzl).1], hv⟩
    · obtain ⟨q1, q2⟩ := zero_VR (s := s) (n := n) hc hzl
      obtain ⟨us, hf, hl, hv⟩ := g_fill (a := a) (s := s) hev parts.toList ps _ cs _ hp q1 q2 hcs
      have hne : ¬ n * i.size = 0 := by
        intro h; rcases Nat.mul_eq_zero.1 h with h | h <;> contradiction
      have hf' : Instr.fill (fun j => some (j * i.size, i.size)) ((Array.range (n * i.size)).map (zv.cells[· % zv.cells.size]!)) ((parts.map fun (i, x) => (i, a.eval x)).toList) = some us := by
        rw [← hf]; congr 1; simp
      refine ⟨us, ?_, fun _ cs' hcs' => ?_⟩
      · simp [Instr.buildSlice, run_underlying hu, sizeOf, typeInfo, zeroValue, hi, hzv, hb, hne, newRow] at hf' ⊢
        simp [hf']
      · rw [hcs] at hcs'; injection hcs' with hcs'; subst hcs'
        exact ⟨hl, by rw [fill_size _ _ _ hcs, (zrep (n := n) hzl).1], hv⟩
theorem h_rlit {t e : TypeId} {k n : Nat} {z : List AV} {env : List AV} {a : Act} {parts : Array (Nat × Operand)} {ps : List (Nat × Nat × Ex)} {slot : Option Nat} {v : AV} {H' : Hp} (hs : Sim B0 s) (hB : B0 ≤ s.w.heap.size) (hu : P.underlying t = some (.slice e)) (hsz : tsize P e = some k) (hz : tzeroK P e = some z)
    (hp : cparts (fun i => some (i * k, k)) parts.toList = some ps) (hsmall : ¬ n * k > 65536) (hev : ∀ (o : Operand) (x : Ex), ex o = some x → VR s (x.ev env) (a.eval o)) (h : hRlit slot env s.H n k z ps = some (v, H')) :
    ∃ u s', (Instr.buildSlice t n (parts.map fun (i, x) => (i, a.eval x))).run P s.w = .ok u s'.w ∧ VR s' v u ∧ s'.H = H' ∧ Step B0 s s' := by
  unfold hRlit at h
  split at h
  · rename_i h0
    subst h0
    split at h
    · rename_i he
      simp only [Option.some.injEq, Prod.mk.injEq] at h
      obtain ⟨rfl, rfl⟩ := h
      obtain ⟨us, h1, _⟩ := run_rlit (P := P) (s := s) (w := s.w) (n := 0) hu hsz hz hp hsmall hev (by simpa using he)
      obtain ⟨t, t1, t2, t3, t4⟩ := step_block hs hB (w' := s.w.alloc (.cells us e)) (blk := .cells us e (0, 0)) rfl (Below.alloc (.refl _ _) hB _)
      exact ⟨_, t, by rw [t1]; exact h1, .pure (.mtn _), t2, t4⟩
    · cases h
  · rename_i h0
    obtain ⟨cs, hcs, h⟩ := Option.bind_eq_some_iff.1 h
    simp only [Option.map_eq_some_iff, Prod.mk.injEq] at h
    obtain ⟨⟨l, H1⟩, hn, rfl, rfl⟩ := h
    obtain ⟨us, h1, h2⟩ := run_rlit (P := P) (s := s) (w := s.w) (n := n) hu hsz hz hp hsmall hev (by rw [if_neg h0]; exact ⟨cs, hcs⟩)
    obtain ⟨q1, q2, q3⟩ := h2 h0 cs hcs
    obtain ⟨t, t1, t2, t3, t4⟩ := h_row hs hB (w' := s.w.alloc (.cells us e)) (us := us) (e := e) (n := n) (c := n) hn rfl (Below.alloc (.refl _ _) hB _) (by omega)
      (fun i y hy => by
        have hi : i < us.size := by rw [← q1]; exact (List.getElem?_eq_some_iff.1 hy).1
        exact ⟨us[i], Array.getElem?_eq_getElem hi, q3 i y _ hy (Array.getElem?_eq_getElem hi)⟩) (Nat.le_refl _) (by omega)
    exact ⟨_, t, by rw [t1]; exact h1, t2, t3, t4⟩
theorem h_tlit {t e : TypeId} {k n : Nat} {z : List AV} {env : List AV} {a : Act} {parts : Array (Nat × Operand)} {ps : List (Nat × Nat × Ex)} {v : AV} {H' : Hp} (hs : Sim B0 s) (hB : B0 ≤ s.w.heap.size) (hu : P.underlying t = some (.slice e)) (hsz : tsize P e = some k) (hz : tzeroK P e = some z)
    (hp : cparts (fun i => some (i * k, k)) parts.toList = some ps) (hsmall : ¬ n * k > 65536) (hev : ∀ (o : Operand) (x : Ex), ex o = some x → VR s (x.ev env) (a.eval o)) (h : hTlit env s.H n k z ps = some (v, H')) :
    ∃ u s', (Instr.buildSlice t n (parts.map fun (i, x) => (i, a.eval x))).run P s.w = .ok u s'.w ∧ VR s' v u ∧ s'.H = H' ∧ Step B0 s s' := by
  unfold hTlit at h
  split at h
  · rename_i h0
    subst h0
    split at h
    · rename_i he
      simp only [Option.some.injEq, Prod.mk.injEq] at h
      obtain ⟨rfl, rfl⟩ := h
      obtain ⟨us, h1, _⟩ := run_rlit (P := P) (s := s) (w := s.w) (n := 0) hu hsz hz hp hsmall hev (by simpa using he)
      obtain ⟨t, t1, t2, t3, t4⟩ := step_block hs hB (w' := s.w.alloc (.cells us e)) (blk := .cells us e (0, 0)) rfl (Below.alloc (.refl _ _) hB _)
      exact ⟨_, t, by rw [t1]; exact h1, .pure (.mtn _), t2, t4⟩
    · cases h
  · rename_i h0
    simp only [pTlit, Option.map_map, Option.map_eq_some_iff, Function.comp, Prod.mk.injEq] at h
    obtain ⟨cs, hcs, rfl, rfl⟩ := h
    obtain ⟨us, h1, h2⟩ := run_rlit (P := P) (s := s) (w := s.w) (n := n) hu hsz hz hp hsmall hev (by rw [if_neg h0]; exact ⟨cs, hcs⟩)
    obtain ⟨q1, q2, q3⟩ := h2 h0 cs hcs
    obtain ⟨t, t1, t2, t3, t4⟩ := step_block hs hB (w' := s.w.alloc (.cells us e)) (blk := .cells us e (0, 0)) rfl (Below.alloc (.refl _ _) hB _)
    refine ⟨.slice (some ⟨s.w.heap.size, 0, none⟩) n n, t, by rw [t1]; exact h1, ?_, t2, t4⟩
    have := VR.tmpl (s := t) s.w.heap.size 0 k (chunk k n cs) (fun i j => us.getD (i * k + j) undef) t3 (fun e he => by obtain ⟨i, hi⟩ := List.getElem?_of_mem he; exact chunk_elem q2 hi) (fun i e j x he hx => ?_) (fun i e j x he hx => ?_)
    · rw [chunk_length] at this; exact this
    · obtain ⟨hj, h3⟩ := chunk_cell q2 he hx
      have hi : i * k + j < us.size := by rw [← q1]; exact (List.getElem?_eq_some_iff.1 h3).1
      rw [t1]
      simp only [World.cell?, heap_alloc_new s.w]
      simp [hi, Array.getD_eq_getD_getElem?]
    · obtain ⟨hj, h3⟩ := chunk_cell q2 he hx
      have hi : i * k + j < us.size := by rw [← q1]; exact (List.getElem?_eq_some_iff.1 h3).1
      simp only [Array.getD_eq_getD_getElem?, Array.getElem?_eq_getElem hi, Option.getD_some]
      exact (q3 _ x _ h3 (Array.getElem?_eq_getElem hi)).move t4.keeps
theorem h_mslice {t e : TypeId} {z : List AV} {len cap v : AV} {vl vc : Value} {i : TypeInfo} {slot : Option Nat} {H' : Hp} (hs : Sim B0 s) (hB : B0 ≤ s.w.heap.size) (hu : P.underlying t = some (.slice e)) (hi : P.info? e = some i) (hz : tzeroK P e = some z)
    (hl : VR s len vl) (hc : VR s cap vc) (h : hMslice slot s.H i.size i.bytes z len cap = some (v, H')) :
    ∃ u s', (Instr.makeSlice t vl vc).run P s.w = .ok u s'.w ∧ VR s' v u ∧ s'.H = H' ∧ Step B0 s s' := by
  obtain ⟨i', zv, hi', hzv, hcz, hzl, hzs⟩ := tzeroK_spec s hz
  rw [hi] at hi'; injection hi' with hi'; subst hi'
  unfold hMslice at h
  split at h
  · rename_i kl n kc c
    obtain rfl := vr_int hl
    obtain rfl := vr_int hc
    split at h
    · rename_i hcond
      obtain ⟨h1, h2, h3, h4⟩ := hcond
      simp only [Option.map_eq_some_iff, Prod.mk.injEq] at h
      obtain ⟨⟨l, H1⟩, hn, rfl, rfl⟩ := h
      simp only [most] at h3 h4
      have hwc : IntKind.i64.wrap c = c := wrap_top (k := .i64) (by omega) (by simp [topN]; omega)
      have hwn : IntKind.i64.wrap n = n := wrap_top (k := .i64) h1 (by simp [topN]; omega)
      obtain ⟨q1, q2⟩ := zero_VR (s := s) (n := c.toNat) hcz hzl
      obtain ⟨r1, r2⟩ := zero_VR (s := s) (n := n.toNat) hcz hzl
      have hle : n.toNat * i.size ≤ c.toNat * i.size := Nat.mul_le_mul_right _ (by omega)
      have hz1 := (zrep (n := n.toNat) hzl).1
      have hz2 := (zrep (n := c.toNat) hzl).1
      obtain ⟨t, t1, t2, t3, t4⟩ := h_row hs hB (w' := s.w.alloc (.cells ((Array.range (c.toNat * i.size)).map (zv.cells[· % zv.cells.size]!)) e)) (us := (Array.range (c.toNat * i.size)).map (zv.cells[· % zv.cells.size]!)) (e := e) (n := n.toNat) (c := c.toNat) hn rfl (Below.alloc (.refl _ _) hB _)
        (by simp [hz1]; exact hle) (fun j y hy => by
          have hj : j < n.toNat * i.size := by rw [← hz1]; exact (List.getElem?_eq_some_iff.1 hy).1
          refine ⟨zv.cells[j % zv.cells.size]!, by simp [show j < c.toNat * i.size by omega], r2 j y _ hy (by simp [hj])⟩) (by omega) (by simp)
      refine ⟨_, t, ?_, t2, t3, t4⟩
      have hb : ¬ ((i.bytes : Int) * c > 281474976710656) := by rw [Int.mul_comm]; omega
      have hc0 : ¬ c < 0 := by omega
      have hn0 : ¬ n < 0 := by omega
      have hnc : ¬ n > c := by omega
      rw [t1]
      by_cases h0 : c.toNat * i.size = 0
      · simp [Instr.makeSlice, run_underlying hu, typeInfo, hi, asInt, asIntOf, hwc, hwn, hc0, hn0, hnc, hb, sizeOf, h0, newRow, map_range0]
      · simp [Instr.makeSlice, run_underlying hu, typeInfo, hi, asInt, asIntOf, hwc, hwn, hc0, hn0, hnc, hb, sizeOf, h0, newRow, zeroValue, hzv]
    · cases h
  · cases h
theorem h_slarr {t e : TypeId} {n k : Nat} {x v : AV} {vx : Value} {xl xh : Option AV} {vl vh : Option Value} {H' : Hp} (hs : Sim B0 s) (ht : P.underlying t = some (.array n e)) (hz : tsize P e = some k) (hx : VR s x vx)
    (hl : (xl = none ∧ vl = none) ∨ ∃ y vy, xl = some y ∧ vl = some vy ∧ VR s y vy) (hh : (xh = none ∧ vh = none) ∨ ∃ y vy, xh = some y ∧ vh = some vy ∧ VR s y vy) (h : hSlarr s.H n k x xl xh = some (v, H')) :
    ∃ u, (Instr.sliceAt t vx vl vh none).run P s.w = .ok u s.w ∧ VR s v u ∧ H' = s.H := by
  unfold hSlarr at h
  split at h
  · rename_i l o g
    split at h
    · rename_i cs k' g' row frz hH
      split at h
      · rename_i hc
        obtain ⟨rfl, hfit⟩ := hc
        simp only [Option.map_eq_some_iff, Prod.mk.injEq] at h
        obtain ⟨v', h, rfl, rfl⟩ := h
        obtain ⟨u, h1, h2⟩ := g_slarr (P := P) ht hz hx (fun l' o' g1 b q he _ hlay => by
          simp only [AV.ptr.injEq] at he
          obtain ⟨rfl, rfl, rfl⟩ := he
          obtain ⟨b', p, cur, e', hlay', _, hcur, hsz, _, _, hbs⟩ := obj_cells hs hH
          rw [hlay'] at hlay
          simp only [Option.some.injEq, Prod.mk.injEq] at hlay
          obtain ⟨rfl, rfl⟩ := hlay
          omega) hl hh h
        exact ⟨u, h1, h2, rfl⟩
      · cases h
    · cases h
  · cases h
end
end Go.Ai
