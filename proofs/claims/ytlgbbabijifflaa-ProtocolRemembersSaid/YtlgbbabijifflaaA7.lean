/- Operations that make, read or write local memory. -/
import Derived.Test.YtlgbbabijifflaaA6
import Derived.Laws.CopyRow
import Derived.Laws.Cells
import Derived.Room.Entries
set_option linter.unusedVariables false
set_option linter.unusedSimpArgs false
namespace Go.Ai
open Go.RowKit

theorem seg_get {α : Type} (l : List α) (q : Nat) (vs : List α) (h : q + vs.length ≤ l.length) (i : Nat) :
    (l.take q ++ vs ++ l.drop (q + vs.length))[i]? = if i < q then l[i]? else if i < q + vs.length then vs[i - q]? else l[i]? := by
  have hq : (l.take q).length = q := by simp; omega
  by_cases h1 : i < q
  · rw [if_pos h1, List.append_assoc, List.getElem?_append_left (by omega), List.getElem?_take, if_pos h1]
  · rw [if_neg h1]
    by_cases h2 : i < q + vs.length
    · rw [if_pos h2, List.append_assoc, List.getElem?_append_right (by omega), hq, List.getElem?_append_left (by omega)]
    · rw [if_neg h2, List.getElem?_append_right (by simp; omega), List.getElem?_drop]
      congr 1
      simp
      omega
theorem seg_size {α : Type} (l : List α) (q : Nat) (vs : List α) (h : q + vs.length ≤ l.length) : (l.take q ++ vs ++ l.drop (q + vs.length)).length = l.length := by
  simp; omega
theorem setCells_eq : ∀ (ys cs : List AV) (q : Nat), q + ys.length ≤ cs.length → setCells cs q ys = cs.take q ++ ys ++ cs.drop (q + ys.length)
  | [], cs, q, h => by simp [setCells]
  | y :: ys, cs, q, h => by
    rw [setCells, setCells_eq ys (cs.set q y) (q + 1) (by simp at h ⊢; omega)]
    have h1 : q < cs.length := by simp at h; omega
    apply List.ext_getElem?
    intro i
    rw [seg_get _ _ _ (by simp at h ⊢; omega), seg_get _ _ _ h]
    simp only [List.getElem?_set, List.length_cons]
    by_cases e : q = i
    · subst e; simp [h1]
    · simp only [if_neg e]
      by_cases h2 : i < q
      · simp [h2, show i < q + 1 by omega]
      · simp only [h2, show ¬ i < q + 1 by omega, if_false]
        by_cases h3 : i < q + 1 + ys.length
        · simp only [h3, show i < q + (ys.length + 1) by omega, if_true]
          rw [show i - q = (i - (q + 1)) + 1 by omega, List.getElem?_cons_succ]
        · simp only [h3, show ¬ i < q + (ys.length + 1) by omega, if_false]
theorem setCells_get {ys cs : List AV} {q : Nat} (h : q + ys.length ≤ cs.length) (i : Nat) : (setCells cs q ys)[i]? = if i < q then cs[i]? else if i < q + ys.length then ys[i - q]? else cs[i]? := by
  rw [setCells_eq ys cs q h, seg_get _ _ _ h]
theorem zrep {k n : Nat} {z : List AV} (hz : z.length = k) : ((List.replicate n z).flatten).length = n * k ∧ ∀ (j : Nat) (x : AV), ((List.replicate n z).flatten)[j]? = some x → z[j % k]? = some x ∧ j < n * k := by
  induction n with
  | zero => simp
  | succ n ih =>
    obtain ⟨h1, h2⟩ := ih
    have hl : ((List.replicate (n + 1) z).flatten).length = (n + 1) * k := by rw [List.replicate_succ, List.flatten_cons, List.length_append, h1, hz, Nat.succ_mul]; omega
    refine ⟨hl, fun j x hx => ?_⟩
    have hj : j < (n + 1) * k := by rw [← hl]; exact (List.getElem?_eq_some_iff.1 hx).1
    refine ⟨?_, hj⟩
    rw [List.replicate_succ, List.flatten_cons] at hx
    by_cases hj' : j < k
    · rw [List.getElem?_append_left (by omega)] at hx
      rw [Nat.mod_eq_of_lt hj']; exact hx
    · rw [List.getElem?_append_right (by omega), hz] at hx
      have := (h2 _ _ hx).1
      rwa [← Nat.mod_eq_sub_mod (by omega)] at this

section
variable {P : Program} {s : Stt} {B0 : Nat}
theorem one_VR {x : AV} {u : Value} (hx : VR s x u) (h : x.one = true) : u.oneCell' = true := by
  cases hx with
  | pure hp => cases hp <;> first | rfl | (simp [AV.one] at h)
  | undef => simp [AV.one] at h
  | agg => simp [AV.one] at h
  | tup => simp [AV.one] at h
  | _ => rfl
theorem all_one {ys : List AV} {us : List Value} (hl : ys.length = us.length) (hv : ∀ (i : Nat) (y : AV) (v : Value), ys[i]? = some y → us[i]? = some v → VR s y v) (h : ys.all AV.one = true) : ∀ u ∈ us, u.oneCell' = true := by
  intro u hu
  obtain ⟨i, hi⟩ := List.getElem?_of_mem hu
  have hi' : i < ys.length := by rw [hl]; exact (List.getElem?_eq_some_iff.1 hi).1
  exact one_VR (hv i _ u (List.getElem?_eq_getElem hi') hi) (List.all_eq_true.1 h _ (List.getElem_mem hi'))
theorem addr_add (b q n : Nat) : (⟨b, q, none⟩ : Addr).add n = ⟨b, q + n, none⟩ := by unfold Addr.add; split <;> simp_all
theorem run_loadC {t : TypeId} {ag : Bool} {n b q : Nat} {c : List AV} {v : AV} (hs : tsize P t = some n) (hg : tag P t = some ag) (hl : c.length = n)
    (hc : ∀ (j : Nat) (x : AV), c[j]? = some x → ∃ u, s.w.cell? ⟨b, q + j, none⟩ = some u ∧ VR s x u) (hm : mkv ag c = some v) :
    ∃ u, (Instr.loadAt t (.pointer (some ⟨b, q, none⟩))).run P s.w = .ok u s.w ∧ VR s v u := by
  cases ag with
  | true =>
    simp only [mkv, if_true, Option.some.injEq] at hm
    subst hm
    have hload := run_loadCells (P := P) s.w ⟨b, q, none⟩ n (fun j => (s.w.cell? ⟨b, q + j, none⟩).getD undef) (fun j hj => by
      obtain ⟨u, hu, _⟩ := hc j _ (List.getElem?_eq_getElem (show j < c.length by omega))
      simp [addr_add, hu])
    refine ⟨.agg ((List.range n).map fun j => (s.w.cell? ⟨b, q + j, none⟩).getD undef).toArray, by simp [Instr.loadAt, Instr.sureAddr, loadVar, run_tag hg, run_tsize hs, hload], .agg _ _ (by simp [hl]) fun i x u hx hu => ?_⟩
    obtain ⟨u', hu', hv⟩ := hc i x hx
    have hi : i < n := by rw [← hl]; exact (List.getElem?_eq_some_iff.1 hx).1
    simp [hi, hu'] at hu
    subst hu
    exact hv
  | false =>
    have h1 := mkv_one hm
    subst h1
    obtain ⟨u, hu, hv⟩ := hc 0 v rfl
    exact ⟨u, by simp [Instr.loadAt, Instr.sureAddr, loadVar, run_tag hg, show s.w.cell? ⟨b, q, none⟩ = some u from hu], hv⟩
/-- An object's cells, from within. -/
theorem obj_cells (hs : Sim B0 s) {l k g : Nat} {cs : List AV} {row frz : Bool} (hl : s.H[l]? = some (some (.cells cs k g row frz))) :
    ∃ b p cur e, s.lay l = some (b, p) ∧ B0 ≤ b ∧ s.w.heap[b]? = some (.cells cur e (0, 0)) ∧ p + cs.length ≤ cur.size ∧
      (∀ (j : Nat) (x : AV), cs[j]? = some x → ∃ u, cur[p + j]? = some u ∧ VR s x u) ∧ (∀ (j : Nat) (x : AV), cs[j]? = some x → ∃ u, s.w.cell? ⟨b, p + j, none⟩ = some u ∧ VR s x u) ∧ bsize s.w b = cur.size := by
  obtain ⟨b, p, h1, h0, ⟨cur, e, h2, h3, h4⟩, _, _⟩ := hs.obj l _ hl
  refine ⟨b, p, cur, e, h1, h0, h2, h3, h4, fun j x hx => ?_, by simp [bsize, h2]⟩
  obtain ⟨u, hu, hv⟩ := h4 j x hx
  exact ⟨u, by simp [World.cell?, h2, hu], hv⟩
theorem cut_get {cs c : List AV} {o n : Nat} (h : cut cs o n = some c) : c.length = n ∧ ∀ (j : Nat) (x : AV), c[j]? = some x → cs[o + j]? = some x ∧ j < n := by
  obtain ⟨h1, rfl⟩ := cut_some h
  refine ⟨by simp; omega, fun j x hx => ?_⟩
  rw [List.getElem?_take] at hx
  split at hx
  · rename_i hj
    rw [List.getElem?_drop] at hx
    exact ⟨hx, hj⟩
  · cases hx
theorem h_load {t : TypeId} {ag : Bool} {n : Nat} {x v : AV} {vx : Value} {H' : Hp} (hs : Sim B0 s) (hz : tsize P t = some n) (hg : tag P t = some ag) (hx : VR s x vx) (h : hLoad s.H n ag x = some (v, H')) :
    ∃ u, (Instr.loadAt t vx).run P s.w = .ok u s.w ∧ VR s v u ∧ H' = s.H := by
  unfold hLoad at h
  split at h
  · rename_i es i j
    obtain ⟨e, he, h⟩ := Option.bind_eq_some_iff.1 h
    obtain ⟨c, hc, h⟩ := Option.bind_eq_some_iff.1 h
    simp only [Option.map_eq_some_iff, Prod.mk.injEq] at h
    obtain ⟨v', hm, rfl, rfl⟩ := h
    obtain ⟨h1, h2⟩ := cut_get hc
    cases hx with
    | pure hp =>
      cases hp with
      | fptr b o k _ _ _ U hb hk hw hh =>
        obtain ⟨u, hu, hv⟩ := run_loadC (P := P) (s := s) (b := b) (q := o + i * k + j) hz hg h1 (fun m x hx => ⟨_, by rw [← hw i e (j + m) x he (h2 m x hx).1]; congr 2; omega, .pure (hh i e (j + m) x he (h2 m x hx).1)⟩) hm
        exact ⟨u, hu, hv, rfl⟩
  · rename_i es i j
    obtain ⟨e, he, h⟩ := Option.bind_eq_some_iff.1 h
    obtain ⟨c, hc, h⟩ := Option.bind_eq_some_iff.1 h
    simp only [Option.map_eq_some_iff, Prod.mk.injEq] at h
    obtain ⟨v', hm, rfl, rfl⟩ := h
    obtain ⟨h1, h2⟩ := cut_get hc
    cases hx with
    | pure hp => cases hp
    | tptr b o k _ _ _ U hb hk hw hh =>
      obtain ⟨u, hu, hv⟩ := run_loadC (P := P) (s := s) (b := b) (q := o + i * k + j) hz hg h1 (fun m x hx => ⟨_, by rw [← hw i e (j + m) x he (h2 m x hx).1]; congr 2; omega, hh i e (j + m) x he (h2 m x hx).1⟩) hm
      exact ⟨u, hu, hv, rfl⟩
  · rename_i l o g
    split at h
    · rename_i cs k g' row frz hl
      split at h
      · rename_i e; subst e
        obtain ⟨c, hc, h⟩ := Option.bind_eq_some_iff.1 h
        simp only [Option.map_eq_some_iff, Prod.mk.injEq] at h
        obtain ⟨v', hm, rfl, rfl⟩ := h
        obtain ⟨h1, h2⟩ := cut_get hc
        obtain ⟨a, rfl, _, ha⟩ := vr_ptr hx
        obtain ⟨b, p, cur, e, hlay, _, hcur, hsz, hcells, hcells', _⟩ := obj_cells hs hl
        have := ha ⟨cs, k, row, frz, hl⟩ b p hlay
        subst this
        obtain ⟨u, hu, hv⟩ := run_loadC (P := P) (s := s) (b := b) (q := p + o) hz hg h1 (fun m x hx => by
          obtain ⟨u, hu, hv⟩ := hcells' (o + m) x (h2 m x hx).1
          exact ⟨u, by rw [← hu]; congr 2; omega, hv⟩) hm
        exact ⟨u, hu, hv, rfl⟩
      · cases h
    · cases h
  · cases h
/-- Cells of an object are written over. -/
theorem h_put (hs : Sim B0 s) {l k g o : Nat} {cs ys : List AV} {row : Bool} {us : List Value} (hl : s.H[l]? = some (some (.cells cs k g row false))) (hlen : ys.length = us.length)
    (hv : ∀ (i : Nat) (y : AV) (v : Value), ys[i]? = some y → us[i]? = some v → VR s y v) (hone : ys.all AV.one = true) (hfit : o + ys.length ≤ cs.length) :
    ∃ b p, s.lay l = some (b, p) ∧ ∃ t, (storeCells ⟨b, p + o, none⟩ us).run P s.w = .ok () t.w ∧ t.H = s.H.set l (some (.cells (setCells cs o ys) k g row false)) ∧ Step B0 s t := by
  obtain ⟨b, p, cur, e, hlay, h0, hcur, hsz, hcells, _, _⟩ := obj_cells hs hl
  have hst := run_storeCells_at P b (p + o) e us 0 cur s.w hcur (by omega) (all_one hlen hv hone)
  simp only [Nat.add_zero] at hst
  have hfit' : p + o + us.length ≤ cur.toList.length := by simp; omega
  obtain ⟨t, t1, t2, t3, t4, t5⟩ := step_cells hs (k' := k) (row' := row) (cs' := setCells cs o ys) (w' := s.w.setRow b (cur.toList.take (p + o) ++ us ++ cur.toList.drop (p + o + us.length)).toArray) hl hlay (.inl ⟨rfl, rfl⟩) hcur
    (setRow_heap s.w b cur _ e _ hcur) (by simp only [List.size_toArray]; rw [seg_size _ _ _ hfit']; simp) (fun i hi => setRow_other s.w b i _ hi)
    ⟨rfl, rfl, rfl, by simp, fun i hi => setRow_other s.w b i _ (by omega)⟩
    (by simp only [List.size_toArray]; rw [seg_size _ _ _ hfit', setCells_length]; simpa using hsz)
    (fun j x hx => by
      rw [setCells_get hfit] at hx
      simp only [List.getElem?_toArray]
      rw [seg_get _ _ _ hfit']
      by_cases h1 : j < o
      · rw [if_pos h1] at hx
        rw [if_pos (by omega)]
        simpa using hcells j x hx
      · rw [if_neg h1] at hx
        rw [if_neg (by omega)]
        by_cases h2 : j < o + ys.length
        · rw [if_pos h2] at hx
          rw [if_pos (by omega)]
          have h3 : j - o < us.length := by omega
          refine ⟨us[j - o], ?_, hv _ _ _ hx (List.getElem?_eq_getElem h3)⟩
          rw [show p + j - (p + o) = j - o by omega, List.getElem?_eq_getElem h3]
        · rw [if_neg h2] at hx
          rw [if_neg (by omega)]
          simpa using hcells j x hx)
  exact ⟨b, p, hlay, t, by rw [hst, t2], t1, t5⟩
theorem h_store {t : TypeId} {n : Nat} {p x v : AV} {vp vx : Value} {H' : Hp} (hs : Sim B0 s) (hz : tsize P t = some n) (hp : VR s p vp) (hx : VR s x vx) (h : hStore s.H n p x = some (v, H')) :
    ∃ s', (Instr.storeAt t vp vx).run P s.w = .ok () s'.w ∧ s'.H = H' ∧ v = .undef ∧ Step B0 s s' := by
  unfold hStore at h
  split at h
  · rename_i l o g
    split at h
    · rename_i cs k g' row frz hl
      split at h
      · rename_i ys hy
        split at h
        · rename_i hc
          obtain ⟨rfl, rfl, h1, h2, h3⟩ := hc
          simp only [setH, fO_eq, fSet_eq, Option.some.injEq, Prod.mk.injEq] at h
          obtain ⟨rfl, rfl⟩ := h
          obtain ⟨hl1, hv⟩ := parts_VR hx hy
          obtain ⟨a, rfl, _, ha⟩ := vr_ptr hp
          obtain ⟨b, q, hlay, t1, hrun, hH, hst⟩ := h_put (P := P) hs (us := vx.cells.toList) (o := o) hl (by simpa using hl1) (fun i y v hy hv' => hv i y v hy (by simpa using hv')) h3 (by omega)
          have := ha ⟨cs, k, row, false, hl⟩ b q hlay
          subst this
          have hsz : vx.cells.size = n := by omega
          exact ⟨t1, by simp [Instr.storeAt, Instr.sureAddr, storeVar, run_tsize hz, hsz, hrun], hH, rfl, hst⟩
        · cases h
      · cases h
    · cases h
  · cases h
theorem fill_size {env : List AV} : ∀ (ps : List (Nat × Nat × Ex)) (cs cs' : List AV), fillP env cs ps = some cs' → cs'.length = cs.length
  | [], cs, cs', h => by simp [fillP] at h; rw [h]
  | (off, n, x) :: r, cs, cs', h => by
    simp only [fillP] at h
    split at h
    · split at h
      · rw [fill_size r _ _ h, setCells_length]
      · cases h
    · cases h
/-- A variable. -/
theorem h_var (hs : Sim B0 s) (hB : B0 ≤ s.w.heap.size) {slot : Option Nat} {cs : List AV} {us : Array Value} {v : AV} {H' : Hp} (hl : cs.length = us.size) (hv : ∀ (i : Nat) (y : AV) (u : Value), cs[i]? = some y → us[i]? = some u → VR s y u)
    (h : hAlloc slot s.H cs = some (v, H')) (e : TypeId) : ∃ t, t.w = s.w.alloc (.cells us e) ∧ VR t v (.pointer (some ⟨s.w.heap.size, 0, none⟩)) ∧ t.H = H' ∧ Step B0 s t := by
  simp only [hAlloc, Option.map_eq_some_iff, Prod.mk.injEq] at h
  obtain ⟨⟨l, H1⟩, hn, rfl, rfl⟩ := h
  obtain ⟨t, t1, t2, t3, t4, t5, t6⟩ := step_new hs hB hn (w' := s.w.alloc (.cells us e)) (blk := .cells us e (0, 0)) rfl (Below.alloc (.refl _ _) hB _) ⟨rfl, us, e, rfl, by omega, fun j x hx => by
    have hj : j < us.size := by rw [← hl]; exact (List.getElem?_eq_some_iff.1 hx).1
    exact ⟨us[j], Array.getElem?_eq_getElem hj, hv j x _ hx (Array.getElem?_eq_getElem hj)⟩⟩
  have hat : atGen t.H l 0 := ⟨cs, 0, false, false, by rw [t1]; exact t6⟩
  refine ⟨t, t2, .ptr l 0 0 _ ⟨0, Nat.le_refl _, hat⟩ (fun _ b p hlay => ?_), t1, t4⟩
  rw [t5] at hlay
  simp only [Option.some.injEq, Prod.mk.injEq] at hlay
  rw [← hlay.1, ← hlay.2]
theorem h_alloc {t : TypeId} {z : List AV} {slot : Option Nat} {v : AV} {H' : Hp} (hs : Sim B0 s) (hB : B0 ≤ s.w.heap.size) (hz : tzero P t = some z) (h : hAlloc slot s.H z = some (v, H')) :
    ∃ u s', (Instr.alloc t true (.tuple #[])).run P s.w = .ok u s'.w ∧ VR s' v u ∧ s'.H = H' ∧ Step B0 s s' := by
  obtain ⟨zv, hzv, hc⟩ := run_tzero (w := s.w) hz
  obtain ⟨h1, h2⟩ := cellsOf_VR (s := s) hc
  obtain ⟨t1, e1, e2, e3, e4⟩ := h_var hs hB h1 h2 h t
  exact ⟨_, t1, by rw [e1]; simp [Instr.alloc, hzv, newVar, newRow], e2, e3, e4⟩
theorem h_box {t : TypeId} {n : Nat} {x v : AV} {vx : Value} {slot : Option Nat} {H' : Hp} (hs : Sim B0 s) (hB : B0 ≤ s.w.heap.size) (hx : VR s x vx) (h : hBox slot s.H n x = some (v, H')) :
    ∃ u s', (Instr.box t vx).run P s.w = .ok u s'.w ∧ VR s' v u ∧ s'.H = H' ∧ Step B0 s s' := by
  unfold hBox at h
  split at h
  · rename_i cs hcs
    split at h
    · obtain ⟨h1, h2⟩ := parts_VR hx hcs
      obtain ⟨t1, e1, e2, e3, e4⟩ := h_var hs hB h1 h2 h t
      exact ⟨_, t1, by rw [e1]; simp [Instr.box, newVar, newRow], e2, e3, e4⟩
    · cases h
  · cases h
end
end Go.Ai
