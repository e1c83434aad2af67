/- Opening: what a call is handed, as pure values. -/
import Derived.Test.YtlgbbabijifflaaA23
import Derived.OpenShut
import Derived.ChangeArms
import Derived.ChangeOld
set_option linter.unusedVariables false
set_option linter.unusedSimpArgs false
namespace Go.Ai
open Go.RowKit
/-- The shape of a value's cells. -/
inductive Sh where
  | int (k : IntKind)
  | bool
  | str
  | list (ss : List Sh)
inductive Has : Sh → AV → Prop
  | int (k : IntKind) (n : Int) (h : (Lit.int k n).wf = true) : Has (.int k) (.int k n)
  | bool (b : Bool) : Has .bool (.bool b)
  | str (s : ByteArray) (h : s.size ≤ maxLen) : Has .str (.str s)
  | list (ss : List Sh) (es : List (List AV)) (hl : es.length ≤ maxLen) (hk : ∀ e ∈ es, e.length = ss.length) (h : ∀ e ∈ es, ∀ (j : Nat) (x : AV) (s : Sh), e[j]? = some x → ss[j]? = some s → Has s x) : Has (.list ss) (.list es)
def HasL (ss : List Sh) (xs : List AV) : Prop := xs.length = ss.length ∧ ∀ (j : Nat) (x : AV) (s : Sh), xs[j]? = some x → ss[j]? = some s → Has s x
section
variable (P : Program)
def shFs (sh : TypeId → Option (List Sh)) (all : Nat) : Nat → List Field → Option (List Sh)
  | off, [] => if off = all then some [] else none
  | off, f :: r => match sh f.type, shFs sh all (off + P.cellsOf f.type) r with
    | some ss, some rs => if f.offset = off ∧ ss.length = P.cellsOf f.type then some (ss ++ rs) else none
    | _, _ => none
def shOf : Nat → TypeId → Option (List Sh)
  | 0, _ => none
  | n + 1, t => match P.underlying t with
    | some (.int k) => some [.int k]
    | some .bool => some [.bool]
    | some .string => some [.str]
    | some (.slice e) => match shOf n e with
      | some ss => if ss.length = P.cellsOf e ∧ 0 < P.cellsOf e then some [.list ss] else none
      | none => none
    | some (.struct fs) => shFs P (shOf n) (P.cellsOf t) 0 fs.toList
    | some (.array m e) => match shOf n e with
      | some ss => if ss.length = P.cellsOf e ∧ m * P.cellsOf e = P.cellsOf t then some (List.replicate m ss).flatten else none
      | none => none
    | _ => none
end
section
variable {H : Type} {enc : TypeId × Value → H} {P : Program} {w : World} {base : Nat} {spare : Nat → Bool} {held : Bool}
def Old (w : World) : Nat → Prop := fun b => b < w.heap.size
def Opens (w : World) (ss : List Sh) (cs : List Value) : Prop := ∃ xs, HasL ss xs ∧ xs.length = cs.length ∧ ∀ (j : Nat) (x : AV) (u : Value), xs[j]? = some x → cs[j]? = some u → PR (Old w) w x u
theorem HasL.append {ss rs : List Sh} {xs ys : List AV} (h : HasL ss xs) (k : HasL rs ys) : HasL (ss ++ rs) (xs ++ ys) := by
  refine ⟨by simp [h.1, k.1], fun j x s hx hs => ?_⟩
  by_cases hj : j < xs.length
  · rw [List.getElem?_append_left hj] at hx
    rw [List.getElem?_append_left (by have := h.1; omega)] at hs
    exact h.2 j x s hx hs
  · rw [List.getElem?_append_right (by omega)] at hx
    rw [List.getElem?_append_right (by have := h.1; omega), ← h.1] at hs
    exact k.2 _ x s hx hs
theorem Opens.append {ss rs : List Sh} {cs ds : List Value} (h : Opens w ss cs) (k : Opens w rs ds) : Opens w (ss ++ rs) (cs ++ ds) := by
  obtain ⟨xs, h1, h2, h3⟩ := h
  obtain ⟨ys, k1, k2, k3⟩ := k
  refine ⟨xs ++ ys, h1.append k1, by simp [h2, k2], fun j x u hx hu => ?_⟩
  by_cases hj : j < xs.length
  · rw [List.getElem?_append_left hj] at hx
    rw [List.getElem?_append_left (by omega)] at hu
    exact h3 j x u hx hu
  · rw [List.getElem?_append_right (by omega)] at hx
    rw [List.getElem?_append_right (by omega), ← h2] at hu
    exact k3 _ x u hx hu
theorem Opens.nil : Opens w [] [] := ⟨[], ⟨rfl, fun j x s hx => by simp at hx⟩, rfl, fun j x u hx => by simp at hx⟩
theorem opens_flat {ss : List Sh} {k : Nat} : ∀ (m : Nat) (cs : List Value), cs.length = m * k → (∀ i, i < m → Opens w ss ((cs.drop (i * k)).take k)) → Opens w (List.replicate m ss).flatten cs
  | 0, cs, hl, h => by
    obtain rfl : cs = [] := List.eq_nil_of_length_eq_zero (by omega)
    exact .nil
  | m + 1, cs, hl, h => by
    rw [List.replicate_succ, List.flatten_cons, ← List.take_append_drop k cs]
    have h0 := h 0 (by omega)
    simp at h0
    refine h0.append (opens_flat (k := k) m (cs.drop k) (by simp [hl, Nat.succ_mul]) fun i hi => ?_)
    have := h (i + 1) (by omega)
    rw [List.drop_drop, show k + i * k = (i + 1) * k by rw [Nat.succ_mul]; omega]
    exact this
theorem cells_get {a : Addr} {n : Nat} {c : List Value} (h : w.cells? base a n = some c) : c.length = n ∧ ∀ (j : Nat) (u : Value), c[j]? = some u → w.cell? (a.add j) = some u := by
  unfold World.cells? at h
  split at h
  · obtain ⟨h1, h2⟩ := mapM_get _ _ h
    simp at h1
    refine ⟨h1, fun j u hu => ?_⟩
    have hj : j < n := by rw [← h1]; exact (List.getElem?_eq_some_iff.1 hu).1
    obtain ⟨y, hy, hc⟩ := h2 j j (by simp [hj])
    rw [hu] at hy
    injection hy with hy
    subst hy
    exact hc
  · cases h
theorem open_fs {n : Nat} (ih : ∀ (t : TypeId) (cs : List Value) (fuel : Nat) (x : DataW H × List MemPlace) (ss : List Sh), DataW.trod enc P w base spare held fuel t cs = some x → shOf P n t = some ss → Opens w ss cs) {fuel all : Nat} {cs : List Value} (hcs : cs.length = all) : ∀ (fs : List Field) (off : Nat) (ss : List Sh),
    (∀ (i : Nat) (f : Field), fs[i]? = some f → ∃ x, DataW.trod enc P w base spare held fuel f.type ((cs.drop f.offset).take (P.cellsOf f.type)) = some x) → shFs P (shOf P n) all off fs = some ss → off ≤ all → Opens w ss (cs.drop off)
  | [], off, ss, h, hs, ho => by
    simp only [shFs] at hs
    split at hs
    · injection hs with hs
      subst hs
      rw [List.drop_eq_nil_of_le (by omega)]
      exact .nil
    · cases hs
  | f :: r, off, ss, h, hs, ho => by
    simp only [shFs] at hs
    split at hs
    · rename_i s1 s2 e1 e2
      split at hs
      · rename_i hc
        injection hs with hs
        subst hs
        obtain ⟨rfl, hlen⟩ := hc
        obtain ⟨x, hx⟩ := h 0 f rfl
        have h1 := ih _ _ _ _ _ hx e1
        have hle : f.offset + P.cellsOf f.type ≤ all := by
          obtain ⟨xs, a1, a2, _⟩ := h1
          have a3 := a1.1
          simp at a2
          omega
        have h2 := open_fs ih hcs r (f.offset + P.cellsOf f.type) s2 (fun i f hf => h (i + 1) f (by simpa using hf)) e2 hle
        rw [← List.take_append_drop (P.cellsOf f.type) (cs.drop f.offset), List.drop_drop]
        exact h1.append h2
      · cases hs
    · cases hs
/-- What reads as data opens. -/
theorem open_sh : ∀ (n : Nat) (t : TypeId) (cs : List Value) (fuel : Nat) (x : DataW H × List MemPlace) (ss : List Sh), DataW.trod enc P w base spare held fuel t cs = some x → shOf P n t = some ss → Opens w ss cs
  | 0, t, cs, fuel, x, ss, h, hs => by simp [shOf] at hs
  | n + 1, t, cs, fuel, x, ss, h, hs => by
    have ih := open_sh n
    unfold shOf at hs
    split at hs
    · rename_i k ht
      injection hs with hs
      subst hs
      obtain ⟨m, rfl, _, hw⟩ := DataW.trod_int ht h
      exact ⟨[.int k m], ⟨rfl, fun j x s hx hs => by cases j <;> simp at hx hs; subst hx hs; exact .int k m hw⟩, rfl, fun j x u hx hu => by cases j <;> simp at hx hu; subst hx hu; exact .int k m⟩
    · rename_i ht
      injection hs with hs
      subst hs
      obtain ⟨b, rfl, _⟩ := DataW.trod_bool ht h
      exact ⟨[.bool b], ⟨rfl, fun j x s hx hs => by cases j <;> simp at hx hs; subst hx hs; exact .bool b⟩, rfl, fun j x u hx hu => by cases j <;> simp at hx hu; subst hx hu; exact .bool b⟩
    · rename_i ht
      injection hs with hs
      subst hs
      obtain ⟨b, rfl, _, hb⟩ := DataW.trod_string ht h
      exact ⟨[.str b], ⟨rfl, fun j x s hx hs => by cases j <;> simp at hx hs; subst hx hs; exact .str b hb⟩, rfl, fun j x u hx hu => by cases j <;> simp at hx hu; subst hx hu; exact .str b⟩
    · rename_i e ht
      split at hs
      · rename_i s1 hs1
        split at hs
        · rename_i hk
          injection hs with hs
          subst hs
          rcases DataW.trod_slice ht h with ⟨rfl, _⟩ | ⟨a, len, cap, elems, rest, m, _, rfl, _, hb, hl, hm, hlen, hel, _, _⟩
          · exact ⟨[.list []], ⟨rfl, fun j x s hx hs => by cases j <;> simp at hx hs; subst hx hs; exact .list _ _ (by simp) (by simp) (by simp)⟩, rfl, fun j x u hx hu => by cases j <;> simp at hx hu; subst hx hu; exact .list0 none 0 fun _ => rfl⟩
          · have hex : ∀ i, ∃ e' : List AV, i < len → HasL s1 e' ∧ e'.length = P.cellsOf e ∧ ∀ (j : Nat) (x : AV), e'[j]? = some x → ∃ u, w.cell? ((a.add (i * P.cellsOf e)).add j) = some u ∧ PR (Old w) w x u := fun i => by
              by_cases hi : i < len
              · have h1 := hel i hi
                have h2 : elems[i]? = some (elems[i]'(by omega)) := List.getElem?_eq_getElem (by omega)
                rw [h2] at h1
                obtain ⟨c, hc, h1⟩ := Option.bind_eq_some_iff.1 h1
                obtain ⟨xs, a1, a2, a3⟩ := ih _ _ _ _ _ h1 hs1
                obtain ⟨c1, c2⟩ := cells_get hc
                refine ⟨xs, fun _ => ⟨a1, by omega, fun j x hx => ?_⟩⟩
                have hj : j < c.length := by rw [← a2]; exact (List.getElem?_eq_some_iff.1 hx).1
                exact ⟨c[j], c2 j _ (List.getElem?_eq_getElem hj), a3 j x _ hx (List.getElem?_eq_getElem hj)⟩
              · exact ⟨[], fun h => absurd h hi⟩
            let E : Nat → List AV := fun i => (hex i).choose
            have hE : ∀ i, i < len → HasL s1 (E i) ∧ (E i).length = P.cellsOf e ∧ ∀ (j : Nat) (x : AV), (E i)[j]? = some x → ∃ u, w.cell? ((a.add (i * P.cellsOf e)).add j) = some u ∧ PR (Old w) w x u := fun i => (hex i).choose_spec
            let es := (List.range len).map E
            have hesl : es.length = len := by simp [es]
            have hget : ∀ (i : Nat) (e' : List AV), es[i]? = some e' → i < len ∧ e' = E i := fun i e' he => by
              have hi : i < len := by rw [← hesl]; exact (List.getElem?_eq_some_iff.1 he).1
              simp [es, hi] at he
              exact ⟨hi, he.symm⟩
            have hmem : ∀ e' ∈ es, ∃ i, i < len ∧ e' = E i := fun e' he => by
              obtain ⟨i, hi⟩ := List.getElem?_of_mem he
              exact ⟨i, hget i e' hi⟩
            refine ⟨[.list es], ⟨rfl, fun j x s hx hs => ?_⟩, rfl, fun j x u hx hu => ?_⟩
            · cases j <;> simp at hx hs
              subst hx hs
              refine .list _ _ (by omega) (fun e' he => ?_) (fun e' he j x s hx hs => ?_)
              · obtain ⟨i, hi, rfl⟩ := hmem e' he
                exact (hE i hi).1.1
              · obtain ⟨i, hi, rfl⟩ := hmem e' he
                exact (hE i hi).1.2 j x s hx hs
            · cases j <;> simp at hx hu
              subst hx hu
              rcases Nat.eq_zero_or_pos len with h0 | h0
              · have : es = [] := List.eq_nil_of_length_eq_zero (by omega)
                rw [this, h0]
                exact .list0 _ _ fun h => by cases h
              · have hspot : a.spot = none ∧ a.block < w.heap.size := by
                  obtain ⟨_, h5, h6⟩ := hE 0 h0
                  obtain ⟨u, hu, _⟩ := h6 0 _ (List.getElem?_eq_getElem (by omega))
                  simp only [Nat.zero_mul, Addr.add, if_true] at hu
                  unfold World.cell? at hu
                  split at hu
                  · rename_i hb
                    refine ⟨?_, (Array.getElem?_eq_some_iff.1 hb).1⟩
                    split at hu
                    · cases hu
                    · rename_i hsp; simpa using hsp
                  · cases hu
                obtain ⟨b, o, spot⟩ := a
                obtain ⟨rfl, hblt⟩ := hspot
                have haddr : ∀ i j, ((⟨b, o, none⟩ : Addr).add (i * P.cellsOf e)).add j = ⟨b, o + i * P.cellsOf e + j, none⟩ := fun i j => by
                  rw [addr_add, addr_add]
                have hlist : PR (Old w) w (.list es) (.slice (some ⟨b, o, none⟩) es.length cap) := by
                  refine .list b o (P.cellsOf e) cap es (fun i j => (w.cell? ⟨b, o + i * P.cellsOf e + j, none⟩).getD undef) hblt (by omega) (fun e' he => ?_) (fun i e' j x he hx => ?_) (fun i e' j x he hx => ?_)
                  · obtain ⟨i, hi, rfl⟩ := hmem e' he
                    exact (hE i hi).2.1
                  · obtain ⟨hi, rfl⟩ := hget i e' he
                    obtain ⟨u, hu, _⟩ := (hE i hi).2.2 j x hx
                    rw [haddr] at hu
                    simp [hu]
                  · obtain ⟨hi, rfl⟩ := hget i e' he
                    obtain ⟨u, hu, hv⟩ := (hE i hi).2.2 j x hx
                    rw [haddr] at hu
                    simp only [hu, Option.getD_some]
                    exact hv
                rw [hesl] at hlist
                exact hlist
        · cases hs
      · cases hs
    · rename_i fs ht
      obtain ⟨xs, m, _, _, hl, hxl, hf⟩ := DataW.trod_struct ht h
      have := open_fs (fuel := m) (cs := cs) ih hl fs.toList 0 ss (fun i f hfi => by
        have hfi' : fs[i]? = some f := by simpa using hfi
        have h1 := hf i f hfi'
        have hlt : i < xs.length := by rw [hxl]; exact (Array.getElem?_eq_some_iff.1 hfi').1
        rw [List.getElem?_eq_getElem hlt] at h1
        exact ⟨_, h1⟩) hs (Nat.zero_le _)
      simpa using this
    · rename_i m e ht
      split at hs
      · rename_i s1 hs1
        split at hs
        · rename_i hk
          injection hs with hs
          subst hs
          obtain ⟨xs, m', _, _, hl, hxl, hf⟩ := DataW.trod_array ht h
          refine opens_flat m cs (by rw [hl, hk.2]) fun i hi => ?_
          have h1 := hf i hi
          have hlt : i < xs.length := by omega
          rw [List.getElem?_eq_getElem hlt] at h1
          exact ih _ _ _ _ _ h1 hs1
        · cases hs
      · cases hs
    · cases hs
/-- The value that a call's parameter is. -/
theorem open_arg {n : Nat} {t : TypeId} {v : Value} {d : DataW H} {p : List MemPlace} {ss : List Sh} (h : DataW.Trod enc P w base spare held t v d p) (hs : shOf P n t = some ss) : Opens w ss v.cells.toList := by
  obtain ⟨m, hm⟩ := h
  exact open_sh n t _ _ _ ss hm hs
end
end Go.Ai
