/- Helps: freezing what is known of local memory; picking objects; what an operation has to do with; bits. -/
import Derived.Test.YtlgbbabijifflaaA26
set_option linter.unusedVariables false
set_option linter.unusedSimpArgs false
namespace Go.Ai
open Go.RowKit
theorem Sub.take {A : Ah} (n : Nat) : Sub A (A.take n) := .list (List.take_sublist n A)
def pick (A : Ah) (is : List Nat) : Ah := is.filterMap (nth A)
def rising : List Nat → Bool
  | [] => true
  | [_] => true
  | x :: y :: r => Nat.blt x y && rising (y :: r)
theorem rising_nodup : ∀ {l : List Nat}, rising l = true → l.Pairwise (· < ·)
  | [], _ => .nil
  | [x], _ => by simp
  | x :: y :: r, h => by
    simp only [rising, Bool.and_eq_true, Nat.blt_eq] at h
    have ih := rising_nodup h.2
    refine List.pairwise_cons.2 ⟨fun z hz => ?_, ih⟩
    rcases List.mem_cons.1 hz with rfl | hz
    · exact h.1
    · have := (List.pairwise_cons.1 ih).1 z hz
      omega
theorem Sub.pick {A : Ah} (is : List Nat) (h : rising is = true) : Sub A (pick A is) := fun F H hR => by
  refine hR.mono (fun p hp => ?_) ?_
  · obtain ⟨i, _, hi⟩ := List.mem_filterMap.1 hp
    rw [nth_eq] at hi
    exact List.mem_of_getElem? hi
  · unfold Go.Ai.pick
    rw [List.Nodup, List.pairwise_map]
    refine List.Pairwise.filterMap (R := (· < ·)) (nth A) (fun i j hij p hp q hq e => ?_) (rising_nodup h)
    rw [nth_eq] at hp hq
    have hi : i < A.length := (List.getElem?_eq_some_iff.1 hp).1
    have hj : j < A.length := (List.getElem?_eq_some_iff.1 hq).1
    have hnd := List.pairwise_iff_getElem.1 hR.base.nodup i j (by simpa using hi) (by simpa using hj) hij
    have h1 := (List.getElem?_eq_some_iff.1 hp).2
    have h2 := (List.getElem?_eq_some_iff.1 hq).2
    simp [h1, h2, e] at hnd
theorem Sub.trans {A B C : Ah} (h : Sub A B) (k : Sub B C) : Sub A C := fun F H hR => k F H (h F H hR)
theorem Sub.of_perm {A B : Ah} (h : A.Perm B) : Sub A B := fun F H hR => Rep.perm hR (h.append_right F)
theorem RepF.split {F X R : Ah} {H : Hp} (h : RepF F (X ++ R) H) : RepF (R ++ F) X H := by
  unfold RepF at *; rwa [List.append_assoc] at h
theorem RepF.join {F X R : Ah} {H : Hp} (h : RepF (R ++ F) X H) : RepF F (X ++ R) H := by
  unfold RepF at *; rwa [List.append_assoc]
/-! ### Freezing -/
def Frz1 (d : Nat) (A : Ah) (v y : AV) (A1 : Ah) : Prop := ∀ F H, RepF F A H → ∃ H1, freezeV d H v = some (y, H1) ∧ RepF F A1 H1
def FrzL (d : Nat) (A : Ah) (vs ys : List AV) (A1 : Ah) : Prop := ∀ F H, RepF F A H → ∃ H1, mapH (freezeV d) H vs = some (ys, H1) ∧ RepF F A1 H1
theorem FrzL.nil {d : Nat} {A : Ah} : FrzL d A [] [] A := fun _ H h => ⟨H, rfl, h⟩
theorem FrzL.cons {d : Nat} {A A1 A2 : Ah} {v y : AV} {vs ys : List AV} (h : Frz1 d A v y A1) (k : FrzL d A1 vs ys A2) : FrzL d A (v :: vs) (y :: ys) A2 := fun F H hR => by
  obtain ⟨H1, e1, r1⟩ := h F H hR
  obtain ⟨H2, e2, r2⟩ := k F H1 r1
  exact ⟨H2, by simp only [mapH, e1, e2], r2⟩
theorem FrzL.frz {A A1 : Ah} {vs ys : List AV} (h : FrzL depth A vs ys A1) : Frz A vs ys A1 := h
theorem Frz1.self {d : Nat} {A : Ah} {v : AV} (h : selfV v = true) : Frz1 (d + 1) A v v A := fun F H hR => ⟨H, freeze_self h, hR⟩
theorem Frz1.nilsl {d : Nat} {A : Ah} : Frz1 (d + 1) A .nilsl (.list []) A := fun F H hR => ⟨H, rfl, hR⟩
theorem Frz1.mt {d : Nat} {A : Ah} : Frz1 (d + 1) A .mt (.list []) A := fun F H hR => ⟨H, rfl, hR⟩
theorem Frz1.mtn {d : Nat} {A : Ah} : Frz1 (d + 1) A .mtn (.list []) A := fun F H hR => ⟨H, rfl, hR⟩
theorem Frz1.agg {d : Nat} {A A1 : Ah} {cs ys : List AV} (h : FrzL d A cs ys A1) : Frz1 (d + 1) A (.agg cs) (.agg ys) A1 := fun F H hR => by
  obtain ⟨H1, e1, r1⟩ := h F H hR
  exact ⟨H1, by simp only [freezeV, e1, Option.map_some], r1⟩
theorem Frz1.func {d : Nat} {A A1 : Ah} {f : Nat} {cs ys : List AV} (h : FrzL d A cs ys A1) : Frz1 (d + 1) A (.func f cs) (.func f ys) A1 := fun F H hR => by
  obtain ⟨H1, e1, r1⟩ := h F H hR
  exact ⟨H1, by simp only [freezeV, e1, Option.map_some], r1⟩
theorem chunk_all {k : Nat} {p : AV → Bool} : ∀ (n : Nat) (cs : List AV), cs.all p = true → ∀ e ∈ chunk k n cs, e.all p = true
  | 0, cs, h, e, he => by simp [chunk] at he
  | n + 1, cs, h, e, he => by
    simp only [chunk, List.mem_cons] at he
    rw [List.all_eq_true] at h
    rcases he with rfl | he
    · exact List.all_eq_true.2 fun x hx => h x (List.mem_of_mem_take hx)
    · exact chunk_all n (cs.drop k) (List.all_eq_true.2 fun x hx => h x (List.mem_of_mem_drop hx)) e he
theorem freezeV_ref (d : Nat) (H : Hp) (l o n g k : Nat) : freezeV (d + 1) H (.ref l o n g k) = (getC H l).bind fun (cs, k1, g', row, _) => if g = g' then
        (cut cs o (n * k)).bind fun c => fSet H l (some (.cells cs k1 g row true)) fun H => (mapH (mapH (freezeV d)) H (chunk k n c)).bind fun r => fV0 (.list r.1) fun v => some (v, r.2)
      else none := rfl
theorem freezeV_ptr (d : Nat) (H : Hp) (l o g : Nat) : freezeV (d + 1) H (.ptr l o g) = (getC H l).bind fun (cs, k', g', row, _) => if g = g' then
        fSet H l (some (.cells cs k' g row true)) fun H => (mapH (freezeV d) H cs).bind fun r => fL fA r.1 fun c => some (.fptr [c] 0 o, r.2)
      else none := rfl
theorem getC_of {H : Hp} {l : Nat} {cs : List AV} {k g : Nat} {r f : Bool} (h : H[l]? = some (some (LObj.cells cs k g r f))) : getC H l = some (cs, k, g, r, f) := by simp only [getC, h]
/-- A row whose cells are pure. -/
theorem Frz1.row {d i : Nat} {A : Ah} {l o n g k k1 : Nat} {cs c : List AV} {row f : Bool} {es : List (List AV)} (h : A[i]? = some (l, some (LObj.cells cs k1 g row f))) (hc : cut cs o (n * k) = some c) (hs : c.all selfV = true) (he : chunk k n c = es) :
    Frz1 (d + 2) A (.ref l o n g k) (.list es) (A.set i (l, some (LObj.cells cs k1 g row true))) := fun F H hR => by
  subst he
  refine ⟨_, ?_, hR.set h⟩
  rw [freezeV_ref, getC_of (hR.at h)]
  simp only [Option.bind_some, if_true, hc, fSet_eq]
  rw [freeze_rows (d := d) _ (chunk_all n c hs)]
  simp [fV0_eq]
/-- A pointer to pure cells. -/
theorem Frz1.ptr {d i : Nat} {A : Ah} {l o g k1 : Nat} {cs : List AV} {row f : Bool} (h : A[i]? = some (l, some (LObj.cells cs k1 g row f))) (hs : cs.all selfV = true) :
    Frz1 (d + 2) A (.ptr l o g) (.fptr [cs] 0 o) (A.set i (l, some (LObj.cells cs k1 g row true))) := fun F H hR => by
  refine ⟨_, ?_, hR.set h⟩
  rw [freezeV_ptr, getC_of (hR.at h)]
  simp only [Option.bind_some, if_true, fSet_eq]
  rw [freeze_selfs (d := d) _ hs]
  simp [fLA_eq]
/-! ### What an operation has to do with -/
theorem reach1_ptr {H : Hp} {l o g : Nat} : reachV 1 H (.ptr l o g) = [l] := by
  simp only [reachV]
  cases getC H l with
  | none => rfl
  | some q => simp [reachV]
theorem reach1_ref {H : Hp} {l o n g k : Nat} : reachV 1 H (.ref l o n g k) = [l] := by
  simp only [reachV]
  cases getC H l with
  | none => rfl
  | some q => simp [reachV]
theorem reach_self {H : Hp} {d : Nat} {v : AV} (h : selfV v = true) : reachV d H v = [] := by
  cases d <;> cases v <;> first | rfl | (simp [selfV] at h)
theorem reach_selfs {H : Hp} {d : Nat} {cs : List AV} (h : cs.all selfV = true) : cs.flatMap (reachV d H) = [] := by
  rw [List.flatMap_eq_nil_iff]
  exact fun x hx => reach_self (List.all_eq_true.1 h x hx)
theorem reach_ref {A : Ah} {H : Hp} (hR : Rep A H) {d i l o n g k k1 g1 : Nat} {cs : List AV} {row f : Bool} (h : A[i]? = some (l, some (LObj.cells cs k1 g1 row f))) (hs : cs.all selfV = true) : reachV (d + 1) H (.ref l o n g k) = [l] := by
  simp only [reachV, getC, hR.at h, reach_selfs hs]
theorem reach_ptr {A : Ah} {H : Hp} (hR : Rep A H) {d i l o g k1 g1 : Nat} {cs : List AV} {row f : Bool} (h : A[i]? = some (l, some (LObj.cells cs k1 g1 row f))) (hs : cs.all selfV = true) : reachV (d + 1) H (.ptr l o g) = [l] := by
  simp only [reachV, getC, hR.at h, reach_selfs hs]
theorem acc_load {hd : Hands} {all : List IOper} {slot : Nat} {d : Option Nat} {n : Nat} {ag : Bool} {p : Ex} {env : List AV} {H : Hp} {l o g : Nat} (h : p.fF env id = .ptr l o g) : accV hd all slot ⟨d, none, .load n ag p⟩ env H = ⟨[l], [], false⟩ := by
  rw [fF_eq] at h
  simp only [accV, wanted, if_true, accOf, id] at h ⊢
  rw [h, reach1_ptr]
theorem acc_slarr {hd : Hands} {all : List IOper} {slot : Nat} {d : Option Nat} {n k : Nat} {p : Ex} {lo hi : Option Ex} {env : List AV} {H : Hp} {l o g : Nat} (h : p.fF env id = .ptr l o g) : accV hd all slot ⟨d, none, .slarr n k p lo hi⟩ env H = ⟨[l], [], false⟩ := by
  rw [fF_eq] at h
  simp only [accV, wanted, if_true, accOf, id] at h ⊢
  rw [h, reach1_ptr]
theorem acc_store {hd : Hands} {all : List IOper} {slot : Nat} {d : Option Nat} {n : Nat} {p x : Ex} {env : List AV} {H : Hp} {l o g : Nat} (h : p.fF env id = .ptr l o g) : accV hd all slot ⟨d, none, .store n p x⟩ env H = ⟨[], [l], false⟩ := by
  rw [fF_eq] at h
  simp only [accV, wanted, if_true, accOf, id] at h ⊢
  rw [h, reach1_ptr]
theorem acc_call {hd : Hands} {all : List IOper} {slot : Nat} {d : Option Nat} {f : Nat} {args : List Ex} {env vs : List AV} {H : Hp} {r : List Nat} (hf : hd.how f ≠ .shared) (h : fFs env args id = vs) (hr : vs.flatMap (reachV depth H) = r) : accV hd all slot ⟨d, none, .call f args⟩ env H = ⟨r, [slot], false⟩ := by
  rw [fFs_eq] at h
  simp only [accV, wanted, if_true, accOf, id] at h ⊢
  rw [if_neg hf, h, hr]
theorem acc_alloc {hd : Hands} {all : List IOper} {slot : Nat} {d : Option Nat} {z : List AV} {env : List AV} {H : Hp} : accV hd all slot ⟨d, none, .alloc z⟩ env H = ⟨[], [slot], false⟩ := rfl
theorem acc_mslice {hd : Hands} {all : List IOper} {slot : Nat} {d : Option Nat} {k b : Nat} {z : List AV} {x y : Ex} {env : List AV} {H : Hp} : accV hd all slot ⟨d, none, .mslice k b z x y⟩ env H = ⟨[], [slot], false⟩ := rfl
theorem acc_g {hd : Hands} {all : List IOper} {slot : Nat} {d : Option Nat} {g : Option (Nat × Bool)} {op : IOp} {env : List AV} {H : Hp} {a : Acc} (h : wanted all env g = true) (k : accV hd all slot ⟨d, none, op⟩ env H = a) : accV hd all slot ⟨d, g, op⟩ env H = a := by
  unfold accV at k ⊢
  rw [if_pos h]
  simpa [wanted] using k
theorem acc_skip {hd : Hands} {all : List IOper} {slot : Nat} {d : Option Nat} {g : Option (Nat × Bool)} {op : IOp} {env : List AV} {H : Hp} (h : wanted all env g = false) : accV hd all slot ⟨d, g, op⟩ env H = ⟨[], [], false⟩ := by
  simp only [accV, h, Bool.false_eq_true, if_false]
theorem acc_append {hd : Hands} {all : List IOper} {slot : Nat} {d : Option Nat} {k by' : Nat} {s x : Ex} {env : List AV} {H : Hp} {l o n g k' : Nat} {es : List (List AV)} (hs : s.fF env id = .ref l o n g k') (hx : x.fF env id = .tmpl es) (he : es.all (fun e => e.all selfV) = true) : accV hd all slot ⟨d, none, .append k by' s x⟩ env H = ⟨[], [slot, l], false⟩ := by
  rw [fF_eq] at hs hx
  have h1 : reachV 1 H (.tmpl es) = [] := by
    simp only [reachV]
    refine List.flatMap_eq_nil_iff.2 fun e he' => List.flatMap_eq_nil_iff.2 fun x hx => rfl
  simp only [accV, wanted, if_true, accOf, id] at hs hx ⊢
  rw [hs, hx, h1, reach1_ref]
theorem acc_append0 {hd : Hands} {all : List IOper} {slot : Nat} {d : Option Nat} {k by' : Nat} {s x : Ex} {env : List AV} {H : Hp} {es : List (List AV)} (hs : s.fF env id = .mt) (hx : x.fF env id = .tmpl es) : accV hd all slot ⟨d, none, .append k by' s x⟩ env H = ⟨[], [slot], false⟩ := by
  rw [fF_eq] at hs hx
  have h1 : reachV 1 H (.tmpl es) = [] := by
    simp only [reachV]
    refine List.flatMap_eq_nil_iff.2 fun e he' => List.flatMap_eq_nil_iff.2 fun x hx => rfl
  simp only [accV, wanted, if_true, accOf, id] at hs hx ⊢
  rw [hs, hx, h1]
  rfl
theorem flat_nil {H : Hp} {vs : List AV} (h : ∀ v ∈ vs, reachV depth H v = []) : vs.flatMap (reachV depth H) = [] := List.flatMap_eq_nil_iff.2 h
theorem reach_agg {H : Hp} {cs : List AV} (h : cs.all selfV = true) : reachV depth H (.agg cs) = [] := reach_selfs (d := 11) h
theorem free_of {A B : Acc} (h1 : A.all = false) (h2 : B.all = false) (h3 : ∀ l ∈ A.writes, l ∉ B.writes ∧ l ∉ B.reads) (h4 : ∀ l ∈ B.writes, l ∉ A.reads) : A.free B = true := by
  simp only [Acc.free, h1, h2, Bool.not_false, Bool.true_and, Bool.and_eq_true, List.all_eq_true, Bool.not_eq_true', List.contains_eq_mem, decide_eq_false_iff_not]
  exact ⟨fun l hl => h3 l hl, fun l hl => h4 l hl⟩
theorem chunk1 : ∀ (c : List AV), chunk 1 c.length c = c.map fun x => [x]
  | [] => rfl
  | x :: c => by simp [chunk, chunk1 c]
theorem flat_one {H : Hp} {v : AV} {r : List Nat} (h : reachV depth H v = r) : [v].flatMap (reachV depth H) = r := by simp [h]
theorem flat_3 {H : Hp} {u v x : AV} {r : List Nat} (h1 : reachV depth H u = []) (h2 : reachV depth H v = []) (h3 : reachV depth H x = r) : [u, v, x].flatMap (reachV depth H) = r := by simp [h1, h2, h3]
/-! ### Bits -/
theorem bits_and1 {x : Int} (h : 0 ≤ x) (h2 : x < 9223372036854775808) : arith.bits .and .i64 x 1 = x % 2 := by
  unfold arith.bits
  rw [if_pos ⟨h, h2, by decide, by decide⟩]
  simp only [show (1 : Int).toNat = 1 from rfl, Nat.and_one_is_mod]
  omega
theorem shr_eq {x : Int} (h : 0 ≤ x) (n : Nat) : shrI x n = x / 2 ^ n := by
  obtain ⟨m, rfl⟩ := Int.eq_ofNat_of_zero_le h
  simp only [shrI]
  norm_cast
/-! ### Finding objects -/
inductive In : Ah → Nat → Nat → Option LObj → Prop
  | hd {l : Nat} {o : Option LObj} {r : Ah} : In ((l, o) :: r) 0 l o
  | tl {x : Nat × Option LObj} {r : Ah} {i l : Nat} {o : Option LObj} (h : In r i l o) : In (x :: r) (i + 1) l o
theorem gi {A : Ah} {i l : Nat} {o : Option LObj} (h : In A i l o) : A[i]? = some (l, o) := by
  induction h with
  | hd => rfl
  | tl h ih => simpa using ih
theorem leb {n m : Nat} (h : Nat.ble n m = true) : n ≤ m := Nat.le_of_ble_eq_true h
end Go.Ai
