/- Proving what the interpreter says, piece by piece: each construct's condition, over those objects of local memory that matter ('Ah'), so that a goal unfolds into conditions on numbers and lists. -/
import Derived.Test.YtlgbbabijifflaaA21
set_option linter.unusedVariables false
set_option linter.unusedSimpArgs false
namespace Go.Ai
open Go.RowKit
/-- Some places of local memory, and what they hold. -/
abbrev Ah := List (Nat × Option LObj)
structure Rep (A : Ah) (H : Hp) : Prop where
  nodup : (A.map Prod.fst).Nodup
  get : ∀ p ∈ A, H[p.1]? = some p.2
theorem Rep.at {A : Ah} {H : Hp} (h : Rep A H) {i l : Nat} {o : Option LObj} (hi : A[i]? = some (l, o)) : H[l]? = some o := h.get (l, o) (List.mem_of_getElem? hi)
theorem Rep.set {A : Ah} {H : Hp} (h : Rep A H) {i l : Nat} {o0 o : Option LObj} (hi : A[i]? = some (l, o0)) : Rep (A.set i (l, o)) (H.set l o) := by
  have hlt : i < A.length := (List.getElem?_eq_some_iff.1 hi).1
  have hil : A[i] = (l, o0) := (List.getElem?_eq_some_iff.1 hi).2
  have hl : l < H.length := (List.getElem?_eq_some_iff.1 (h.at hi)).1
  have hmap : (A.set i (l, o)).map Prod.fst = A.map Prod.fst := by
    rw [List.map_set]
    apply List.ext_getElem?
    intro j
    rw [List.getElem?_set]
    split
    · rename_i e; subst e
      simp [hlt, hil]
    · rfl
  refine ⟨by rw [hmap]; exact h.nodup, fun p hp => ?_⟩
  obtain ⟨j, hj, hp⟩ := List.getElem_of_mem hp
  simp only [List.length_set] at hj
  rw [List.getElem_set] at hp
  split at hp
  · subst hp; simp [hl]
  · rename_i hne
    have hpm : p ∈ A := by rw [← hp]; exact List.getElem_mem _
    have hkey : p.1 ≠ l := by
      intro e
      have hnd := List.pairwise_iff_getElem.1 h.nodup
      have h1 : (A.map Prod.fst)[i]'(by simpa using hlt) = (A.map Prod.fst)[j]'(by simpa using hj) := by simp [hil, hp, e]
      rcases Nat.lt_or_ge i j with hij | hij
      · exact hnd i j (by simpa using hlt) (by simpa using hj) hij h1
      · exact hnd j i (by simpa using hj) (by simpa using hlt) (by omega) h1.symm
    rw [List.getElem?_set_ne (Ne.symm hkey)]
    exact h.get p hpm
theorem Rep.sub {A A' : Ah} {H : Hp} (h : Rep A H) (hs : A'.Sublist A) : Rep A' H := ⟨h.nodup.sublist (hs.map _), fun p hp => h.get p (hs.subset hp)⟩
theorem Rep.perm {A A' : Ah} {H : Hp} (h : Rep A H) (hs : A.Perm A') : Rep A' H := ⟨(hs.map Prod.fst).nodup_iff.1 h.nodup, fun p hp => h.get p (hs.mem_iff.2 hp)⟩
theorem Rep.snoc {A : Ah} {H : Hp} (h : Rep A H) (o : Option LObj) : Rep (A ++ [(H.length, o)]) (H ++ [o]) := by
  have hlt : ∀ p ∈ A, p.1 < H.length := fun p hp => (List.getElem?_eq_some_iff.1 (h.get p hp)).1
  refine ⟨?_, fun p hp => ?_⟩
  · rw [List.map_append, List.nodup_append]
    refine ⟨h.nodup, by simp, fun a ha b hb => ?_⟩
    obtain ⟨p, hp, rfl⟩ := List.mem_map.1 ha
    simp at hb
    subst hb
    have := hlt p hp
    omega
  · rcases List.mem_append.1 hp with hp | hp
    · rw [List.getElem?_append_left (hlt p hp)]; exact h.get p hp
    · simp at hp; subst hp; simp
/-- The same, other objects being there besides. -/
def RepF (F A : Ah) (H : Hp) : Prop := Rep (A ++ F) H
theorem RepF.base {F A : Ah} {H : Hp} (h : RepF F A H) : Rep A H := Rep.sub h (List.sublist_append_left A F)
theorem RepF.at {F A : Ah} {H : Hp} (h : RepF F A H) {i l : Nat} {o : Option LObj} (hi : A[i]? = some (l, o)) : H[l]? = some o := h.base.at hi
theorem RepF.get {F A : Ah} {H : Hp} (h : RepF F A H) : ∀ p ∈ A, H[p.1]? = some p.2 := h.base.get
theorem RepF.set {F A : Ah} {H : Hp} (h : RepF F A H) {i l : Nat} {o0 o : Option LObj} (hi : A[i]? = some (l, o0)) : RepF F (A.set i (l, o)) (H.set l o) := by
  have hlt : i < A.length := (List.getElem?_eq_some_iff.1 hi).1
  have := Rep.set (o := o) h (i := i) (l := l) (o0 := o0) (by rw [List.getElem?_append_left hlt]; exact hi)
  rw [List.set_append_left _ _ hlt] at this
  exact this
theorem RepF.snoc {F A : Ah} {H : Hp} (h : RepF F A H) (o : Option LObj) : RepF F (A ++ [(H.length, o)]) (H ++ [o]) := by
  refine (Rep.snoc h o).perm ?_
  rw [List.append_assoc, List.append_assoc]
  exact List.Perm.append_left A (List.perm_append_comm)
theorem RepF.mono {F A A' : Ah} {H : Hp} (h : RepF F A H) (hs : ∀ p ∈ A', p ∈ A) (hn : (A'.map Prod.fst).Nodup) : RepF F A' H := by
  refine ⟨?_, fun p hp => ?_⟩
  · have h1 := h.nodup
    rw [List.map_append, List.nodup_append] at h1 ⊢
    refine ⟨hn, h1.2.1, fun a ha b hb => ?_⟩
    obtain ⟨p, hp, rfl⟩ := List.mem_map.1 ha
    exact h1.2.2 p.1 (List.mem_map.2 ⟨p, hs p hp, rfl⟩) b hb
  · rcases List.mem_append.1 hp with hp | hp
    · exact Rep.get h p (List.mem_append_left _ (hs p hp))
    · exact Rep.get h p (List.mem_append_right _ hp)
/-! ### Operands -/
section
universe u
variable {β : Sort u}
def gF : List AV → Nat → (AV → β) → β
  | [], _, k => k .undef
  | x :: _, 0, k => k x
  | _ :: r, n + 1, k => gF r n k
theorem gF_eq : ∀ (env : List AV) (n : Nat) (k : AV → β), gF env n k = k (getL env n)
  | [], n, k => rfl
  | x :: r, 0, k => rfl
  | x :: r, n + 1, k => by rw [gF, gF_eq r n k]; rfl
def Ex.fF (env : List AV) (x : Ex) (k : AV → β) : β := match x with
  | .t n => gF env n k
  | .c v => k v
theorem fF_eq (env : List AV) (x : Ex) (k : AV → β) : x.fF env k = k (x.ev env) := by cases x <;> simp [Ex.fF, Ex.ev, gF_eq]
def fFs (env : List AV) : List Ex → (List AV → β) → β
  | [], k => k []
  | x :: r, k => x.fF env fun v => fFs env r fun vs => k (v :: vs)
theorem fFs_eq (env : List AV) : ∀ (xs : List Ex) (k : List AV → β), fFs env xs k = k (xs.map (·.ev env))
  | [], k => rfl
  | x :: r, k => by simp [fFs, fF_eq, fFs_eq env r]
def fFo (env : List AV) (x : Option Ex) (k : Option AV → β) : β := match x with
  | none => k none
  | some x => x.fF env fun v => k (some v)
theorem fFo_eq (env : List AV) (x : Option Ex) (k : Option AV → β) : fFo env x k = k (evo env x) := by cases x <;> simp [fFo, evo, fF_eq]
/-- 'fSet' for any sort. -/
def sF {α : Type} : List α → Nat → α → (List α → β) → β
  | [], _, _, k => k []
  | _ :: r, 0, v, k => k (v :: r)
  | x :: r, i + 1, v, k => sF r i v fun r => k (x :: r)
theorem sF_eq {α : Type} : ∀ (l : List α) (i : Nat) (v : α) (k : List α → β), sF l i v k = k (l.set i v)
  | [], _, _, _ => rfl
  | _ :: _, 0, _, _ => rfl
  | x :: r, i + 1, v, k => by simp [sF, sF_eq r i v]
def snF {α : Type} : List α → α → (List α → β) → β
  | [], v, k => k [v]
  | x :: r, v, k => snF r v fun r => k (x :: r)
theorem snF_eq {α : Type} : ∀ (l : List α) (v : α) (k : List α → β), snF l v k = k (l ++ [v])
  | [], _, _ => rfl
  | x :: r, v, k => by simp [snF, snF_eq r v]
def apF {α : Type} : List α → List α → (List α → β) → β
  | [], l, k => k l
  | x :: r, l, k => apF r l fun r => k (x :: r)
theorem apF_eq {α : Type} : ∀ (l m : List α) (k : List α → β), apF l m k = k (l ++ m)
  | [], _, _ => rfl
  | x :: r, v, k => by simp [apF, apF_eq r v]
def setF : List AV → Nat → List AV → (List AV → β) → β
  | cs, _, [], k => k cs
  | cs, o, y :: r, k => sF cs o y fun cs => setF cs (o + 1) r k
theorem setF_eq : ∀ (ys cs : List AV) (o : Nat) (k : List AV → β), setF cs o ys k = k (setCells cs o ys)
  | [], cs, o, k => rfl
  | y :: r, cs, o, k => by simp [setF, sF_eq, setF_eq r, setCells]
def chF (k : Nat) : Nat → List AV → (List (List AV) → β) → β
  | 0, _, K => K []
  | n + 1, cs, K => chF k n (cs.drop k) fun r => K (cs.take k :: r)
theorem chF_eq (k : Nat) : ∀ (n : Nat) (cs : List AV) (K : List (List AV) → β), chF k n cs K = K (chunk k n cs)
  | 0, _, _ => rfl
  | n + 1, cs, K => by simp [chF, chF_eq k n, chunk]
end
def takeN : Nat → List AV → (List AV → Prop) → Prop
  | 0, _, K => K []
  | n + 1, cs, K => match cs with
    | [] => False
    | x :: r => takeN n r fun l => K (x :: l)
def dropN : Nat → List AV → (List AV → Prop) → Prop
  | 0, cs, K => K cs
  | o + 1, cs, K => match cs with
    | [] => False
    | _ :: r => dropN o r K
def cutF (cs : List AV) (o n : Nat) (K : List AV → Prop) : Prop := dropN o cs fun r => takeN n r K
theorem takeF_iff : ∀ (n : Nat) (cs : List AV) (K : List AV → Prop), takeN n cs K ↔ n ≤ cs.length ∧ K (cs.take n)
  | 0, cs, K => by cases cs <;> simp [takeN]
  | n + 1, [], K => by simp [takeN]
  | n + 1, x :: r, K => by simp [takeN, takeF_iff n r]
theorem dropF_iff : ∀ (n : Nat) (cs : List AV) (K : List AV → Prop), dropN n cs K ↔ n ≤ cs.length ∧ K (cs.drop n)
  | 0, cs, K => by cases cs <;> simp [dropN]
  | n + 1, [], K => by simp [dropN]
  | n + 1, x :: r, K => by simp [dropN, dropF_iff n r]
theorem cutF_iff {cs : List AV} {o n : Nat} {K : List AV → Prop} : cutF cs o n K ↔ ∃ c, cut cs o n = some c ∧ K c := by
  unfold cutF cut
  rw [dropF_iff, takeF_iff]
  constructor
  · rintro ⟨h1, h2, h3⟩
    refine ⟨_, if_pos ?_, h3⟩
    simp at h2; omega
  · rintro ⟨c, h1, h2⟩
    split at h1
    · rename_i h
      injection h1 with h1
      subst h1
      exact ⟨by omega, by simp; omega, h2⟩
    · cases h1
/-! ### Operations that hang on the temporaries alone -/
def aP (r : Option AV) (K : AV → Prop) : Prop := match r with
  | some v => K v
  | none => False
theorem aP_iff {r : Option AV} {K : AV → Prop} : aP r K ↔ ∃ v, r = some v ∧ K v := by
  cases r <;> simp [aP]
def aInt (k : IntKind) (n : Int) (K : AV → Prop) : Prop := ∃ c, n = c ∧ K (.int k c)
/-- A comparison: the goal goes both ways. -/
def aCmp (p : Prop) (K : AV → Prop) : Prop := (p → K (.bool true)) ∧ (¬ p → K (.bool false))
theorem aCmp_out {p : Prop} [d : Decidable p] {K : AV → Prop} (h : aCmp p K) : K (.bool (decide p)) := by
  by_cases hp : p
  · rw [decide_eq_true hp]; exact h.1 hp
  · rw [decide_eq_false hp]; exact h.2 hp
def aBin (op : BinOp) (x y : AV) (K : AV → Prop) : Prop := match x, y with
  | .int k a, .int yk b => match op with
    | .add => k = yk ∧ aInt k (wrapI k (a + b)) K
    | .sub => k = yk ∧ aInt k (wrapI k (a - b)) K
    | .mul => k = yk ∧ aInt k (wrapI k (a * b)) K
    | .quo => k = yk ∧ b ≠ 0 ∧ aInt k (wrapI k (a.tdiv b)) K
    | .rem => k = yk ∧ b ≠ 0 ∧ aInt k (a.tmod b) K
    | .and => k = yk ∧ aInt k (arith.bits .and k a b) K
    | .or => k = yk ∧ aInt k (arith.bits .or k a b) K
    | .xor => k = yk ∧ aInt k (arith.bits .xor k a b) K
    | .andNot => k = yk ∧ aInt k (arith.bits .andNot k a b) K
    | .eql => k = yk ∧ aCmp (a = b) K
    | .neq => k = yk ∧ aCmp (¬ a = b) K
    | .lss => k = yk ∧ aCmp (a < b) K
    | .leq => k = yk ∧ aCmp (a ≤ b) K
    | .gtr => k = yk ∧ aCmp (a > b) K
    | .geq => k = yk ∧ aCmp (a ≥ b) K
    | .shl => 0 ≤ b ∧ aInt k (wrapI k (shlI a (min b.toNat k.bits))) K
    | .shr => 0 ≤ b ∧ aInt k (shrI a (min b.toNat k.bits)) K
  | x, y => aP (bin op x y) K
theorem aBin_out {op : BinOp} {x y : AV} {K : AV → Prop} (h : aBin op x y K) : ∃ v, bin op x y = some v ∧ K v := by
  unfold aBin at h
  split at h
  · rename_i k a yk b
    cases op
    case eql =>
      obtain ⟨rfl, h⟩ := h
      refine ⟨_, ?_, aCmp_out h⟩
      simp only [bin, arith, if_true]
      exact congrArg some (congrArg AV.bool (by rw [Bool.eq_iff_iff]; simp))
    case neq =>
      obtain ⟨rfl, h⟩ := h
      refine ⟨_, ?_, aCmp_out h⟩
      simp only [bin, arith, if_true]
      exact congrArg some (congrArg AV.bool (by rw [Bool.eq_iff_iff]; simp))
    all_goals first
      | (obtain ⟨rfl, h⟩ := h; exact ⟨_, by simp only [bin, arith, if_true], aCmp_out h⟩)
      | (obtain ⟨rfl, c, rfl, h⟩ := h; exact ⟨_, by simp only [bin, arith, if_true, wrapN], h⟩)
      | (obtain ⟨rfl, hb, c, rfl, h⟩ := h; exact ⟨_, by simp only [bin, arith, if_true, wrapN, if_neg hb], h⟩)
      | (obtain ⟨hb, c, rfl, h⟩ := h; have hb' : ¬ b < 0 := by omega
         exact ⟨_, by simp only [bin, shiftN, wrapN, if_neg hb'], h⟩)
  · exact aP_iff.1 h
/-- 'eqL', step by step. (This and the like are typed with their recursors, so that Lean's whnf and the kernel's leave the same behind.) -/
noncomputable def aEqL (ds : List Nat) : List AV → List AV → (Bool → Prop) → Prop := List.rec (motive := fun _ => List AV → List AV → (Bool → Prop) → Prop)
  (fun xs ys K => match xs, ys with
    | [], [] => K true
    | _, _ => False)
  (fun d _ ih xs ys K => match xs, ys with
    | x :: xs, y :: ys => match d, x, y with
      | 0, .int k a, .int k' b => k = k' ∧ (a = b → ih xs ys K) ∧ (¬ a = b → K false)
      | 1, .bool a, .bool b => (a = b → ih xs ys K) ∧ (¬ a = b → K false)
      | 2, .str a, .str b => (a.toList = b.toList → ih xs ys K) ∧ (¬ a.toList = b.toList → K false)
      | _, _, _ => False
    | _, _ => False) ds
theorem aEqL_nil (xs ys : List AV) (K : Bool → Prop) : aEqL [] xs ys K = (match xs, ys with
    | [], [] => K true
    | _, _ => False) := rfl
theorem aEqL_cons (d : Nat) (ds : List Nat) (xs ys : List AV) (K : Bool → Prop) : aEqL (d :: ds) xs ys K = (match xs, ys with
    | x :: xs, y :: ys => match d, x, y with
      | 0, .int k a, .int k' b => k = k' ∧ (a = b → aEqL ds xs ys K) ∧ (¬ a = b → K false)
      | 1, .bool a, .bool b => (a = b → aEqL ds xs ys K) ∧ (¬ a = b → K false)
      | 2, .str a, .str b => (a.toList = b.toList → aEqL ds xs ys K) ∧ (¬ a.toList = b.toList → K false)
      | _, _, _ => False
    | _, _ => False) := rfl
theorem aEqL_out : ∀ (ds : List Nat) (xs ys : List AV) (K : Bool → Prop), aEqL ds xs ys K → ∃ b, eqL ds xs ys = some b ∧ K b
  | [], [], [], K, h => ⟨true, rfl, h⟩
  | d :: ds, x :: xs, y :: ys, K, h => by
    have ih := aEqL_out ds xs ys K
    rw [aEqL_cons] at h
    simp only at h
    split at h
    · rename_i k a k' b
      obtain ⟨rfl, h1, h2⟩ := h
      by_cases hab : a = b
      · obtain ⟨r, hr, h⟩ := ih (h1 hab)
        exact ⟨r, by simp only [eqL, eqK1, if_true, hab, beq_self_eq_true, hr], h⟩
      · exact ⟨false, by simp only [eqL, eqK1, if_true, beq_eq_false_iff_ne.2 hab], h2 hab⟩
    · rename_i a b
      by_cases hab : a = b
      · obtain ⟨r, hr, h⟩ := ih (h.1 hab)
        exact ⟨r, by simp only [eqL, eqK1, if_true, hab, beq_self_eq_true, hr], h⟩
      · exact ⟨false, by simp only [eqL, eqK1, if_true, beq_eq_false_iff_ne.2 hab], h.2 hab⟩
    · rename_i a b
      by_cases hab : a.toList = b.toList
      · obtain ⟨r, hr, h⟩ := ih (h.1 hab)
        exact ⟨r, by simp only [eqL, eqK1, if_true, hab, beq_self_eq_true, hr], h⟩
      · exact ⟨false, by simp only [eqL, eqK1, if_true, beq_eq_false_iff_ne.2 hab], h.2 hab⟩
    · exact h.elim
  | [], [], _ :: _, K, h => by rw [aEqL_nil] at h; exact h.elim
  | [], _ :: _, _, K, h => by rw [aEqL_nil] at h; simp at h
  | _ :: _, [], _, K, h => by rw [aEqL_cons] at h; simp at h
  | _ :: _, _ :: _, [], K, h => by rw [aEqL_cons] at h; simp at h
def aEqs (neg : Bool) (ks : List Nat) (x y : AV) (K : AV → Prop) : Prop := match x, y with
  | .agg xs, .agg ys => aEqL ks xs ys fun b => K (.bool (if neg then !b else b))
  | _, _ => False
def aIaddr (k : Nat) (x i : AV) (K : AV → Prop) : Prop := match i with
  | .int _ n => match x with
    | .list es => (0 ≤ n ∧ n < es.length) ∧ lenIs k es = true ∧ K (.fptr es n.toNat 0)
    | .tmpl es => (0 ≤ n ∧ n < es.length) ∧ lenIs k es = true ∧ K (.tptr es n.toNat 0)
    | .ref l o m g k' => (0 ≤ n ∧ n < m) ∧ k = k' ∧ K (.ptr l (o + n.toNat * k) g)
    | _ => False
  | _ => False
theorem aIaddr_out {k : Nat} {x i : AV} {K : AV → Prop} (h : aIaddr k x i K) : ∃ v, pIaddr k x i = some v ∧ K v := by
  unfold aIaddr at h
  split at h
  · split at h
    · obtain ⟨⟨h1, h2⟩, h3, h⟩ := h
      exact ⟨_, by simp only [pIaddr]; rw [if_pos ⟨h1, h2, h3⟩], h⟩
    · obtain ⟨⟨h1, h2⟩, h3, h⟩ := h
      exact ⟨_, by simp only [pIaddr]; rw [if_pos ⟨h1, h2, h3⟩], h⟩
    · obtain ⟨⟨h1, h2⟩, h3, h⟩ := h
      exact ⟨_, by simp only [pIaddr]; rw [if_pos ⟨h1, h2, h3⟩], h⟩
    · exact h.elim
  · exact h.elim
def aIarr (m k : Nat) (p i : AV) (K : AV → Prop) : Prop := match i with
  | .int _ n => match p with
    | .ptr l o g => (0 ≤ n ∧ n < m) ∧ K (.ptr l (o + n.toNat * k) g)
    | .fptr es a j => (0 ≤ n ∧ n < m) ∧ K (.fptr es a (j + n.toNat * k))
    | _ => False
  | _ => False
theorem aIarr_out {m k : Nat} {x i : AV} {K : AV → Prop} (h : aIarr m k x i K) : ∃ v, pIarr m k x i = some v ∧ K v := by
  unfold aIarr at h
  split at h
  · split at h
    · exact ⟨_, by simp only [pIarr]; rw [if_pos h.1], h.2⟩
    · exact ⟨_, by simp only [pIarr]; rw [if_pos h.1], h.2⟩
    · exact h.elim
  · exact h.elim
def aIdxa (m k : Nat) (ag : Bool) (x i : AV) (K : AV → Prop) : Prop := match i with
  | .int _ n => match x with
    | .agg cs => (0 ≤ n ∧ n < m) ∧ cutF cs (n.toNat * k) k fun c => aP (mkv ag c) K
    | _ => False
  | _ => False
theorem aIdxa_out {m k : Nat} {ag : Bool} {x i : AV} {K : AV → Prop} (h : aIdxa m k ag x i K) : ∃ v, pIdxa m k ag x i = some v ∧ K v := by
  unfold aIdxa at h
  split at h
  · split at h
    · obtain ⟨h1, h⟩ := h
      obtain ⟨c, h2, h⟩ := cutF_iff.1 h
      obtain ⟨v, hv, h⟩ := aP_iff.1 h
      exact ⟨v, by simp only [pIdxa]; rw [if_pos h1, h2, Option.bind_some, hv], h⟩
    · exact h.elim
  · exact h.elim
def aIdxs (x i : AV) (K : AV → Prop) : Prop := match i with
  | .int _ n => match x with
    | .str s => 0 ≤ n ∧ ∃ b, s[n.toNat]? = some b ∧ K (.int .u8 b.toNat)
    | _ => False
  | _ => False
theorem aIdxs_out {x i : AV} {K : AV → Prop} (h : aIdxs x i K) : ∃ v, pIdxs x i = some v ∧ K v := by
  unfold aIdxs at h
  split at h
  · split at h
    · obtain ⟨h1, b, h2, h⟩ := h
      exact ⟨_, by simp only [pIdxs]; rw [if_pos h1, h2]; rfl, h⟩
    · exact h.elim
  · exact h.elim
def aField (off n : Nat) (ag : Bool) (x : AV) (K : AV → Prop) : Prop := match x with
  | .agg cs => cutF cs off n fun c => aP (mkv ag c) K
  | _ => False
def aPick (c a b : AV) (K : AV → Prop) : Prop := match c with
  | .bool true => K a
  | .bool false => K b
  | _ => False
def aExtract (x : AV) (i : Nat) (K : AV → Prop) : Prop := match x with
  | .tup vs => match vs[i]? with
    | some v => K v
    | none => False
  | _ => False
noncomputable def aFill (env : List AV) (cs : List AV) (ps : List (Nat × Nat × Ex)) : (List AV → Prop) → Prop := List.rec (motive := fun _ => List AV → (List AV → Prop) → Prop)
  (fun cs K => K cs)
  (fun p _ ih cs K => p.2.2.fF env fun v => match v.parts with
    | some ys => (ys.length = p.2.1 ∧ p.1 + p.2.1 ≤ cs.length) ∧ setF cs p.1 ys fun cs => ih cs K
    | none => False) ps cs
theorem aFill_cons (env cs : List AV) (p : Nat × Nat × Ex) (r : List (Nat × Nat × Ex)) (K : List AV → Prop) : aFill env cs (p :: r) K = p.2.2.fF env fun v => match v.parts with
    | some ys => (ys.length = p.2.1 ∧ p.1 + p.2.1 ≤ cs.length) ∧ setF cs p.1 ys fun cs => aFill env cs r K
    | none => False := rfl
theorem aFill_out {env : List AV} : ∀ (ps : List (Nat × Nat × Ex)) (cs : List AV) (K : List AV → Prop), aFill env cs ps K → ∃ c, fillP env cs ps = some c ∧ K c
  | [], cs, K, h => ⟨cs, rfl, h⟩
  | (off, n, x) :: r, cs, K, h => by
    rw [aFill_cons, fF_eq] at h
    simp only at h
    split at h
    · rename_i ys hys
      obtain ⟨h1, h⟩ := h
      rw [setF_eq] at h
      obtain ⟨c, hc, h⟩ := aFill_out r _ K h
      exact ⟨c, by simp only [fillP, hys, if_pos h1, hc], h⟩
    · exact h.elim
/-! ### Local memory -/
def newA (slot : Option Nat) (o : LObj) (A : Ah) (K : Nat → Ah → Prop) : Prop := match slot with
  | none => ∀ l, (∀ p ∈ A, p.1 < l) → snF A (l, some o) fun A => K l A
  | some s => ∃ i : Nat, A[i]? = some (s, none) ∧ sF A i (s, some o) fun A => K s A
theorem newA_out {F : Ah} {slot : Option Nat} {o : LObj} {A : Ah} {K : Nat → Ah → Prop} {H : Hp} (hR : RepF F A H) (h : newA slot o A K) : ∃ l H' A', newAt slot o H = some (l, H') ∧ RepF F A' H' ∧ K l A' := by
  unfold newA at h
  cases slot with
  | none =>
    have h := h H.length fun p hp => (List.getElem?_eq_some_iff.1 (hR.get p hp)).1
    rw [snF_eq] at h
    exact ⟨_, _, _, by simp [newAt, fN_eq, fO_eq, fSnoc_eq], hR.snoc (some o), h⟩
  | some s =>
    obtain ⟨i, hi, h⟩ := h
    rw [sF_eq] at h
    exact ⟨s, H.set s (some o), _, by simp only [newAt, hR.at hi, fO_eq, fSet_eq], hR.set hi, h⟩
def aLoad (A : Ah) (n : Nat) (ag : Bool) (p : AV) (K : AV → Prop) : Prop := match p with
  | .fptr es i j => ∃ c, es[i]? = some c ∧ cutF c j n fun c => aP (mkv ag c) K
  | .tptr es i j => ∃ c, es[i]? = some c ∧ cutF c j n fun c => aP (mkv ag c) K
  | .ptr l o g => ∃ (i : Nat) (cs : List AV) (k : Nat) (r f : Bool), A[i]? = some (l, some (LObj.cells cs k g r f)) ∧ cutF cs o n fun c => aP (mkv ag c) K
  | _ => False
theorem aLoad_out {A : Ah} {H : Hp} (hR : Rep A H) {n : Nat} {ag : Bool} {p : AV} {K : AV → Prop} (h : aLoad A n ag p K) : ∃ v, hLoad H n ag p = some (v, H) ∧ K v := by
  unfold aLoad at h
  split at h
  · obtain ⟨c, h1, h⟩ := h
    obtain ⟨c', h2, h⟩ := cutF_iff.1 h
    obtain ⟨v, hv, h⟩ := aP_iff.1 h
    exact ⟨v, by simp only [hLoad, h1, h2, hv, Option.bind_some, Option.map_some], h⟩
  · obtain ⟨c, h1, h⟩ := h
    obtain ⟨c', h2, h⟩ := cutF_iff.1 h
    obtain ⟨v, hv, h⟩ := aP_iff.1 h
    exact ⟨v, by simp only [hLoad, h1, h2, hv, Option.bind_some, Option.map_some], h⟩
  · obtain ⟨i, cs, k, r, f, h1, h⟩ := h
    obtain ⟨c', h2, h⟩ := cutF_iff.1 h
    obtain ⟨v, hv, h⟩ := aP_iff.1 h
    exact ⟨v, by simp only [hLoad, hR.at h1, h2, hv, if_true, Option.bind_some, Option.map_some], h⟩
  · exact h.elim
def aStore (A : Ah) (n : Nat) (p x : AV) (K : AV → Ah → Prop) : Prop := match p with
  | .ptr l o g => ∃ (i : Nat) (cs : List AV) (k : Nat) (row : Bool), A[i]? = some (l, some (LObj.cells cs k g row false)) ∧ (match x.parts with
    | some ys => (ys.length = n ∧ o + n ≤ cs.length ∧ ys.all AV.one = true) ∧ setF cs o ys fun cs => sF A i (l, some (LObj.cells cs k g row false)) fun A => K .undef A
    | none => False)
  | _ => False
theorem aStore_out {F : Ah} {A : Ah} {H : Hp} (hR : RepF F A H) {n : Nat} {p x : AV} {K : AV → Ah → Prop} (h : aStore A n p x K) : ∃ v H' A', hStore H n p x = some (v, H') ∧ RepF F A' H' ∧ K v A' := by
  unfold aStore at h
  split at h
  · obtain ⟨i, cs, k, row, h1, h⟩ := h
    split at h
    · rename_i ys h2
      obtain ⟨⟨h3, h4, h5⟩, h⟩ := h
      rw [setF_eq, sF_eq] at h
      refine ⟨_, _, _, ?_, hR.set h1, h⟩
      simp only [hStore, hR.at h1, h2, setH, fO_eq, fSet_eq]
      rw [if_pos ⟨trivial, trivial, h3, h4, h5⟩]
    · exact h.elim
  · exact h.elim
/-- A store at a place that is not known. -/
theorem aStore_sym {A : Ah} {n l o g i : Nat} {cs cs' ys : List AV} {k : Nat} {row : Bool} {x : AV} {K : AV → Ah → Prop} (h1 : A[i]? = some (l, some (LObj.cells cs k g row false))) (h2 : x.parts = some ys) (h3 : ys.length = n ∧ o + n ≤ cs.length ∧ ys.all AV.one = true)
    (h4 : setCells cs o ys = cs') (h : K .undef (A.set i (l, some (LObj.cells cs' k g row false)))) : aStore A n (.ptr l o g) x K := by
  refine ⟨i, cs, k, row, h1, ?_⟩
  rw [h2]
  refine ⟨h3, ?_⟩
  rw [setF_eq, sF_eq, h4]
  exact h
theorem aLoad_sym {A : Ah} {n l o g i : Nat} {cs c : List AV} {k : Nat} {ag row f : Bool} {v : AV} {K : AV → Prop} (h1 : A[i]? = some (l, some (LObj.cells cs k g row f))) (h2 : cut cs o n = some c) (h3 : mkv ag c = some v) (h : K v) : aLoad A n ag (.ptr l o g) K :=
  ⟨i, cs, k, row, f, h1, cutF_iff.2 ⟨c, h2, aP_iff.2 ⟨v, h3, h⟩⟩⟩
def aRow (A : Ah) (x : AV) (K : List AV → Nat → Prop) : Prop := match x with
  | .nilsl => K [] 0
  | .mtn => K [] 0
  | .mt => K [] 0
  | .emp => K [] 0
  | .list es => K es.flatten es.length
  | .tmpl es => K es.flatten es.length
  | .ref l o n g k => ∃ (i : Nat) (cs : List AV) (k1 : Nat) (r f : Bool), A[i]? = some (l, some (LObj.cells cs k1 g r f)) ∧ ∃ c, cut cs o (n * k) = some c ∧ K c n
  | _ => False
theorem aRow_out {A : Ah} {H : Hp} (hR : Rep A H) {x : AV} {K : List AV → Nat → Prop} (h : aRow A x K) : ∃ ys m, rowOf H x = some (ys, m) ∧ K ys m := by
  unfold aRow at h
  split at h <;> try exact ⟨_, _, rfl, h⟩
  · obtain ⟨i, cs, k1, r, f, h1, c, h2, h⟩ := h
    exact ⟨c, _, by simp only [rowOf, getC, hR.at h1, Option.bind_some, if_true, h2, Option.map_some], h⟩
  · exact h.elim
def aAppend (slot : Option Nat) (A : Ah) (k : Nat) (s x : AV) (K : AV → Ah → Prop) : Prop := aRow A x fun ys m => match s with
  | .nilsl => (m = 0 ∧ K .nilsl A) ∨ ((0 < m ∧ m < most ∧ ys.length = m * k ∧ ys.all AV.one = true) ∧ newA slot (.cells ys k 1 true false) A fun l A => K (.ref l 0 m 1 k) A)
  | .mtn => (m = 0 ∧ K .mtn A) ∨ ((0 < m ∧ m < most ∧ ys.length = m * k ∧ ys.all AV.one = true) ∧ newA slot (.cells ys k 1 true false) A fun l A => K (.ref l 0 m 1 k) A)
  | .mt => (m = 0 ∧ K .mt A) ∨ ((0 < m ∧ m < most ∧ ys.length = m * k ∧ ys.all AV.one = true) ∧ newA slot (.cells ys k 1 true false) A fun l A => K (.ref l 0 m 1 k) A)
  | .ref l o n g k' => ∃ (i : Nat) (cs : List AV) (k0 : Nat), A[i]? = some (l, some (LObj.cells cs k0 g true false)) ∧ (k = k' ∧ o + n * k = cs.length ∧ ys.length = m * k ∧ n + m < most ∧ ys.all AV.one = true) ∧
      ((m = 0 ∧ K (.ref l o n g k) A) ∨ (0 < m ∧ sF A i (l, some (LObj.cells (cs.drop o ++ ys) k (g + 1) true false)) fun A => K (.ref l 0 (n + m) (g + 1) k) A))
  | _ => False
theorem appNew_out {F : Ah} {slot : Option Nat} {A : Ah} {H : Hp} (hR : RepF F A H) {k m : Nat} {ys : List AV} {v : AV} {K : AV → Ah → Prop}
    (h : (m = 0 ∧ K v A) ∨ ((0 < m ∧ m < most ∧ ys.length = m * k ∧ ys.all AV.one = true) ∧ newA slot (.cells ys k 1 true false) A fun l A => K (.ref l 0 m 1 k) A)) : ∃ u H' A', appNew slot H k ys m v = some (u, H') ∧ RepF F A' H' ∧ K u A' := by
  rcases h with ⟨rfl, h⟩ | ⟨⟨h1, h2, h3, h4⟩, h⟩
  · exact ⟨v, H, A, by simp [appNew], hR, h⟩
  · obtain ⟨l, H', A', e1, e2, h⟩ := newA_out hR h
    refine ⟨_, H', A', ?_, e2, h⟩
    unfold appNew
    rw [if_neg (by omega), if_pos ⟨h2, h3, h4⟩, e1]
    rfl
theorem aAppend_out {F : Ah} {slot : Option Nat} {A : Ah} {H : Hp} (hR : RepF F A H) {k : Nat} {s x : AV} {K : AV → Ah → Prop} (h : aAppend slot A k s x K) : ∃ v H' A', hAppend slot H k s x = some (v, H') ∧ RepF F A' H' ∧ K v A' := by
  obtain ⟨ys, m, hr, h⟩ := aRow_out hR.base h
  unfold hAppend
  rw [hr]
  simp only
  split at h
  · exact appNew_out hR h
  · exact appNew_out hR h
  · exact appNew_out hR h
  · rename_i l o n g k'
    obtain ⟨i, cs, k0, h1, ⟨rfl, h3, h4, h5, h6⟩, h⟩ := h
    simp only [hAppRef, hR.at h1]
    rw [if_pos ⟨trivial, trivial, trivial, trivial, h3, h4, h5, h6⟩]
    rcases h with ⟨rfl, h⟩ | ⟨hm, h⟩
    · exact ⟨_, H, A, by simp, hR, h⟩
    · rw [sF_eq] at h
      refine ⟨_, _, _, ?_, hR.set h1, h⟩
      rw [if_neg (by omega)]
      simp [setH, fO_eq, fSet_eq]
  · exact h.elim
def aLookup (A : Ah) (z : AV) (ok : Bool) (ks : Option (List Nat)) (m x : AV) (K : AV → Prop) : Prop := match m with
  | .map l => ∃ (i : Nat) (es : List (AV × AV)), A[i]? = some (l, some (LObj.mp es)) ∧ okKey ks x = true ∧ ∃ r, findK ks x es = some r ∧ K (if ok then .tup [r.getD z, .bool r.isSome] else r.getD z)
  | _ => False
def aMupd (A : Ah) (ks : Option (List Nat)) (m x v : AV) (K : AV → Ah → Prop) : Prop := match m with
  | .map l => ∃ (i : Nat) (es : List (AV × AV)), A[i]? = some (l, some (LObj.mp es)) ∧ okKey ks x = true ∧ ∃ es', putK ks x v es = some es' ∧ sF A i (l, some (LObj.mp es')) fun A => K .undef A
  | _ => False
def aSlarr (A : Ah) (n k : Nat) (p : AV) (lo hi : Option AV) (K : AV → Prop) : Prop := match p with
  | .ptr l o g => ∃ (i : Nat) (cs : List AV) (k1 : Nat) (r f : Bool), A[i]? = some (l, some (LObj.cells cs k1 g r f)) ∧ o + n * k ≤ cs.length ∧ aP (pSlarr n k (.ptr l o g) lo hi) K
  | _ => False
def aMslice (slot : Option Nat) (A : Ah) (k bytes : Nat) (z : List AV) (len cap : AV) (K : AV → Ah → Prop) : Prop := match len, cap with
  | .int _ n, .int _ c => (0 ≤ n ∧ n ≤ c ∧ c < most ∧ c * bytes < most) ∧ newA slot (.cells (List.replicate n.toNat z).flatten k 0 true false) A fun l A => K (.ref l 0 n.toNat 0 k) A
  | _, _ => False
/-- What is handed over: its pure values; which objects are frozen on the way. -/
def Frz (A : Ah) (args as : List AV) (A1 : Ah) : Prop := ∀ F H, RepF F A H → ∃ H1, mapH (freezeV depth) H args = some (as, H1) ∧ RepF F A1 H1
noncomputable def adopt (slot : Option Nat) (A : Ah) (rs : List AV) : (List AV → Ah → Prop) → Prop := List.rec (motive := fun _ => Ah → (List AV → Ah → Prop) → Prop)
  (fun A K => K [] A)
  (fun v _ ih A K => match v with
    | .own k es => newA slot (.cells es.flatten k 0 true false) A fun l A => ih A fun vs A => K (.ref l 0 es.length 0 k :: vs) A
    | v => ih A fun vs A => K (v :: vs) A) rs A
theorem adopt_out {F : Ah} {slot : Option Nat} : ∀ (rs : List AV) (A : Ah) (H : Hp) (K : List AV → Ah → Prop), RepF F A H → adopt slot A rs K → ∃ vs H' A', takeIn slot H rs = some (vs, H') ∧ RepF F A' H' ∧ K vs A'
  | [], A, H, K, hR, h => ⟨[], H, A, rfl, hR, h⟩
  | v :: r, A, H, K, hR, h => by
    by_cases hv : isOwn v = true
    · cases v <;> simp only [isOwn, Bool.false_eq_true] at hv
      obtain ⟨l, H1, A1, e1, e2, h⟩ := newA_out hR h
      obtain ⟨vs, H2, A2, e3, e4, h⟩ := adopt_out r A1 H1 _ e2 h
      exact ⟨_, H2, A2, by simp only [takeIn, e1, Option.bind_some, e3, Option.map_some], e4, h⟩
    · have h' : adopt slot A r fun vs A => K (v :: vs) A := by
        cases v <;> first | exact h | (simp [isOwn] at hv)
      have heq : takeIn slot H (v :: r) = (takeIn slot H r).map fun q => (v :: q.1, q.2) := by
        cases v <;> first | rfl | (simp [isOwn] at hv)
      obtain ⟨vs, H2, A2, e3, e4, h⟩ := adopt_out r A H _ hR h'
      exact ⟨_, H2, A2, by rw [heq, e3]; rfl, e4, h⟩
def packF (vs : List AV) (K : AV → Prop) : Prop := match vs with
  | [v] => K v
  | vs => K (.tup vs)
theorem packF_out {vs : List AV} {K : AV → Prop} (h : packF vs K) : K (pack vs) := by
  unfold packF at h
  unfold pack
  split at h
  · exact h
  · rename_i hne
    split
    · rename_i v; exact absurd rfl (hne v)
    · exact h
def aRaw (hd : Hands) (slot : Option Nat) (f : Nat) (args : List AV) (A : Ah) (K : AV → Ah → Prop) : Prop := ∀ F H, RepF F A H → ∃ v H' A', doCall hd slot f args H = some (v, H') ∧ RepF F A' H' ∧ K v A'
def aCall (hd : Hands) (slot : Option Nat) (f : Nat) (args : List AV) (A : Ah) (K : AV → Ah → Prop) : Prop := match hd.how f with
  | .shared => aRaw hd slot f args A K
  | .fresh => ∃ as A1 rs, Frz A args as A1 ∧ hd.iso f as = some rs ∧ packF rs fun v => K v A
  | _ => ∃ as A1 rs fl, Frz A args as A1 ∧ hd.iso f as = some rs ∧ rs.all flatV = fl ∧ (match fl with
    | true => adopt slot A rs fun vs A => packF vs fun v => K v A
    | false => adopt slot A1 rs fun vs A => packF vs fun v => K v A)
theorem aCall_out {F : Ah} {hd : Hands} {slot : Option Nat} {f : Nat} {args : List AV} {A : Ah} {H : Hp} {K : AV → Ah → Prop} (hR : RepF F A H) (h : aCall hd slot f args A K) : ∃ v H' A', doCall hd slot f args H = some (v, H') ∧ RepF F A' H' ∧ K v A' := by
  unfold aCall at h
  split at h
  · exact h F H hR
  · rename_i hf
    obtain ⟨as, A1, rs, h1, h2, h⟩ := h
    obtain ⟨H1, e1, e2⟩ := h1 F H hR
    refine ⟨_, H, A, ?_, hR, packF_out h⟩
    simp [doCall, hf, e1, h2]
  · rename_i hn1 hn2
    obtain ⟨as, A1, rs, fl, h1, h2, h3, h⟩ := h
    obtain ⟨H1, e1, e2⟩ := h1 F H hR
    have hdo : ∀ vs H2, takeIn slot (if rs.all flatV then H else H1) rs = some (vs, H2) → doCall hd slot f args H = some (pack vs, H2) := fun vs H2 e => by
      unfold doCall
      rw [if_neg (by simpa using hn1), if_neg (by simpa using hn2), e1]
      simp only [Option.bind_some, h2, e, Option.map_some]
    cases fl with
    | true =>
      obtain ⟨vs, H2, A2, e3, e4, h⟩ := adopt_out rs A H _ hR h
      exact ⟨_, H2, A2, hdo vs H2 (by rw [if_pos h3]; exact e3), e4, packF_out h⟩
    | false =>
      obtain ⟨vs, H2, A2, e3, e4, h⟩ := adopt_out rs A1 H1 _ e2 h
      exact ⟨_, H2, A2, hdo vs H2 (by rw [if_neg (by simp [h3])]; exact e3), e4, packF_out h⟩
/-! ### One operation -/
def aOp (hd : Hands) (slot : Option Nat) (env : List AV) (A : Ah) (op : IOp) (K : AV → Ah → Prop) : Prop := match op with
  | .mov x => x.fF env fun v => K v A
  | .pick c a b => c.fF env fun c => a.fF env fun a => b.fF env fun b => aPick c a b fun v => K v A
  | .bin op x y => x.fF env fun x => y.fF env fun y => aBin op x y fun v => K v A
  | .eqs neg ks x y => x.fF env fun x => y.fF env fun y => aEqs neg ks x y fun v => K v A
  | .eqn kd neg x => x.fF env fun x => aP (pEqn kd neg x) fun v => K v A
  | .eqb neg x y => x.fF env fun x => y.fF env fun y => aP (pEqb neg x y) fun v => K v A
  | .un op x => x.fF env fun x => aP (un op x) fun v => K v A
  | .conv k x => x.fF env fun x => match x with
    | .int _ n => aInt k (wrapI k n) fun v => K v A
    | _ => False
  | .nilck x => x.fF env fun x => aP (pNilck x) fun v => K v A
  | .extract x i => x.fF env fun x => aExtract x i fun v => K v A
  | .build z ps => aFill env z ps fun cs => K (.agg cs) A
  | .field off n ag x => x.fF env fun x => aField off n ag x fun v => K v A
  | .faddr off p => p.fF env fun p => aP (pFaddr off p) fun v => K v A
  | .iaddr k x i => x.fF env fun x => i.fF env fun i => aIaddr k x i fun v => K v A
  | .iarr m k p i => p.fF env fun p => i.fF env fun i => aIarr m k p i fun v => K v A
  | .idxs x i => x.fF env fun x => i.fF env fun i => aIdxs x i fun v => K v A
  | .idxa m k ag x i => x.fF env fun x => i.fF env fun i => aIdxa m k ag x i fun v => K v A
  | .slice k x lo hi => x.fF env fun x => fFo env lo fun lo => fFo env hi fun hi => ∃ v, pSlice k x lo hi = some v ∧ K v A
  | .slstr x lo hi => x.fF env fun x => fFo env lo fun lo => fFo env hi fun hi => ∃ v, pSlstr x lo hi = some v ∧ K v A
  | .len x => x.fF env fun x => aP (pLen x) fun v => K v A
  | .lens x => x.fF env fun x => aP (pLens x) fun v => K v A
  | .maxi xs => fFs env xs fun xs => aP (pMax xs) fun v => K v A
  | .mini xs => fFs env xs fun xs => aP (pMin xs) fun v => K v A
  | .mkfn f caps => fFs env caps fun caps => K (.func f caps) A
  | .slarr n k p lo hi => p.fF env fun p => fFo env lo fun lo => fFo env hi fun hi => aSlarr A n k p lo hi fun v => K v A
  | .tlit n k z ps => match n with
    | 0 => ps.isEmpty = true ∧ K .mtn A
    | n + 1 => aFill env ((List.replicate (n + 1) z).flatten) ps fun cs => chF k (n + 1) cs fun es => K (.tmpl es) A
  | .rlit n k z ps => match n with
    | 0 => ps.isEmpty = true ∧ K .mtn A
    | n + 1 => aFill env ((List.replicate (n + 1) z).flatten) ps fun cs => newA slot (.cells cs k 0 true false) A fun l A => K (.ref l 0 (n + 1) 0 k) A
  | .alloc z => newA slot (.cells z 0 0 false false) A fun l A => K (.ptr l 0 0) A
  | .box n x => x.fF env fun x => match x.parts with
    | some cs => cs.length = n ∧ newA slot (.cells cs 0 0 false false) A fun l A => K (.ptr l 0 0) A
    | none => False
  | .load n ag p => p.fF env fun p => aLoad A n ag p fun v => K v A
  | .store n p x => p.fF env fun p => x.fF env fun x => aStore A n p x K
  | .mslice k bytes z len cap => len.fF env fun len => cap.fF env fun cap => aMslice slot A k bytes z len cap K
  | .mmap => newA slot (.mp []) A fun l A => K (.map l) A
  | .lookup z ok ks m x => m.fF env fun m => x.fF env fun x => aLookup A z ok ks m x fun v => K v A
  | .mupd ks m x v => m.fF env fun m => x.fF env fun x => v.fF env fun v => aMupd A ks m x v K
  | .append k bytes s x => s.fF env fun s => x.fF env fun x => aAppend slot A k s x K
  | .clear k z x => ∀ F H, RepF F A H → ∃ v H' A', hClear H k z (x.ev env) = some (v, H') ∧ RepF F A' H' ∧ K v A'
  | .call f args => fFs env args fun args => aCall hd slot f args A K
  | .dyn fn args => fn.fF env fun fn => fFs env args fun args => match fn with
    | .func f caps => apF args caps fun args => aCall hd slot f args A K
    | _ => False
theorem aOp_out {F : Ah} {hd : Hands} {slot : Option Nat} {env : List AV} {A : Ah} {H : Hp} {op : IOp} {K : AV → Ah → Prop} (hR : RepF F A H) (h : aOp hd slot env A op K) : ∃ v H' A', evalH hd slot env H op = some (v, H') ∧ RepF F A' H' ∧ K v A' := by
  have pure : ∀ {r : Option AV}, (∃ v, r = some v ∧ K v A) → ∃ v H' A', hPure H r = some (v, H') ∧ RepF F A' H' ∧ K v A' := fun ⟨v, hv, h⟩ => ⟨v, H, A, by rw [hv]; rfl, hR, h⟩
  cases op <;> simp only [aOp, fF_eq, fFs_eq, fFo_eq, apF_eq] at h
  case mov x => exact pure ⟨_, rfl, h⟩
  case pick c a b =>
    refine pure ?_
    simp only [evalP]
    unfold aPick at h
    split at h
    · rename_i e; exact ⟨_, by rw [e]; rfl, h⟩
    · rename_i e; exact ⟨_, by rw [e]; rfl, h⟩
    · exact h.elim
  case bin op x y => exact pure (aBin_out h)
  case eqs neg ks x y =>
    refine pure ?_
    simp only [evalP]
    unfold aEqs at h
    split at h
    · rename_i e1 e2
      obtain ⟨b, hb, h⟩ := aEqL_out _ _ _ _ h
      exact ⟨_, by simp only [pEqs, e1, e2, hb], h⟩
    · exact h.elim
  case eqn kd neg x => exact pure (aP_iff.1 h)
  case eqb neg x y => exact pure (aP_iff.1 h)
  case un op x => exact pure (aP_iff.1 h)
  case conv k x =>
    refine pure ?_
    simp only [evalP]
    split at h
    · rename_i e
      obtain ⟨c, rfl, h⟩ := h
      exact ⟨_, by rw [e]; rfl, h⟩
    · exact h.elim
  case nilck x => exact pure (aP_iff.1 h)
  case extract x i =>
    refine pure ?_
    simp only [evalP]
    unfold aExtract at h
    split at h
    · rename_i e
      split at h
      · rename_i e2; exact ⟨_, by rw [e]; exact e2, h⟩
      · exact h.elim
    · exact h.elim
  case build z ps =>
    refine pure ?_
    simp only [evalP]
    obtain ⟨c, hc, h⟩ := aFill_out _ _ _ h
    exact ⟨_, by rw [hc]; rfl, h⟩
  case field off n ag x =>
    refine pure ?_
    simp only [evalP]
    unfold aField at h
    split at h
    · rename_i e
      obtain ⟨c, hc, h⟩ := cutF_iff.1 h
      obtain ⟨v, hv, h⟩ := aP_iff.1 h
      exact ⟨v, by rw [e]; simp only [pField, hc, Option.bind_some, hv], h⟩
    · exact h.elim
  case faddr off p => exact pure (aP_iff.1 h)
  case iaddr k x i => exact pure (aIaddr_out h)
  case iarr m k p i => exact pure (aIarr_out h)
  case idxs x i => exact pure (aIdxs_out h)
  case idxa m k ag x i => exact pure (aIdxa_out h)
  case slice k x lo hi => exact pure h
  case slstr x lo hi => exact pure h
  case len x => exact pure (aP_iff.1 h)
  case lens x => exact pure (aP_iff.1 h)
  case maxi xs => exact pure (aP_iff.1 h)
  case mini xs => exact pure (aP_iff.1 h)
  case mkfn f caps => exact pure ⟨_, rfl, h⟩
  case slarr n k p lo hi =>
    simp only [evalH]
    unfold aSlarr at h
    split at h
    · rename_i e
      obtain ⟨i, cs, k1, r, f, h1, h2, h⟩ := h
      obtain ⟨v, hv, h⟩ := aP_iff.1 h
      exact ⟨v, H, A, by simp only [hSlarr, e, hR.at h1]; rw [if_pos ⟨trivial, h2⟩, hv]; rfl, hR, h⟩
    · exact h.elim
  case tlit n k z ps =>
    simp only [evalH, hTlit]
    cases n with
    | zero => exact ⟨_, H, A, by rw [if_pos rfl, if_pos h.1], hR, h.2⟩
    | succ n =>
      simp only [chF_eq] at h
      obtain ⟨c, hc, h⟩ := aFill_out _ _ _ h
      exact ⟨_, H, A, by rw [if_neg (by simp)]; simp only [pTlit, hc, Option.map_some], hR, h⟩
  case rlit n k z ps =>
    simp only [evalH, hRlit]
    cases n with
    | zero => exact ⟨_, H, A, by rw [if_pos rfl, if_pos h.1], hR, h.2⟩
    | succ n =>
      obtain ⟨c, hc, h⟩ := aFill_out _ _ _ h
      obtain ⟨l, H', A', e1, e2, h⟩ := newA_out hR h
      exact ⟨_, H', A', by rw [if_neg (by simp), hc, Option.bind_some, e1]; rfl, e2, h⟩
  case alloc z =>
    obtain ⟨l, H', A', e1, e2, h⟩ := newA_out hR h
    exact ⟨_, H', A', by simp only [evalH, hAlloc, e1, Option.map_some], e2, h⟩
  case box n x =>
    simp only [evalH, hBox]
    split at h
    · rename_i cs e
      obtain ⟨h1, h⟩ := h
      obtain ⟨l, H', A', e1, e2, h⟩ := newA_out hR h
      exact ⟨_, H', A', by rw [e]; simp only [if_pos h1, hAlloc, e1, Option.map_some], e2, h⟩
    · exact h.elim
  case load n ag p =>
    obtain ⟨v, hv, h⟩ := aLoad_out hR.base h
    exact ⟨v, H, A, hv, hR, h⟩
  case store n p x => exact aStore_out hR h
  case mslice k bytes z len cap =>
    simp only [evalH, hMslice]
    unfold aMslice at h
    split at h
    · rename_i e1 e2
      obtain ⟨h1, h⟩ := h
      obtain ⟨l, H', A', e3, e4, h⟩ := newA_out hR h
      exact ⟨_, H', A', by simp only [e1, e2, if_pos h1, e3, Option.map_some], e4, h⟩
    · exact h.elim
  case mmap =>
    obtain ⟨l, H', A', e1, e2, h⟩ := newA_out hR h
    exact ⟨_, H', A', by simp only [evalH, hMmap, e1, Option.map_some], e2, h⟩
  case lookup z ok ks m x =>
    simp only [evalH]
    unfold aLookup at h
    split at h
    · rename_i e
      obtain ⟨i, es, h1, h2, r, h3, h⟩ := h
      exact ⟨_, H, A, by simp only [hLookup, e, hR.at h1, h2, Bool.true_eq_false, if_false, h3, Option.map_some], hR, h⟩
    · exact h.elim
  case mupd ks m x v =>
    simp only [evalH]
    unfold aMupd at h
    split at h
    · rename_i e
      obtain ⟨i, es, h1, h2, r, h3, h⟩ := h
      rw [sF_eq] at h
      exact ⟨_, _, _, by simp only [hMupd, e, hR.at h1, h2, Bool.true_eq_false, if_false, h3, Option.bind_some, setH, fO_eq, fSet_eq], hR.set h1, h⟩
    · exact h.elim
  case append k bytes s x => exact aAppend_out hR h
  case clear k z x => exact h F H hR
  case call f args => exact aCall_out hR h
  case dyn fn args =>
    simp only [evalH, hDyn]
    split at h
    · rename_i e
      simp only [e]
      exact aCall_out hR h
    · exact h.elim
end Go.Ai
