/- Regions that draw their order: any order that the edges allow does what 'ord' does. -/
import Derived.Test.YtlgbbabijifflaaA17
set_option linter.unusedVariables false
set_option linter.unusedSimpArgs false
namespace Go.Ai
open Go.RowKit
section
variable {hd : Hands} {is : List IOper} {base : Nat}
/-- What one operation makes: its value, local memory after it. -/
def runV (hd : Hands) (is : List IOper) (slot : Nat) (o : IOper) (env : List AV) (H : Hp) : Option (AV × Hp) :=
  if wanted is env o.guard then evalH hd (some slot) env H o.op else some (.undef, H)
def accV (hd : Hands) (is : List IOper) (slot : Nat) (o : IOper) (env : List AV) (H : Hp) : Acc :=
  if wanted is env o.guard then accOf hd slot env H o.op else ⟨[], [], false⟩
def setD (env : List AV) (d : Option Nat) (v : AV) : List AV := match d with
  | none => env
  | some i => env.set i v
theorem putD_eq {β : Type} (env : List AV) (d : Option Nat) (v : AV) (k : List AV → β) : putD env d v k = k (setD env d v) := by
  cases d <;> simp [putD, setD, fSet_eq]
theorem runOp_eq {slot : Nat} {o : IOper} {s : St} : runOp hd is (some slot) o s = (runV hd is slot o s.env s.H).map fun r => ⟨setD s.env o.dst r.1, r.2⟩ := by
  unfold runOp runV
  split
  · split
    · rename_i h; rw [h]; rfl
    · rename_i h; rw [h]; simp [fV_eq, putD_eq]
  · simp [putD_eq]
theorem getL_setD {env : List AV} {d : Option Nat} {v : AV} {t : Nat} (h : d ≠ some t) : getL (setD env d v) t = getL env t := by
  cases d with
  | none => rfl
  | some d =>
    have hne : d ≠ t := fun e => h (by rw [e])
    simp only [getL, setD, List.getD_eq_getElem?_getD, List.getElem?_set_ne hne]
theorem setD_comm {env : List AV} {d e : Option Nat} {v u : AV} (h : ∀ x y, d = some x → e = some y → x ≠ y) : setD (setD env d v) e u = setD (setD env e u) d v := by
  cases d with
  | none => rfl
  | some d => cases e with
    | none => rfl
    | some e => exact List.set_comm _ _ (h d e rfl rfl)
theorem wanted_congr {env env' : List AV} {o : IOper} (h : ∀ t ∈ looks is o, getL env t = getL env' t) : wanted is env o.guard = wanted is env' o.guard := by
  unfold wanted
  cases hg : o.guard with
  | none => rfl
  | some q =>
    obtain ⟨j, b⟩ := q
    simp only
    cases hj : (is[j]?).bind (·.dst) with
    | none => rfl
    | some t =>
      simp only
      rw [h t (by simp [looks, hg, hj])]
theorem runV_congr {slot : Nat} {o : IOper} {env env' : List AV} {H : Hp} (h : ∀ t ∈ looks is o, getL env t = getL env' t) : runV hd is slot o env H = runV hd is slot o env' H := by
  unfold runV
  rw [wanted_congr h, evalH_congr fun t ht => h t (by simp [looks, ht])]
theorem accV_congr {slot : Nat} {o : IOper} {env env' : List AV} {H : Hp} (h : ∀ t ∈ looks is o, getL env t = getL env' t) : accV hd is slot o env H = accV hd is slot o env' H := by
  unfold accV
  rw [wanted_congr h, accOf_congr fun t ht => h t (by simp [looks, ht])]
theorem runV_loc {slot : Nat} {o : IOper} {env : List AV} {H H' : Hp} {v : AV} (ha : (accV hd is slot o env H).all = false) (h : runV hd is slot o env H = some (v, H')) :
    Loc (accV hd is slot o env H) (fun K => runV hd is slot o env K) v H H' := by
  unfold runV accV at *
  split at h
  · rename_i hw
    simp only [if_pos hw] at ha ⊢
    exact evalH_loc ha h
  · rename_i hw
    simp only [if_neg hw] at ha ⊢
    simp only [Option.some.injEq, Prod.mk.injEq] at h
    obtain ⟨rfl, rfl⟩ := h
    exact Loc.same fun K _ => rfl
theorem accV_loc {slot : Nat} {o : IOper} {env : List AV} {H K : Hp} (ha : (accV hd is slot o env H).all = false) (h : Agree (accV hd is slot o env H) H K) : accV hd is slot o env K = accV hd is slot o env H := by
  unfold accV at *
  split
  · rename_i hw
    simp only [if_pos hw] at ha h
    exact acc_loc ha h
  · rfl
theorem tlit_same {env : List AV} {n k : Nat} {z : List AV} {ps : List (Nat × Nat × Ex)} {H H' : Hp} {v : AV} (h : hTlit env H n k z ps = some (v, H')) : H' = H ∧ ∀ K, hTlit env K n k z ps = some (v, K) := by
  unfold hTlit at h ⊢
  split at h
  · rename_i h0
    split at h
    · rename_i h1
      simp only [Option.some.injEq, Prod.mk.injEq] at h
      obtain ⟨rfl, rfl⟩ := h
      exact ⟨rfl, fun K => by rw [if_pos h0, if_pos h1]⟩
    · cases h
  · rename_i h0
    simp only [Option.map_eq_some_iff, Prod.mk.injEq] at h
    obtain ⟨w, hw, rfl, rfl⟩ := h
    exact ⟨rfl, fun K => by rw [if_neg h0, hw]; rfl⟩
theorem heap0 {op : IOp} (h : heapish op = 0) : (op.heapy = false ∧ op.calls = false) ∨ ∃ n k z ps, op = .tlit n k z ps := by
  cases op <;> simp only [heapish, Nat.reduceEqDiff] at h <;> first | exact .inl ⟨rfl, rfl⟩ | exact .inr ⟨_, _, _, _, rfl⟩
/-- An operation that has nothing to do with memory. -/
theorem runV_quiet {slot : Nat} {o : IOper} {env : List AV} {H H' : Hp} {v : AV} (hq : heapish o.op = 0) (h : runV hd is slot o env H = some (v, H')) : H' = H ∧ ∀ K, runV hd is slot o env K = some (v, K) := by
  unfold runV at *
  split at h
  · rename_i hw
    simp only [if_pos hw]
    rcases heap0 hq with hp | ⟨n, k, z, ps, hop⟩
    · have he : ∀ K, evalH hd (some slot) env K o.op = hPure K (evalP env o.op) := fun K => evalH_pure hp.1 hp.2
      rw [he] at h
      cases hp : evalP env o.op with
      | none => rw [hp] at h; simp [hPure] at h
      | some x =>
        rw [hp] at h
        simp only [hPure, Option.some.injEq, Prod.mk.injEq] at h
        obtain ⟨rfl, rfl⟩ := h
        exact ⟨rfl, fun K => by rw [he, hp]; rfl⟩
    · rw [hop] at h ⊢
      exact tlit_same h
  · rename_i hw
    simp only [if_neg hw]
    simp only [Option.some.injEq, Prod.mk.injEq] at h
    obtain ⟨rfl, rfl⟩ := h
    exact ⟨rfl, fun K => rfl⟩
theorem acc_quiet {slot : Nat} {o : IOper} {env : List AV} {H : Hp} (hq : heapish o.op = 0) : accV hd is slot o env H = ⟨[], [], false⟩ := by
  unfold accV
  split
  · cases o with
    | mk d g op => cases op <;> simp only [heapish, Nat.reduceEqDiff] at hq <;> rfl
  · rfl
theorem evalH_reads {slot : Option Nat} {op : IOp} {env : List AV} {H H' : Hp} {v : AV} (hq : heapish op = 1) (h : evalH hd slot env H op = some (v, H')) : H' = H := by
  cases op <;> simp only [heapish, Nat.reduceEqDiff] at hq
  case load n ag p =>
    simp only [evalH, hLoad] at h
    split at h
    · obtain ⟨c, _, h⟩ := Option.bind_eq_some_iff.1 h
      obtain ⟨c, _, h⟩ := Option.bind_eq_some_iff.1 h
      simp only [Option.map_eq_some_iff, Prod.mk.injEq] at h
      obtain ⟨_, _, _, h⟩ := h; exact h.symm
    · obtain ⟨c, _, h⟩ := Option.bind_eq_some_iff.1 h
      obtain ⟨c, _, h⟩ := Option.bind_eq_some_iff.1 h
      simp only [Option.map_eq_some_iff, Prod.mk.injEq] at h
      obtain ⟨_, _, _, h⟩ := h; exact h.symm
    · split at h
      · split at h
        · obtain ⟨c, _, h⟩ := Option.bind_eq_some_iff.1 h
          simp only [Option.map_eq_some_iff, Prod.mk.injEq] at h
          obtain ⟨_, _, _, h⟩ := h; exact h.symm
        · cases h
      · cases h
    · cases h
  case slarr n k p lo hi =>
    simp only [evalH, hSlarr] at h
    split at h
    · split at h
      · split at h
        · simp only [Option.map_eq_some_iff, Prod.mk.injEq] at h
          obtain ⟨_, _, _, h⟩ := h; exact h.symm
        · cases h
      · cases h
    · cases h
  case lookup z ok ks m x =>
    simp only [evalH, hLookup] at h
    split at h
    · split at h
      · split at h
        · cases h
        · simp only [Option.map_eq_some_iff, Prod.mk.injEq] at h
          obtain ⟨_, _, _, h⟩ := h; exact h.symm
      · cases h
    · cases h
theorem runV_reads {slot : Nat} {o : IOper} {env : List AV} {H H' : Hp} {v : AV} (hq : heapish o.op = 1) (h : runV hd is slot o env H = some (v, H')) : H' = H := by
  unfold runV at h
  split at h
  · exact evalH_reads hq h
  · simp only [Option.some.injEq, Prod.mk.injEq] at h
    exact h.2.symm
/-- Two operations whose order does not matter to local memory. -/
def Com (o : IOper) (A : Acc) (q : IOper) (B : Acc) : Prop := A.free B = true ∨ heapish o.op = 0 ∨ heapish q.op = 0 ∨ (heapish o.op = 1 ∧ heapish q.op = 1)
theorem free_spec {A B : Acc} (h : A.free B = true) : A.all = false ∧ B.all = false ∧ (∀ l ∈ A.writes, l ∉ B.writes ∧ l ∉ B.reads) ∧ ∀ l ∈ B.writes, l ∉ A.reads := by
  simp only [Acc.free, Bool.and_eq_true, Bool.not_eq_true', List.all_eq_true, List.contains_eq_mem, decide_eq_false_iff_not] at h
  exact ⟨h.1.1.1, h.1.1.2, fun l hl => h.1.2 l hl, fun l hl => h.2 l hl⟩
theorem heap_comm {i j : Nat} {o q : IOper} {env : List AV} {H H1 H2 : Hp} {v u : AV} (hc : Com o (accV hd is i o env H) q (accV hd is j q env H1)) (h1 : runV hd is i o env H = some (v, H1)) (h2 : runV hd is j q env H1 = some (u, H2)) :
    ∃ K, runV hd is j q env H = some (u, K) ∧ runV hd is i o env K = some (v, H2) ∧ accV hd is j q env H = accV hd is j q env H1 ∧ accV hd is i o env K = accV hd is i o env H := by
  rcases hc with hf | hq | hq | ⟨hq1, hq2⟩
  · obtain ⟨a1, a2, a3, a4⟩ := free_spec hf
    obtain ⟨F, f1, f2, f3⟩ := runV_loc a1 h1
    obtain ⟨G, g1, g2, g3⟩ := runV_loc a2 h2
    have hB : Agree (accV hd is j q env H1) H1 H := ⟨f2.1.symm, fun l hl => by
        have h3 : l ∉ (accV hd is i o env H).writes := fun h => (a3 l h).1 hl
        have h4 : l ∉ F := fun h => a4 l hl (f1 l h)
        rw [f2.2 l h3, if_neg h4], fun l hl => by
        have h3 : l ∉ (accV hd is i o env H).writes := fun h => (a3 l h).2 hl
        rw [f2.2 l h3]
        split
        · exact (unf_frz _).symm
        · rfl⟩
    obtain ⟨K, k1, k2, k3⟩ := g3 H hB
    have hA : Agree (accV hd is i o env H) H K := ⟨k2.1, fun l hl => by
        have h3 := a3 l hl
        have h4 : l ∉ G := fun h => h3.2 (g1 l h)
        rw [k2.2 l h3.1, if_neg h4], fun l hl => by
        have h3 : l ∉ (accV hd is j q env H1).writes := fun h => a4 l h hl
        rw [k2.2 l h3]
        split
        · exact unf_frz _
        · rfl⟩
    obtain ⟨L, l1, l2, l3⟩ := f3 K hA
    have : L = H2 := by
      apply List.ext_getElem?
      intro l
      by_cases w1 : l ∈ (accV hd is i o env H).writes
      · have h3 := a3 l w1
        have h4 : l ∉ G := fun h => h3.2 (g1 l h)
        rw [l3 l w1, g2.2 l h3.1, if_neg h4]
      · by_cases w2 : l ∈ (accV hd is j q env H1).writes
        · have h4 : l ∉ F := fun h => a4 l w2 (f1 l h)
          rw [l2.2 l w1, if_neg h4, k3 l w2]
        · rw [l2.2 l w1, g2.2 l w2, k2.2 l w2, f2.2 l w1]
          by_cases e1 : l ∈ F <;> by_cases e2 : l ∈ G <;> simp [e1, e2]
    subst this
    exact ⟨K, k1, l1, accV_loc a2 hB, accV_loc a1 hA⟩
  · obtain ⟨rfl, hv⟩ := runV_quiet hq h1
    exact ⟨H2, h2, hv H2, rfl, by rw [acc_quiet hq, acc_quiet hq]⟩
  · obtain ⟨rfl, hv⟩ := runV_quiet hq h2
    exact ⟨H, hv H, h1, by rw [acc_quiet hq, acc_quiet hq], rfl⟩
  · obtain rfl := runV_reads hq1 h1
    obtain rfl := runV_reads hq2 h2
    exact ⟨_, h2, h1, rfl, rfl⟩
/-- A run through operations, each with what it had to do with. -/
inductive Runs (hd : Hands) (is : List IOper) (base : Nat) : List (Nat × Acc) → St → St → Prop
  | nil (s : St) : Runs hd is base [] s s
  | cons (i : Nat) (A : Acc) (o : IOper) (l : List (Nat × Acc)) (s s1 t : St) (ho : is[i]? = some o) (h : runOp hd is (some (base + i)) o s = some s1) (hA : accV hd is (base + i) o s.env s.H = A) (hl : Runs hd is base l s1 t) : Runs hd is base ((i, A) :: l) s t
theorem apart_spec {o q : IOper} (h : apartI is o q = true) : (∀ t ∈ looks is q, o.dst ≠ some t) ∧ (∀ t ∈ looks is o, q.dst ≠ some t) ∧ ∀ x y, o.dst = some x → q.dst = some y → x ≠ y := by
  simp only [apartI, Bool.and_eq_true, Bool.not_eq_true'] at h
  obtain ⟨⟨h1, h2⟩, h3⟩ := h
  refine ⟨fun t ht hd => ?_, fun t ht hd => ?_, fun x y hx hy => ?_⟩
  · simp [isIn, hd, ht] at h1
  · simp [isIn, hd, ht] at h2
  · simpa [hx, hy] using h3
/-- What may change places. -/
def Swap (is : List IOper) (x y : Nat × Acc) : Prop := ∀ o q, is[x.1]? = some o → is[y.1]? = some q → apartI is o q = true ∧ Com o x.2 q y.2
theorem swap_run {x y : Nat × Acc} {l : List (Nat × Acc)} {s t : St} (hs : Swap is x y) (h : Runs hd is base (x :: y :: l) s t) : Runs hd is base (y :: x :: l) s t := by
  cases h with
  | cons i A o _ _ s1 _ ho h1 hA hl =>
    cases hl with
    | cons j B q _ _ s2 _ hq h2 hB hl =>
      obtain ⟨hap, hcom⟩ := hs o q ho hq
      obtain ⟨d1, d2, d3⟩ := apart_spec hap
      rw [runOp_eq] at h1 h2
      simp only [Option.map_eq_some_iff] at h1 h2
      obtain ⟨⟨v, H1⟩, h1, rfl⟩ := h1
      obtain ⟨⟨u, H2⟩, h2, rfl⟩ := h2
      simp only at h2 hB hcom hl
      have c1 : ∀ t ∈ looks is q, getL (setD s.env o.dst v) t = getL s.env t := fun t ht => getL_setD (d1 t ht)
      have c2 : ∀ t ∈ looks is o, getL s.env t = getL (setD s.env q.dst u) t := fun t ht => (getL_setD (d2 t ht)).symm
      rw [runV_congr c1] at h2
      rw [accV_congr c1] at hB
      subst hA hB
      obtain ⟨K, k1, k2, k3, k4⟩ := heap_comm hcom h1 h2
      refine .cons j _ q _ s ⟨setD s.env q.dst u, K⟩ t hq (by rw [runOp_eq, k1]; rfl) k3 (.cons i _ o _ _ t ho (s1 := ⟨setD (setD s.env o.dst v) q.dst u, H2⟩) ?_ ?_ hl)
      · rw [runOp_eq]
        simp only
        rw [← runV_congr c2, k2]
        simp only [Option.map_some, setD_comm d3]
      · simp only
        rw [← accV_congr c2, k4]
/-- An operation comes to the front. -/
theorem front_run {y : Nat × Acc} {l2 : List (Nat × Acc)} : ∀ (l1 : List (Nat × Acc)) {s t : St}, (∀ x ∈ l1, Swap is x y) → Runs hd is base (l1 ++ y :: l2) s t → Runs hd is base (y :: (l1 ++ l2)) s t
  | [], s, t, hs, h => h
  | x :: l1, s, t, hs, h => by
    refine swap_run (hs x (by simp)) ?_
    cases h with
    | cons i A o _ _ s1 _ ho h1 hA hl => exact .cons i A o _ s s1 t ho h1 hA (front_run l1 (fun x hx => hs x (by simp [hx])) hl)
theorem runDraw_runs : ∀ (ord : List Nat) (s t : St) (as0 as : List Acc), runDraw hd is base ord s as0 = some (t, as) → ∃ bs, as = as0 ++ bs ∧ bs.length = ord.length ∧ Runs hd is base (ord.zip bs) s t
  | [], s, t, as0, as, h => by
    simp only [runDraw, Option.some.injEq, Prod.mk.injEq] at h
    obtain ⟨rfl, rfl⟩ := h
    exact ⟨[], by simp, rfl, .nil _⟩
  | i :: r, s, t, as0, as, h => by
    simp only [runDraw] at h
    split at h
    · cases h
    · rename_i o ho
      split at h
      · cases h
      · rename_i s1 h1
        obtain ⟨bs, rfl, h2, h3⟩ := runDraw_runs r s1 t _ as h
        exact ⟨accV hd is (base + i) o s.env s.H :: bs, by simp [accV], by simp [h2], .cons i _ o _ s s1 t ho h1 rfl h3⟩
end
end Go.Ai
