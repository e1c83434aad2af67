/- Systems: what they are; the check of a system. -/
import Derived.Test.YtlgbbabijifflaaR53
import Derived.Test.YtlgbbabijifflaaA27
set_option linter.unusedVariables false
set_option linter.unusedSimpArgs false
namespace Go.Proofs.Ytlgbbabijifflaa.runs
open Go Go.Ai Go.Proofs.Ytlgbbabijifflaa.L1R
theorem wrap64 {n : Int} (h1 : -9223372036854775808 ≤ n) (h2 : n ≤ 9223372036854775807) : wrapI .i64 n = n := by
  simp only [wrapI, topN, modN]
  omega
abbrev I64 (n : Int) : Prop := -9223372036854775808 ≤ n ∧ n ≤ 9223372036854775807
theorem mixed : Try.prog.follows .mixedOrders = true := by kernel_rfl
/-! ### Data -/
structure RunD where
  loc : List (List Int)
  fac : List Int
structure SysD where
  ag : Int
  fa : Int
  len : Int
  runs : List RunD
def intsC (l : List Int) : List (List AV) := l.map fun x => [.int .i64 x]
def locsC (ls : List (List Int)) : List (List AV) := ls.map fun l => [.list (intsC l)]
def facsC (fs : List Int) : List (List AV) := fs.map fun x => [.int .u64 x]
def runC (r : RunD) : List AV := [.list (locsC r.loc), .list (facsC r.fac)]
def sysC (s : SysD) : List AV := [.int .i64 s.ag, .int .i64 s.fa, .int .i64 s.len, .list (s.runs.map runC)]
def dAll {α : Type} (d : List AV → Option α) : List (List AV) → Option (List α)
  | [] => some []
  | e :: es => (d e).bind fun x => (dAll d es).map fun xs => x :: xs
theorem dAll_map {α : Type} {d : List AV → Option α} {c : α → List AV} (h : ∀ x, d (c x) = some x) : ∀ (xs : List α), dAll d (xs.map c) = some xs
  | [] => rfl
  | x :: xs => by simp [dAll, h, dAll_map h xs]
def dInt : List AV → Option Int
  | [.int .i64 x] => some x
  | _ => none
def dLoc : List AV → Option (List Int)
  | [.list es] => dAll dInt es
  | _ => none
def dFac : List AV → Option Int
  | [.int .u64 x] => some x
  | _ => none
def dRun : List AV → Option RunD
  | [.list a, .list b] => (dAll dLoc a).bind fun a => (dAll dFac b).map fun b => ⟨a, b⟩
  | _ => none
def dSys : List AV → Option SysD
  | [.int .i64 a, .int .i64 f, .int .i64 l, .list rs] => (dAll dRun rs).map fun rs => ⟨a, f, l, rs⟩
  | _ => none
theorem dInts (l : List Int) : dAll dInt (intsC l) = some l := dAll_map (c := fun x => [AV.int .i64 x]) (fun _ => rfl) l
theorem dLocs (l : List (List Int)) : dAll dLoc (locsC l) = some l := dAll_map (c := fun l => [AV.list (intsC l)]) (fun l => dInts l) l
theorem dFacs (l : List Int) : dAll dFac (facsC l) = some l := dAll_map (c := fun x => [AV.int .u64 x]) (fun _ => rfl) l
theorem dRuns (l : List RunD) : dAll dRun (l.map runC) = some l := dAll_map (fun r => by simp [dRun, runC, dLocs, dFacs]) l
theorem dSys_C (s : SysD) : dSys (sysC s) = some s := by simp [dSys, sysC, dRuns]
abbrev U64 (n : Int) : Prop := 0 ≤ n ∧ n ≤ 18446744073709551615
def RunD.Ok (r : RunD) : Prop := (∀ l ∈ r.loc, ∀ x ∈ l, I64 x) ∧ ∀ f ∈ r.fac, U64 f
def SysD.Ok (s : SysD) : Prop := I64 s.ag ∧ I64 s.fa ∧ I64 s.len ∧ ∀ r ∈ s.runs, r.Ok
/-! ### What is looked for -/
def firstS (p : List AV → Bool) : List (List AV) → Nat → Int
  | [], _ => -1
  | e :: es, i => if p e then i else firstS p es (i + 1)
theorem first_any (p : List AV → Bool) : ∀ (es : List (List AV)) (i : Nat), (firstS p es i ≥ 0) ↔ es.any p = true
  | [], i => by simp [firstS]
  | e :: es, i => by
    simp only [firstS, List.any_cons, Bool.or_eq_true]
    split
    · rename_i h; simp [h]
    · rename_i h; rw [first_any p es (i + 1)]; simp [h]
theorem first_bound (p : List AV → Bool) : ∀ (es : List (List AV)) (i : Nat), -1 ≤ firstS p es i ∧ firstS p es i ≤ i + es.length
  | [], i => by simp [firstS]
  | e :: es, i => by
    have := first_bound p es (i + 1)
    simp only [firstS, List.length_cons]
    split <;> omega
/-- Is the length of a list another one? -/
def lenNe (ag : Int) : List AV → Bool
  | [.list l] => decide (¬ (l.length : Int) = ag)
  | _ => false
def isL : List AV → Bool
  | [.list _] => true
  | _ => false
/-- Has a number bits beyond these? -/
def high (fa : Int) : List AV → Bool
  | [.int .u64 f] => decide (¬ f / 2 ^ fa.toNat = 0)
  | _ => false
def isU : List AV → Bool
  | [.int .u64 f] => decide (U64 f)
  | _ => false
def g53 (args : List AV) : Option (List AV) := match args with
  | [.list l, .fptr [.int .i64 ag :: _] 0 0] => some [.bool (lenNe ag [.list l])]
  | _ => none
def g55 (args : List AV) : Option (List AV) := match args with
  | [.int .u64 f, .fptr [_ :: .int .i64 fa :: _] 0 0] => if U64 f ∧ 0 ≤ fa ∧ fa ≤ 63 then some [.bool (high fa [.int .u64 f])] else none
  | _ => none
def g93 (args : List AV) : Option (List AV) := match args with
  | [.list es, .func 53 [.fptr [.int .i64 ag :: r] 0 0]] => if es.all isL && es.length < most then some [.int .i64 (firstS (lenNe ag) es 0)] else none
  | _ => none
def g52 (args : List AV) : Option (List AV) := match args with
  | [.list es, .func 53 [.fptr [.int .i64 ag :: r] 0 0]] => if es.all isL && es.length < most then some [.bool (es.any (lenNe ag))] else none
  | _ => none
def g94 (args : List AV) : Option (List AV) := match args with
  | [.list es, .func 55 [.fptr [x :: .int .i64 fa :: r] 0 0]] => if es.all isU && es.length < most && decide (0 ≤ fa ∧ fa ≤ 63) then some [.int .i64 (firstS (high fa) es 0)] else none
  | _ => none
def g54 (args : List AV) : Option (List AV) := match args with
  | [.list es, .func 55 [.fptr [x :: .int .i64 fa :: r] 0 0]] => if es.all isU && es.length < most && decide (0 ≤ fa ∧ fa ≤ 63) then some [.bool (es.any (high fa))] else none
  | _ => none
set_option maxRecDepth 100000 in
theorem run53 {hd : Hands} {n : Nat} {l : List (List AV)} {ag : Int} {r : List AV} {K : List AV → Ah → Prop} (hK : ∀ x A, x = lenNe ag [.list l] → K [.bool x] A) : aB hd n ir53 (.list l :: .fptr [.int .i64 ag :: r] 0 0 :: .undef :: .undef :: .undef :: .undef :: .undef :: .undef :: .undef :: []) [] K := by
  repeat' ((conv => whnf); first | refine ⟨rfl, fun hc => ?_, fun hc => ?_⟩ | refine ⟨fun hc => ?_, fun hc => ?_⟩ | refine ⟨rfl, _, wrap64 (by omega) (by omega), ?_⟩ | refine ⟨_, wrap64 (by omega) (by omega), ?_⟩ | refine ⟨_, wrapU (by omega) (by omega), ?_⟩ | refine ⟨rfl, rfl, ?_⟩ | refine ⟨_, _, _, _, _, gi (by repeat first | exact .hd | apply In.tl), ?_⟩ | refine ⟨_, _, _, _, gi (by repeat first | exact .hd | apply In.tl), ⟨rfl, by exact leb rfl, by exact rfl⟩, ?_⟩ | refine ⟨_, gi (by repeat first | exact .hd | apply In.tl), ?_⟩ | refine ⟨⟨rfl, leb rfl⟩, ?_⟩ | refine ⟨⟨by decide, by decide⟩, ?_⟩ | refine ⟨rfl, ?_⟩ | refine ⟨leb rfl, ?_⟩ | refine ⟨by decide, ?_⟩ | refine .inr ⟨⟨leb rfl, leb rfl, rfl, rfl⟩, ?_⟩ | (intro l hl) | fail)
  refine ⟨_, rfl, ?_⟩
  repeat' ((conv => whnf); first | refine ⟨rfl, fun hc => ?_, fun hc => ?_⟩ | refine ⟨fun hc => ?_, fun hc => ?_⟩ | refine ⟨rfl, _, wrap64 (by omega) (by omega), ?_⟩ | refine ⟨_, wrap64 (by omega) (by omega), ?_⟩ | refine ⟨_, wrapU (by omega) (by omega), ?_⟩ | refine ⟨rfl, rfl, ?_⟩ | refine ⟨_, _, _, _, _, gi (by repeat first | exact .hd | apply In.tl), ?_⟩ | refine ⟨_, _, _, _, gi (by repeat first | exact .hd | apply In.tl), ⟨rfl, by exact leb rfl, by exact rfl⟩, ?_⟩ | refine ⟨_, gi (by repeat first | exact .hd | apply In.tl), ?_⟩ | refine ⟨⟨rfl, leb rfl⟩, ?_⟩ | refine ⟨⟨by decide, by decide⟩, ?_⟩ | refine ⟨rfl, ?_⟩ | refine ⟨leb rfl, ?_⟩ | refine ⟨by decide, ?_⟩ | refine .inr ⟨⟨leb rfl, leb rfl, rfl, rfl⟩, ?_⟩ | (intro l hl) | fail)
  · exact hK _ _ (by simp only [lenNe]; exact (decide_eq_true hc).symm)
  · exact hK _ _ (by simp only [lenNe]; exact (decide_eq_false hc).symm)
theorem shrU {x : Int} (h : 0 ≤ x) {n : Int} (h1 : 0 ≤ n) (h2 : n ≤ 63) : shrI x (min n.toNat IntKind.u64.bits) = x / 2 ^ n.toNat := by
  rw [shr_eq h]
  congr 2
  simp only [IntKind.bits]
  omega
set_option maxRecDepth 100000 in
theorem run55 {hd : Hands} {n : Nat} {f fa : Int} {x : AV} {r : List AV} (hf : U64 f) (h1 : 0 ≤ fa) (h2 : fa ≤ 63) {K : List AV → Ah → Prop} (hK : ∀ x A, x = high fa [.int .u64 f] → K [.bool x] A) : aB hd n ir55 (.int .u64 f :: .fptr [x :: .int .i64 fa :: r] 0 0 :: .undef :: .undef :: .undef :: .undef :: .undef :: .undef :: .undef :: []) [] K := by
  repeat' ((conv => whnf); first | refine ⟨rfl, fun hc => ?_, fun hc => ?_⟩ | refine ⟨fun hc => ?_, fun hc => ?_⟩ | refine ⟨rfl, _, wrap64 (by omega) (by omega), ?_⟩ | refine ⟨_, wrap64 (by omega) (by omega), ?_⟩ | refine ⟨_, wrapU (by omega) (by omega), ?_⟩ | refine ⟨rfl, rfl, ?_⟩ | refine ⟨_, _, _, _, _, gi (by repeat first | exact .hd | apply In.tl), ?_⟩ | refine ⟨_, _, _, _, gi (by repeat first | exact .hd | apply In.tl), ⟨rfl, by exact leb rfl, by exact rfl⟩, ?_⟩ | refine ⟨_, gi (by repeat first | exact .hd | apply In.tl), ?_⟩ | refine ⟨⟨rfl, leb rfl⟩, ?_⟩ | refine ⟨⟨by decide, by decide⟩, ?_⟩ | refine ⟨rfl, ?_⟩ | refine ⟨leb rfl, ?_⟩ | refine ⟨by decide, ?_⟩ | refine .inr ⟨⟨leb rfl, leb rfl, rfl, rfl⟩, ?_⟩ | (intro l hl) | fail)
  refine ⟨_, rfl, ?_⟩
  refine ⟨h1, _, shrU hf.1 h1 h2, ?_⟩
  repeat' ((conv => whnf); first | refine ⟨rfl, fun hc => ?_, fun hc => ?_⟩ | refine ⟨fun hc => ?_, fun hc => ?_⟩ | refine ⟨rfl, _, wrap64 (by omega) (by omega), ?_⟩ | refine ⟨_, wrap64 (by omega) (by omega), ?_⟩ | refine ⟨_, wrapU (by omega) (by omega), ?_⟩ | refine ⟨rfl, rfl, ?_⟩ | refine ⟨_, _, _, _, _, gi (by repeat first | exact .hd | apply In.tl), ?_⟩ | refine ⟨_, _, _, _, gi (by repeat first | exact .hd | apply In.tl), ⟨rfl, by exact leb rfl, by exact rfl⟩, ?_⟩ | refine ⟨_, gi (by repeat first | exact .hd | apply In.tl), ?_⟩ | refine ⟨⟨rfl, leb rfl⟩, ?_⟩ | refine ⟨⟨by decide, by decide⟩, ?_⟩ | refine ⟨rfl, ?_⟩ | refine ⟨leb rfl, ?_⟩ | refine ⟨by decide, ?_⟩ | refine .inr ⟨⟨leb rfl, leb rfl, rfl, rfl⟩, ?_⟩ | (intro l hl) | fail)
  · exact hK _ _ (by simp only [high]; exact (decide_eq_true hc).symm)
  · exact hK _ _ (by simp only [high]; exact (decide_eq_false hc).symm)
end Go.Proofs.Ytlgbbabijifflaa.runs
