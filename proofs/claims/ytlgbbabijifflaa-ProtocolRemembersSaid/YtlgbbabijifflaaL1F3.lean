/- A run of the protocol. -/
import Derived.Test.YtlgbbabijifflaaL1F2
import Derived.Test.YtlgbbabijifflaaA27
set_option linter.unusedVariables false
set_option linter.unusedSimpArgs false
namespace Go.Proofs.Ytlgbbabijifflaa.law1
open Go Go.Ai Go.Proofs.Ytlgbbabijifflaa.L1R
def toRule : List AV → Option Rule
  | [.int .i64 a, .int .i64 h, .int .i64 m] => some ⟨a, h, m⟩
  | _ => none
def toRules : List (List AV) → Option (List Rule)
  | [] => some []
  | e :: es => (toRule e).bind fun r => (toRules es).map fun rs => r :: rs
theorem toRules_map : ∀ (rs : List Rule), toRules (rs.map ruleC) = some rs
  | [] => rfl
  | r :: rs => by simp [toRules, toRule, ruleC, toRules_map rs]
def g92 (args : List AV) : Option (List AV) := match args with
  | [.agg [.int .i64 _, .list es], .int .i64 a, .int .i64 h] => (toRules es).bind fun rs => if rs.length ≤ 100 then some [.int .i64 (sendsS a h rs)] else none
  | _ => none
theorem t92 {e0 a h : Int} {rs : List Rule} (hl : rs.length ≤ 100) : g92 [.agg (eC e0 rs), .int .i64 a, .int .i64 h] = some [.int .i64 (sendsS a h rs)] := by
  simp only [g92, eC, toRules_map, Option.bind_some, if_pos hl]
theorem tcl2 (x y : Int) : cloneF 1 [.list [[.int .i64 x], [.int .i64 y]]] = some [.list [[.int .i64 x], [.int .i64 y]]] := rfl
theorem tclone {es : List (List AV)} {k : Nat} (h : cloneOk k es = true) (hf : (es.all fun e => e.all flat1) = true) : cloneF k [.list es] = some [.list es] := by
  simp only [cloneF, h, hf, Bool.and_self, if_true]
def T2 : Tab := [(44, ⟨.iso, g44⟩), (46, ⟨.iso, g46⟩), (51, ⟨.fresh, cloneF 1⟩), (92, ⟨.iso, g92⟩)]
theorem h92 {e0 a h : Int} {rs : List Rule} (hl : rs.length ≤ 100) : (hands T2).iso 92 [.agg (eC e0 rs), .int .i64 a, .int .i64 h] = some [.int .i64 (sendsS a h rs)] := t92 (e0 := e0) hl
theorem h44 {h m : Int} (hh : I64 h) : (hands T2).iso 44 [.int .i64 h, .int .i64 m] = some [.int .i64 (afterS h m)] := t44 hh
theorem h46 (a b : Int) : (hands T2).iso 46 [.int .i64 a, .int .i64 b] = some [.int .i64 (startS a b)] := rfl
theorem hcl2 (x y : Int) : (hands T2).iso 51 [.list [[.int .i64 x], [.int .i64 y]]] = some [.list [[.int .i64 x], [.int .i64 y]]] := rfl
/-! ### What a run is -/
def stepS (rs : List Rule) (mask : Int) (s : Int × Int) : Int × Int :=
  (afterS s.1 (if mask / 2 % 2 = 1 then 0 else sendsS 1 s.2 rs), afterS s.2 (if mask % 2 = 1 then 0 else sendsS 0 s.1 rs))
def whoS (rs : List Rule) (s : Int × Int) : Int := (if sendsS 0 s.1 rs > 0 then 1 else 0) + (if sendsS 1 s.2 rs > 0 then 2 else 0)
def stS (rs : List Rule) (bit : Int) (lost : List Int) : Nat → Int × Int
  | 0 => (startS 0 bit, startS 1 bit)
  | k + 1 => stepS rs (lost.getD k 0) (stS rs bit lost k)
def stC (s : Int × Int) : AV := .list [[.int .i64 s.1], [.int .i64 s.2]]
theorem after_bound (h m : Int) : -1 ≤ afterS h m ∧ afterS h m < 40000 := by
  have hb := @time_bound 0 h
  simp only [afterS]
  omega
theorem st_bound (rs : List Rule) {bit : Int} (hb : bit = 0 ∨ bit = 1) (lost : List Int) : ∀ k, (-1 ≤ (stS rs bit lost k).1 ∧ (stS rs bit lost k).1 < 40000) ∧ (-1 ≤ (stS rs bit lost k).2 ∧ (stS rs bit lost k).2 < 40000)
  | 0 => by simp only [stS, startS]; omega
  | k + 1 => ⟨after_bound _ _, after_bound _ _⟩
theorem shr0 {x : Int} (h : 0 ≤ x) : shrI x (min (0 : Int).toNat IntKind.i64.bits) = x := by
  rw [shr_eq h]; simp
theorem shr1 {x : Int} (h : 0 ≤ x) : shrI x (min (1 : Int).toNat IntKind.i64.bits) = x / 2 := by
  rw [shr_eq h]; simp [IntKind.bits]
theorem wrapU {n : Int} (h1 : 0 ≤ n) (h2 : n ≤ 1) : wrapI .u64 n = n := by
  simp only [wrapI, topN, modN]
  omega

theorem lost_len (lost : List Int) : lenIs 1 (lost.map fun m => [AV.int .i64 m]) = true := by cases lost <;> rfl
def lostC (lost : List Int) : List (List AV) := lost.map fun m => [.int .i64 m]
def locC (rs : List Rule) (bit : Int) (lost : List Int) (k : Nat) : List AV := (List.range (k + 1)).map fun i => stC (stS rs bit lost i)
def whoC (rs : List Rule) (bit : Int) (lost : List Int) (k : Nat) : List AV := (List.range k).map fun i => .int .i64 (whoS rs (stS rs bit lost i))
def factC (bit : Int) (k : Nat) : List AV := List.replicate (k + 1) (.int .u64 bit)
def who0 (rs : List Rule) (s : Int × Int) : Int := if sendsS 0 s.1 rs > 0 then 1 else 0
def msg0 (rs : List Rule) (mask : Int) (s : Int × Int) : Int := if mask % 2 = 1 then 0 else sendsS 0 s.1 rs
def msg1 (rs : List Rule) (mask : Int) (s : Int × Int) : Int := if mask / 2 % 2 = 1 then 0 else sendsS 1 s.2 rs
/-- What the round over the two agents has done so far. -/
def nextC (rs : List Rule) (mask : Int) (s : Int × Int) : Nat → List AV
  | 0 => [.int .i64 s.1, .int .i64 s.2]
  | 1 => [.int .i64 s.1, .int .i64 (afterS s.2 (msg0 rs mask s))]
  | _ => [.int .i64 (afterS s.1 (msg1 rs mask s)), .int .i64 (afterS s.2 (msg0 rs mask s))]
def whoI (rs : List Rule) (s : Int × Int) : Nat → Int
  | 0 => 0
  | 1 => who0 rs s
  | _ => whoS rs s

theorem or1 : arith.bits .or .i64 0 1 = 1 := by decide
theorem or2 {x : Int} (h : x = 0 ∨ x = 1) : arith.bits .or .i64 x 2 = x + 2 := by
  rcases h with rfl | rfl <;> decide
theorem who01 (rs : List Rule) (s : Int × Int) : who0 rs s = 0 ∨ who0 rs s = 1 := by
  unfold who0; split <;> simp
theorem loc_succ (rs : List Rule) (bit : Int) (lost : List Int) (k : Nat) : locC rs bit lost (k + 1) = locC rs bit lost k ++ [stC (stS rs bit lost (k + 1))] := by
  simp [locC, List.range_succ]
theorem who_succ (rs : List Rule) (bit : Int) (lost : List Int) (k : Nat) : whoC rs bit lost (k + 1) = whoC rs bit lost k ++ [.int .i64 (whoS rs (stS rs bit lost k))] := by
  simp [whoC, List.range_succ]
theorem fact_succ (bit : Int) (k : Nat) : factC bit (k + 1) = factC bit k ++ [.int .u64 bit] := by
  simp only [factC, List.replicate_succ']
theorem st_succ {rs : List Rule} {bit : Int} {lost : List Int} {k : Nat} (h : k < lost.length) : stS rs bit lost (k + 1) = (afterS (stS rs bit lost k).1 (msg1 rs lost[k] (stS rs bit lost k)), afterS (stS rs bit lost k).2 (msg0 rs lost[k] (stS rs bit lost k))) := by
  simp [stS, stepS, msg0, msg1, h]
theorem loc_len (rs : List Rule) (bit : Int) (lost : List Int) (k : Nat) : (locC rs bit lost k).length = k + 1 := by simp [locC]
theorem who_len (rs : List Rule) (bit : Int) (lost : List Int) (k : Nat) : (whoC rs bit lost k).length = k := by simp [whoC]
theorem fact_len (bit : Int) (k : Nat) : (factC bit k).length = k + 1 := by simp [factC]
def runR (rs : List Rule) (bit : Int) (lost : List Int) (k : Nat) : List AV := [.agg [.list ((locC rs bit lost k).map fun x => [x]), .list ((factC bit k).map fun x => [x])], .list ((whoC rs bit lost k).map fun x => [x])]
theorem cut_all {cs : List AV} {m : Nat} (h : cs.length = m) : cut cs 0 (m * 1) = some cs := by
  unfold cut
  rw [if_pos (by omega)]
  simp [← h]
theorem chunk_all1 {cs : List AV} {m : Nat} (h : cs.length = m) : chunk 1 m cs = cs.map fun x => [x] := by rw [← h, chunk1]
theorem loc_self (rs : List Rule) (bit : Int) (lost : List Int) (k : Nat) : (locC rs bit lost k).all selfV = true := by
  simp [locC, stC, selfV]
theorem who_self (rs : List Rule) (bit : Int) (lost : List Int) (k : Nat) : (whoC rs bit lost k).all selfV = true := by
  simp [whoC, selfV]
theorem fact_self (bit : Int) (k : Nat) : (factC bit k).all selfV = true := by
  simp [factC, selfV]
def SV (rs : List Rule) (bit : Int) (lost : List Int) (lc : Nat) : Nat → AV
  | 0 => .nilsl
  | j + 1 => .ref lc 0 (j + 1) (j + 1) 1
def SA (rs : List Rule) (bit : Int) (lost : List Int) (lc : Nat) : Nat → Ah
  | 0 => []
  | j + 1 => [(lc, some (.cells (whoC rs bit lost (j + 1)) 1 (j + 1) true false))]
set_option maxRecDepth 100000 in
set_option maxHeartbeats 1000000 in
theorem run50 {n : Nat} {e0 bit : Int} {rs : List Rule} {lost : List Int} (hb : bit = 0 ∨ bit = 1) (hrs : rs.length ≤ 100) (hl : lost.length ≤ 100) (hm : ∀ m ∈ lost, 0 ≤ m ∧ m ≤ 3) {K : List AV → Ah → Prop} (hK : ∀ rs' A, Fin .iso A rs' (runR rs bit lost lost.length) → K rs' A) :
    aB (hands T2) (n + 104) ir50 (.agg (eC e0 rs) :: .int .i64 bit :: .list (lostC lost) :: .undef :: .undef :: .undef :: .undef :: .undef :: .undef :: .undef :: .undef :: .undef :: .undef :: .undef :: .undef :: .undef :: .undef :: .undef :: .undef :: .undef :: .undef :: .undef :: .undef :: .undef :: .undef :: .undef :: .undef :: .undef :: .undef :: .undef :: .undef :: .undef :: .undef :: .undef :: .undef :: .undef :: .undef :: .undef :: .undef :: .undef :: .undef :: .undef :: .undef :: .undef :: .undef :: .undef :: .undef :: .undef :: .undef :: .undef :: .undef :: .undef :: .undef :: .undef :: .undef :: .undef :: .undef :: .undef :: .undef :: .undef :: .undef :: .undef :: .undef :: .undef :: .undef :: .undef :: .undef :: .undef :: .undef :: .undef :: .undef :: .undef :: .undef :: .undef :: .undef :: .undef :: .undef :: .undef :: .undef :: .undef :: .undef :: .undef :: .undef :: .undef :: .undef :: .undef :: .undef :: .undef :: .undef :: .undef :: .undef :: .undef :: []) [] K := by
  refine ⟨rfl, ?_⟩
  intro l3 hl3 l6 hl6
  repeat' ((conv => whnf); first | refine ⟨rfl, fun hc => ?_, fun hc => ?_⟩ | refine ⟨fun hc => ?_, fun hc => ?_⟩ | refine ⟨rfl, _, wrap64 (by omega) (by omega), ?_⟩ | refine ⟨_, wrap64 (by omega) (by omega), ?_⟩ | refine ⟨_, wrapU (by omega) (by omega), ?_⟩ | refine ⟨rfl, rfl, ?_⟩ | refine ⟨_, _, _, _, _, gi (by repeat first | exact .hd | apply In.tl), ?_⟩ | refine ⟨_, _, _, _, gi (by repeat first | exact .hd | apply In.tl), ⟨rfl, by exact leb rfl, by exact rfl⟩, ?_⟩ | refine ⟨_, gi (by repeat first | exact .hd | apply In.tl), ?_⟩ | refine ⟨⟨rfl, leb rfl⟩, ?_⟩ | refine ⟨⟨by decide, by decide⟩, ?_⟩ | refine ⟨rfl, ?_⟩ | refine ⟨leb rfl, ?_⟩ | refine ⟨by decide, ?_⟩ | refine .inr ⟨⟨leb rfl, leb rfl, rfl, rfl⟩, ?_⟩ | refine ⟨_, _, _, true, fun _ H hR => ⟨H, rfl, hR⟩, h46 _ _, rfl, ?_⟩ | refine ⟨_, _, _, false, fun _ H hR => ⟨H, rfl, hR⟩, h46 _ _, rfl, ?_⟩ | fail)
  intro l8 hl8
  repeat' ((conv => whnf); first | refine ⟨rfl, fun hc => ?_, fun hc => ?_⟩ | refine ⟨fun hc => ?_, fun hc => ?_⟩ | refine ⟨rfl, _, wrap64 (by omega) (by omega), ?_⟩ | refine ⟨_, wrap64 (by omega) (by omega), ?_⟩ | refine ⟨_, wrapU (by omega) (by omega), ?_⟩ | refine ⟨rfl, rfl, ?_⟩ | refine ⟨_, _, _, _, _, gi (by repeat first | exact .hd | apply In.tl), ?_⟩ | refine ⟨_, _, _, _, gi (by repeat first | exact .hd | apply In.tl), ⟨rfl, by exact leb rfl, by exact rfl⟩, ?_⟩ | refine ⟨_, gi (by repeat first | exact .hd | apply In.tl), ?_⟩ | refine ⟨⟨rfl, leb rfl⟩, ?_⟩ | refine ⟨⟨by decide, by decide⟩, ?_⟩ | refine ⟨rfl, ?_⟩ | refine ⟨leb rfl, ?_⟩ | refine ⟨by decide, ?_⟩ | refine .inr ⟨⟨leb rfl, leb rfl, rfl, rfl⟩, ?_⟩ | refine ⟨_, _, _, true, fun _ H hR => ⟨H, rfl, hR⟩, h46 _ _, rfl, ?_⟩ | refine ⟨_, _, _, false, fun _ H hR => ⟨H, rfl, hR⟩, h46 _ _, rfl, ?_⟩ | fail)
  intro la hla
  repeat' ((conv => whnf); first | refine ⟨rfl, fun hc => ?_, fun hc => ?_⟩ | refine ⟨fun hc => ?_, fun hc => ?_⟩ | refine ⟨rfl, _, wrap64 (by omega) (by omega), ?_⟩ | refine ⟨_, wrap64 (by omega) (by omega), ?_⟩ | refine ⟨_, wrapU (by omega) (by omega), ?_⟩ | refine ⟨rfl, rfl, ?_⟩ | refine ⟨_, _, _, _, _, gi (by repeat first | exact .hd | apply In.tl), ?_⟩ | refine ⟨_, _, _, _, gi (by repeat first | exact .hd | apply In.tl), ⟨rfl, by exact leb rfl, by exact rfl⟩, ?_⟩ | refine ⟨_, gi (by repeat first | exact .hd | apply In.tl), ?_⟩ | refine ⟨⟨rfl, leb rfl⟩, ?_⟩ | refine ⟨⟨by decide, by decide⟩, ?_⟩ | refine ⟨rfl, ?_⟩ | refine ⟨leb rfl, ?_⟩ | refine ⟨by decide, ?_⟩ | refine .inr ⟨⟨leb rfl, leb rfl, rfl, rfl⟩, ?_⟩ | refine ⟨_, _, _, true, fun _ H hR => ⟨H, rfl, hR⟩, h46 _ _, rfl, ?_⟩ | refine ⟨_, _, _, false, fun _ H hR => ⟨H, rfl, hR⟩, h46 _ _, rfl, ?_⟩ | fail)
  intro lb hlb
  repeat' ((conv => whnf); first | refine ⟨rfl, fun hc => ?_, fun hc => ?_⟩ | refine ⟨fun hc => ?_, fun hc => ?_⟩ | refine ⟨rfl, _, wrap64 (by omega) (by omega), ?_⟩ | refine ⟨_, wrap64 (by omega) (by omega), ?_⟩ | refine ⟨_, wrapU (by omega) (by omega), ?_⟩ | refine ⟨rfl, rfl, ?_⟩ | refine ⟨_, _, _, _, _, gi (by repeat first | exact .hd | apply In.tl), ?_⟩ | refine ⟨_, _, _, _, gi (by repeat first | exact .hd | apply In.tl), ⟨rfl, by exact leb rfl, by exact rfl⟩, ?_⟩ | refine ⟨_, gi (by repeat first | exact .hd | apply In.tl), ?_⟩ | refine ⟨⟨rfl, leb rfl⟩, ?_⟩ | refine ⟨⟨by decide, by decide⟩, ?_⟩ | refine ⟨rfl, ?_⟩ | refine ⟨leb rfl, ?_⟩ | refine ⟨by decide, ?_⟩ | refine .inr ⟨⟨leb rfl, leb rfl, rfl, rfl⟩, ?_⟩ | refine ⟨_, _, _, true, fun _ H hR => ⟨H, rfl, hR⟩, h46 _ _, rfl, ?_⟩ | refine ⟨_, _, _, false, fun _ H hR => ⟨H, rfl, hR⟩, h46 _ _, rfl, ?_⟩ | fail)
  intro l9 hl9
  repeat' ((conv => whnf); first | refine ⟨rfl, fun hc => ?_, fun hc => ?_⟩ | refine ⟨fun hc => ?_, fun hc => ?_⟩ | refine ⟨rfl, _, wrap64 (by omega) (by omega), ?_⟩ | refine ⟨_, wrap64 (by omega) (by omega), ?_⟩ | refine ⟨_, wrapU (by omega) (by omega), ?_⟩ | refine ⟨rfl, rfl, ?_⟩ | refine ⟨_, _, _, _, _, gi (by repeat first | exact .hd | apply In.tl), ?_⟩ | refine ⟨_, _, _, _, gi (by repeat first | exact .hd | apply In.tl), ⟨rfl, by exact leb rfl, by exact rfl⟩, ?_⟩ | refine ⟨_, gi (by repeat first | exact .hd | apply In.tl), ?_⟩ | refine ⟨⟨rfl, leb rfl⟩, ?_⟩ | refine ⟨⟨by decide, by decide⟩, ?_⟩ | refine ⟨rfl, ?_⟩ | refine ⟨leb rfl, ?_⟩ | refine ⟨by decide, ?_⟩ | refine .inr ⟨⟨leb rfl, leb rfl, rfl, rfl⟩, ?_⟩ | refine ⟨_, _, _, true, fun _ H hR => ⟨H, rfl, hR⟩, h46 _ _, rfl, ?_⟩ | refine ⟨_, _, _, false, fun _ H hR => ⟨H, rfl, hR⟩, h46 _ _, rfl, ?_⟩ | fail)
  intro b hb'
  have h9 : l9 < b := hb' (l9, _) (List.mem_of_getElem? (i := 5) rfl)
  repeat' ((conv => whnf); first | refine ⟨rfl, fun hc => ?_, fun hc => ?_⟩ | refine ⟨fun hc => ?_, fun hc => ?_⟩ | refine ⟨rfl, _, wrap64 (by omega) (by omega), ?_⟩ | refine ⟨_, wrap64 (by omega) (by omega), ?_⟩ | refine ⟨_, wrapU (by omega) (by omega), ?_⟩ | refine ⟨rfl, rfl, ?_⟩ | refine ⟨_, _, _, _, _, gi (by repeat first | exact .hd | apply In.tl), ?_⟩ | refine ⟨_, _, _, _, gi (by repeat first | exact .hd | apply In.tl), ⟨rfl, by exact leb rfl, by exact rfl⟩, ?_⟩ | refine ⟨_, gi (by repeat first | exact .hd | apply In.tl), ?_⟩ | refine ⟨⟨rfl, leb rfl⟩, ?_⟩ | refine ⟨⟨by decide, by decide⟩, ?_⟩ | refine ⟨rfl, ?_⟩ | refine ⟨leb rfl, ?_⟩ | refine ⟨by decide, ?_⟩ | refine .inr ⟨⟨leb rfl, leb rfl, rfl, rfl⟩, ?_⟩ | refine ⟨_, _, _, true, fun _ H hR => ⟨H, rfl, hR⟩, h46 _ _, rfl, ?_⟩ | refine ⟨_, _, _, false, fun _ H hR => ⟨H, rfl, hR⟩, h46 _ _, rfl, ?_⟩ | fail)
  refine ⟨_, fun H hR => acc_load rfl, ?_⟩
  repeat' ((conv => whnf); first | refine ⟨rfl, fun hc => ?_, fun hc => ?_⟩ | refine ⟨fun hc => ?_, fun hc => ?_⟩ | refine ⟨rfl, _, wrap64 (by omega) (by omega), ?_⟩ | refine ⟨_, wrap64 (by omega) (by omega), ?_⟩ | refine ⟨_, wrapU (by omega) (by omega), ?_⟩ | refine ⟨rfl, rfl, ?_⟩ | refine ⟨_, _, _, _, _, gi (by repeat first | exact .hd | apply In.tl), ?_⟩ | refine ⟨_, _, _, _, gi (by repeat first | exact .hd | apply In.tl), ⟨rfl, by exact leb rfl, by exact rfl⟩, ?_⟩ | refine ⟨_, gi (by repeat first | exact .hd | apply In.tl), ?_⟩ | refine ⟨⟨rfl, leb rfl⟩, ?_⟩ | refine ⟨⟨by decide, by decide⟩, ?_⟩ | refine ⟨rfl, ?_⟩ | refine ⟨leb rfl, ?_⟩ | refine ⟨by decide, ?_⟩ | refine .inr ⟨⟨leb rfl, leb rfl, rfl, rfl⟩, ?_⟩ | refine ⟨_, _, _, true, fun _ H hR => ⟨H, rfl, hR⟩, h46 _ _, rfl, ?_⟩ | refine ⟨_, _, _, false, fun _ H hR => ⟨H, rfl, hR⟩, h46 _ _, rfl, ?_⟩ | fail)
  refine ⟨_, fun H hR => acc_call (by decide) rfl (flat_one (reach_ref hR (i := 2) (d := 11) rfl rfl)), ?_⟩
  refine ⟨_, _, _, FrzL.frz (.cons (Frz1.row (i := 2) (d := 10) (es := [[.int .i64 (startS 0 bit)], [.int .i64 (startS 1 bit)]]) rfl rfl rfl rfl) .nil), hcl2 _ _, ?_⟩
  refine ⟨⟨by decide, by decide⟩, rfl, ?_⟩
  repeat' ((conv => whnf); first | refine ⟨rfl, fun hc => ?_, fun hc => ?_⟩ | refine ⟨fun hc => ?_, fun hc => ?_⟩ | refine ⟨rfl, _, wrap64 (by omega) (by omega), ?_⟩ | refine ⟨_, wrap64 (by omega) (by omega), ?_⟩ | refine ⟨_, wrapU (by omega) (by omega), ?_⟩ | refine ⟨rfl, rfl, ?_⟩ | refine ⟨_, _, _, _, _, gi (by repeat first | exact .hd | apply In.tl), ?_⟩ | refine ⟨_, _, _, _, gi (by repeat first | exact .hd | apply In.tl), ⟨rfl, by exact leb rfl, by exact rfl⟩, ?_⟩ | refine ⟨_, gi (by repeat first | exact .hd | apply In.tl), ?_⟩ | refine ⟨⟨rfl, leb rfl⟩, ?_⟩ | refine ⟨⟨by decide, by decide⟩, ?_⟩ | refine ⟨rfl, ?_⟩ | refine ⟨leb rfl, ?_⟩ | refine ⟨by decide, ?_⟩ | refine .inr ⟨⟨leb rfl, leb rfl, rfl, rfl⟩, ?_⟩ | refine ⟨_, _, _, true, fun _ H hR => ⟨H, rfl, hR⟩, h46 _ _, rfl, ?_⟩ | refine ⟨_, _, _, false, fun _ H hR => ⟨H, rfl, hR⟩, h46 _ _, rfl, ?_⟩ | fail)
  refine ⟨Bool.and_eq_true_iff.2 ⟨free_of rfl rfl (fun l h => nomatch h) (fun l h => ?_), rfl⟩, ?_⟩
  · simp at h ⊢; omega
  refine aLoop_by (fun m env A => ∃ (k lc : Nat), A = [(l3, some (.cells (eC e0 rs) 0 0 false false)), (l6, some (.cells [.nilsl, .nilsl] 0 0 false false)), (l8, some (.cells [.int .i64 (stS rs bit lost k).1, .int .i64 (stS rs bit lost k).2] 0 0 false false)), (la, some (.cells (locC rs bit lost k) 1 k true false)), (lb, some (.cells (factC bit k) 1 k true false)), (l9, some (.cells [.ref la 0 (k + 1) k 1, .ref lb 0 (k + 1) k 1] 0 0 false false))] ++ SA rs bit lost lc k ∧ IEnv (fun g => (g 0 :: .int .i64 bit :: g 2 :: .ptr l3 0 0 :: g 4 :: g 5 :: .ptr l6 0 0 :: g 7 :: .ptr l8 0 0 :: .ptr l9 0 0 :: SV rs bit lost lc k :: g 11 :: g 12 :: g 13 :: g 14 :: g 15 :: g 16 :: g 17 :: g 18 :: g 19 :: g 20 :: g 21 :: g 22 :: g 23 :: g 24 :: g 25 :: g 26 :: g 27 :: g 28 :: g 29 :: g 30 :: g 31 :: g 32 :: .list (lostC lost) :: .int .i64 (lostC lost).length :: .int .i64 (k : Int) :: g 36 :: g 37 :: g 38 :: g 39 :: g 40 :: g 41 :: g 42 :: g 43 :: g 44 :: g 45 :: g 46 :: g 47 :: g 48 :: g 49 :: g 50 :: g 51 :: g 52 :: g 53 :: g 54 :: g 55 :: g 56 :: g 57 :: g 58 :: g 59 :: g 60 :: g 61 :: g 62 :: g 63 :: g 64 :: g 65 :: g 66 :: g 67 :: g 68 :: g 69 :: g 70 :: g 71 :: g 72 :: g 73 :: g 74 :: g 75 :: g 76 :: g 77 :: g 78 :: g 79 :: g 80 :: g 81 :: g 82 :: g 83 :: g 84 :: g 85 :: g 86 :: g 87 :: g 88 :: g 89 :: g 90 :: g 91 :: [])) env ∧ k ≤ lost.length ∧ m = lost.length - k) (m := lost.length) (A0 := [(l3, some (.cells (eC e0 rs) 0 0 false false)), (l6, some (.cells [.nilsl, .nilsl] 0 0 false false)), (l8, some (.cells [.int .i64 (stS rs bit lost 0).1, .int .i64 (stS rs bit lost 0).2] 0 0 false false)), (la, some (.cells (locC rs bit lost 0) 1 0 true false)), (lb, some (.cells (factC bit 0) 1 0 true false)), (l9, some (.cells [.ref la 0 (0 + 1) 0 1, .ref lb 0 (0 + 1) 0 1] 0 0 false false))] ++ SA rs bit lost 0 0) (Sub.take 6) ⟨0, 0, rfl, .mk rfl, by omega, by omega⟩ (by omega) ?_
  rintro m env A ⟨k, lc, rfl, ⟨g, rfl⟩, hk, hm'⟩
  refine ⟨rfl, fun h4 => ?_, fun h4 => ?_⟩
  · simp only [lostC, List.length_map] at h4
    cases k with
    | zero =>
      have hk' : 0 < lost.length := by omega
      obtain ⟨m1, m2⟩ := hm lost[0] (List.getElem_mem hk')
      obtain ⟨⟨s1, s2⟩, s3, s4⟩ := st_bound rs hb lost 0
      refine ⟨⟨by omega, by simp [lostC]; omega⟩, lost_len lost, [.int .i64 lost[0]], by simp [lostC, hk'], ?_⟩
      repeat' ((conv => whnf); first | refine ⟨rfl, fun hc => ?_, fun hc => ?_⟩ | refine ⟨fun hc => ?_, fun hc => ?_⟩ | refine ⟨rfl, _, wrap64 (by omega) (by omega), ?_⟩ | refine ⟨_, wrap64 (by omega) (by omega), ?_⟩ | refine ⟨_, wrapU (by omega) (by omega), ?_⟩ | refine ⟨rfl, rfl, ?_⟩ | refine ⟨_, _, _, _, _, gi (by repeat first | exact .hd | apply In.tl), ?_⟩ | refine ⟨_, _, _, _, gi (by repeat first | exact .hd | apply In.tl), ⟨rfl, by exact leb rfl, by exact rfl⟩, ?_⟩ | refine ⟨_, gi (by repeat first | exact .hd | apply In.tl), ?_⟩ | refine ⟨⟨rfl, leb rfl⟩, ?_⟩ | refine ⟨⟨by decide, by decide⟩, ?_⟩ | refine ⟨rfl, ?_⟩ | refine ⟨leb rfl, ?_⟩ | refine ⟨by decide, ?_⟩ | refine .inr ⟨⟨leb rfl, leb rfl, rfl, rfl⟩, ?_⟩ | fail)
      intro l13 hl13
      repeat' ((conv => whnf); first | refine ⟨rfl, fun hc => ?_, fun hc => ?_⟩ | refine ⟨fun hc => ?_, fun hc => ?_⟩ | refine ⟨rfl, _, wrap64 (by omega) (by omega), ?_⟩ | refine ⟨_, wrap64 (by omega) (by omega), ?_⟩ | refine ⟨_, wrapU (by omega) (by omega), ?_⟩ | refine ⟨rfl, rfl, ?_⟩ | refine ⟨_, _, _, _, _, gi (by repeat first | exact .hd | apply In.tl), ?_⟩ | refine ⟨_, _, _, _, gi (by repeat first | exact .hd | apply In.tl), ⟨rfl, by exact leb rfl, by exact rfl⟩, ?_⟩ | refine ⟨_, gi (by repeat first | exact .hd | apply In.tl), ?_⟩ | refine ⟨⟨rfl, leb rfl⟩, ?_⟩ | refine ⟨⟨by decide, by decide⟩, ?_⟩ | refine ⟨rfl, ?_⟩ | refine ⟨leb rfl, ?_⟩ | refine ⟨by decide, ?_⟩ | refine .inr ⟨⟨leb rfl, leb rfl, rfl, rfl⟩, ?_⟩ | fail)
      refine aLoop_by (fun m env A => ∃ a : Nat, a ≤ 2 ∧ m = 2 - a ∧ A = [(l3, some (.cells (eC e0 rs) 0 0 false false)), (l6, some (.cells [.nilsl, .nilsl] 0 0 false false)), (l8, some (.cells [.int .i64 (stS rs bit lost 0).1, .int .i64 (stS rs bit lost 0).2] 0 0 false false)), (la, some (.cells (locC rs bit lost 0) 1 0 true false)), (lb, some (.cells (factC bit 0) 1 0 true false)), (l9, some (.cells [.ref la 0 (0 + 1) 0 1, .ref lb 0 (0 + 1) 0 1] 0 0 false false)), (l13, some (.cells (nextC rs lost[0] (stS rs bit lost 0) a) 0 0 false false))] ∧ IEnv (fun g => (g 0 :: .int .i64 bit :: g 2 :: .ptr l3 0 0 :: g 4 :: g 5 :: .ptr l6 0 0 :: g 7 :: .ptr l8 0 0 :: .ptr l9 0 0 :: .nilsl :: g 11 :: .int .i64 lost[0] :: .ptr l13 0 0 :: .int .i64 (whoI rs (stS rs bit lost 0) a) :: g 15 :: g 16 :: g 17 :: g 18 :: g 19 :: g 20 :: g 21 :: g 22 :: g 23 :: g 24 :: g 25 :: g 26 :: g 27 :: g 28 :: g 29 :: g 30 :: g 31 :: g 32 :: .list (lostC lost) :: .int .i64 (lostC lost).length :: .int .i64 (0 : Nat) :: g 36 :: g 37 :: g 38 :: g 39 :: .int .i64 (a : Nat) :: g 41 :: g 42 :: g 43 :: g 44 :: g 45 :: g 46 :: g 47 :: g 48 :: g 49 :: g 50 :: g 51 :: g 52 :: g 53 :: g 54 :: g 55 :: g 56 :: g 57 :: g 58 :: g 59 :: g 60 :: g 61 :: g 62 :: g 63 :: g 64 :: g 65 :: g 66 :: g 67 :: g 68 :: g 69 :: g 70 :: g 71 :: g 72 :: g 73 :: g 74 :: g 75 :: g 76 :: g 77 :: g 78 :: g 79 :: g 80 :: g 81 :: g 82 :: g 83 :: g 84 :: g 85 :: g 86 :: g 87 :: g 88 :: g 89 :: g 90 :: g 91 :: [])) env) (m := 2) (Sub.take 7) ⟨0, by omega, rfl, rfl, .mk rfl⟩ (by omega) ?_
      rintro m env A ⟨a, ha, rfl, rfl, ⟨g, rfl⟩⟩
      have ha' : a = 0 ∨ a = 1 ∨ a = 2 := by omega
      rcases ha' with rfl | rfl | rfl
      · refine ⟨rfl, fun hz => ?_, fun hz => absurd hz (by decide)⟩
        repeat' ((conv => whnf); first | refine ⟨rfl, fun hc => ?_, fun hc => ?_⟩ | refine ⟨fun hc => ?_, fun hc => ?_⟩ | refine ⟨rfl, _, wrap64 (by omega) (by omega), ?_⟩ | refine ⟨_, wrap64 (by omega) (by omega), ?_⟩ | refine ⟨_, wrapU (by omega) (by omega), ?_⟩ | refine ⟨rfl, rfl, ?_⟩ | refine ⟨_, _, _, _, _, gi (by repeat first | exact .hd | apply In.tl), ?_⟩ | refine ⟨_, _, _, _, gi (by repeat first | exact .hd | apply In.tl), ⟨rfl, by exact leb rfl, by exact rfl⟩, ?_⟩ | refine ⟨_, gi (by repeat first | exact .hd | apply In.tl), ?_⟩ | refine ⟨⟨rfl, leb rfl⟩, ?_⟩ | refine ⟨⟨by decide, by decide⟩, ?_⟩ | refine ⟨rfl, ?_⟩ | refine ⟨leb rfl, ?_⟩ | refine ⟨by decide, ?_⟩ | refine .inr ⟨⟨leb rfl, leb rfl, rfl, rfl⟩, ?_⟩ | fail)
        intro b1 hb1
        repeat' ((conv => whnf); first | refine ⟨by decide, lost[0], shr0 m1, ?_⟩ | refine ⟨rfl, _, bits_and1 m1 (by omega), ?_⟩ | refine ⟨by decide, 1, by decide, ?_⟩ | refine ⟨by decide, 2, by decide, ?_⟩ | refine ⟨rfl, 1, or1, ?_⟩ | refine ⟨rfl, fun hc => ?_, fun hc => ?_⟩ | refine ⟨fun hc => ?_, fun hc => ?_⟩ | refine ⟨rfl, _, wrap64 (by omega) (by omega), ?_⟩ | refine ⟨_, wrap64 (by omega) (by omega), ?_⟩ | refine ⟨_, wrapU (by omega) (by omega), ?_⟩ | refine ⟨rfl, rfl, ?_⟩ | refine ⟨_, _, _, _, _, gi (by repeat first | exact .hd | apply In.tl), ?_⟩ | refine ⟨_, _, _, _, gi (by repeat first | exact .hd | apply In.tl), ⟨rfl, by exact leb rfl, by exact rfl⟩, ?_⟩ | refine ⟨_, gi (by repeat first | exact .hd | apply In.tl), ?_⟩ | refine ⟨⟨rfl, leb rfl⟩, ?_⟩ | refine ⟨⟨by decide, by decide⟩, ?_⟩ | refine ⟨rfl, ?_⟩ | refine ⟨leb rfl, ?_⟩ | refine ⟨by decide, ?_⟩ | refine .inr ⟨⟨leb rfl, leb rfl, rfl, rfl⟩, ?_⟩ | refine ⟨_, _, _, true, fun _ H hR => ⟨H, rfl, hR⟩, h92 hrs, rfl, ?_⟩ | refine ⟨_, _, _, false, fun _ H hR => ⟨H, rfl, hR⟩, h92 hrs, rfl, ?_⟩ | refine ⟨_, _, _, true, fun _ H hR => ⟨H, rfl, hR⟩, h44 ⟨by omega, by omega⟩, rfl, ?_⟩ | refine ⟨_, _, _, false, fun _ H hR => ⟨H, rfl, hR⟩, h44 ⟨by omega, by omega⟩, rfl, ?_⟩ | fail)
        · rename_i hs
          have hs' : sendsS 0 (stS rs bit lost 0).1 rs > 0 := by simpa using hs
          have e1 : msg0 rs lost[0] (stS rs bit lost 0) = 0 := if_pos hc
          have e2 : whoI rs (stS rs bit lost 0) 1 = 1 := by simp [whoI, whoS, who0, hs']
          refine ⟨1, _, by omega, Sub.pick [0, 1, 2, 3, 4, 5, 6] rfl, 1, by omega, rfl, ?_, .mk ?_⟩
          · simp only [nextC, e1]; rfl
          · simp only [e2]; rfl
        · rename_i hs
          have hs' : sendsS 0 (stS rs bit lost 0).1 rs > 0 := by simpa using hs
          have e1 : msg0 rs lost[0] (stS rs bit lost 0) = sendsS 0 (stS rs bit lost 0).1 rs := if_neg hc
          have e2 : whoI rs (stS rs bit lost 0) 1 = 1 := by simp [whoI, whoS, who0, hs']
          refine ⟨1, _, by omega, Sub.pick [0, 1, 2, 3, 4, 5, 6] rfl, 1, by omega, rfl, ?_, .mk ?_⟩
          · simp only [nextC, e1]; rfl
          · simp only [e2]; rfl
        · rename_i hs
          have hs' : ¬ sendsS 0 (stS rs bit lost 0).1 rs > 0 := by simpa using hs
          have e1 : msg0 rs lost[0] (stS rs bit lost 0) = 0 := if_pos hc
          have e2 : whoI rs (stS rs bit lost 0) 1 = 0 := by simp [whoI, whoS, who0, hs']
          refine ⟨1, _, by omega, Sub.pick [0, 1, 2, 3, 4, 5, 6] rfl, 1, by omega, rfl, ?_, .mk ?_⟩
          · simp only [nextC, e1]; rfl
          · simp only [e2]; rfl
        · rename_i hs
          have hs' : ¬ sendsS 0 (stS rs bit lost 0).1 rs > 0 := by simpa using hs
          have e1 : msg0 rs lost[0] (stS rs bit lost 0) = sendsS 0 (stS rs bit lost 0).1 rs := if_neg hc
          have e2 : whoI rs (stS rs bit lost 0) 1 = 0 := by simp [whoI, whoS, who0, hs']
          refine ⟨1, _, by omega, Sub.pick [0, 1, 2, 3, 4, 5, 6] rfl, 1, by omega, rfl, ?_, .mk ?_⟩
          · simp only [nextC, e1]; rfl
          · simp only [e2]; rfl
      · refine ⟨rfl, fun hz => ?_, fun hz => absurd hz (by decide)⟩
        repeat' ((conv => whnf); first | refine ⟨rfl, fun hc => ?_, fun hc => ?_⟩ | refine ⟨fun hc => ?_, fun hc => ?_⟩ | refine ⟨rfl, _, wrap64 (by omega) (by omega), ?_⟩ | refine ⟨_, wrap64 (by omega) (by omega), ?_⟩ | refine ⟨_, wrapU (by omega) (by omega), ?_⟩ | refine ⟨rfl, rfl, ?_⟩ | refine ⟨_, _, _, _, _, gi (by repeat first | exact .hd | apply In.tl), ?_⟩ | refine ⟨_, _, _, _, gi (by repeat first | exact .hd | apply In.tl), ⟨rfl, by exact leb rfl, by exact rfl⟩, ?_⟩ | refine ⟨_, gi (by repeat first | exact .hd | apply In.tl), ?_⟩ | refine ⟨⟨rfl, leb rfl⟩, ?_⟩ | refine ⟨⟨by decide, by decide⟩, ?_⟩ | refine ⟨rfl, ?_⟩ | refine ⟨leb rfl, ?_⟩ | refine ⟨by decide, ?_⟩ | refine .inr ⟨⟨leb rfl, leb rfl, rfl, rfl⟩, ?_⟩ | fail)
        intro b1 hb1
        repeat' ((conv => whnf); first | refine ⟨by decide, lost[0] / 2, shr1 m1, ?_⟩ | refine ⟨rfl, _, bits_and1 (by omega) (by omega), ?_⟩ | refine ⟨by decide, 1, by decide, ?_⟩ | refine ⟨by decide, 2, by decide, ?_⟩ | refine ⟨rfl, who0 rs (stS rs bit lost 0) + 2, or2 (who01 _ _), ?_⟩ | refine ⟨rfl, fun hc => ?_, fun hc => ?_⟩ | refine ⟨fun hc => ?_, fun hc => ?_⟩ | refine ⟨rfl, _, wrap64 (by omega) (by omega), ?_⟩ | refine ⟨_, wrap64 (by omega) (by omega), ?_⟩ | refine ⟨_, wrapU (by omega) (by omega), ?_⟩ | refine ⟨rfl, rfl, ?_⟩ | refine ⟨_, _, _, _, _, gi (by repeat first | exact .hd | apply In.tl), ?_⟩ | refine ⟨_, _, _, _, gi (by repeat first | exact .hd | apply In.tl), ⟨rfl, by exact leb rfl, by exact rfl⟩, ?_⟩ | refine ⟨_, gi (by repeat first | exact .hd | apply In.tl), ?_⟩ | refine ⟨⟨rfl, leb rfl⟩, ?_⟩ | refine ⟨⟨by decide, by decide⟩, ?_⟩ | refine ⟨rfl, ?_⟩ | refine ⟨leb rfl, ?_⟩ | refine ⟨by decide, ?_⟩ | refine .inr ⟨⟨leb rfl, leb rfl, rfl, rfl⟩, ?_⟩ | refine ⟨_, _, _, true, fun _ H hR => ⟨H, rfl, hR⟩, h92 hrs, rfl, ?_⟩ | refine ⟨_, _, _, false, fun _ H hR => ⟨H, rfl, hR⟩, h92 hrs, rfl, ?_⟩ | refine ⟨_, _, _, true, fun _ H hR => ⟨H, rfl, hR⟩, h44 ⟨by omega, by omega⟩, rfl, ?_⟩ | refine ⟨_, _, _, false, fun _ H hR => ⟨H, rfl, hR⟩, h44 ⟨by omega, by omega⟩, rfl, ?_⟩ | fail)
        · rename_i hs
          have hs' : sendsS 1 (stS rs bit lost 0).2 rs > 0 := by simpa using hs
          have e1 : msg1 rs lost[0] (stS rs bit lost 0) = 0 := if_pos hc
          have e2 : whoI rs (stS rs bit lost 0) 2 = who0 rs (stS rs bit lost 0) + 2 := by simp [whoI, whoS, who0, hs']
          refine ⟨0, _, by omega, Sub.pick [0, 1, 2, 3, 4, 5, 6] rfl, 2, by omega, rfl, ?_, .mk ?_⟩
          · simp only [nextC, e1]; rfl
          · simp only [e2]; rfl
        · rename_i hs
          have hs' : sendsS 1 (stS rs bit lost 0).2 rs > 0 := by simpa using hs
          have e1 : msg1 rs lost[0] (stS rs bit lost 0) = sendsS 1 (stS rs bit lost 0).2 rs := if_neg hc
          have e2 : whoI rs (stS rs bit lost 0) 2 = who0 rs (stS rs bit lost 0) + 2 := by simp [whoI, whoS, who0, hs']
          refine ⟨0, _, by omega, Sub.pick [0, 1, 2, 3, 4, 5, 6] rfl, 2, by omega, rfl, ?_, .mk ?_⟩
          · simp only [nextC, e1]; rfl
          · simp only [e2]; rfl
        · rename_i hs
          have hs' : ¬ sendsS 1 (stS rs bit lost 0).2 rs > 0 := by simpa using hs
          have e1 : msg1 rs lost[0] (stS rs bit lost 0) = 0 := if_pos hc
          have e2 : whoI rs (stS rs bit lost 0) 2 = who0 rs (stS rs bit lost 0) := by simp [whoI, whoS, who0, hs']
          refine ⟨0, _, by omega, Sub.pick [0, 1, 2, 3, 4, 5, 6] rfl, 2, by omega, rfl, ?_, .mk ?_⟩
          · simp only [nextC, e1]; rfl
          · simp only [e2]; rfl
        · rename_i hs
          have hs' : ¬ sendsS 1 (stS rs bit lost 0).2 rs > 0 := by simpa using hs
          have e1 : msg1 rs lost[0] (stS rs bit lost 0) = sendsS 1 (stS rs bit lost 0).2 rs := if_neg hc
          have e2 : whoI rs (stS rs bit lost 0) 2 = who0 rs (stS rs bit lost 0) := by simp [whoI, whoS, who0, hs']
          refine ⟨0, _, by omega, Sub.pick [0, 1, 2, 3, 4, 5, 6] rfl, 2, by omega, rfl, ?_, .mk ?_⟩
          · simp only [nextC, e1]; rfl
          · simp only [e2]; rfl
      · refine ⟨rfl, fun hz => absurd hz (by decide), fun hz => ?_⟩
        repeat' ((conv => whnf); first | refine ⟨rfl, fun hc => ?_, fun hc => ?_⟩ | refine ⟨fun hc => ?_, fun hc => ?_⟩ | refine ⟨rfl, _, wrap64 (by omega) (by omega), ?_⟩ | refine ⟨_, wrap64 (by omega) (by omega), ?_⟩ | refine ⟨_, wrapU (by omega) (by omega), ?_⟩ | refine ⟨rfl, rfl, ?_⟩ | refine ⟨_, _, _, _, _, gi (by repeat first | exact .hd | apply In.tl), ?_⟩ | refine ⟨_, _, _, _, gi (by repeat first | exact .hd | apply In.tl), ⟨rfl, by exact leb rfl, by exact rfl⟩, ?_⟩ | refine ⟨_, gi (by repeat first | exact .hd | apply In.tl), ?_⟩ | refine ⟨⟨rfl, leb rfl⟩, ?_⟩ | refine ⟨⟨by decide, by decide⟩, ?_⟩ | refine ⟨rfl, ?_⟩ | refine ⟨leb rfl, ?_⟩ | refine ⟨by decide, ?_⟩ | refine .inr ⟨⟨leb rfl, leb rfl, rfl, rfl⟩, ?_⟩ | fail)
        intro lc' hlc'
        repeat' ((conv => whnf); first | refine ⟨rfl, fun hc => ?_, fun hc => ?_⟩ | refine ⟨fun hc => ?_, fun hc => ?_⟩ | refine ⟨rfl, _, wrap64 (by omega) (by omega), ?_⟩ | refine ⟨_, wrap64 (by omega) (by omega), ?_⟩ | refine ⟨_, wrapU (by omega) (by omega), ?_⟩ | refine ⟨rfl, rfl, ?_⟩ | refine ⟨_, _, _, _, _, gi (by repeat first | exact .hd | apply In.tl), ?_⟩ | refine ⟨_, _, _, _, gi (by repeat first | exact .hd | apply In.tl), ⟨rfl, by exact leb rfl, by exact rfl⟩, ?_⟩ | refine ⟨_, gi (by repeat first | exact .hd | apply In.tl), ?_⟩ | refine ⟨⟨rfl, leb rfl⟩, ?_⟩ | refine ⟨⟨by decide, by decide⟩, ?_⟩ | refine ⟨rfl, ?_⟩ | refine ⟨leb rfl, ?_⟩ | refine ⟨by decide, ?_⟩ | refine .inr ⟨⟨leb rfl, leb rfl, rfl, rfl⟩, ?_⟩ | fail)
        intro b1 hb1
        have h9 : l9 < b1 := hb1 (l9, _) (List.mem_of_getElem? (i := 5) rfl)
        repeat' ((conv => whnf); first | refine ⟨rfl, fun hc => ?_, fun hc => ?_⟩ | refine ⟨fun hc => ?_, fun hc => ?_⟩ | refine ⟨rfl, _, wrap64 (by omega) (by omega), ?_⟩ | refine ⟨_, wrap64 (by omega) (by omega), ?_⟩ | refine ⟨_, wrapU (by omega) (by omega), ?_⟩ | refine ⟨rfl, rfl, ?_⟩ | refine ⟨_, _, _, _, _, gi (by repeat first | exact .hd | apply In.tl), ?_⟩ | refine ⟨_, _, _, _, gi (by repeat first | exact .hd | apply In.tl), ⟨rfl, by exact leb rfl, by exact rfl⟩, ?_⟩ | refine ⟨_, gi (by repeat first | exact .hd | apply In.tl), ?_⟩ | refine ⟨⟨rfl, leb rfl⟩, ?_⟩ | refine ⟨⟨by decide, by decide⟩, ?_⟩ | refine ⟨rfl, ?_⟩ | refine ⟨leb rfl, ?_⟩ | refine ⟨by decide, ?_⟩ | refine .inr ⟨⟨leb rfl, leb rfl, rfl, rfl⟩, ?_⟩ | fail)
        refine ⟨_, fun H hR => acc_load rfl, ?_⟩
        repeat' ((conv => whnf); first | refine ⟨rfl, fun hc => ?_, fun hc => ?_⟩ | refine ⟨fun hc => ?_, fun hc => ?_⟩ | refine ⟨rfl, _, wrap64 (by omega) (by omega), ?_⟩ | refine ⟨_, wrap64 (by omega) (by omega), ?_⟩ | refine ⟨_, wrapU (by omega) (by omega), ?_⟩ | refine ⟨rfl, rfl, ?_⟩ | refine ⟨_, _, _, _, _, gi (by repeat first | exact .hd | apply In.tl), ?_⟩ | refine ⟨_, _, _, _, gi (by repeat first | exact .hd | apply In.tl), ⟨rfl, by exact leb rfl, by exact rfl⟩, ?_⟩ | refine ⟨_, gi (by repeat first | exact .hd | apply In.tl), ?_⟩ | refine ⟨⟨rfl, leb rfl⟩, ?_⟩ | refine ⟨⟨by decide, by decide⟩, ?_⟩ | refine ⟨rfl, ?_⟩ | refine ⟨leb rfl, ?_⟩ | refine ⟨by decide, ?_⟩ | refine .inr ⟨⟨leb rfl, leb rfl, rfl, rfl⟩, ?_⟩ | fail)
        refine ⟨_, fun H hR => acc_call (by decide) rfl (flat_one (reach_ref hR (i := 2) (d := 11) rfl rfl)), ?_⟩
        refine ⟨_, _, _, FrzL.frz (.cons (Frz1.row (i := 2) (d := 10) (es := [[.int .i64 (afterS (stS rs bit lost 0).1 (msg1 rs lost[0] (stS rs bit lost 0)))], [.int .i64 (afterS (stS rs bit lost 0).2 (msg0 rs lost[0] (stS rs bit lost 0)))]]) rfl rfl rfl rfl) .nil), hcl2 _ _, ?_⟩
        repeat' ((conv => whnf); first | refine ⟨rfl, fun hc => ?_, fun hc => ?_⟩ | refine ⟨fun hc => ?_, fun hc => ?_⟩ | refine ⟨rfl, _, wrap64 (by omega) (by omega), ?_⟩ | refine ⟨_, wrap64 (by omega) (by omega), ?_⟩ | refine ⟨_, wrapU (by omega) (by omega), ?_⟩ | refine ⟨rfl, rfl, ?_⟩ | refine ⟨_, _, _, _, _, gi (by repeat first | exact .hd | apply In.tl), ?_⟩ | refine ⟨_, _, _, _, gi (by repeat first | exact .hd | apply In.tl), ⟨rfl, by exact leb rfl, by exact rfl⟩, ?_⟩ | refine ⟨_, gi (by repeat first | exact .hd | apply In.tl), ?_⟩ | refine ⟨⟨rfl, leb rfl⟩, ?_⟩ | refine ⟨⟨by decide, by decide⟩, ?_⟩ | refine ⟨rfl, ?_⟩ | refine ⟨leb rfl, ?_⟩ | refine ⟨by decide, ?_⟩ | refine .inr ⟨⟨leb rfl, leb rfl, rfl, rfl⟩, ?_⟩ | fail)
        refine ⟨3, _, _, rfl, ⟨rfl, by simp [loc_len], rfl, (by show 0 + 1 + 1 < 4294967296; omega), rfl⟩, .inr ⟨Nat.le_of_ble_eq_true rfl, ?_⟩⟩
        repeat' ((conv => whnf); first | refine ⟨rfl, fun hc => ?_, fun hc => ?_⟩ | refine ⟨fun hc => ?_, fun hc => ?_⟩ | refine ⟨rfl, _, wrap64 (by omega) (by omega), ?_⟩ | refine ⟨_, wrap64 (by omega) (by omega), ?_⟩ | refine ⟨_, wrapU (by omega) (by omega), ?_⟩ | refine ⟨rfl, rfl, ?_⟩ | refine ⟨_, _, _, _, _, gi (by repeat first | exact .hd | apply In.tl), ?_⟩ | refine ⟨_, _, _, _, gi (by repeat first | exact .hd | apply In.tl), ⟨rfl, by exact leb rfl, by exact rfl⟩, ?_⟩ | refine ⟨_, gi (by repeat first | exact .hd | apply In.tl), ?_⟩ | refine ⟨⟨rfl, leb rfl⟩, ?_⟩ | refine ⟨⟨by decide, by decide⟩, ?_⟩ | refine ⟨rfl, ?_⟩ | refine ⟨leb rfl, ?_⟩ | refine ⟨by decide, ?_⟩ | refine .inr ⟨⟨leb rfl, leb rfl, rfl, rfl⟩, ?_⟩ | fail)
        refine ⟨Bool.and_eq_true_iff.2 ⟨free_of rfl rfl (fun l h => nomatch h) (fun l h => ?_), rfl⟩, ?_⟩
        · simp at h ⊢; omega
        repeat' ((conv => whnf); first | refine ⟨rfl, fun hc => ?_, fun hc => ?_⟩ | refine ⟨fun hc => ?_, fun hc => ?_⟩ | refine ⟨rfl, _, wrap64 (by omega) (by omega), ?_⟩ | refine ⟨_, wrap64 (by omega) (by omega), ?_⟩ | refine ⟨_, wrapU (by omega) (by omega), ?_⟩ | refine ⟨rfl, rfl, ?_⟩ | refine ⟨_, _, _, _, _, gi (by repeat first | exact .hd | apply In.tl), ?_⟩ | refine ⟨_, _, _, _, gi (by repeat first | exact .hd | apply In.tl), ⟨rfl, by exact leb rfl, by exact rfl⟩, ?_⟩ | refine ⟨_, gi (by repeat first | exact .hd | apply In.tl), ?_⟩ | refine ⟨⟨rfl, leb rfl⟩, ?_⟩ | refine ⟨⟨by decide, by decide⟩, ?_⟩ | refine ⟨rfl, ?_⟩ | refine ⟨leb rfl, ?_⟩ | refine ⟨by decide, ?_⟩ | refine .inr ⟨⟨leb rfl, leb rfl, rfl, rfl⟩, ?_⟩ | fail)
        refine ⟨4, _, _, rfl, ⟨rfl, by simp [fact_len], rfl, (by show 0 + 1 + 1 < 4294967296; omega), rfl⟩, .inr ⟨Nat.le_of_ble_eq_true rfl, ?_⟩⟩
        repeat' ((conv => whnf); first | refine ⟨rfl, fun hc => ?_, fun hc => ?_⟩ | refine ⟨fun hc => ?_, fun hc => ?_⟩ | refine ⟨rfl, _, wrap64 (by omega) (by omega), ?_⟩ | refine ⟨_, wrap64 (by omega) (by omega), ?_⟩ | refine ⟨_, wrapU (by omega) (by omega), ?_⟩ | refine ⟨rfl, rfl, ?_⟩ | refine ⟨_, _, _, _, _, gi (by repeat first | exact .hd | apply In.tl), ?_⟩ | refine ⟨_, _, _, _, gi (by repeat first | exact .hd | apply In.tl), ⟨rfl, by exact leb rfl, by exact rfl⟩, ?_⟩ | refine ⟨_, gi (by repeat first | exact .hd | apply In.tl), ?_⟩ | refine ⟨⟨rfl, leb rfl⟩, ?_⟩ | refine ⟨⟨by decide, by decide⟩, ?_⟩ | refine ⟨rfl, ?_⟩ | refine ⟨leb rfl, ?_⟩ | refine ⟨by decide, ?_⟩ | refine .inr ⟨⟨leb rfl, leb rfl, rfl, rfl⟩, ?_⟩ | fail)
        refine ⟨lost.length - (0 + 1), _, by omega, Sub.pick [0, 1, 2, 3, 4, 5, 7] rfl, 0 + 1, lc', ?_, .mk rfl, by omega, rfl⟩
        simp only [loc_succ, who_succ, fact_succ, st_succ hk', SA]
        rfl
    | succ j =>
      have hk' : (j + 1) < lost.length := by omega
      obtain ⟨m1, m2⟩ := hm lost[(j + 1)] (List.getElem_mem hk')
      obtain ⟨⟨s1, s2⟩, s3, s4⟩ := st_bound rs hb lost (j + 1)
      refine ⟨⟨by omega, by simp [lostC]; omega⟩, lost_len lost, [.int .i64 lost[(j + 1)]], by simp [lostC, hk'], ?_⟩
      repeat' ((conv => whnf); first | refine ⟨rfl, fun hc => ?_, fun hc => ?_⟩ | refine ⟨fun hc => ?_, fun hc => ?_⟩ | refine ⟨rfl, _, wrap64 (by omega) (by omega), ?_⟩ | refine ⟨_, wrap64 (by omega) (by omega), ?_⟩ | refine ⟨_, wrapU (by omega) (by omega), ?_⟩ | refine ⟨rfl, rfl, ?_⟩ | refine ⟨_, _, _, _, _, gi (by repeat first | exact .hd | apply In.tl), ?_⟩ | refine ⟨_, _, _, _, gi (by repeat first | exact .hd | apply In.tl), ⟨rfl, by exact leb rfl, by exact rfl⟩, ?_⟩ | refine ⟨_, gi (by repeat first | exact .hd | apply In.tl), ?_⟩ | refine ⟨⟨rfl, leb rfl⟩, ?_⟩ | refine ⟨⟨by decide, by decide⟩, ?_⟩ | refine ⟨rfl, ?_⟩ | refine ⟨leb rfl, ?_⟩ | refine ⟨by decide, ?_⟩ | refine .inr ⟨⟨leb rfl, leb rfl, rfl, rfl⟩, ?_⟩ | fail)
      intro l13 hl13
      repeat' ((conv => whnf); first | refine ⟨rfl, fun hc => ?_, fun hc => ?_⟩ | refine ⟨fun hc => ?_, fun hc => ?_⟩ | refine ⟨rfl, _, wrap64 (by omega) (by omega), ?_⟩ | refine ⟨_, wrap64 (by omega) (by omega), ?_⟩ | refine ⟨_, wrapU (by omega) (by omega), ?_⟩ | refine ⟨rfl, rfl, ?_⟩ | refine ⟨_, _, _, _, _, gi (by repeat first | exact .hd | apply In.tl), ?_⟩ | refine ⟨_, _, _, _, gi (by repeat first | exact .hd | apply In.tl), ⟨rfl, by exact leb rfl, by exact rfl⟩, ?_⟩ | refine ⟨_, gi (by repeat first | exact .hd | apply In.tl), ?_⟩ | refine ⟨⟨rfl, leb rfl⟩, ?_⟩ | refine ⟨⟨by decide, by decide⟩, ?_⟩ | refine ⟨rfl, ?_⟩ | refine ⟨leb rfl, ?_⟩ | refine ⟨by decide, ?_⟩ | refine .inr ⟨⟨leb rfl, leb rfl, rfl, rfl⟩, ?_⟩ | fail)
      refine aLoop_by (fun m env A => ∃ a : Nat, a ≤ 2 ∧ m = 2 - a ∧ A = [(l3, some (.cells (eC e0 rs) 0 0 false false)), (l6, some (.cells [.nilsl, .nilsl] 0 0 false false)), (l8, some (.cells [.int .i64 (stS rs bit lost (j + 1)).1, .int .i64 (stS rs bit lost (j + 1)).2] 0 0 false false)), (la, some (.cells (locC rs bit lost (j + 1)) 1 (j + 1) true false)), (lb, some (.cells (factC bit (j + 1)) 1 (j + 1) true false)), (l9, some (.cells [.ref la 0 ((j + 1) + 1) (j + 1) 1, .ref lb 0 ((j + 1) + 1) (j + 1) 1] 0 0 false false)), (lc, some (.cells (whoC rs bit lost (j + 1)) 1 (j + 1) true false)), (l13, some (.cells (nextC rs lost[(j + 1)] (stS rs bit lost (j + 1)) a) 0 0 false false))] ∧ IEnv (fun g => (g 0 :: .int .i64 bit :: g 2 :: .ptr l3 0 0 :: g 4 :: g 5 :: .ptr l6 0 0 :: g 7 :: .ptr l8 0 0 :: .ptr l9 0 0 :: (.ref lc 0 (j + 1) (j + 1) 1) :: g 11 :: .int .i64 lost[(j + 1)] :: .ptr l13 0 0 :: .int .i64 (whoI rs (stS rs bit lost (j + 1)) a) :: g 15 :: g 16 :: g 17 :: g 18 :: g 19 :: g 20 :: g 21 :: g 22 :: g 23 :: g 24 :: g 25 :: g 26 :: g 27 :: g 28 :: g 29 :: g 30 :: g 31 :: g 32 :: .list (lostC lost) :: .int .i64 (lostC lost).length :: .int .i64 ((j + 1) : Nat) :: g 36 :: g 37 :: g 38 :: g 39 :: .int .i64 (a : Nat) :: g 41 :: g 42 :: g 43 :: g 44 :: g 45 :: g 46 :: g 47 :: g 48 :: g 49 :: g 50 :: g 51 :: g 52 :: g 53 :: g 54 :: g 55 :: g 56 :: g 57 :: g 58 :: g 59 :: g 60 :: g 61 :: g 62 :: g 63 :: g 64 :: g 65 :: g 66 :: g 67 :: g 68 :: g 69 :: g 70 :: g 71 :: g 72 :: g 73 :: g 74 :: g 75 :: g 76 :: g 77 :: g 78 :: g 79 :: g 80 :: g 81 :: g 82 :: g 83 :: g 84 :: g 85 :: g 86 :: g 87 :: g 88 :: g 89 :: g 90 :: g 91 :: [])) env) (m := 2) (Sub.take 8) ⟨0, by omega, rfl, rfl, .mk rfl⟩ (by omega) ?_
      rintro m env A ⟨a, ha, rfl, rfl, ⟨g, rfl⟩⟩
      have ha' : a = 0 ∨ a = 1 ∨ a = 2 := by omega
      rcases ha' with rfl | rfl | rfl
      · refine ⟨rfl, fun hz => ?_, fun hz => absurd hz (by decide)⟩
        repeat' ((conv => whnf); first | refine ⟨rfl, fun hc => ?_, fun hc => ?_⟩ | refine ⟨fun hc => ?_, fun hc => ?_⟩ | refine ⟨rfl, _, wrap64 (by omega) (by omega), ?_⟩ | refine ⟨_, wrap64 (by omega) (by omega), ?_⟩ | refine ⟨_, wrapU (by omega) (by omega), ?_⟩ | refine ⟨rfl, rfl, ?_⟩ | refine ⟨_, _, _, _, _, gi (by repeat first | exact .hd | apply In.tl), ?_⟩ | refine ⟨_, _, _, _, gi (by repeat first | exact .hd | apply In.tl), ⟨rfl, by exact leb rfl, by exact rfl⟩, ?_⟩ | refine ⟨_, gi (by repeat first | exact .hd | apply In.tl), ?_⟩ | refine ⟨⟨rfl, leb rfl⟩, ?_⟩ | refine ⟨⟨by decide, by decide⟩, ?_⟩ | refine ⟨rfl, ?_⟩ | refine ⟨leb rfl, ?_⟩ | refine ⟨by decide, ?_⟩ | refine .inr ⟨⟨leb rfl, leb rfl, rfl, rfl⟩, ?_⟩ | fail)
        intro b1 hb1
        repeat' ((conv => whnf); first | refine ⟨by decide, lost[(j + 1)], shr0 m1, ?_⟩ | refine ⟨rfl, _, bits_and1 m1 (by omega), ?_⟩ | refine ⟨by decide, 1, by decide, ?_⟩ | refine ⟨by decide, 2, by decide, ?_⟩ | refine ⟨rfl, 1, or1, ?_⟩ | refine ⟨rfl, fun hc => ?_, fun hc => ?_⟩ | refine ⟨fun hc => ?_, fun hc => ?_⟩ | refine ⟨rfl, _, wrap64 (by omega) (by omega), ?_⟩ | refine ⟨_, wrap64 (by omega) (by omega), ?_⟩ | refine ⟨_, wrapU (by omega) (by omega), ?_⟩ | refine ⟨rfl, rfl, ?_⟩ | refine ⟨_, _, _, _, _, gi (by repeat first | exact .hd | apply In.tl), ?_⟩ | refine ⟨_, _, _, _, gi (by repeat first | exact .hd | apply In.tl), ⟨rfl, by exact leb rfl, by exact rfl⟩, ?_⟩ | refine ⟨_, gi (by repeat first | exact .hd | apply In.tl), ?_⟩ | refine ⟨⟨rfl, leb rfl⟩, ?_⟩ | refine ⟨⟨by decide, by decide⟩, ?_⟩ | refine ⟨rfl, ?_⟩ | refine ⟨leb rfl, ?_⟩ | refine ⟨by decide, ?_⟩ | refine .inr ⟨⟨leb rfl, leb rfl, rfl, rfl⟩, ?_⟩ | refine ⟨_, _, _, true, fun _ H hR => ⟨H, rfl, hR⟩, h92 hrs, rfl, ?_⟩ | refine ⟨_, _, _, false, fun _ H hR => ⟨H, rfl, hR⟩, h92 hrs, rfl, ?_⟩ | refine ⟨_, _, _, true, fun _ H hR => ⟨H, rfl, hR⟩, h44 ⟨by omega, by omega⟩, rfl, ?_⟩ | refine ⟨_, _, _, false, fun _ H hR => ⟨H, rfl, hR⟩, h44 ⟨by omega, by omega⟩, rfl, ?_⟩ | fail)
        · rename_i hs
          have hs' : sendsS 0 (stS rs bit lost (j + 1)).1 rs > 0 := by simpa using hs
          have e1 : msg0 rs lost[(j + 1)] (stS rs bit lost (j + 1)) = 0 := if_pos hc
          have e2 : whoI rs (stS rs bit lost (j + 1)) 1 = 1 := by simp [whoI, whoS, who0, hs']
          refine ⟨1, _, by omega, Sub.pick [0, 1, 2, 3, 4, 5, 6, 7] rfl, 1, by omega, rfl, ?_, .mk ?_⟩
          · simp only [nextC, e1]; rfl
          · simp only [e2]; rfl
        · rename_i hs
          have hs' : sendsS 0 (stS rs bit lost (j + 1)).1 rs > 0 := by simpa using hs
          have e1 : msg0 rs lost[(j + 1)] (stS rs bit lost (j + 1)) = sendsS 0 (stS rs bit lost (j + 1)).1 rs := if_neg hc
          have e2 : whoI rs (stS rs bit lost (j + 1)) 1 = 1 := by simp [whoI, whoS, who0, hs']
          refine ⟨1, _, by omega, Sub.pick [0, 1, 2, 3, 4, 5, 6, 7] rfl, 1, by omega, rfl, ?_, .mk ?_⟩
          · simp only [nextC, e1]; rfl
          · simp only [e2]; rfl
        · rename_i hs
          have hs' : ¬ sendsS 0 (stS rs bit lost (j + 1)).1 rs > 0 := by simpa using hs
          have e1 : msg0 rs lost[(j + 1)] (stS rs bit lost (j + 1)) = 0 := if_pos hc
          have e2 : whoI rs (stS rs bit lost (j + 1)) 1 = 0 := by simp [whoI, whoS, who0, hs']
          refine ⟨1, _, by omega, Sub.pick [0, 1, 2, 3, 4, 5, 6, 7] rfl, 1, by omega, rfl, ?_, .mk ?_⟩
          · simp only [nextC, e1]; rfl
          · simp only [e2]; rfl
        · rename_i hs
          have hs' : ¬ sendsS 0 (stS rs bit lost (j + 1)).1 rs > 0 := by simpa using hs
          have e1 : msg0 rs lost[(j + 1)] (stS rs bit lost (j + 1)) = sendsS 0 (stS rs bit lost (j + 1)).1 rs := if_neg hc
          have e2 : whoI rs (stS rs bit lost (j + 1)) 1 = 0 := by simp [whoI, whoS, who0, hs']
          refine ⟨1, _, by omega, Sub.pick [0, 1, 2, 3, 4, 5, 6, 7] rfl, 1, by omega, rfl, ?_, .mk ?_⟩
          · simp only [nextC, e1]; rfl
          · simp only [e2]; rfl
      · refine ⟨rfl, fun hz => ?_, fun hz => absurd hz (by decide)⟩
        repeat' ((conv => whnf); first | refine ⟨rfl, fun hc => ?_, fun hc => ?_⟩ | refine ⟨fun hc => ?_, fun hc => ?_⟩ | refine ⟨rfl, _, wrap64 (by omega) (by omega), ?_⟩ | refine ⟨_, wrap64 (by omega) (by omega), ?_⟩ | refine ⟨_, wrapU (by omega) (by omega), ?_⟩ | refine ⟨rfl, rfl, ?_⟩ | refine ⟨_, _, _, _, _, gi (by repeat first | exact .hd | apply In.tl), ?_⟩ | refine ⟨_, _, _, _, gi (by repeat first | exact .hd | apply In.tl), ⟨rfl, by exact leb rfl, by exact rfl⟩, ?_⟩ | refine ⟨_, gi (by repeat first | exact .hd | apply In.tl), ?_⟩ | refine ⟨⟨rfl, leb rfl⟩, ?_⟩ | refine ⟨⟨by decide, by decide⟩, ?_⟩ | refine ⟨rfl, ?_⟩ | refine ⟨leb rfl, ?_⟩ | refine ⟨by decide, ?_⟩ | refine .inr ⟨⟨leb rfl, leb rfl, rfl, rfl⟩, ?_⟩ | fail)
        intro b1 hb1
        repeat' ((conv => whnf); first | refine ⟨by decide, lost[(j + 1)] / 2, shr1 m1, ?_⟩ | refine ⟨rfl, _, bits_and1 (by omega) (by omega), ?_⟩ | refine ⟨by decide, 1, by decide, ?_⟩ | refine ⟨by decide, 2, by decide, ?_⟩ | refine ⟨rfl, who0 rs (stS rs bit lost (j + 1)) + 2, or2 (who01 _ _), ?_⟩ | refine ⟨rfl, fun hc => ?_, fun hc => ?_⟩ | refine ⟨fun hc => ?_, fun hc => ?_⟩ | refine ⟨rfl, _, wrap64 (by omega) (by omega), ?_⟩ | refine ⟨_, wrap64 (by omega) (by omega), ?_⟩ | refine ⟨_, wrapU (by omega) (by omega), ?_⟩ | refine ⟨rfl, rfl, ?_⟩ | refine ⟨_, _, _, _, _, gi (by repeat first | exact .hd | apply In.tl), ?_⟩ | refine ⟨_, _, _, _, gi (by repeat first | exact .hd | apply In.tl), ⟨rfl, by exact leb rfl, by exact rfl⟩, ?_⟩ | refine ⟨_, gi (by repeat first | exact .hd | apply In.tl), ?_⟩ | refine ⟨⟨rfl, leb rfl⟩, ?_⟩ | refine ⟨⟨by decide, by decide⟩, ?_⟩ | refine ⟨rfl, ?_⟩ | refine ⟨leb rfl, ?_⟩ | refine ⟨by decide, ?_⟩ | refine .inr ⟨⟨leb rfl, leb rfl, rfl, rfl⟩, ?_⟩ | refine ⟨_, _, _, true, fun _ H hR => ⟨H, rfl, hR⟩, h92 hrs, rfl, ?_⟩ | refine ⟨_, _, _, false, fun _ H hR => ⟨H, rfl, hR⟩, h92 hrs, rfl, ?_⟩ | refine ⟨_, _, _, true, fun _ H hR => ⟨H, rfl, hR⟩, h44 ⟨by omega, by omega⟩, rfl, ?_⟩ | refine ⟨_, _, _, false, fun _ H hR => ⟨H, rfl, hR⟩, h44 ⟨by omega, by omega⟩, rfl, ?_⟩ | fail)
        · rename_i hs
          have hs' : sendsS 1 (stS rs bit lost (j + 1)).2 rs > 0 := by simpa using hs
          have e1 : msg1 rs lost[(j + 1)] (stS rs bit lost (j + 1)) = 0 := if_pos hc
          have e2 : whoI rs (stS rs bit lost (j + 1)) 2 = who0 rs (stS rs bit lost (j + 1)) + 2 := by simp [whoI, whoS, who0, hs']
          refine ⟨0, _, by omega, Sub.pick [0, 1, 2, 3, 4, 5, 6, 7] rfl, 2, by omega, rfl, ?_, .mk ?_⟩
          · simp only [nextC, e1]; rfl
          · simp only [e2]; rfl
        · rename_i hs
          have hs' : sendsS 1 (stS rs bit lost (j + 1)).2 rs > 0 := by simpa using hs
          have e1 : msg1 rs lost[(j + 1)] (stS rs bit lost (j + 1)) = sendsS 1 (stS rs bit lost (j + 1)).2 rs := if_neg hc
          have e2 : whoI rs (stS rs bit lost (j + 1)) 2 = who0 rs (stS rs bit lost (j + 1)) + 2 := by simp [whoI, whoS, who0, hs']
          refine ⟨0, _, by omega, Sub.pick [0, 1, 2, 3, 4, 5, 6, 7] rfl, 2, by omega, rfl, ?_, .mk ?_⟩
          · simp only [nextC, e1]; rfl
          · simp only [e2]; rfl
        · rename_i hs
          have hs' : ¬ sendsS 1 (stS rs bit lost (j + 1)).2 rs > 0 := by simpa using hs
          have e1 : msg1 rs lost[(j + 1)] (stS rs bit lost (j + 1)) = 0 := if_pos hc
          have e2 : whoI rs (stS rs bit lost (j + 1)) 2 = who0 rs (stS rs bit lost (j + 1)) := by simp [whoI, whoS, who0, hs']
          refine ⟨0, _, by omega, Sub.pick [0, 1, 2, 3, 4, 5, 6, 7] rfl, 2, by omega, rfl, ?_, .mk ?_⟩
          · simp only [nextC, e1]; rfl
          · simp only [e2]; rfl
        · rename_i hs
          have hs' : ¬ sendsS 1 (stS rs bit lost (j + 1)).2 rs > 0 := by simpa using hs
          have e1 : msg1 rs lost[(j + 1)] (stS rs bit lost (j + 1)) = sendsS 1 (stS rs bit lost (j + 1)).2 rs := if_neg hc
          have e2 : whoI rs (stS rs bit lost (j + 1)) 2 = who0 rs (stS rs bit lost (j + 1)) := by simp [whoI, whoS, who0, hs']
          refine ⟨0, _, by omega, Sub.pick [0, 1, 2, 3, 4, 5, 6, 7] rfl, 2, by omega, rfl, ?_, .mk ?_⟩
          · simp only [nextC, e1]; rfl
          · simp only [e2]; rfl
      · refine ⟨rfl, fun hz => absurd hz (by decide), fun hz => ?_⟩
        repeat' ((conv => whnf); first | refine ⟨rfl, fun hc => ?_, fun hc => ?_⟩ | refine ⟨fun hc => ?_, fun hc => ?_⟩ | refine ⟨rfl, _, wrap64 (by omega) (by omega), ?_⟩ | refine ⟨_, wrap64 (by omega) (by omega), ?_⟩ | refine ⟨_, wrapU (by omega) (by omega), ?_⟩ | refine ⟨rfl, rfl, ?_⟩ | refine ⟨_, _, _, _, _, gi (by repeat first | exact .hd | apply In.tl), ?_⟩ | refine ⟨_, _, _, _, gi (by repeat first | exact .hd | apply In.tl), ⟨rfl, by exact leb rfl, by exact rfl⟩, ?_⟩ | refine ⟨_, gi (by repeat first | exact .hd | apply In.tl), ?_⟩ | refine ⟨⟨rfl, leb rfl⟩, ?_⟩ | refine ⟨⟨by decide, by decide⟩, ?_⟩ | refine ⟨rfl, ?_⟩ | refine ⟨leb rfl, ?_⟩ | refine ⟨by decide, ?_⟩ | refine .inr ⟨⟨leb rfl, leb rfl, rfl, rfl⟩, ?_⟩ | fail)
        refine ⟨6, _, _, rfl, ⟨rfl, by simp [who_len], rfl, (by show j + 1 + 1 < 4294967296; omega), rfl⟩, .inr ⟨Nat.le_of_ble_eq_true rfl, ?_⟩⟩
        repeat' ((conv => whnf); first | refine ⟨rfl, fun hc => ?_, fun hc => ?_⟩ | refine ⟨fun hc => ?_, fun hc => ?_⟩ | refine ⟨rfl, _, wrap64 (by omega) (by omega), ?_⟩ | refine ⟨_, wrap64 (by omega) (by omega), ?_⟩ | refine ⟨_, wrapU (by omega) (by omega), ?_⟩ | refine ⟨rfl, rfl, ?_⟩ | refine ⟨_, _, _, _, _, gi (by repeat first | exact .hd | apply In.tl), ?_⟩ | refine ⟨_, _, _, _, gi (by repeat first | exact .hd | apply In.tl), ⟨rfl, by exact leb rfl, by exact rfl⟩, ?_⟩ | refine ⟨_, gi (by repeat first | exact .hd | apply In.tl), ?_⟩ | refine ⟨⟨rfl, leb rfl⟩, ?_⟩ | refine ⟨⟨by decide, by decide⟩, ?_⟩ | refine ⟨rfl, ?_⟩ | refine ⟨leb rfl, ?_⟩ | refine ⟨by decide, ?_⟩ | refine .inr ⟨⟨leb rfl, leb rfl, rfl, rfl⟩, ?_⟩ | fail)
        intro b1 hb1
        have h9 : l9 < b1 := hb1 (l9, _) (List.mem_of_getElem? (i := 5) rfl)
        repeat' ((conv => whnf); first | refine ⟨rfl, fun hc => ?_, fun hc => ?_⟩ | refine ⟨fun hc => ?_, fun hc => ?_⟩ | refine ⟨rfl, _, wrap64 (by omega) (by omega), ?_⟩ | refine ⟨_, wrap64 (by omega) (by omega), ?_⟩ | refine ⟨_, wrapU (by omega) (by omega), ?_⟩ | refine ⟨rfl, rfl, ?_⟩ | refine ⟨_, _, _, _, _, gi (by repeat first | exact .hd | apply In.tl), ?_⟩ | refine ⟨_, _, _, _, gi (by repeat first | exact .hd | apply In.tl), ⟨rfl, by exact leb rfl, by exact rfl⟩, ?_⟩ | refine ⟨_, gi (by repeat first | exact .hd | apply In.tl), ?_⟩ | refine ⟨⟨rfl, leb rfl⟩, ?_⟩ | refine ⟨⟨by decide, by decide⟩, ?_⟩ | refine ⟨rfl, ?_⟩ | refine ⟨leb rfl, ?_⟩ | refine ⟨by decide, ?_⟩ | refine .inr ⟨⟨leb rfl, leb rfl, rfl, rfl⟩, ?_⟩ | fail)
        refine ⟨_, fun H hR => acc_load rfl, ?_⟩
        repeat' ((conv => whnf); first | refine ⟨rfl, fun hc => ?_, fun hc => ?_⟩ | refine ⟨fun hc => ?_, fun hc => ?_⟩ | refine ⟨rfl, _, wrap64 (by omega) (by omega), ?_⟩ | refine ⟨_, wrap64 (by omega) (by omega), ?_⟩ | refine ⟨_, wrapU (by omega) (by omega), ?_⟩ | refine ⟨rfl, rfl, ?_⟩ | refine ⟨_, _, _, _, _, gi (by repeat first | exact .hd | apply In.tl), ?_⟩ | refine ⟨_, _, _, _, gi (by repeat first | exact .hd | apply In.tl), ⟨rfl, by exact leb rfl, by exact rfl⟩, ?_⟩ | refine ⟨_, gi (by repeat first | exact .hd | apply In.tl), ?_⟩ | refine ⟨⟨rfl, leb rfl⟩, ?_⟩ | refine ⟨⟨by decide, by decide⟩, ?_⟩ | refine ⟨rfl, ?_⟩ | refine ⟨leb rfl, ?_⟩ | refine ⟨by decide, ?_⟩ | refine .inr ⟨⟨leb rfl, leb rfl, rfl, rfl⟩, ?_⟩ | fail)
        refine ⟨_, fun H hR => acc_call (by decide) rfl (flat_one (reach_ref hR (i := 2) (d := 11) rfl rfl)), ?_⟩
        refine ⟨_, _, _, FrzL.frz (.cons (Frz1.row (i := 2) (d := 10) (es := [[.int .i64 (afterS (stS rs bit lost (j + 1)).1 (msg1 rs lost[(j + 1)] (stS rs bit lost (j + 1))))], [.int .i64 (afterS (stS rs bit lost (j + 1)).2 (msg0 rs lost[(j + 1)] (stS rs bit lost (j + 1))))]]) rfl rfl rfl rfl) .nil), hcl2 _ _, ?_⟩
        repeat' ((conv => whnf); first | refine ⟨rfl, fun hc => ?_, fun hc => ?_⟩ | refine ⟨fun hc => ?_, fun hc => ?_⟩ | refine ⟨rfl, _, wrap64 (by omega) (by omega), ?_⟩ | refine ⟨_, wrap64 (by omega) (by omega), ?_⟩ | refine ⟨_, wrapU (by omega) (by omega), ?_⟩ | refine ⟨rfl, rfl, ?_⟩ | refine ⟨_, _, _, _, _, gi (by repeat first | exact .hd | apply In.tl), ?_⟩ | refine ⟨_, _, _, _, gi (by repeat first | exact .hd | apply In.tl), ⟨rfl, by exact leb rfl, by exact rfl⟩, ?_⟩ | refine ⟨_, gi (by repeat first | exact .hd | apply In.tl), ?_⟩ | refine ⟨⟨rfl, leb rfl⟩, ?_⟩ | refine ⟨⟨by decide, by decide⟩, ?_⟩ | refine ⟨rfl, ?_⟩ | refine ⟨leb rfl, ?_⟩ | refine ⟨by decide, ?_⟩ | refine .inr ⟨⟨leb rfl, leb rfl, rfl, rfl⟩, ?_⟩ | fail)
        refine ⟨3, _, _, rfl, ⟨rfl, by simp [loc_len], rfl, (by show (j + 1) + 1 + 1 < 4294967296; omega), rfl⟩, .inr ⟨Nat.le_of_ble_eq_true rfl, ?_⟩⟩
        repeat' ((conv => whnf); first | refine ⟨rfl, fun hc => ?_, fun hc => ?_⟩ | refine ⟨fun hc => ?_, fun hc => ?_⟩ | refine ⟨rfl, _, wrap64 (by omega) (by omega), ?_⟩ | refine ⟨_, wrap64 (by omega) (by omega), ?_⟩ | refine ⟨_, wrapU (by omega) (by omega), ?_⟩ | refine ⟨rfl, rfl, ?_⟩ | refine ⟨_, _, _, _, _, gi (by repeat first | exact .hd | apply In.tl), ?_⟩ | refine ⟨_, _, _, _, gi (by repeat first | exact .hd | apply In.tl), ⟨rfl, by exact leb rfl, by exact rfl⟩, ?_⟩ | refine ⟨_, gi (by repeat first | exact .hd | apply In.tl), ?_⟩ | refine ⟨⟨rfl, leb rfl⟩, ?_⟩ | refine ⟨⟨by decide, by decide⟩, ?_⟩ | refine ⟨rfl, ?_⟩ | refine ⟨leb rfl, ?_⟩ | refine ⟨by decide, ?_⟩ | refine .inr ⟨⟨leb rfl, leb rfl, rfl, rfl⟩, ?_⟩ | fail)
        refine ⟨Bool.and_eq_true_iff.2 ⟨free_of rfl rfl (fun l h => nomatch h) (fun l h => ?_), rfl⟩, ?_⟩
        · simp at h ⊢; omega
        repeat' ((conv => whnf); first | refine ⟨rfl, fun hc => ?_, fun hc => ?_⟩ | refine ⟨fun hc => ?_, fun hc => ?_⟩ | refine ⟨rfl, _, wrap64 (by omega) (by omega), ?_⟩ | refine ⟨_, wrap64 (by omega) (by omega), ?_⟩ | refine ⟨_, wrapU (by omega) (by omega), ?_⟩ | refine ⟨rfl, rfl, ?_⟩ | refine ⟨_, _, _, _, _, gi (by repeat first | exact .hd | apply In.tl), ?_⟩ | refine ⟨_, _, _, _, gi (by repeat first | exact .hd | apply In.tl), ⟨rfl, by exact leb rfl, by exact rfl⟩, ?_⟩ | refine ⟨_, gi (by repeat first | exact .hd | apply In.tl), ?_⟩ | refine ⟨⟨rfl, leb rfl⟩, ?_⟩ | refine ⟨⟨by decide, by decide⟩, ?_⟩ | refine ⟨rfl, ?_⟩ | refine ⟨leb rfl, ?_⟩ | refine ⟨by decide, ?_⟩ | refine .inr ⟨⟨leb rfl, leb rfl, rfl, rfl⟩, ?_⟩ | fail)
        refine ⟨4, _, _, rfl, ⟨rfl, by simp [fact_len], rfl, (by show (j + 1) + 1 + 1 < 4294967296; omega), rfl⟩, .inr ⟨Nat.le_of_ble_eq_true rfl, ?_⟩⟩
        repeat' ((conv => whnf); first | refine ⟨rfl, fun hc => ?_, fun hc => ?_⟩ | refine ⟨fun hc => ?_, fun hc => ?_⟩ | refine ⟨rfl, _, wrap64 (by omega) (by omega), ?_⟩ | refine ⟨_, wrap64 (by omega) (by omega), ?_⟩ | refine ⟨_, wrapU (by omega) (by omega), ?_⟩ | refine ⟨rfl, rfl, ?_⟩ | refine ⟨_, _, _, _, _, gi (by repeat first | exact .hd | apply In.tl), ?_⟩ | refine ⟨_, _, _, _, gi (by repeat first | exact .hd | apply In.tl), ⟨rfl, by exact leb rfl, by exact rfl⟩, ?_⟩ | refine ⟨_, gi (by repeat first | exact .hd | apply In.tl), ?_⟩ | refine ⟨⟨rfl, leb rfl⟩, ?_⟩ | refine ⟨⟨by decide, by decide⟩, ?_⟩ | refine ⟨rfl, ?_⟩ | refine ⟨leb rfl, ?_⟩ | refine ⟨by decide, ?_⟩ | refine .inr ⟨⟨leb rfl, leb rfl, rfl, rfl⟩, ?_⟩ | fail)
        refine ⟨lost.length - ((j + 1) + 1), _, by omega, Sub.pick [0, 1, 2, 3, 4, 5, 6] rfl, (j + 1) + 1, lc, ?_, .mk rfl, by omega, rfl⟩
        simp only [loc_succ, who_succ, fact_succ, st_succ hk', SA]
        rfl
  · simp only [lostC, List.length_map] at h4
    have hK' : ∀ rs' A, Fin .iso A rs' (runR rs bit lost k) → K rs' A := by rw [show k = lost.length by omega]; exact hK
    cases k with
    | zero =>
      repeat' ((conv => whnf); first | refine ⟨rfl, fun hc => ?_, fun hc => ?_⟩ | refine ⟨fun hc => ?_, fun hc => ?_⟩ | refine ⟨rfl, _, wrap64 (by omega) (by omega), ?_⟩ | refine ⟨_, wrap64 (by omega) (by omega), ?_⟩ | refine ⟨_, wrapU (by omega) (by omega), ?_⟩ | refine ⟨rfl, rfl, ?_⟩ | refine ⟨_, _, _, _, _, gi (by repeat first | exact .hd | apply In.tl), ?_⟩ | refine ⟨_, _, _, _, gi (by repeat first | exact .hd | apply In.tl), ⟨rfl, by exact leb rfl, by exact rfl⟩, ?_⟩ | refine ⟨_, gi (by repeat first | exact .hd | apply In.tl), ?_⟩ | refine ⟨⟨rfl, leb rfl⟩, ?_⟩ | refine ⟨⟨by decide, by decide⟩, ?_⟩ | refine ⟨rfl, ?_⟩ | refine ⟨leb rfl, ?_⟩ | refine ⟨by decide, ?_⟩ | refine .inr ⟨⟨leb rfl, leb rfl, rfl, rfl⟩, ?_⟩ | fail)
      exact hK' _ _ (Fin.frz (FrzL.frz (.cons (.agg (.cons (.row (i := 3) (d := 9) rfl (cut_all (loc_len _ _ _ _)) (loc_self _ _ _ _) (chunk_all1 (loc_len _ _ _ _))) (.cons (.row (i := 4) (d := 9) rfl (cut_all (fact_len _ _)) (fact_self _ _) (chunk_all1 (fact_len _ _))) .nil))) (.cons (.nilsl) .nil))))
    | succ j =>
      repeat' ((conv => whnf); first | refine ⟨rfl, fun hc => ?_, fun hc => ?_⟩ | refine ⟨fun hc => ?_, fun hc => ?_⟩ | refine ⟨rfl, _, wrap64 (by omega) (by omega), ?_⟩ | refine ⟨_, wrap64 (by omega) (by omega), ?_⟩ | refine ⟨_, wrapU (by omega) (by omega), ?_⟩ | refine ⟨rfl, rfl, ?_⟩ | refine ⟨_, _, _, _, _, gi (by repeat first | exact .hd | apply In.tl), ?_⟩ | refine ⟨_, _, _, _, gi (by repeat first | exact .hd | apply In.tl), ⟨rfl, by exact leb rfl, by exact rfl⟩, ?_⟩ | refine ⟨_, gi (by repeat first | exact .hd | apply In.tl), ?_⟩ | refine ⟨⟨rfl, leb rfl⟩, ?_⟩ | refine ⟨⟨by decide, by decide⟩, ?_⟩ | refine ⟨rfl, ?_⟩ | refine ⟨leb rfl, ?_⟩ | refine ⟨by decide, ?_⟩ | refine .inr ⟨⟨leb rfl, leb rfl, rfl, rfl⟩, ?_⟩ | fail)
      exact hK' _ _ (Fin.frz (FrzL.frz (.cons (.agg (.cons (.row (i := 3) (d := 9) rfl (cut_all (loc_len _ _ _ _)) (loc_self _ _ _ _) (chunk_all1 (loc_len _ _ _ _))) (.cons (.row (i := 4) (d := 9) rfl (cut_all (fact_len _ _)) (fact_self _ _) (chunk_all1 (fact_len _ _))) .nil))) (.cons (.row (i := 6) (d := 10) rfl (cut_all (who_len _ _ _ _)) (who_self _ _ _ _) (chunk_all1 (who_len _ _ _ _))) .nil))))
end Go.Proofs.Ytlgbbabijifflaa.law1
