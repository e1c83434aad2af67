/- The system of the lossy channel: the recursive closure. -/
import Derived.Test.YtlgbbabijifflaaL1F4
set_option linter.unusedVariables false
set_option linter.unusedSimpArgs false
namespace Go.Proofs.Ytlgbbabijifflaa.law1
open Go Go.Ai Go.Proofs.Ytlgbbabijifflaa.L1R
open runs (RunD SysD runC sysC intsC dInt dAll locsC facsC dInts)
def whoN (rs : List Rule) (bit : Int) (lost : List Int) : Int := whoS rs (stS rs bit (lost ++ [0]) lost.length)
def okM (rs : List Rule) (bit : Int) (lost : List Int) (mask : Int) : Bool := decide (arith.bits .andNot .i64 mask (whoN rs bit lost) = 0)
def msk : Nat → Int
  | 0 => 0
  | 1 => 2
  | 2 => 1
  | _ => 3
def foldG (rs : List Rule) (bit : Int) (f : List Int → List RunD → List RunD) : Nat → List Int → List RunD → List RunD
  | 0, _, acc => acc
  | i + 1, lost, acc => if okM rs bit lost (msk i) then f (lost ++ [msk i]) (foldG rs bit f i lost acc) else foldG rs bit f i lost acc
/-- The runs that are found, with d rounds to come. -/
def enumS (rs : List Rule) (bit : Int) : Nat → List Int → List RunD → List RunD
  | 0, lost, acc => if acc.length > 64 then acc else acc ++ [runD rs bit lost]
  | d + 1, lost, acc => if acc.length > 64 then acc else foldG rs bit (enumS rs bit d) 4 lost acc
def how1 (f : Nat) : How := match Nat.beq f 49 with
  | true => .shared
  | false => match Nat.beq f 51 with
    | true => .thaw
    | false => .iso
def cloneV : List Int → AV
  | [] => .mt
  | x :: xs => .own 1 (intsC (x :: xs))
structure IsoH (iso : Nat → List AV → Option (List AV)) : Prop where
  run : ∀ {e0 bit : Int} {rs : List Rule} {lost : List Int}, runOk rs bit lost → iso 50 [.agg (eC e0 rs), .int .i64 bit, .list (intsC lost)] = some [.agg (runC (runD rs bit lost)), .list (intsC (whos rs bit lost))]
  cl : ∀ {l : List Int}, l.length ≤ 100 → iso 51 [.list (intsC l)] = some [cloneV l]
def runsF (acc : List RunD) : List AV := (acc.map runC).flatten
theorem runsF_len (acc : List RunD) : (runsF acc).length = acc.length * 2 := by
  have := (flat_get (k := 2) (acc.map runC) (by simp [runC])).1
  simpa [runsF] using this
theorem runsF_app (acc : List RunD) (r : RunD) : runsF (acc ++ [r]) = runsF acc ++ runC r := by simp [runsF]
def RV (lr : Nat) : List RunD → AV
  | [] => .nilsl
  | x :: xs => .ref lr 0 (xs.length + 1) (xs.length + 1) 2
def RA (lr : Nat) : List RunD → Ah
  | [] => []
  | x :: xs => [(lr, some (.cells (runsF (x :: xs)) 2 (xs.length + 1) true false))]
def core (e0 : Int) (rs : List Rule) (le ls lf lr : Nat) (acc : List RunD) : Ah :=
  [(le, some (.cells (eC e0 rs) 0 0 false false)), (ls, some (.cells [.int .i64 2, .int .i64 1, .int .i64 (e0 + 1), RV lr acc] 0 0 false false)), (lf, some (.cells [.func 49 [.ptr ls 0 0, .ptr le 0 0, .ptr lf 0 0]] 0 0 false false))]
def lostF (lost : List Int) : List AV := lost.map fun m => .int .i64 m
theorem lostF_len (l : List Int) : (lostF l).length = l.length := by simp [lostF]
theorem lostF_self (l : List Int) : (lostF l).all selfV = true := by simp [lostF, selfV]
theorem lostF_ints (l : List Int) : (lostF l).map (fun x => [x]) = intsC l := by simp [lostF, intsC]
theorem ints_flat (l : List Int) : (intsC l).flatten = lostF l := by
  induction l with
  | nil => rfl
  | cons x l ih => simp [intsC, lostF] at ih ⊢; exact ih
theorem lostF_app (l : List Int) (m : Int) : lostF (l ++ [m]) = lostF l ++ [.int .i64 m] := by simp [lostF]
theorem RV_app (lr : Nat) (acc : List RunD) (r : RunD) : RV lr (acc ++ [r]) = .ref lr 0 (acc.length + 1) (acc.length + 1) 2 := by cases acc <;> simp [RV]
theorem RA_app (lr : Nat) (acc : List RunD) (r : RunD) : RA lr (acc ++ [r]) = [(lr, some (.cells (runsF (acc ++ [r])) 2 (acc.length + 1) true false))] := by cases acc <;> simp [RA]
/-- What the closure does, called with a list of losses. -/
def ShOk (e0 : Int) (rs : List Rule) (bit : Int) (sh : Nat → List AV → Hp → Option (List AV × Hp)) (d : Nat) : Prop :=
  ∀ (F : Ah) (H : Hp) (le ls lf lx lr g : Nat) (lost : List Int) (acc : List RunD), (d + lost.length : Int) = e0 → lost ≠ [] → runOk rs bit lost → acc.length ≤ 65 →
    RepF F (core e0 rs le ls lf lr acc ++ [(lx, some (.cells (lostF lost) 1 g true false))] ++ RA lr acc) H →
    ∃ H' lr', sh 49 [.int .i64 bit, .ref lx 0 lost.length g 1, .ptr ls 0 0, .ptr le 0 0, .ptr lf 0 0] H = some ([], H') ∧ RepF F (core e0 rs le ls lf lr' (enumS rs bit d lost acc) ++ RA lr' (enumS rs bit d lost acc)) H'


set_option maxRecDepth 100000 in
set_option maxHeartbeats 1000000 in
theorem leaf00 {e0 bit : Int} {rs : List Rule} {iso : Nat → List AV → Option (List AV)} {sh : Nat → List AV → Hp → Option (List AV × Hp)} (hi : IsoH iso) {n : Nat} {le ls lf : Nat} (hok : runOk rs bit ([] : List Int)) (ha : ([] : List RunD).length ≤ 65) (he0 : 0 ≤ e0 ∧ e0 ≤ 4) (hd : (([] : List Int).length : Int) = e0) {K : List AV → Ah → Prop}
    (hK : ∀ A' lr', Sub A' (core e0 rs le ls lf lr' (enumS rs bit 0 ([] : List Int) ([] : List RunD)) ++ RA lr' (enumS rs bit 0 ([] : List Int) ([] : List RunD))) → K [] A') :
    aB ⟨how1, iso, sh⟩ n ir49 (.int .i64 bit :: .nilsl :: .ptr ls 0 0 :: .ptr le 0 0 :: .ptr lf 0 0 :: .undef :: .undef :: .undef :: .undef :: .undef :: .undef :: .undef :: .undef :: .undef :: .undef :: .undef :: .undef :: .undef :: .undef :: .undef :: .undef :: .undef :: .undef :: .undef :: .undef :: .undef :: .undef :: .undef :: .undef :: .undef :: .undef :: .undef :: .undef :: .undef :: .undef :: .undef :: .undef :: .undef :: .undef :: .undef :: .undef :: .undef :: .undef :: .undef :: .undef :: .undef :: .undef :: .undef :: .undef :: .undef :: .undef :: .undef :: .undef :: .undef :: .undef :: .undef :: .undef :: .undef :: .undef :: .undef :: .undef :: .undef :: .undef :: .undef :: .undef :: .undef :: .undef :: .undef :: []) [(le, some (.cells (eC e0 rs) 0 0 false false)), (ls, some (.cells [.int .i64 2, .int .i64 1, .int .i64 (e0 + 1), .nilsl] 0 0 false false)), (lf, some (.cells [.func 49 [.ptr ls 0 0, .ptr le 0 0, .ptr lf 0 0]] 0 0 false false))] K := by
  have hen : enumS rs bit 0 ([] : List Int) ([] : List RunD) = if ([] : List RunD).length > 64 then ([] : List RunD) else ([] : List RunD) ++ [runD rs bit ([] : List Int)] := by simp only [enumS]
  rw [hen] at hK
  simp only [List.length_cons, List.length_nil] at hd ha hK
  repeat' ((conv => whnf); first | refine ⟨rfl, fun hc => ?_, fun hc => ?_⟩ | refine ⟨fun hc => ?_, fun hc => ?_⟩ | refine ⟨rfl, _, wrap64 (by omega) (by omega), ?_⟩ | refine ⟨_, wrap64 (by omega) (by omega), ?_⟩ | refine ⟨_, wrapU (by omega) (by omega), ?_⟩ | refine ⟨rfl, rfl, ?_⟩ | refine ⟨_, _, _, _, _, gi (by repeat first | exact .hd | apply In.tl), ?_⟩ | refine ⟨_, _, _, _, gi (by repeat first | exact .hd | apply In.tl), ⟨rfl, by exact leb rfl, by exact rfl⟩, ?_⟩ | refine ⟨_, gi (by repeat first | exact .hd | apply In.tl), ?_⟩ | refine ⟨⟨rfl, leb rfl⟩, ?_⟩ | refine ⟨⟨by decide, by decide⟩, ?_⟩ | refine ⟨rfl, ?_⟩ | refine ⟨leb rfl, ?_⟩ | refine ⟨by decide, ?_⟩ | refine .inr ⟨⟨leb rfl, leb rfl, rfl, rfl⟩, ?_⟩ | fail)
  · exact absurd hc (by decide)
  rename_i c0
  rw [if_neg (by decide)] at hK
  · refine ⟨_, _, _, false, FrzL.frz (.cons (.agg (d := 11) (.cons (.self (d := 10) rfl) (.cons (.self (d := 10) rfl) .nil))) (.cons (.self (d := 11) rfl) (.cons (.nilsl (d := 11)) .nil))), hi.run (e0 := e0) hok, rfl, ?_⟩
    repeat' ((conv => whnf); first | refine ⟨rfl, fun hc => ?_, fun hc => ?_⟩ | refine ⟨fun hc => ?_, fun hc => ?_⟩ | refine ⟨rfl, _, wrap64 (by omega) (by omega), ?_⟩ | refine ⟨_, wrap64 (by omega) (by omega), ?_⟩ | refine ⟨_, wrapU (by omega) (by omega), ?_⟩ | refine ⟨rfl, rfl, ?_⟩ | refine ⟨_, _, _, _, _, gi (by repeat first | exact .hd | apply In.tl), ?_⟩ | refine ⟨_, _, _, _, gi (by repeat first | exact .hd | apply In.tl), ⟨rfl, by exact leb rfl, by exact rfl⟩, ?_⟩ | refine ⟨_, gi (by repeat first | exact .hd | apply In.tl), ?_⟩ | refine ⟨⟨rfl, leb rfl⟩, ?_⟩ | refine ⟨⟨by decide, by decide⟩, ?_⟩ | refine ⟨rfl, ?_⟩ | refine ⟨leb rfl, ?_⟩ | refine ⟨by decide, ?_⟩ | refine .inr ⟨⟨leb rfl, leb rfl, rfl, rfl⟩, ?_⟩ | fail)
    intro l7 hl7
    repeat' ((conv => whnf); first | refine ⟨rfl, fun hc => ?_, fun hc => ?_⟩ | refine ⟨fun hc => ?_, fun hc => ?_⟩ | refine ⟨rfl, _, wrap64 (by omega) (by omega), ?_⟩ | refine ⟨_, wrap64 (by omega) (by omega), ?_⟩ | refine ⟨_, wrapU (by omega) (by omega), ?_⟩ | refine ⟨rfl, rfl, ?_⟩ | refine ⟨_, _, _, _, _, gi (by repeat first | exact .hd | apply In.tl), ?_⟩ | refine ⟨_, _, _, _, gi (by repeat first | exact .hd | apply In.tl), ⟨rfl, by exact leb rfl, by exact rfl⟩, ?_⟩ | refine ⟨_, gi (by repeat first | exact .hd | apply In.tl), ?_⟩ | refine ⟨⟨rfl, leb rfl⟩, ?_⟩ | refine ⟨⟨by decide, by decide⟩, ?_⟩ | refine ⟨rfl, ?_⟩ | refine ⟨leb rfl, ?_⟩ | refine ⟨by decide, ?_⟩ | refine .inr ⟨⟨leb rfl, leb rfl, rfl, rfl⟩, ?_⟩ | fail)
    intro lr hlr
    repeat' ((conv => whnf); first | refine ⟨rfl, fun hc => ?_, fun hc => ?_⟩ | refine ⟨fun hc => ?_, fun hc => ?_⟩ | refine ⟨rfl, _, wrap64 (by omega) (by omega), ?_⟩ | refine ⟨_, wrap64 (by omega) (by omega), ?_⟩ | refine ⟨_, wrapU (by omega) (by omega), ?_⟩ | refine ⟨rfl, rfl, ?_⟩ | refine ⟨_, _, _, _, _, gi (by repeat first | exact .hd | apply In.tl), ?_⟩ | refine ⟨_, _, _, _, gi (by repeat first | exact .hd | apply In.tl), ⟨rfl, by exact leb rfl, by exact rfl⟩, ?_⟩ | refine ⟨_, gi (by repeat first | exact .hd | apply In.tl), ?_⟩ | refine ⟨⟨rfl, leb rfl⟩, ?_⟩ | refine ⟨⟨by decide, by decide⟩, ?_⟩ | refine ⟨rfl, ?_⟩ | refine ⟨leb rfl, ?_⟩ | refine ⟨by decide, ?_⟩ | refine .inr ⟨⟨leb rfl, leb rfl, rfl, rfl⟩, ?_⟩ | fail)
    exact hK _ lr (Sub.pick [0, 1, 2, 4] rfl)
  · exact (hc (by first | exact hd | (simpa using hd) | omega)).elim


set_option maxRecDepth 100000 in
set_option maxHeartbeats 1000000 in
theorem leaf01 {e0 bit : Int} {rs : List Rule} {iso : Nat → List AV → Option (List AV)} {sh : Nat → List AV → Hp → Option (List AV × Hp)} (hi : IsoH iso) {n : Nat} {le ls lf lr : Nat} {y : RunD} {ys : List RunD} (hok : runOk rs bit ([] : List Int)) (ha : (y :: ys).length ≤ 65) (he0 : 0 ≤ e0 ∧ e0 ≤ 4) (hd : (([] : List Int).length : Int) = e0) {K : List AV → Ah → Prop}
    (hK : ∀ A' lr', Sub A' (core e0 rs le ls lf lr' (enumS rs bit 0 ([] : List Int) (y :: ys)) ++ RA lr' (enumS rs bit 0 ([] : List Int) (y :: ys))) → K [] A') :
    aB ⟨how1, iso, sh⟩ n ir49 (.int .i64 bit :: .nilsl :: .ptr ls 0 0 :: .ptr le 0 0 :: .ptr lf 0 0 :: .undef :: .undef :: .undef :: .undef :: .undef :: .undef :: .undef :: .undef :: .undef :: .undef :: .undef :: .undef :: .undef :: .undef :: .undef :: .undef :: .undef :: .undef :: .undef :: .undef :: .undef :: .undef :: .undef :: .undef :: .undef :: .undef :: .undef :: .undef :: .undef :: .undef :: .undef :: .undef :: .undef :: .undef :: .undef :: .undef :: .undef :: .undef :: .undef :: .undef :: .undef :: .undef :: .undef :: .undef :: .undef :: .undef :: .undef :: .undef :: .undef :: .undef :: .undef :: .undef :: .undef :: .undef :: .undef :: .undef :: .undef :: .undef :: .undef :: .undef :: .undef :: .undef :: .undef :: []) [(le, some (.cells (eC e0 rs) 0 0 false false)), (ls, some (.cells [.int .i64 2, .int .i64 1, .int .i64 (e0 + 1), .ref lr 0 (ys.length + 1) (ys.length + 1) 2] 0 0 false false)), (lf, some (.cells [.func 49 [.ptr ls 0 0, .ptr le 0 0, .ptr lf 0 0]] 0 0 false false)), (lr, some (.cells (runsF (y :: ys)) 2 (ys.length + 1) true false))] K := by
  have hen : enumS rs bit 0 ([] : List Int) (y :: ys) = if (y :: ys).length > 64 then (y :: ys) else (y :: ys) ++ [runD rs bit ([] : List Int)] := by simp only [enumS]
  rw [hen] at hK
  simp only [List.length_cons, List.length_nil] at hd ha hK
  repeat' ((conv => whnf); first | refine ⟨rfl, fun hc => ?_, fun hc => ?_⟩ | refine ⟨fun hc => ?_, fun hc => ?_⟩ | refine ⟨rfl, _, wrap64 (by omega) (by omega), ?_⟩ | refine ⟨_, wrap64 (by omega) (by omega), ?_⟩ | refine ⟨_, wrapU (by omega) (by omega), ?_⟩ | refine ⟨rfl, rfl, ?_⟩ | refine ⟨_, _, _, _, _, gi (by repeat first | exact .hd | apply In.tl), ?_⟩ | refine ⟨_, _, _, _, gi (by repeat first | exact .hd | apply In.tl), ⟨rfl, by exact leb rfl, by exact rfl⟩, ?_⟩ | refine ⟨_, gi (by repeat first | exact .hd | apply In.tl), ?_⟩ | refine ⟨⟨rfl, leb rfl⟩, ?_⟩ | refine ⟨⟨by decide, by decide⟩, ?_⟩ | refine ⟨rfl, ?_⟩ | refine ⟨leb rfl, ?_⟩ | refine ⟨by decide, ?_⟩ | refine .inr ⟨⟨leb rfl, leb rfl, rfl, rfl⟩, ?_⟩ | fail)
  · rw [if_pos (by omega)] at hK
    exact hK _ lr (Sub.pick [0, 1, 2, 3] rfl)
  rename_i c0
  rw [if_neg (by omega)] at hK
  · refine ⟨_, _, _, false, FrzL.frz (.cons (.agg (d := 11) (.cons (.self (d := 10) rfl) (.cons (.self (d := 10) rfl) .nil))) (.cons (.self (d := 11) rfl) (.cons (.nilsl (d := 11)) .nil))), hi.run (e0 := e0) hok, rfl, ?_⟩
    repeat' ((conv => whnf); first | refine ⟨rfl, fun hc => ?_, fun hc => ?_⟩ | refine ⟨fun hc => ?_, fun hc => ?_⟩ | refine ⟨rfl, _, wrap64 (by omega) (by omega), ?_⟩ | refine ⟨_, wrap64 (by omega) (by omega), ?_⟩ | refine ⟨_, wrapU (by omega) (by omega), ?_⟩ | refine ⟨rfl, rfl, ?_⟩ | refine ⟨_, _, _, _, _, gi (by repeat first | exact .hd | apply In.tl), ?_⟩ | refine ⟨_, _, _, _, gi (by repeat first | exact .hd | apply In.tl), ⟨rfl, by exact leb rfl, by exact rfl⟩, ?_⟩ | refine ⟨_, gi (by repeat first | exact .hd | apply In.tl), ?_⟩ | refine ⟨⟨rfl, leb rfl⟩, ?_⟩ | refine ⟨⟨by decide, by decide⟩, ?_⟩ | refine ⟨rfl, ?_⟩ | refine ⟨leb rfl, ?_⟩ | refine ⟨by decide, ?_⟩ | refine .inr ⟨⟨leb rfl, leb rfl, rfl, rfl⟩, ?_⟩ | fail)
    intro l7 hl7
    repeat' ((conv => whnf); first | refine ⟨rfl, fun hc => ?_, fun hc => ?_⟩ | refine ⟨fun hc => ?_, fun hc => ?_⟩ | refine ⟨rfl, _, wrap64 (by omega) (by omega), ?_⟩ | refine ⟨_, wrap64 (by omega) (by omega), ?_⟩ | refine ⟨_, wrapU (by omega) (by omega), ?_⟩ | refine ⟨rfl, rfl, ?_⟩ | refine ⟨_, _, _, _, _, gi (by repeat first | exact .hd | apply In.tl), ?_⟩ | refine ⟨_, _, _, _, gi (by repeat first | exact .hd | apply In.tl), ⟨rfl, by exact leb rfl, by exact rfl⟩, ?_⟩ | refine ⟨_, gi (by repeat first | exact .hd | apply In.tl), ?_⟩ | refine ⟨⟨rfl, leb rfl⟩, ?_⟩ | refine ⟨⟨by decide, by decide⟩, ?_⟩ | refine ⟨rfl, ?_⟩ | refine ⟨leb rfl, ?_⟩ | refine ⟨by decide, ?_⟩ | refine .inr ⟨⟨leb rfl, leb rfl, rfl, rfl⟩, ?_⟩ | fail)
    refine ⟨3, _, _, rfl, ⟨rfl, by rw [runsF_len]; simp, rfl, (by show ys.length + 1 + 1 < 4294967296; omega), rfl⟩, .inr ⟨Nat.le_of_ble_eq_true rfl, ?_⟩⟩
    repeat' ((conv => whnf); first | refine ⟨rfl, fun hc => ?_, fun hc => ?_⟩ | refine ⟨fun hc => ?_, fun hc => ?_⟩ | refine ⟨rfl, _, wrap64 (by omega) (by omega), ?_⟩ | refine ⟨_, wrap64 (by omega) (by omega), ?_⟩ | refine ⟨_, wrapU (by omega) (by omega), ?_⟩ | refine ⟨rfl, rfl, ?_⟩ | refine ⟨_, _, _, _, _, gi (by repeat first | exact .hd | apply In.tl), ?_⟩ | refine ⟨_, _, _, _, gi (by repeat first | exact .hd | apply In.tl), ⟨rfl, by exact leb rfl, by exact rfl⟩, ?_⟩ | refine ⟨_, gi (by repeat first | exact .hd | apply In.tl), ?_⟩ | refine ⟨⟨rfl, leb rfl⟩, ?_⟩ | refine ⟨⟨by decide, by decide⟩, ?_⟩ | refine ⟨rfl, ?_⟩ | refine ⟨leb rfl, ?_⟩ | refine ⟨by decide, ?_⟩ | refine .inr ⟨⟨leb rfl, leb rfl, rfl, rfl⟩, ?_⟩ | fail)
    refine hK _ lr ?_
    rw [RA_app, core, RV_app, runsF_app]
    exact Sub.pick [0, 1, 2, 3] rfl
  · exact (hc (by first | exact hd | (simpa using hd) | omega)).elim


set_option maxRecDepth 100000 in
set_option maxHeartbeats 1000000 in
theorem leaf10 {e0 bit : Int} {rs : List Rule} {iso : Nat → List AV → Option (List AV)} {sh : Nat → List AV → Hp → Option (List AV × Hp)} (hi : IsoH iso) {n : Nat} {le ls lf lx g : Nat} {z : Int} {zs : List Int} (hok : runOk rs bit (z :: zs)) (ha : ([] : List RunD).length ≤ 65) (he0 : 0 ≤ e0 ∧ e0 ≤ 4) (hd : ((z :: zs).length : Int) = e0) {K : List AV → Ah → Prop}
    (hK : ∀ A' lr', Sub A' (core e0 rs le ls lf lr' (enumS rs bit 0 (z :: zs) ([] : List RunD)) ++ RA lr' (enumS rs bit 0 (z :: zs) ([] : List RunD))) → K [] A') :
    aB ⟨how1, iso, sh⟩ n ir49 (.int .i64 bit :: (.ref lx 0 (zs.length + 1) g 1) :: .ptr ls 0 0 :: .ptr le 0 0 :: .ptr lf 0 0 :: .undef :: .undef :: .undef :: .undef :: .undef :: .undef :: .undef :: .undef :: .undef :: .undef :: .undef :: .undef :: .undef :: .undef :: .undef :: .undef :: .undef :: .undef :: .undef :: .undef :: .undef :: .undef :: .undef :: .undef :: .undef :: .undef :: .undef :: .undef :: .undef :: .undef :: .undef :: .undef :: .undef :: .undef :: .undef :: .undef :: .undef :: .undef :: .undef :: .undef :: .undef :: .undef :: .undef :: .undef :: .undef :: .undef :: .undef :: .undef :: .undef :: .undef :: .undef :: .undef :: .undef :: .undef :: .undef :: .undef :: .undef :: .undef :: .undef :: .undef :: .undef :: .undef :: .undef :: []) [(le, some (.cells (eC e0 rs) 0 0 false false)), (ls, some (.cells [.int .i64 2, .int .i64 1, .int .i64 (e0 + 1), .nilsl] 0 0 false false)), (lf, some (.cells [.func 49 [.ptr ls 0 0, .ptr le 0 0, .ptr lf 0 0]] 0 0 false false)), (lx, some (.cells (lostF (z :: zs)) 1 g true false))] K := by
  have hen : enumS rs bit 0 (z :: zs) ([] : List RunD) = if ([] : List RunD).length > 64 then ([] : List RunD) else ([] : List RunD) ++ [runD rs bit (z :: zs)] := by simp only [enumS]
  rw [hen] at hK
  simp only [List.length_cons, List.length_nil] at hd ha hK
  repeat' ((conv => whnf); first | refine ⟨rfl, fun hc => ?_, fun hc => ?_⟩ | refine ⟨fun hc => ?_, fun hc => ?_⟩ | refine ⟨rfl, _, wrap64 (by omega) (by omega), ?_⟩ | refine ⟨_, wrap64 (by omega) (by omega), ?_⟩ | refine ⟨_, wrapU (by omega) (by omega), ?_⟩ | refine ⟨rfl, rfl, ?_⟩ | refine ⟨_, _, _, _, _, gi (by repeat first | exact .hd | apply In.tl), ?_⟩ | refine ⟨_, _, _, _, gi (by repeat first | exact .hd | apply In.tl), ⟨rfl, by exact leb rfl, by exact rfl⟩, ?_⟩ | refine ⟨_, gi (by repeat first | exact .hd | apply In.tl), ?_⟩ | refine ⟨⟨rfl, leb rfl⟩, ?_⟩ | refine ⟨⟨by decide, by decide⟩, ?_⟩ | refine ⟨rfl, ?_⟩ | refine ⟨leb rfl, ?_⟩ | refine ⟨by decide, ?_⟩ | refine .inr ⟨⟨leb rfl, leb rfl, rfl, rfl⟩, ?_⟩ | fail)
  · exact absurd hc (by decide)
  rename_i c0
  rw [if_neg (by decide)] at hK
  · refine ⟨_, _, _, false, FrzL.frz (.cons (.agg (d := 11) (.cons (.self (d := 10) rfl) (.cons (.self (d := 10) rfl) .nil))) (.cons (.self (d := 11) rfl) (.cons (.row (i := 3) (d := 10) rfl (cut_all (lostF_len (z :: zs))) (lostF_self (z :: zs)) ((chunk_all1 (lostF_len (z :: zs))).trans (lostF_ints (z :: zs)))) .nil))), hi.run (e0 := e0) hok, rfl, ?_⟩
    repeat' ((conv => whnf); first | refine ⟨rfl, fun hc => ?_, fun hc => ?_⟩ | refine ⟨fun hc => ?_, fun hc => ?_⟩ | refine ⟨rfl, _, wrap64 (by omega) (by omega), ?_⟩ | refine ⟨_, wrap64 (by omega) (by omega), ?_⟩ | refine ⟨_, wrapU (by omega) (by omega), ?_⟩ | refine ⟨rfl, rfl, ?_⟩ | refine ⟨_, _, _, _, _, gi (by repeat first | exact .hd | apply In.tl), ?_⟩ | refine ⟨_, _, _, _, gi (by repeat first | exact .hd | apply In.tl), ⟨rfl, by exact leb rfl, by exact rfl⟩, ?_⟩ | refine ⟨_, gi (by repeat first | exact .hd | apply In.tl), ?_⟩ | refine ⟨⟨rfl, leb rfl⟩, ?_⟩ | refine ⟨⟨by decide, by decide⟩, ?_⟩ | refine ⟨rfl, ?_⟩ | refine ⟨leb rfl, ?_⟩ | refine ⟨by decide, ?_⟩ | refine .inr ⟨⟨leb rfl, leb rfl, rfl, rfl⟩, ?_⟩ | fail)
    intro l7 hl7
    repeat' ((conv => whnf); first | refine ⟨rfl, fun hc => ?_, fun hc => ?_⟩ | refine ⟨fun hc => ?_, fun hc => ?_⟩ | refine ⟨rfl, _, wrap64 (by omega) (by omega), ?_⟩ | refine ⟨_, wrap64 (by omega) (by omega), ?_⟩ | refine ⟨_, wrapU (by omega) (by omega), ?_⟩ | refine ⟨rfl, rfl, ?_⟩ | refine ⟨_, _, _, _, _, gi (by repeat first | exact .hd | apply In.tl), ?_⟩ | refine ⟨_, _, _, _, gi (by repeat first | exact .hd | apply In.tl), ⟨rfl, by exact leb rfl, by exact rfl⟩, ?_⟩ | refine ⟨_, gi (by repeat first | exact .hd | apply In.tl), ?_⟩ | refine ⟨⟨rfl, leb rfl⟩, ?_⟩ | refine ⟨⟨by decide, by decide⟩, ?_⟩ | refine ⟨rfl, ?_⟩ | refine ⟨leb rfl, ?_⟩ | refine ⟨by decide, ?_⟩ | refine .inr ⟨⟨leb rfl, leb rfl, rfl, rfl⟩, ?_⟩ | fail)
    intro lr hlr
    repeat' ((conv => whnf); first | refine ⟨rfl, fun hc => ?_, fun hc => ?_⟩ | refine ⟨fun hc => ?_, fun hc => ?_⟩ | refine ⟨rfl, _, wrap64 (by omega) (by omega), ?_⟩ | refine ⟨_, wrap64 (by omega) (by omega), ?_⟩ | refine ⟨_, wrapU (by omega) (by omega), ?_⟩ | refine ⟨rfl, rfl, ?_⟩ | refine ⟨_, _, _, _, _, gi (by repeat first | exact .hd | apply In.tl), ?_⟩ | refine ⟨_, _, _, _, gi (by repeat first | exact .hd | apply In.tl), ⟨rfl, by exact leb rfl, by exact rfl⟩, ?_⟩ | refine ⟨_, gi (by repeat first | exact .hd | apply In.tl), ?_⟩ | refine ⟨⟨rfl, leb rfl⟩, ?_⟩ | refine ⟨⟨by decide, by decide⟩, ?_⟩ | refine ⟨rfl, ?_⟩ | refine ⟨leb rfl, ?_⟩ | refine ⟨by decide, ?_⟩ | refine .inr ⟨⟨leb rfl, leb rfl, rfl, rfl⟩, ?_⟩ | fail)
    exact hK _ lr (Sub.pick [0, 1, 2, 5] rfl)
  · exact (hc (by first | exact hd | (simpa using hd) | omega)).elim


set_option maxRecDepth 100000 in
set_option maxHeartbeats 1000000 in
theorem leaf11 {e0 bit : Int} {rs : List Rule} {iso : Nat → List AV → Option (List AV)} {sh : Nat → List AV → Hp → Option (List AV × Hp)} (hi : IsoH iso) {n : Nat} {le ls lf lx g lr : Nat} {z : Int} {zs : List Int} {y : RunD} {ys : List RunD} (hok : runOk rs bit (z :: zs)) (ha : (y :: ys).length ≤ 65) (he0 : 0 ≤ e0 ∧ e0 ≤ 4) (hd : ((z :: zs).length : Int) = e0) {K : List AV → Ah → Prop}
    (hK : ∀ A' lr', Sub A' (core e0 rs le ls lf lr' (enumS rs bit 0 (z :: zs) (y :: ys)) ++ RA lr' (enumS rs bit 0 (z :: zs) (y :: ys))) → K [] A') :
    aB ⟨how1, iso, sh⟩ n ir49 (.int .i64 bit :: (.ref lx 0 (zs.length + 1) g 1) :: .ptr ls 0 0 :: .ptr le 0 0 :: .ptr lf 0 0 :: .undef :: .undef :: .undef :: .undef :: .undef :: .undef :: .undef :: .undef :: .undef :: .undef :: .undef :: .undef :: .undef :: .undef :: .undef :: .undef :: .undef :: .undef :: .undef :: .undef :: .undef :: .undef :: .undef :: .undef :: .undef :: .undef :: .undef :: .undef :: .undef :: .undef :: .undef :: .undef :: .undef :: .undef :: .undef :: .undef :: .undef :: .undef :: .undef :: .undef :: .undef :: .undef :: .undef :: .undef :: .undef :: .undef :: .undef :: .undef :: .undef :: .undef :: .undef :: .undef :: .undef :: .undef :: .undef :: .undef :: .undef :: .undef :: .undef :: .undef :: .undef :: .undef :: .undef :: []) [(le, some (.cells (eC e0 rs) 0 0 false false)), (ls, some (.cells [.int .i64 2, .int .i64 1, .int .i64 (e0 + 1), .ref lr 0 (ys.length + 1) (ys.length + 1) 2] 0 0 false false)), (lf, some (.cells [.func 49 [.ptr ls 0 0, .ptr le 0 0, .ptr lf 0 0]] 0 0 false false)), (lx, some (.cells (lostF (z :: zs)) 1 g true false)), (lr, some (.cells (runsF (y :: ys)) 2 (ys.length + 1) true false))] K := by
  have hen : enumS rs bit 0 (z :: zs) (y :: ys) = if (y :: ys).length > 64 then (y :: ys) else (y :: ys) ++ [runD rs bit (z :: zs)] := by simp only [enumS]
  rw [hen] at hK
  simp only [List.length_cons, List.length_nil] at hd ha hK
  repeat' ((conv => whnf); first | refine ⟨rfl, fun hc => ?_, fun hc => ?_⟩ | refine ⟨fun hc => ?_, fun hc => ?_⟩ | refine ⟨rfl, _, wrap64 (by omega) (by omega), ?_⟩ | refine ⟨_, wrap64 (by omega) (by omega), ?_⟩ | refine ⟨_, wrapU (by omega) (by omega), ?_⟩ | refine ⟨rfl, rfl, ?_⟩ | refine ⟨_, _, _, _, _, gi (by repeat first | exact .hd | apply In.tl), ?_⟩ | refine ⟨_, _, _, _, gi (by repeat first | exact .hd | apply In.tl), ⟨rfl, by exact leb rfl, by exact rfl⟩, ?_⟩ | refine ⟨_, gi (by repeat first | exact .hd | apply In.tl), ?_⟩ | refine ⟨⟨rfl, leb rfl⟩, ?_⟩ | refine ⟨⟨by decide, by decide⟩, ?_⟩ | refine ⟨rfl, ?_⟩ | refine ⟨leb rfl, ?_⟩ | refine ⟨by decide, ?_⟩ | refine .inr ⟨⟨leb rfl, leb rfl, rfl, rfl⟩, ?_⟩ | fail)
  · rw [if_pos (by omega)] at hK
    exact hK _ lr (Sub.pick [0, 1, 2, 4] rfl)
  rename_i c0
  rw [if_neg (by omega)] at hK
  · refine ⟨_, _, _, false, FrzL.frz (.cons (.agg (d := 11) (.cons (.self (d := 10) rfl) (.cons (.self (d := 10) rfl) .nil))) (.cons (.self (d := 11) rfl) (.cons (.row (i := 3) (d := 10) rfl (cut_all (lostF_len (z :: zs))) (lostF_self (z :: zs)) ((chunk_all1 (lostF_len (z :: zs))).trans (lostF_ints (z :: zs)))) .nil))), hi.run (e0 := e0) hok, rfl, ?_⟩
    repeat' ((conv => whnf); first | refine ⟨rfl, fun hc => ?_, fun hc => ?_⟩ | refine ⟨fun hc => ?_, fun hc => ?_⟩ | refine ⟨rfl, _, wrap64 (by omega) (by omega), ?_⟩ | refine ⟨_, wrap64 (by omega) (by omega), ?_⟩ | refine ⟨_, wrapU (by omega) (by omega), ?_⟩ | refine ⟨rfl, rfl, ?_⟩ | refine ⟨_, _, _, _, _, gi (by repeat first | exact .hd | apply In.tl), ?_⟩ | refine ⟨_, _, _, _, gi (by repeat first | exact .hd | apply In.tl), ⟨rfl, by exact leb rfl, by exact rfl⟩, ?_⟩ | refine ⟨_, gi (by repeat first | exact .hd | apply In.tl), ?_⟩ | refine ⟨⟨rfl, leb rfl⟩, ?_⟩ | refine ⟨⟨by decide, by decide⟩, ?_⟩ | refine ⟨rfl, ?_⟩ | refine ⟨leb rfl, ?_⟩ | refine ⟨by decide, ?_⟩ | refine .inr ⟨⟨leb rfl, leb rfl, rfl, rfl⟩, ?_⟩ | fail)
    intro l7 hl7
    repeat' ((conv => whnf); first | refine ⟨rfl, fun hc => ?_, fun hc => ?_⟩ | refine ⟨fun hc => ?_, fun hc => ?_⟩ | refine ⟨rfl, _, wrap64 (by omega) (by omega), ?_⟩ | refine ⟨_, wrap64 (by omega) (by omega), ?_⟩ | refine ⟨_, wrapU (by omega) (by omega), ?_⟩ | refine ⟨rfl, rfl, ?_⟩ | refine ⟨_, _, _, _, _, gi (by repeat first | exact .hd | apply In.tl), ?_⟩ | refine ⟨_, _, _, _, gi (by repeat first | exact .hd | apply In.tl), ⟨rfl, by exact leb rfl, by exact rfl⟩, ?_⟩ | refine ⟨_, gi (by repeat first | exact .hd | apply In.tl), ?_⟩ | refine ⟨⟨rfl, leb rfl⟩, ?_⟩ | refine ⟨⟨by decide, by decide⟩, ?_⟩ | refine ⟨rfl, ?_⟩ | refine ⟨leb rfl, ?_⟩ | refine ⟨by decide, ?_⟩ | refine .inr ⟨⟨leb rfl, leb rfl, rfl, rfl⟩, ?_⟩ | fail)
    refine ⟨4, _, _, rfl, ⟨rfl, by rw [runsF_len]; simp, rfl, (by show ys.length + 1 + 1 < 4294967296; omega), rfl⟩, .inr ⟨Nat.le_of_ble_eq_true rfl, ?_⟩⟩
    repeat' ((conv => whnf); first | refine ⟨rfl, fun hc => ?_, fun hc => ?_⟩ | refine ⟨fun hc => ?_, fun hc => ?_⟩ | refine ⟨rfl, _, wrap64 (by omega) (by omega), ?_⟩ | refine ⟨_, wrap64 (by omega) (by omega), ?_⟩ | refine ⟨_, wrapU (by omega) (by omega), ?_⟩ | refine ⟨rfl, rfl, ?_⟩ | refine ⟨_, _, _, _, _, gi (by repeat first | exact .hd | apply In.tl), ?_⟩ | refine ⟨_, _, _, _, gi (by repeat first | exact .hd | apply In.tl), ⟨rfl, by exact leb rfl, by exact rfl⟩, ?_⟩ | refine ⟨_, gi (by repeat first | exact .hd | apply In.tl), ?_⟩ | refine ⟨⟨rfl, leb rfl⟩, ?_⟩ | refine ⟨⟨by decide, by decide⟩, ?_⟩ | refine ⟨rfl, ?_⟩ | refine ⟨leb rfl, ?_⟩ | refine ⟨by decide, ?_⟩ | refine .inr ⟨⟨leb rfl, leb rfl, rfl, rfl⟩, ?_⟩ | fail)
    refine hK _ lr ?_
    rw [RA_app, core, RV_app, runsF_app]
    exact Sub.pick [0, 1, 2, 4] rfl
  · exact (hc (by first | exact hd | (simpa using hd) | omega)).elim

end Go.Proofs.Ytlgbbabijifflaa.law1
