/- The law, walked. -/
import Derived.Test.YtlgbbabijifflaaL1F8
import Derived.Test.YtlgbbabijifflaaC10
set_option linter.unusedVariables false
set_option linter.unusedSimpArgs false
namespace Go.Proofs.Ytlgbbabijifflaa.law1
open Go Go.Ai Go.Proofs.Ytlgbbabijifflaa.L1R
open runs (RunD SysD runC sysC intsC dInt dAll locsC facsC dInts dSys dSys_C dRun dRuns dRun_C runFine sysFine syncOk recOk g14 g15 g16)
/-- What the law asks of the two systems. -/
structure Good (S R : SysD) : Prop where
  fine : sysFine S
  chk : runs.chkS S = 0
  sync : syncOk S
  recl : recOk S
  fineR : sysFine R
  chkR : runs.chkS R = 0
  two : R.runs.length = 2
  most : 2 ≤ S.runs.length
  bits : ∀ i (h : i < S.runs.length), ∃ b r, (S.runs[i]).fac = b :: r ∧ (b = 0 ∨ b = 1)
  dist : ∀ i k (h : i < S.runs.length) (h2 : k < i), S.runs[i] ≠ S.runs[k]
  first : ∀ i (h : i < S.runs.length) (b : Nat) r (hb : b < R.runs.length), (S.runs[i]).fac = (b : Int) :: r → (∀ k (h2 : k < i), (S.runs[k]).fac.headD 0 ≠ (b : Int)) → S.runs[i] = R.runs[b]
  both : ∀ b : Int, b = 0 ∨ b = 1 → ∃ i, ∃ h : i < S.runs.length, (S.runs[i]).fac.headD 0 = b
  small : ∀ r ∈ S.runs, r.loc.length ≤ 100 ∧ r.fac.length ≤ 100 ∧ ∀ l ∈ r.loc, l.length ≤ 100
def relR (e0 : Int) (rs : List Rule) : List AV := if chkS e0 rs = 0 then [.agg (sysC (relS e0 rs)), .int .i64 0] else [.agg noSys, .int .i64 (chkS e0 rs)]
def g10 (args : List AV) : Option (List AV) := match args with
  | [] => some [.bool true]
  | _ => none
def g11 (args : List AV) : Option (List AV) := match args with
  | [.agg [.int .i64 e0, .list es]] => (toRules es).bind fun rs => if eOk e0 rs then some (lossyR e0 rs) else none
  | _ => none
def g12 (args : List AV) : Option (List AV) := match args with
  | [.agg [.int .i64 e0, .list es]] => (toRules es).bind fun rs => if eOk e0 rs then some (relR e0 rs) else none
  | _ => none
noncomputable def TL : Tab := [(10, ⟨.iso, g10⟩), (11, ⟨.iso, g11⟩), (12, ⟨.iso, g12⟩), (13, ⟨.iso, runs.g13⟩), (14, ⟨.iso, g14⟩), (15, ⟨.iso, g15⟩), (16, ⟨.iso, g16⟩)]
theorem h10 : (hands TL).iso 10 [] = some [.bool true] := rfl
theorem h11 {e0 : Int} {rs : List Rule} (h : eOk e0 rs) {r : List AV} (hr : lossyR e0 rs = r) : (hands TL).iso 11 [.agg (eC e0 rs)] = some r := by
  subst hr
  show (toRules (rs.map ruleC)).bind _ = _
  rw [toRules_map]
  exact if_pos h
theorem h12 {e0 : Int} {rs : List Rule} (h : eOk e0 rs) {r : List AV} (hr : relR e0 rs = r) : (hands TL).iso 12 [.agg (eC e0 rs)] = some r := by
  subst hr
  show (toRules (rs.map ruleC)).bind _ = _
  rw [toRules_map]
  exact if_pos h
theorem h13 {s : SysD} (h : sysFine s) {c : Int} (hc : runs.chkS s = c) : (hands TL).iso 13 [.agg (sysC s)] = some [.int .i64 c] := runs.h13 h hc
theorem h14 {s : SysD} (h : syncOk s) : (hands TL).iso 14 [.agg (sysC s)] = some [.bool true] := by
  show (dSys (sysC s)).bind _ = _
  rw [dSys_C]
  exact if_pos h
theorem h15 {s : SysD} (h : recOk s) : (hands TL).iso 15 [.agg (sysC s)] = some [.bool true] := by
  show (dSys (sysC s)).bind _ = _
  rw [dSys_C]
  exact if_pos h
theorem h16 {x y : RunD} (h : runFine x) {b : Bool} (hb : decide (x = y) = b) : (hands TL).iso 16 [.agg (runC x), .agg (runC y)] = some [.bool b] := by
  subst hb
  show (dRun (runC x)).bind _ = _
  rw [dRun_C, Option.bind_some, dRun_C]
  exact if_pos h
def seen (S : SysD) (i : Nat) (b : Int) : Bool := (S.runs.take i).any fun r => decide (r.fac.headD 0 = b)
theorem seen_succ {S : SysD} {i : Nat} (h : i < S.runs.length) (b : Int) : seen S (i + 1) b = (seen S i b || decide ((S.runs[i]).fac.headD 0 = b)) := by
  simp only [seen]
  rw [List.take_succ_eq_append_getElem h, List.any_append]
  simp
theorem seen_not {S : SysD} {i : Nat} {b : Int} (h : seen S i b = false) : ∀ k (h1 : k < S.runs.length) (h2 : k < i), (S.runs[k]).fac.headD 0 ≠ b := fun k h1 h2 e => by
  simp only [seen, List.any_eq_false, decide_eq_true_eq] at h
  refine h (S.runs[k]) ?_ e
  rw [List.mem_take_iff_getElem]
  exact ⟨k, by omega, rfl⟩
theorem seen_all {S : SysD} {b : Int} (h : ∃ i, ∃ h : i < S.runs.length, (S.runs[i]).fac.headD 0 = b) : seen S S.runs.length b = true := by
  obtain ⟨i, h1, h2⟩ := h
  simp only [seen, List.take_length, List.any_eq_true, decide_eq_true_eq]
  exact ⟨_, List.getElem_mem h1, h2⟩
theorem runs_len (rs : List RunD) : lenIs 2 (rs.map runC) = true := by cases rs <;> rfl
theorem runs_get {rs : List RunD} {k : Nat} (h : k < rs.length) : (rs.map runC)[((k : Nat) : Int).toNat]? = some (runC rs[k]) := by simp [h]
set_option maxRecDepth 100000 in
set_option maxHeartbeats 2000000 in
theorem run3 {n : Nat} {e0 : Int} {rs : List Rule} (he : eOk e0 rs) (hg : rs.length ≤ 100 → chkS e0 rs = 0 → (lossyS e0 rs).length ≤ 64 → Good ⟨2, 1, e0 + 1, lossyS e0 rs⟩ (relS e0 rs)) :
    aB (hands TL) (n + 100) ir3 (.agg (eC e0 rs) :: .undef :: .undef :: .undef :: .undef :: .undef :: .undef :: .undef :: .undef :: .undef :: .undef :: .undef :: .undef :: .undef :: .undef :: .undef :: .undef :: .undef :: .undef :: .undef :: .undef :: .undef :: .undef :: .undef :: .undef :: .undef :: .undef :: .undef :: .undef :: .undef :: .undef :: .undef :: .undef :: .undef :: .undef :: .undef :: .undef :: .undef :: .undef :: .undef :: .undef :: .undef :: .undef :: .undef :: .undef :: .undef :: .undef :: .undef :: .undef :: .undef :: .undef :: .undef :: .undef :: .undef :: .undef :: .undef :: .undef :: .undef :: .undef :: .undef :: .undef :: .undef :: .undef :: .undef :: .undef :: .undef :: .undef :: .undef :: .undef :: .undef :: .undef :: .undef :: .undef :: .undef :: .undef :: .undef :: .undef :: .undef :: .undef :: .undef :: .undef :: .undef :: .undef :: .undef :: .undef :: .undef :: .undef :: .undef :: .undef :: .undef :: .undef :: .undef :: .undef :: .undef :: .undef :: .undef :: .undef :: .undef :: .undef :: .undef :: .undef :: .undef :: .undef :: .undef :: .undef :: .undef :: .undef :: .undef :: .undef :: .undef :: .undef :: .undef :: .undef :: .undef :: .undef :: .undef :: .undef :: .undef :: .undef :: .undef :: .undef :: .undef :: []) [] fun rs' A => rs' = [.bool true] := by
  refine ⟨rfl, ?_⟩
  intro l1 hl1
  have e12 : ∃ y1 y2 y3 l d, relR e0 rs = [.agg [.int .i64 y1, .int .i64 y2, .int .i64 y3, .list l], .int .i64 d] := by
    unfold relR
    split
    · exact ⟨_, _, _, _, _, rfl⟩
    · exact ⟨_, _, _, _, _, rfl⟩
  by_cases hbad : chkS e0 rs = 0 ∧ (lossyS e0 rs).length ≤ 64
  · obtain ⟨h0, h64⟩ := hbad
    have e11 : lossyR e0 rs = [.agg (sysC ⟨2, 1, e0 + 1, lossyS e0 rs⟩), .int .i64 0] := by
      rw [lossyR, if_pos h0, if_neg (by omega)]
    have e12' : relR e0 rs = [.agg (sysC (relS e0 rs)), .int .i64 0] := if_pos h0
    repeat' ((conv => whnf); first | refine ⟨rfl, fun hc => ?_, fun hc => ?_⟩ | refine ⟨fun hc => ?_, fun hc => ?_⟩ | refine ⟨rfl, _, wrap64 (by omega) (by omega), ?_⟩ | refine ⟨_, wrap64 (by omega) (by omega), ?_⟩ | refine ⟨_, wrapU (by omega) (by omega), ?_⟩ | refine ⟨rfl, rfl, ?_⟩ | refine ⟨_, _, _, _, _, gi (by repeat first | exact .hd | apply In.tl), ?_⟩ | refine ⟨_, _, _, _, gi (by repeat first | exact .hd | apply In.tl), ⟨rfl, by exact leb rfl, by exact rfl⟩, ?_⟩ | refine ⟨_, gi (by repeat first | exact .hd | apply In.tl), ?_⟩ | refine ⟨⟨rfl, leb rfl⟩, ?_⟩ | refine ⟨⟨by decide, by decide⟩, ?_⟩ | refine ⟨rfl, ?_⟩ | refine ⟨leb rfl, ?_⟩ | refine ⟨by decide, ?_⟩ | refine .inr ⟨⟨leb rfl, leb rfl, rfl, rfl⟩, ?_⟩ | refine ⟨_, _, _, true, fun _ H hR => ⟨H, rfl, hR⟩, h10, rfl, ?_⟩ | refine ⟨_, _, _, false, fun _ H hR => ⟨H, rfl, hR⟩, h10, rfl, ?_⟩ | refine ⟨_, _, _, true, fun _ H hR => ⟨H, rfl, hR⟩, h11 he e11, rfl, ?_⟩ | refine ⟨_, _, _, false, fun _ H hR => ⟨H, rfl, hR⟩, h11 he e11, rfl, ?_⟩ | fail)
    · rfl
    have G := hg (by simp only [List.length_map] at hc; omega) h0 h64
    generalize hS : (⟨2, 1, e0 + 1, lossyS e0 rs⟩ : SysD) = S at G ⊢
    generalize relS e0 rs = R at G e12' ⊢
    intro l3 hl3
    repeat' ((conv => whnf); first | refine ⟨rfl, fun hc => ?_, fun hc => ?_⟩ | refine ⟨fun hc => ?_, fun hc => ?_⟩ | refine ⟨rfl, _, wrap64 (by omega) (by omega), ?_⟩ | refine ⟨_, wrap64 (by omega) (by omega), ?_⟩ | refine ⟨_, wrapU (by omega) (by omega), ?_⟩ | refine ⟨rfl, rfl, ?_⟩ | refine ⟨_, _, _, _, _, gi (by repeat first | exact .hd | apply In.tl), ?_⟩ | refine ⟨_, _, _, _, gi (by repeat first | exact .hd | apply In.tl), ⟨rfl, by exact leb rfl, by exact rfl⟩, ?_⟩ | refine ⟨_, gi (by repeat first | exact .hd | apply In.tl), ?_⟩ | refine ⟨⟨rfl, leb rfl⟩, ?_⟩ | refine ⟨⟨by decide, by decide⟩, ?_⟩ | refine ⟨rfl, ?_⟩ | refine ⟨leb rfl, ?_⟩ | refine ⟨by decide, ?_⟩ | refine .inr ⟨⟨leb rfl, leb rfl, rfl, rfl⟩, ?_⟩ | refine ⟨_, _, _, true, fun _ H hR => ⟨H, rfl, hR⟩, h12 he e12', rfl, ?_⟩ | refine ⟨_, _, _, false, fun _ H hR => ⟨H, rfl, hR⟩, h12 he e12', rfl, ?_⟩ | fail)
    intro l5 hl5
    have q2 := G.two
    have q3 := G.most
    have q4 : S.runs.length ≤ 64 := by rw [← hS]; exact h64
    repeat' ((conv => whnf); first | refine ⟨rfl, fun hc => (by first | exact absurd rfl hc | (simp only [List.length_map] at hc; omega)), fun _ => ?_⟩ | refine ⟨rfl, fun hc => ?_, fun hc => ?_⟩ | refine ⟨fun hc => ?_, fun hc => ?_⟩ | refine ⟨rfl, _, wrap64 (by omega) (by omega), ?_⟩ | refine ⟨_, wrap64 (by omega) (by omega), ?_⟩ | refine ⟨_, wrapU (by omega) (by omega), ?_⟩ | refine ⟨rfl, rfl, ?_⟩ | refine ⟨_, _, _, _, _, gi (by repeat first | exact .hd | apply In.tl), ?_⟩ | refine ⟨_, _, _, _, gi (by repeat first | exact .hd | apply In.tl), ⟨rfl, by exact leb rfl, by exact rfl⟩, ?_⟩ | refine ⟨_, gi (by repeat first | exact .hd | apply In.tl), ?_⟩ | refine ⟨⟨rfl, leb rfl⟩, ?_⟩ | refine ⟨⟨by decide, by decide⟩, ?_⟩ | refine ⟨rfl, ?_⟩ | refine ⟨leb rfl, ?_⟩ | refine ⟨by decide, ?_⟩ | refine .inr ⟨⟨leb rfl, leb rfl, rfl, rfl⟩, ?_⟩ | refine ⟨_, _, _, true, fun _ H hR => ⟨H, rfl, hR⟩, h13 G.fine G.chk, rfl, ?_⟩ | refine ⟨_, _, _, false, fun _ H hR => ⟨H, rfl, hR⟩, h13 G.fine G.chk, rfl, ?_⟩ | refine ⟨_, _, _, true, fun _ H hR => ⟨H, rfl, hR⟩, h13 G.fineR G.chkR, rfl, ?_⟩ | refine ⟨_, _, _, false, fun _ H hR => ⟨H, rfl, hR⟩, h13 G.fineR G.chkR, rfl, ?_⟩ | refine ⟨_, _, _, true, fun _ H hR => ⟨H, rfl, hR⟩, h14 G.sync, rfl, ?_⟩ | refine ⟨_, _, _, false, fun _ H hR => ⟨H, rfl, hR⟩, h14 G.sync, rfl, ?_⟩ | refine ⟨_, _, _, true, fun _ H hR => ⟨H, rfl, hR⟩, h15 G.recl, rfl, ?_⟩ | refine ⟨_, _, _, false, fun _ H hR => ⟨H, rfl, hR⟩, h15 G.recl, rfl, ?_⟩ | fail)
    intro l7 hl7
    repeat' ((conv => whnf); first | refine ⟨rfl, fun hc => ?_, fun hc => ?_⟩ | refine ⟨fun hc => ?_, fun hc => ?_⟩ | refine ⟨rfl, _, wrap64 (by omega) (by omega), ?_⟩ | refine ⟨_, wrap64 (by omega) (by omega), ?_⟩ | refine ⟨_, wrapU (by omega) (by omega), ?_⟩ | refine ⟨rfl, rfl, ?_⟩ | refine ⟨_, _, _, _, _, gi (by repeat first | exact .hd | apply In.tl), ?_⟩ | refine ⟨_, _, _, _, gi (by repeat first | exact .hd | apply In.tl), ⟨rfl, by exact leb rfl, by exact rfl⟩, ?_⟩ | refine ⟨_, gi (by repeat first | exact .hd | apply In.tl), ?_⟩ | refine ⟨⟨rfl, leb rfl⟩, ?_⟩ | refine ⟨⟨by decide, by decide⟩, ?_⟩ | refine ⟨rfl, ?_⟩ | refine ⟨leb rfl, ?_⟩ | refine ⟨by decide, ?_⟩ | refine .inr ⟨⟨leb rfl, leb rfl, rfl, rfl⟩, ?_⟩ | fail)
    refine aLoop_by (fun m env A => A = [(l1, some (.cells (eC e0 rs) 0 0 false false)), (l3, some (.cells (sysC S) 0 0 false false)), (l5, some (.cells (sysC R) 0 0 false false)), (l7, some (.cells [.bool (seen S (S.runs.length - m) 0), .bool (seen S (S.runs.length - m) 1)] 0 0 false false))] ∧ ∃ i : Nat, IEnv (fun g => (g 0 :: g 1 :: g 2 :: .ptr l3 0 0 :: g 4 :: .ptr l5 0 0 :: g 6 :: .ptr l7 0 0 :: g 8 :: g 9 :: g 10 :: g 11 :: g 12 :: g 13 :: g 14 :: g 15 :: g 16 :: g 17 :: g 18 :: g 19 :: g 20 :: g 21 :: g 22 :: g 23 :: g 24 :: g 25 :: g 26 :: g 27 :: g 28 :: g 29 :: g 30 :: g 31 :: g 32 :: g 33 :: g 34 :: g 35 :: g 36 :: g 37 :: g 38 :: g 39 :: g 40 :: g 41 :: g 42 :: g 43 :: g 44 :: g 45 :: g 46 :: g 47 :: g 48 :: g 49 :: g 50 :: g 51 :: g 52 :: g 53 :: g 54 :: g 55 :: g 56 :: g 57 :: g 58 :: g 59 :: g 60 :: g 61 :: g 62 :: g 63 :: g 64 :: g 65 :: g 66 :: g 67 :: g 68 :: g 69 :: g 70 :: g 71 :: .list (S.runs.map runC) :: .int .i64 (S.runs.map runC).length :: .int .i64 (i : Int) :: g 75 :: g 76 :: g 77 :: g 78 :: g 79 :: g 80 :: g 81 :: g 82 :: g 83 :: g 84 :: g 85 :: g 86 :: g 87 :: g 88 :: g 89 :: g 90 :: g 91 :: g 92 :: g 93 :: g 94 :: g 95 :: g 96 :: g 97 :: g 98 :: g 99 :: g 100 :: g 101 :: g 102 :: g 103 :: g 104 :: g 105 :: g 106 :: g 107 :: g 108 :: g 109 :: g 110 :: g 111 :: g 112 :: g 113 :: g 114 :: g 115 :: g 116 :: g 117 :: g 118 :: g 119 :: g 120 :: g 121 :: [])) env ∧ i ≤ S.runs.length ∧ m = S.runs.length - i) (m := S.runs.length) (.refl _) ⟨by simp [seen, sysC], 0, .mk rfl, by omega, by omega⟩ (by omega) ?_
    rintro m env A ⟨rfl, i, ⟨g, rfl⟩, hi, hm⟩
    rw [show S.runs.length - m = i by omega]
    refine ⟨rfl, fun h4 => ?_, fun h4 => ?_⟩
    · simp only [List.length_map] at h4
      have hi' : i < S.runs.length := by omega
      refine ⟨⟨by omega, by simp [List.length_map]; omega⟩, runs_len _, _, runs_get hi', ?_⟩
      have hsm := G.small _ (List.getElem_mem hi')
      obtain ⟨b, fr, hb1, hb2⟩ := G.bits i hi'
      intro l9 hl9
      repeat' ((conv => whnf); first | refine ⟨rfl, fun hc => ?_, fun hc => ?_⟩ | refine ⟨fun hc => ?_, fun hc => ?_⟩ | refine ⟨rfl, _, wrap64 (by omega) (by omega), ?_⟩ | refine ⟨_, wrap64 (by omega) (by omega), ?_⟩ | refine ⟨_, wrapU (by omega) (by omega), ?_⟩ | refine ⟨rfl, rfl, ?_⟩ | refine ⟨_, _, _, _, _, gi (by repeat first | exact .hd | apply In.tl), ?_⟩ | refine ⟨_, _, _, _, gi (by repeat first | exact .hd | apply In.tl), ⟨rfl, by exact leb rfl, by exact rfl⟩, ?_⟩ | refine ⟨_, gi (by repeat first | exact .hd | apply In.tl), ?_⟩ | refine ⟨⟨rfl, leb rfl⟩, ?_⟩ | refine ⟨⟨by decide, by decide⟩, ?_⟩ | refine ⟨rfl, ?_⟩ | refine ⟨leb rfl, ?_⟩ | refine ⟨by decide, ?_⟩ | refine .inr ⟨⟨leb rfl, leb rfl, rfl, rfl⟩, ?_⟩ | fail)
      refine aLoop_by (fun m env A => A = [(l1, some (.cells (eC e0 rs) 0 0 false false)), (l3, some (.cells (sysC S) 0 0 false false)), (l5, some (.cells (sysC R) 0 0 false false)), (l7, some (.cells [.bool (seen S i 0), .bool (seen S i 1)] 0 0 false false)), (l9, some (.cells (runC S.runs[i]) 0 0 false false))] ∧ ∃ k : Nat, IEnv (fun g => (g 0 :: g 1 :: g 2 :: .ptr l3 0 0 :: g 4 :: .ptr l5 0 0 :: g 6 :: .ptr l7 0 0 :: g 8 :: .ptr l9 0 0 :: g 10 :: g 11 :: g 12 :: g 13 :: g 14 :: g 15 :: g 16 :: g 17 :: g 18 :: g 19 :: g 20 :: g 21 :: g 22 :: g 23 :: g 24 :: g 25 :: g 26 :: g 27 :: g 28 :: g 29 :: g 30 :: g 31 :: g 32 :: g 33 :: g 34 :: g 35 :: g 36 :: g 37 :: g 38 :: g 39 :: g 40 :: g 41 :: g 42 :: g 43 :: g 44 :: g 45 :: g 46 :: g 47 :: g 48 :: g 49 :: g 50 :: g 51 :: g 52 :: g 53 :: g 54 :: g 55 :: g 56 :: g 57 :: g 58 :: g 59 :: g 60 :: g 61 :: g 62 :: g 63 :: g 64 :: g 65 :: g 66 :: g 67 :: g 68 :: g 69 :: g 70 :: g 71 :: .list (S.runs.map runC) :: .int .i64 (S.runs.map runC).length :: .int .i64 (i : Int) :: g 75 :: g 76 :: g 77 :: g 78 :: .int .i64 (i : Int) :: .int .i64 (k : Int) :: g 81 :: g 82 :: g 83 :: g 84 :: g 85 :: g 86 :: g 87 :: g 88 :: g 89 :: g 90 :: g 91 :: g 92 :: g 93 :: g 94 :: g 95 :: g 96 :: g 97 :: g 98 :: g 99 :: g 100 :: g 101 :: g 102 :: g 103 :: g 104 :: g 105 :: g 106 :: g 107 :: g 108 :: g 109 :: g 110 :: g 111 :: g 112 :: g 113 :: g 114 :: g 115 :: g 116 :: g 117 :: g 118 :: g 119 :: g 120 :: g 121 :: [])) env ∧ k ≤ i ∧ m = i - k) (m := i) (.refl _) ⟨rfl, 0, .mk rfl, by omega, by omega⟩ (by omega) ?_
      rintro m env A ⟨rfl, k, ⟨g, rfl⟩, hk, hm⟩
      refine ⟨rfl, fun h5 => ?_, fun h5 => ?_⟩
      · have hk' : k < i := by omega
        have hk2 : k < S.runs.length := by omega
        repeat' ((conv => whnf); first | refine ⟨rfl, fun hc => ?_, fun hc => ?_⟩ | refine ⟨fun hc => ?_, fun hc => ?_⟩ | refine ⟨rfl, _, wrap64 (by omega) (by omega), ?_⟩ | refine ⟨_, wrap64 (by omega) (by omega), ?_⟩ | refine ⟨_, wrapU (by omega) (by omega), ?_⟩ | refine ⟨rfl, rfl, ?_⟩ | refine ⟨_, _, _, _, _, gi (by repeat first | exact .hd | apply In.tl), ?_⟩ | refine ⟨_, _, _, _, gi (by repeat first | exact .hd | apply In.tl), ⟨rfl, by exact leb rfl, by exact rfl⟩, ?_⟩ | refine ⟨_, gi (by repeat first | exact .hd | apply In.tl), ?_⟩ | refine ⟨⟨rfl, leb rfl⟩, ?_⟩ | refine ⟨⟨by decide, by decide⟩, ?_⟩ | refine ⟨rfl, ?_⟩ | refine ⟨leb rfl, ?_⟩ | refine ⟨by decide, ?_⟩ | refine .inr ⟨⟨leb rfl, leb rfl, rfl, rfl⟩, ?_⟩ | fail)
        intro bb hb
        have hb9 : l9 < bb := hb (l9, _) (List.mem_of_getElem? (i := 4) rfl)
        have hb3 : l3 < bb := hb (l3, _) (List.mem_of_getElem? (i := 1) rfl)
        repeat' ((conv => whnf); first | refine ⟨rfl, fun hc => ?_, fun hc => ?_⟩ | refine ⟨fun hc => ?_, fun hc => ?_⟩ | refine ⟨rfl, _, wrap64 (by omega) (by omega), ?_⟩ | refine ⟨_, wrap64 (by omega) (by omega), ?_⟩ | refine ⟨_, wrapU (by omega) (by omega), ?_⟩ | refine ⟨rfl, rfl, ?_⟩ | refine ⟨_, _, _, _, _, gi (by repeat first | exact .hd | apply In.tl), ?_⟩ | refine ⟨_, _, _, _, gi (by repeat first | exact .hd | apply In.tl), ⟨rfl, by exact leb rfl, by exact rfl⟩, ?_⟩ | refine ⟨_, gi (by repeat first | exact .hd | apply In.tl), ?_⟩ | refine ⟨⟨rfl, leb rfl⟩, ?_⟩ | refine ⟨⟨by decide, by decide⟩, ?_⟩ | refine ⟨rfl, ?_⟩ | refine ⟨leb rfl, ?_⟩ | refine ⟨by decide, ?_⟩ | refine .inr ⟨⟨leb rfl, leb rfl, rfl, rfl⟩, ?_⟩ | fail)
        refine ⟨⟨by omega, by simp [List.length_map]; omega⟩, runs_len _, _, runs_get hk2, ?_⟩
        repeat' ((conv => whnf); first | refine ⟨rfl, fun hc => ?_, fun hc => ?_⟩ | refine ⟨fun hc => ?_, fun hc => ?_⟩ | refine ⟨rfl, _, wrap64 (by omega) (by omega), ?_⟩ | refine ⟨_, wrap64 (by omega) (by omega), ?_⟩ | refine ⟨_, wrapU (by omega) (by omega), ?_⟩ | refine ⟨rfl, rfl, ?_⟩ | refine ⟨_, _, _, _, _, gi (by repeat first | exact .hd | apply In.tl), ?_⟩ | refine ⟨_, _, _, _, gi (by repeat first | exact .hd | apply In.tl), ⟨rfl, by exact leb rfl, by exact rfl⟩, ?_⟩ | refine ⟨_, gi (by repeat first | exact .hd | apply In.tl), ?_⟩ | refine ⟨⟨rfl, leb rfl⟩, ?_⟩ | refine ⟨⟨by decide, by decide⟩, ?_⟩ | refine ⟨rfl, ?_⟩ | refine ⟨leb rfl, ?_⟩ | refine ⟨by decide, ?_⟩ | refine .inr ⟨⟨leb rfl, leb rfl, rfl, rfl⟩, ?_⟩ | fail)
        repeat' ((conv => whnf); first | refine ⟨rfl, fun hc => ?_, fun hc => ?_⟩ | refine ⟨fun hc => ?_, fun hc => ?_⟩ | refine ⟨rfl, _, wrap64 (by omega) (by omega), ?_⟩ | refine ⟨_, wrap64 (by omega) (by omega), ?_⟩ | refine ⟨_, wrapU (by omega) (by omega), ?_⟩ | refine ⟨rfl, rfl, ?_⟩ | refine ⟨_, _, _, _, _, gi (by repeat first | exact .hd | apply In.tl), ?_⟩ | refine ⟨_, _, _, _, gi (by repeat first | exact .hd | apply In.tl), ⟨rfl, by exact leb rfl, by exact rfl⟩, ?_⟩ | refine ⟨_, gi (by repeat first | exact .hd | apply In.tl), ?_⟩ | refine ⟨⟨rfl, leb rfl⟩, ?_⟩ | refine ⟨⟨by decide, by decide⟩, ?_⟩ | refine ⟨rfl, ?_⟩ | refine ⟨leb rfl, ?_⟩ | refine ⟨by decide, ?_⟩ | refine .inr ⟨⟨leb rfl, leb rfl, rfl, rfl⟩, ?_⟩ | refine ⟨_, _, _, true, fun _ H hR => ⟨H, rfl, hR⟩, h16 hsm (decide_eq_false (G.dist i k hi' hk')), rfl, ?_⟩ | refine ⟨_, _, _, false, fun _ H hR => ⟨H, rfl, hR⟩, h16 hsm (decide_eq_false (G.dist i k hi' hk')), rfl, ?_⟩ | fail)
        exact ⟨i - (k + 1), _, by omega, Sub.take 5, rfl, k + 1, .mk rfl, by omega, by omega⟩
      · obtain rfl : k = i := by omega
        repeat' ((conv => whnf); first | refine ⟨rfl, fun hc => ?_, fun hc => ?_⟩ | refine ⟨fun hc => ?_, fun hc => ?_⟩ | refine ⟨rfl, _, wrap64 (by omega) (by omega), ?_⟩ | refine ⟨_, wrap64 (by omega) (by omega), ?_⟩ | refine ⟨_, wrapU (by omega) (by omega), ?_⟩ | refine ⟨rfl, rfl, ?_⟩ | refine ⟨_, _, _, _, _, gi (by repeat first | exact .hd | apply In.tl), ?_⟩ | refine ⟨_, _, _, _, gi (by repeat first | exact .hd | apply In.tl), ⟨rfl, by exact leb rfl, by exact rfl⟩, ?_⟩ | refine ⟨_, gi (by repeat first | exact .hd | apply In.tl), ?_⟩ | refine ⟨⟨rfl, leb rfl⟩, ?_⟩ | refine ⟨⟨by decide, by decide⟩, ?_⟩ | refine ⟨rfl, ?_⟩ | refine ⟨leb rfl, ?_⟩ | refine ⟨by decide, ?_⟩ | refine .inr ⟨⟨leb rfl, leb rfl, rfl, rfl⟩, ?_⟩ | fail)
        refine ⟨⟨by decide, by simp [runs.facs_length, hb1]⟩, runs.facs_len _, _, (show (facsC S.runs[k].fac)[(0 : Int).toNat]? = some [.int .u64 b] by simp [facsC, hb1]), ?_⟩
        rcases hb2 with rfl | rfl
        · refine ⟨rfl, (0 : Int), rfl, ?_⟩
          cases hs : seen S k 0 with
          | true =>
            repeat' ((conv => whnf); first | refine ⟨rfl, fun hc => ?_, fun hc => ?_⟩ | refine ⟨fun hc => ?_, fun hc => ?_⟩ | refine ⟨rfl, _, wrap64 (by omega) (by omega), ?_⟩ | refine ⟨_, wrap64 (by omega) (by omega), ?_⟩ | refine ⟨_, wrapU (by omega) (by omega), ?_⟩ | refine ⟨rfl, rfl, ?_⟩ | refine ⟨_, _, _, _, _, gi (by repeat first | exact .hd | apply In.tl), ?_⟩ | refine ⟨_, _, _, _, gi (by repeat first | exact .hd | apply In.tl), ⟨rfl, by exact leb rfl, by exact rfl⟩, ?_⟩ | refine ⟨_, gi (by repeat first | exact .hd | apply In.tl), ?_⟩ | refine ⟨⟨rfl, leb rfl⟩, ?_⟩ | refine ⟨⟨by decide, by decide⟩, ?_⟩ | refine ⟨rfl, ?_⟩ | refine ⟨leb rfl, ?_⟩ | refine ⟨by decide, ?_⟩ | refine .inr ⟨⟨leb rfl, leb rfl, rfl, rfl⟩, ?_⟩ | fail)
            intro bb hb
            repeat' ((conv => whnf); first | refine ⟨rfl, fun hc => ?_, fun hc => ?_⟩ | refine ⟨fun hc => ?_, fun hc => ?_⟩ | refine ⟨rfl, _, wrap64 (by omega) (by omega), ?_⟩ | refine ⟨_, wrap64 (by omega) (by omega), ?_⟩ | refine ⟨_, wrapU (by omega) (by omega), ?_⟩ | refine ⟨rfl, rfl, ?_⟩ | refine ⟨_, _, _, _, _, gi (by repeat first | exact .hd | apply In.tl), ?_⟩ | refine ⟨_, _, _, _, gi (by repeat first | exact .hd | apply In.tl), ⟨rfl, by exact leb rfl, by exact rfl⟩, ?_⟩ | refine ⟨_, gi (by repeat first | exact .hd | apply In.tl), ?_⟩ | refine ⟨⟨rfl, leb rfl⟩, ?_⟩ | refine ⟨⟨by decide, by decide⟩, ?_⟩ | refine ⟨rfl, ?_⟩ | refine ⟨leb rfl, ?_⟩ | refine ⟨by decide, ?_⟩ | refine .inr ⟨⟨leb rfl, leb rfl, rfl, rfl⟩, ?_⟩ | fail)
            exact ⟨S.runs.length - (k + 1), _, by omega, Sub.take 4, by rw [show S.runs.length - (S.runs.length - (k + 1)) = k + 1 by omega, seen_succ hi', seen_succ hi', hb1]; simp [hs], k + 1, .mk rfl, by omega, rfl⟩
          | false =>
            repeat' ((conv => whnf); first | refine ⟨rfl, fun hc => ?_, fun hc => ?_⟩ | refine ⟨fun hc => ?_, fun hc => ?_⟩ | refine ⟨rfl, _, wrap64 (by omega) (by omega), ?_⟩ | refine ⟨_, wrap64 (by omega) (by omega), ?_⟩ | refine ⟨_, wrapU (by omega) (by omega), ?_⟩ | refine ⟨rfl, rfl, ?_⟩ | refine ⟨_, _, _, _, _, gi (by repeat first | exact .hd | apply In.tl), ?_⟩ | refine ⟨_, _, _, _, gi (by repeat first | exact .hd | apply In.tl), ⟨rfl, by exact leb rfl, by exact rfl⟩, ?_⟩ | refine ⟨_, gi (by repeat first | exact .hd | apply In.tl), ?_⟩ | refine ⟨⟨rfl, leb rfl⟩, ?_⟩ | refine ⟨⟨by decide, by decide⟩, ?_⟩ | refine ⟨rfl, ?_⟩ | refine ⟨leb rfl, ?_⟩ | refine ⟨by decide, ?_⟩ | refine .inr ⟨⟨leb rfl, leb rfl, rfl, rfl⟩, ?_⟩ | fail)
            intro bb hb
            repeat' ((conv => whnf); first | refine ⟨rfl, fun hc => ?_, fun hc => ?_⟩ | refine ⟨fun hc => ?_, fun hc => ?_⟩ | refine ⟨rfl, _, wrap64 (by omega) (by omega), ?_⟩ | refine ⟨_, wrap64 (by omega) (by omega), ?_⟩ | refine ⟨_, wrapU (by omega) (by omega), ?_⟩ | refine ⟨rfl, rfl, ?_⟩ | refine ⟨_, _, _, _, _, gi (by repeat first | exact .hd | apply In.tl), ?_⟩ | refine ⟨_, _, _, _, gi (by repeat first | exact .hd | apply In.tl), ⟨rfl, by exact leb rfl, by exact rfl⟩, ?_⟩ | refine ⟨_, gi (by repeat first | exact .hd | apply In.tl), ?_⟩ | refine ⟨⟨rfl, leb rfl⟩, ?_⟩ | refine ⟨⟨by decide, by decide⟩, ?_⟩ | refine ⟨rfl, ?_⟩ | refine ⟨leb rfl, ?_⟩ | refine ⟨by decide, ?_⟩ | refine .inr ⟨⟨leb rfl, leb rfl, rfl, rfl⟩, ?_⟩ | fail)
            refine ⟨⟨by decide, by simp; omega⟩, runs_len _, _, (show (R.runs.map runC)[(0 : Int).toNat]? = some (runC R.runs[0]) by simp [q2]), ?_⟩
            repeat' ((conv => whnf); first | refine ⟨rfl, fun hc => ?_, fun hc => ?_⟩ | refine ⟨fun hc => ?_, fun hc => ?_⟩ | refine ⟨rfl, _, wrap64 (by omega) (by omega), ?_⟩ | refine ⟨_, wrap64 (by omega) (by omega), ?_⟩ | refine ⟨_, wrapU (by omega) (by omega), ?_⟩ | refine ⟨rfl, rfl, ?_⟩ | refine ⟨_, _, _, _, _, gi (by repeat first | exact .hd | apply In.tl), ?_⟩ | refine ⟨_, _, _, _, gi (by repeat first | exact .hd | apply In.tl), ⟨rfl, by exact leb rfl, by exact rfl⟩, ?_⟩ | refine ⟨_, gi (by repeat first | exact .hd | apply In.tl), ?_⟩ | refine ⟨⟨rfl, leb rfl⟩, ?_⟩ | refine ⟨⟨by decide, by decide⟩, ?_⟩ | refine ⟨rfl, ?_⟩ | refine ⟨leb rfl, ?_⟩ | refine ⟨by decide, ?_⟩ | refine .inr ⟨⟨leb rfl, leb rfl, rfl, rfl⟩, ?_⟩ | refine ⟨_, _, _, true, fun _ H hR => ⟨H, rfl, hR⟩, h16 hsm (decide_eq_true (G.first k hi' 0 fr (by omega) hb1 (fun k' h2 => seen_not hs k' (by omega) h2))), rfl, ?_⟩ | refine ⟨_, _, _, false, fun _ H hR => ⟨H, rfl, hR⟩, h16 hsm (decide_eq_true (G.first k hi' 0 fr (by omega) hb1 (fun k' h2 => seen_not hs k' (by omega) h2))), rfl, ?_⟩ | fail)
            exact ⟨S.runs.length - (k + 1), _, by omega, Sub.take 4, by rw [show S.runs.length - (S.runs.length - (k + 1)) = k + 1 by omega, seen_succ hi', seen_succ hi', hb1]; simp [hs], k + 1, .mk rfl, by omega, rfl⟩
        · refine ⟨rfl, (1 : Int), rfl, ?_⟩
          cases hs : seen S k 1 with
          | true =>
            repeat' ((conv => whnf); first | refine ⟨rfl, fun hc => ?_, fun hc => ?_⟩ | refine ⟨fun hc => ?_, fun hc => ?_⟩ | refine ⟨rfl, _, wrap64 (by omega) (by omega), ?_⟩ | refine ⟨_, wrap64 (by omega) (by omega), ?_⟩ | refine ⟨_, wrapU (by omega) (by omega), ?_⟩ | refine ⟨rfl, rfl, ?_⟩ | refine ⟨_, _, _, _, _, gi (by repeat first | exact .hd | apply In.tl), ?_⟩ | refine ⟨_, _, _, _, gi (by repeat first | exact .hd | apply In.tl), ⟨rfl, by exact leb rfl, by exact rfl⟩, ?_⟩ | refine ⟨_, gi (by repeat first | exact .hd | apply In.tl), ?_⟩ | refine ⟨⟨rfl, leb rfl⟩, ?_⟩ | refine ⟨⟨by decide, by decide⟩, ?_⟩ | refine ⟨rfl, ?_⟩ | refine ⟨leb rfl, ?_⟩ | refine ⟨by decide, ?_⟩ | refine .inr ⟨⟨leb rfl, leb rfl, rfl, rfl⟩, ?_⟩ | fail)
            intro bb hb
            repeat' ((conv => whnf); first | refine ⟨rfl, fun hc => ?_, fun hc => ?_⟩ | refine ⟨fun hc => ?_, fun hc => ?_⟩ | refine ⟨rfl, _, wrap64 (by omega) (by omega), ?_⟩ | refine ⟨_, wrap64 (by omega) (by omega), ?_⟩ | refine ⟨_, wrapU (by omega) (by omega), ?_⟩ | refine ⟨rfl, rfl, ?_⟩ | refine ⟨_, _, _, _, _, gi (by repeat first | exact .hd | apply In.tl), ?_⟩ | refine ⟨_, _, _, _, gi (by repeat first | exact .hd | apply In.tl), ⟨rfl, by exact leb rfl, by exact rfl⟩, ?_⟩ | refine ⟨_, gi (by repeat first | exact .hd | apply In.tl), ?_⟩ | refine ⟨⟨rfl, leb rfl⟩, ?_⟩ | refine ⟨⟨by decide, by decide⟩, ?_⟩ | refine ⟨rfl, ?_⟩ | refine ⟨leb rfl, ?_⟩ | refine ⟨by decide, ?_⟩ | refine .inr ⟨⟨leb rfl, leb rfl, rfl, rfl⟩, ?_⟩ | fail)
            exact ⟨S.runs.length - (k + 1), _, by omega, Sub.take 4, by rw [show S.runs.length - (S.runs.length - (k + 1)) = k + 1 by omega, seen_succ hi', seen_succ hi', hb1]; simp [hs], k + 1, .mk rfl, by omega, rfl⟩
          | false =>
            repeat' ((conv => whnf); first | refine ⟨rfl, fun hc => ?_, fun hc => ?_⟩ | refine ⟨fun hc => ?_, fun hc => ?_⟩ | refine ⟨rfl, _, wrap64 (by omega) (by omega), ?_⟩ | refine ⟨_, wrap64 (by omega) (by omega), ?_⟩ | refine ⟨_, wrapU (by omega) (by omega), ?_⟩ | refine ⟨rfl, rfl, ?_⟩ | refine ⟨_, _, _, _, _, gi (by repeat first | exact .hd | apply In.tl), ?_⟩ | refine ⟨_, _, _, _, gi (by repeat first | exact .hd | apply In.tl), ⟨rfl, by exact leb rfl, by exact rfl⟩, ?_⟩ | refine ⟨_, gi (by repeat first | exact .hd | apply In.tl), ?_⟩ | refine ⟨⟨rfl, leb rfl⟩, ?_⟩ | refine ⟨⟨by decide, by decide⟩, ?_⟩ | refine ⟨rfl, ?_⟩ | refine ⟨leb rfl, ?_⟩ | refine ⟨by decide, ?_⟩ | refine .inr ⟨⟨leb rfl, leb rfl, rfl, rfl⟩, ?_⟩ | fail)
            intro bb hb
            repeat' ((conv => whnf); first | refine ⟨rfl, fun hc => ?_, fun hc => ?_⟩ | refine ⟨fun hc => ?_, fun hc => ?_⟩ | refine ⟨rfl, _, wrap64 (by omega) (by omega), ?_⟩ | refine ⟨_, wrap64 (by omega) (by omega), ?_⟩ | refine ⟨_, wrapU (by omega) (by omega), ?_⟩ | refine ⟨rfl, rfl, ?_⟩ | refine ⟨_, _, _, _, _, gi (by repeat first | exact .hd | apply In.tl), ?_⟩ | refine ⟨_, _, _, _, gi (by repeat first | exact .hd | apply In.tl), ⟨rfl, by exact leb rfl, by exact rfl⟩, ?_⟩ | refine ⟨_, gi (by repeat first | exact .hd | apply In.tl), ?_⟩ | refine ⟨⟨rfl, leb rfl⟩, ?_⟩ | refine ⟨⟨by decide, by decide⟩, ?_⟩ | refine ⟨rfl, ?_⟩ | refine ⟨leb rfl, ?_⟩ | refine ⟨by decide, ?_⟩ | refine .inr ⟨⟨leb rfl, leb rfl, rfl, rfl⟩, ?_⟩ | fail)
            refine ⟨⟨by decide, by simp; omega⟩, runs_len _, _, (show (R.runs.map runC)[(1 : Int).toNat]? = some (runC R.runs[1]) by simp [q2]), ?_⟩
            repeat' ((conv => whnf); first | refine ⟨rfl, fun hc => ?_, fun hc => ?_⟩ | refine ⟨fun hc => ?_, fun hc => ?_⟩ | refine ⟨rfl, _, wrap64 (by omega) (by omega), ?_⟩ | refine ⟨_, wrap64 (by omega) (by omega), ?_⟩ | refine ⟨_, wrapU (by omega) (by omega), ?_⟩ | refine ⟨rfl, rfl, ?_⟩ | refine ⟨_, _, _, _, _, gi (by repeat first | exact .hd | apply In.tl), ?_⟩ | refine ⟨_, _, _, _, gi (by repeat first | exact .hd | apply In.tl), ⟨rfl, by exact leb rfl, by exact rfl⟩, ?_⟩ | refine ⟨_, gi (by repeat first | exact .hd | apply In.tl), ?_⟩ | refine ⟨⟨rfl, leb rfl⟩, ?_⟩ | refine ⟨⟨by decide, by decide⟩, ?_⟩ | refine ⟨rfl, ?_⟩ | refine ⟨leb rfl, ?_⟩ | refine ⟨by decide, ?_⟩ | refine .inr ⟨⟨leb rfl, leb rfl, rfl, rfl⟩, ?_⟩ | refine ⟨_, _, _, true, fun _ H hR => ⟨H, rfl, hR⟩, h16 hsm (decide_eq_true (G.first k hi' 1 fr (by omega) hb1 (fun k' h2 => seen_not hs k' (by omega) h2))), rfl, ?_⟩ | refine ⟨_, _, _, false, fun _ H hR => ⟨H, rfl, hR⟩, h16 hsm (decide_eq_true (G.first k hi' 1 fr (by omega) hb1 (fun k' h2 => seen_not hs k' (by omega) h2))), rfl, ?_⟩ | fail)
            exact ⟨S.runs.length - (k + 1), _, by omega, Sub.take 4, by rw [show S.runs.length - (S.runs.length - (k + 1)) = k + 1 by omega, seen_succ hi', seen_succ hi', hb1]; simp [hs], k + 1, .mk rfl, by omega, rfl⟩
    · obtain rfl : i = S.runs.length := by simp only [List.length_map] at h4; omega
      rw [seen_all (G.both 0 (.inl rfl)), seen_all (G.both 1 (.inr rfl))]
      repeat' ((conv => whnf); first | refine ⟨rfl, fun hc => ?_, fun hc => ?_⟩ | refine ⟨fun hc => ?_, fun hc => ?_⟩ | refine ⟨rfl, _, wrap64 (by omega) (by omega), ?_⟩ | refine ⟨_, wrap64 (by omega) (by omega), ?_⟩ | refine ⟨_, wrapU (by omega) (by omega), ?_⟩ | refine ⟨rfl, rfl, ?_⟩ | refine ⟨_, _, _, _, _, gi (by repeat first | exact .hd | apply In.tl), ?_⟩ | refine ⟨_, _, _, _, gi (by repeat first | exact .hd | apply In.tl), ⟨rfl, by exact leb rfl, by exact rfl⟩, ?_⟩ | refine ⟨_, gi (by repeat first | exact .hd | apply In.tl), ?_⟩ | refine ⟨⟨rfl, leb rfl⟩, ?_⟩ | refine ⟨⟨by decide, by decide⟩, ?_⟩ | refine ⟨rfl, ?_⟩ | refine ⟨leb rfl, ?_⟩ | refine ⟨by decide, ?_⟩ | refine .inr ⟨⟨leb rfl, leb rfl, rfl, rfl⟩, ?_⟩ | refine ⟨_, _, _, true, fun _ H hR => ⟨H, rfl, hR⟩, h10, rfl, ?_⟩ | refine ⟨_, _, _, false, fun _ H hR => ⟨H, rfl, hR⟩, h10, rfl, ?_⟩ | fail)
      rfl
  · have e11 : ∃ c, lossyR e0 rs = [.agg noSys, .int .i64 c] ∧ c ≠ 0 := by
      unfold lossyR
      split
      · split
        · exact ⟨8, rfl, by decide⟩
        · rename_i h1 h2
          exact absurd ⟨h1, by omega⟩ hbad
      · rename_i h1
        exact ⟨_, rfl, h1⟩
    obtain ⟨c, e11, hc0⟩ := e11
    obtain ⟨y1, y2, y3, l, d, e12⟩ := e12
    repeat' ((conv => whnf); first | refine ⟨rfl, fun hc => ?_, fun hc => ?_⟩ | refine ⟨fun hc => ?_, fun hc => ?_⟩ | refine ⟨rfl, _, wrap64 (by omega) (by omega), ?_⟩ | refine ⟨_, wrap64 (by omega) (by omega), ?_⟩ | refine ⟨_, wrapU (by omega) (by omega), ?_⟩ | refine ⟨rfl, rfl, ?_⟩ | refine ⟨_, _, _, _, _, gi (by repeat first | exact .hd | apply In.tl), ?_⟩ | refine ⟨_, _, _, _, gi (by repeat first | exact .hd | apply In.tl), ⟨rfl, by exact leb rfl, by exact rfl⟩, ?_⟩ | refine ⟨_, gi (by repeat first | exact .hd | apply In.tl), ?_⟩ | refine ⟨⟨rfl, leb rfl⟩, ?_⟩ | refine ⟨⟨by decide, by decide⟩, ?_⟩ | refine ⟨rfl, ?_⟩ | refine ⟨leb rfl, ?_⟩ | refine ⟨by decide, ?_⟩ | refine .inr ⟨⟨leb rfl, leb rfl, rfl, rfl⟩, ?_⟩ | refine ⟨_, _, _, true, fun _ H hR => ⟨H, rfl, hR⟩, h10, rfl, ?_⟩ | refine ⟨_, _, _, false, fun _ H hR => ⟨H, rfl, hR⟩, h10, rfl, ?_⟩ | refine ⟨_, _, _, true, fun _ H hR => ⟨H, rfl, hR⟩, h11 he e11, rfl, ?_⟩ | refine ⟨_, _, _, false, fun _ H hR => ⟨H, rfl, hR⟩, h11 he e11, rfl, ?_⟩ | refine ⟨_, _, _, true, fun _ H hR => ⟨H, rfl, hR⟩, h12 he e12, rfl, ?_⟩ | refine ⟨_, _, _, false, fun _ H hR => ⟨H, rfl, hR⟩, h12 he e12, rfl, ?_⟩ | fail)
    · rfl
    intro l3 hl3
    repeat' ((conv => whnf); first | refine ⟨rfl, fun hc => ?_, fun hc => ?_⟩ | refine ⟨fun hc => ?_, fun hc => ?_⟩ | refine ⟨rfl, _, wrap64 (by omega) (by omega), ?_⟩ | refine ⟨_, wrap64 (by omega) (by omega), ?_⟩ | refine ⟨_, wrapU (by omega) (by omega), ?_⟩ | refine ⟨rfl, rfl, ?_⟩ | refine ⟨_, _, _, _, _, gi (by repeat first | exact .hd | apply In.tl), ?_⟩ | refine ⟨_, _, _, _, gi (by repeat first | exact .hd | apply In.tl), ⟨rfl, by exact leb rfl, by exact rfl⟩, ?_⟩ | refine ⟨_, gi (by repeat first | exact .hd | apply In.tl), ?_⟩ | refine ⟨⟨rfl, leb rfl⟩, ?_⟩ | refine ⟨⟨by decide, by decide⟩, ?_⟩ | refine ⟨rfl, ?_⟩ | refine ⟨leb rfl, ?_⟩ | refine ⟨by decide, ?_⟩ | refine .inr ⟨⟨leb rfl, leb rfl, rfl, rfl⟩, ?_⟩ | refine ⟨_, _, _, true, fun _ H hR => ⟨H, rfl, hR⟩, h12 he e12, rfl, ?_⟩ | refine ⟨_, _, _, false, fun _ H hR => ⟨H, rfl, hR⟩, h12 he e12, rfl, ?_⟩ | fail)
    intro l5 hl5
    repeat' ((conv => whnf); first | refine ⟨rfl, fun _ => ?_, fun hc => absurd hc0 hc⟩ | refine ⟨rfl, fun hc => ?_, fun hc => ?_⟩ | refine ⟨fun hc => ?_, fun hc => ?_⟩ | refine ⟨rfl, _, wrap64 (by omega) (by omega), ?_⟩ | refine ⟨_, wrap64 (by omega) (by omega), ?_⟩ | refine ⟨_, wrapU (by omega) (by omega), ?_⟩ | refine ⟨rfl, rfl, ?_⟩ | refine ⟨_, _, _, _, _, gi (by repeat first | exact .hd | apply In.tl), ?_⟩ | refine ⟨_, _, _, _, gi (by repeat first | exact .hd | apply In.tl), ⟨rfl, by exact leb rfl, by exact rfl⟩, ?_⟩ | refine ⟨_, gi (by repeat first | exact .hd | apply In.tl), ?_⟩ | refine ⟨⟨rfl, leb rfl⟩, ?_⟩ | refine ⟨⟨by decide, by decide⟩, ?_⟩ | refine ⟨rfl, ?_⟩ | refine ⟨leb rfl, ?_⟩ | refine ⟨by decide, ?_⟩ | refine .inr ⟨⟨leb rfl, leb rfl, rfl, rfl⟩, ?_⟩ | refine ⟨_, _, _, true, fun _ H hR => ⟨H, rfl, hR⟩, h10, rfl, ?_⟩ | refine ⟨_, _, _, false, fun _ H hR => ⟨H, rfl, hR⟩, h10, rfl, ?_⟩ | fail)
    rfl
end Go.Proofs.Ytlgbbabijifflaa.law1
