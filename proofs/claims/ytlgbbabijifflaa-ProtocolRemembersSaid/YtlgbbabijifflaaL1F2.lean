/- The check of a protocol. -/
import Derived.Test.YtlgbbabijifflaaL1F1
set_option linter.unusedVariables false
set_option linter.unusedSimpArgs false
namespace Go.Proofs.Ytlgbbabijifflaa.law1
open Go Go.Ai Go.Proofs.Ytlgbbabijifflaa.L1R
def chkL (n : Int) : Option Rule → List Rule → Int
  | _, [] => 0
  | p, r :: rs => if timeS r.a r.h < 0 ∨ timeS r.a r.h ≥ n ∨ r.m < 1 ∨ r.m > 3 then 2 else match p with
    | none => chkL n (some r) rs
    | some b => if r.a < b.a ∨ r.a = b.a ∧ r.h ≤ b.h then 9 else chkL n (some r) rs
theorem chkL_cons (n : Int) (p : Option Rule) (r : Rule) (rs : List Rule) : chkL n p (r :: rs) = if timeS r.a r.h < 0 ∨ timeS r.a r.h ≥ n ∨ r.m < 1 ∨ r.m > 3 then 2 else match p with
    | none => chkL n (some r) rs
    | some b => if r.a < b.a ∨ r.a = b.a ∧ r.h ≤ b.h then 9 else chkL n (some r) rs := by cases p <;> rfl
def chkS (n : Int) (rs : List Rule) : Int := if n < 0 ∨ n > 4 then 2 else if rs.length > 100 then 8 else chkL n none rs
def prev (rs : List Rule) (k : Nat) : Option Rule := if k = 0 then none else rs[k - 1]?
set_option maxRecDepth 100000 in
set_option maxHeartbeats 1000000 in
theorem run48 {n : Nat} {e0 : Int} {rs : List Rule} (he : I64 e0) (hok : ∀ r ∈ rs, r.Ok) (hl : rs.length ≤ 9223372036854775807) (hn : 101 < n) {K : List AV → Ah → Prop} (hK : ∀ x A, x = chkS e0 rs → K [.int .i64 x] A) : aB (hands T1) n ir48 (.agg (eC e0 rs) :: .undef :: .undef :: .undef :: .undef :: .undef :: .undef :: .undef :: .undef :: .undef :: .undef :: .undef :: .undef :: .undef :: .undef :: .undef :: .undef :: .undef :: .undef :: .undef :: .undef :: .undef :: .undef :: .undef :: .undef :: .undef :: .undef :: .undef :: .undef :: .undef :: .undef :: .undef :: .undef :: .undef :: .undef :: .undef :: .undef :: .undef :: .undef :: .undef :: .undef :: .undef :: .undef :: .undef :: .undef :: .undef :: .undef :: .undef :: .undef :: .undef :: .undef :: .undef :: .undef :: .undef :: .undef :: .undef :: .undef :: .undef :: .undef :: .undef :: .undef :: .undef :: .undef :: .undef :: .undef :: .undef :: .undef :: .undef :: .undef :: .undef :: .undef :: .undef :: .undef :: .undef :: .undef :: .undef :: .undef :: .undef :: []) [] K := by
  refine ⟨rfl, ?_⟩
  intro l1 hl1
  repeat' ((conv => whnf); first | refine ⟨rfl, fun hc => ?_, fun hc => ?_⟩ | refine ⟨fun hc => ?_, fun hc => ?_⟩ | refine ⟨rfl, _, wrap64 (by omega) (by omega), ?_⟩ | refine ⟨_, wrap64 (by omega) (by omega), ?_⟩ | refine ⟨_, wrapU (by omega) (by omega), ?_⟩ | refine ⟨rfl, rfl, ?_⟩ | refine ⟨_, _, _, _, _, gi (by repeat first | exact .hd | apply In.tl), ?_⟩ | refine ⟨_, _, _, _, gi (by repeat first | exact .hd | apply In.tl), ⟨rfl, by exact leb rfl, by exact rfl⟩, ?_⟩ | refine ⟨_, gi (by repeat first | exact .hd | apply In.tl), ?_⟩ | refine ⟨⟨rfl, leb rfl⟩, ?_⟩ | refine ⟨⟨by decide, by decide⟩, ?_⟩ | refine ⟨rfl, ?_⟩ | refine ⟨leb rfl, ?_⟩ | refine ⟨by decide, ?_⟩ | refine .inr ⟨⟨leb rfl, leb rfl, rfl, rfl⟩, ?_⟩ | (intro l hl) | fail)
  · refine hK _ _ ?_
    simp only [chkS]; omega
  · refine hK _ _ ?_
    simp only [chkS]; omega
  · refine hK _ _ ?_
    simp only [List.length_map] at hc
    simp only [chkS]; rw [if_neg (by omega), if_pos (by omega)]
  simp only [List.length_map] at hc
  have htot : chkS e0 rs = chkL e0 none rs := by simp only [chkS]; rw [if_neg (by omega), if_neg (by omega)]
  refine aLoop_by (fun m env A => A = [(l1, some (.cells (eC e0 rs) 0 0 false false))] ∧ ∃ k : Nat, IEnv (fun g => (.agg (eC e0 rs) :: .ptr l1 0 0 :: .int .i64 0 :: g 3 :: g 4 :: g 5 :: g 6 :: .ptr l1 0 0 :: .int .i64 e0 :: .bool false :: .bool false :: .ptr l1 0 0 :: .int .i64 e0 :: .bool false :: .bool false :: .ptr l1 1 0 :: .list (rs.map ruleC) :: .int .i64 (rs.map ruleC).length :: .bool false :: .ptr l1 1 0 :: .list (rs.map ruleC) :: .int .i64 (rs.map ruleC).length :: .int .i64 (k : Int) :: g 23 :: g 24 :: g 25 :: g 26 :: g 27 :: g 28 :: g 29 :: g 30 :: g 31 :: g 32 :: g 33 :: g 34 :: g 35 :: g 36 :: g 37 :: g 38 :: g 39 :: g 40 :: g 41 :: g 42 :: g 43 :: g 44 :: g 45 :: g 46 :: g 47 :: g 48 :: g 49 :: g 50 :: g 51 :: g 52 :: g 53 :: g 54 :: g 55 :: g 56 :: g 57 :: g 58 :: g 59 :: g 60 :: g 61 :: g 62 :: g 63 :: g 64 :: g 65 :: g 66 :: g 67 :: g 68 :: g 69 :: g 70 :: g 71 :: g 72 :: g 73 :: g 74 :: g 75 :: g 76 :: g 77 :: [])) env ∧ k ≤ rs.length ∧ m = rs.length - k ∧ chkL e0 (prev rs k) (rs.drop k) = chkS e0 rs) (m := rs.length) (.refl _) ⟨rfl, 0, .mk rfl, by omega, by omega, by rw [htot]; rfl⟩ (by omega) ?_
  rintro m env A ⟨rfl, k, ⟨g, rfl⟩, hk, hm, hs⟩
  refine ⟨rfl, fun h4 => ?_, fun h4 => ?_⟩
  · simp only [List.length_map] at h4
    have hk' : k < rs.length := by omega
    obtain ⟨o1, o2, o3⟩ := hok rs[k] (List.getElem_mem hk')
    rw [List.drop_eq_getElem_cons hk', chkL_cons] at hs
    have hnext : prev rs (k + 1) = some rs[k] := by simp [prev, hk']
    refine ⟨⟨by omega, by simp; omega⟩, rules_len rs, _, rules_get hk', ?_⟩
    intro l4 hl4
    repeat' ((conv => whnf); first | refine ⟨rfl, fun hc => ?_, fun hc => ?_⟩ | refine ⟨fun hc => ?_, fun hc => ?_⟩ | refine ⟨rfl, _, wrap64 (by omega) (by omega), ?_⟩ | refine ⟨_, wrap64 (by omega) (by omega), ?_⟩ | refine ⟨_, wrapU (by omega) (by omega), ?_⟩ | refine ⟨rfl, rfl, ?_⟩ | refine ⟨_, _, _, _, _, gi (by repeat first | exact .hd | apply In.tl), ?_⟩ | refine ⟨_, _, _, _, gi (by repeat first | exact .hd | apply In.tl), ⟨rfl, by exact leb rfl, by exact rfl⟩, ?_⟩ | refine ⟨_, gi (by repeat first | exact .hd | apply In.tl), ?_⟩ | refine ⟨⟨rfl, leb rfl⟩, ?_⟩ | refine ⟨⟨by decide, by decide⟩, ?_⟩ | refine ⟨rfl, ?_⟩ | refine ⟨leb rfl, ?_⟩ | refine ⟨by decide, ?_⟩ | refine .inr ⟨⟨leb rfl, leb rfl, rfl, rfl⟩, ?_⟩ | (intro l hl) | refine ⟨_, _, _, true, fun _ H hR => ⟨H, rfl, hR⟩, t45 o1 o2, rfl, ?_⟩ | refine ⟨_, _, _, false, fun _ H hR => ⟨H, rfl, hR⟩, t45 o1 o2, rfl, ?_⟩ | fail)
    · refine hK _ _ ?_
      rw [← hs, if_pos (by omega)]
    · refine hK _ _ ?_
      rw [← hs, if_pos (by omega)]
    · refine hK _ _ ?_
      rw [← hs, if_pos (by omega)]
    · refine hK _ _ ?_
      rw [← hs, if_pos (by omega)]
    · rw [if_neg (by omega)] at hs
      obtain rfl : k = 0 := by omega
      exact ⟨rs.length - 1, _, by omega, Sub.take 1, rfl, 1, .mk rfl, by omega, rfl, by rw [hnext]; exact hs⟩
    · rw [if_neg (by omega)] at hs
      have hk1 : k - 1 < rs.length := by omega
      have hprev : prev rs k = some rs[k - 1] := by
        unfold prev
        rw [if_neg (by omega)]; simp [hk1]
      rw [hprev] at hs
      have hget : (rs.map ruleC)[((k : Int) - 1).toNat]? = some (ruleC rs[k - 1]) := by
        rw [show ((k : Int) - 1).toNat = k - 1 by omega]; simp [hk1]
      refine ⟨⟨by omega, by simp; omega⟩, rules_len rs, _, hget, ?_⟩
      simp only at hs
      intro l6 hl6
      repeat' ((conv => whnf); first | refine ⟨rfl, fun hc => ?_, fun hc => ?_⟩ | refine ⟨fun hc => ?_, fun hc => ?_⟩ | refine ⟨rfl, _, wrap64 (by omega) (by omega), ?_⟩ | refine ⟨_, wrap64 (by omega) (by omega), ?_⟩ | refine ⟨_, wrapU (by omega) (by omega), ?_⟩ | refine ⟨rfl, rfl, ?_⟩ | refine ⟨_, _, _, _, _, gi (by repeat first | exact .hd | apply In.tl), ?_⟩ | refine ⟨_, _, _, _, gi (by repeat first | exact .hd | apply In.tl), ⟨rfl, by exact leb rfl, by exact rfl⟩, ?_⟩ | refine ⟨_, gi (by repeat first | exact .hd | apply In.tl), ?_⟩ | refine ⟨⟨rfl, leb rfl⟩, ?_⟩ | refine ⟨⟨by decide, by decide⟩, ?_⟩ | refine ⟨rfl, ?_⟩ | refine ⟨leb rfl, ?_⟩ | refine ⟨by decide, ?_⟩ | refine .inr ⟨⟨leb rfl, leb rfl, rfl, rfl⟩, ?_⟩ | (intro l hl) | fail)
      · refine hK _ _ ?_
        rw [← hs, if_pos (by omega)]
      · refine hK _ _ ?_
        rw [← hs, if_pos (by omega)]
      · rw [if_neg (by omega)] at hs
        exact ⟨rs.length - (k + 1), _, by omega, Sub.take 1, rfl, k + 1, .mk rfl, by omega, rfl, by rw [hnext]; exact hs⟩
      · rw [if_neg (by omega)] at hs
        exact ⟨rs.length - (k + 1), _, by omega, Sub.take 1, rfl, k + 1, .mk rfl, by omega, rfl, by rw [hnext]; exact hs⟩
  · simp only [List.length_map] at h4
    obtain rfl : k = rs.length := by omega
    simp only [List.drop_length, chkL] at hs
    exact hK 0 _ hs
end Go.Proofs.Ytlgbbabijifflaa.law1
