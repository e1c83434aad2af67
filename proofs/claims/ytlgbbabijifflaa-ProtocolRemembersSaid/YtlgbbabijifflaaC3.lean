/- The check of a system. -/
import Derived.Test.YtlgbbabijifflaaC2
set_option linter.unusedVariables false
set_option linter.unusedSimpArgs false
namespace Go.Proofs.Ytlgbbabijifflaa.runs
open Go Go.Ai Go.Proofs.Ytlgbbabijifflaa.L1R
def TB : Tab := [(93, ⟨.iso, g93⟩), (94, ⟨.iso, g94⟩)]
theorem h93 {es : List (List AV)} {ag : Int} {r : List AV} (h1 : es.all isL = true) (h2 : es.length < most) : (hands TB).iso 93 [.list es, .func 53 [.fptr [.int .i64 ag :: r] 0 0]] = some [.int .i64 (firstS (lenNe ag) es 0)] := by
  show (if (es.all isL && es.length < most) = true then _ else _) = _
  exact if_pos (by simp [h1, h2])
theorem h94 {es : List (List AV)} {fa : Int} {x : AV} {r : List AV} (h1 : es.all isU = true) (h2 : es.length < most) (h3 : 0 ≤ fa ∧ fa ≤ 63) : (hands TB).iso 94 [.list es, .func 55 [.fptr [x :: .int .i64 fa :: r] 0 0]] = some [.int .i64 (firstS (high fa) es 0)] := by
  show (if (es.all isU && es.length < most && decide (0 ≤ fa ∧ fa ≤ 63)) = true then _ else _) = _
  exact if_pos (by simp [h1, h2, h3])
set_option maxRecDepth 100000 in
theorem run52 {n : Nat} {es : List (List AV)} {ag : Int} {r : List AV} (h1 : es.all isL = true) (h2 : es.length < most) {K : List AV → Ah → Prop} (hK : ∀ A, K [.bool (es.any (lenNe ag))] A) : aB (hands TB) n ir52 (.list es :: .func 53 [.fptr [.int .i64 ag :: r] 0 0] :: .undef :: .undef :: .undef :: .undef :: .undef :: .undef :: .undef :: []) [] K := by
  have hf := first_any (lenNe ag) es 0
  repeat' ((conv => whnf); first | refine ⟨rfl, fun hc => ?_, fun hc => ?_⟩ | refine ⟨fun hc => ?_, fun hc => ?_⟩ | refine ⟨rfl, _, wrap64 (by omega) (by omega), ?_⟩ | refine ⟨_, wrap64 (by omega) (by omega), ?_⟩ | refine ⟨_, wrapU (by omega) (by omega), ?_⟩ | refine ⟨rfl, rfl, ?_⟩ | refine ⟨_, _, _, _, _, gi (by repeat first | exact .hd | apply In.tl), ?_⟩ | refine ⟨_, _, _, _, gi (by repeat first | exact .hd | apply In.tl), ⟨rfl, by exact leb rfl, by exact rfl⟩, ?_⟩ | refine ⟨_, gi (by repeat first | exact .hd | apply In.tl), ?_⟩ | refine ⟨⟨rfl, leb rfl⟩, ?_⟩ | refine ⟨⟨by decide, by decide⟩, ?_⟩ | refine ⟨rfl, ?_⟩ | refine ⟨leb rfl, ?_⟩ | refine ⟨by decide, ?_⟩ | refine .inr ⟨⟨leb rfl, leb rfl, rfl, rfl⟩, ?_⟩ | (intro l hl) | refine ⟨_, _, _, true, fun _ H hR => ⟨H, rfl, hR⟩, h93 h1 h2, rfl, ?_⟩ | refine ⟨_, _, _, false, fun _ H hR => ⟨H, rfl, hR⟩, h93 h1 h2, rfl, ?_⟩ | fail)
  · have := hf.1 hc
    rw [this] at hK
    exact hK _
  · have : es.any (lenNe ag) = false := by
      cases h : es.any (lenNe ag) with
      | false => rfl
      | true => exact absurd (hf.2 h) hc
    rw [this] at hK
    exact hK _
set_option maxRecDepth 100000 in
theorem run54 {n : Nat} {es : List (List AV)} {fa : Int} {x : AV} {r : List AV} (h1 : es.all isU = true) (h2 : es.length < most) (h3 : 0 ≤ fa ∧ fa ≤ 63) {K : List AV → Ah → Prop} (hK : ∀ A, K [.bool (es.any (high fa))] A) : aB (hands TB) n ir54 (.list es :: .func 55 [.fptr [x :: .int .i64 fa :: r] 0 0] :: .undef :: .undef :: .undef :: .undef :: .undef :: .undef :: .undef :: []) [] K := by
  have hf := first_any (high fa) es 0
  repeat' ((conv => whnf); first | refine ⟨rfl, fun hc => ?_, fun hc => ?_⟩ | refine ⟨fun hc => ?_, fun hc => ?_⟩ | refine ⟨rfl, _, wrap64 (by omega) (by omega), ?_⟩ | refine ⟨_, wrap64 (by omega) (by omega), ?_⟩ | refine ⟨_, wrapU (by omega) (by omega), ?_⟩ | refine ⟨rfl, rfl, ?_⟩ | refine ⟨_, _, _, _, _, gi (by repeat first | exact .hd | apply In.tl), ?_⟩ | refine ⟨_, _, _, _, gi (by repeat first | exact .hd | apply In.tl), ⟨rfl, by exact leb rfl, by exact rfl⟩, ?_⟩ | refine ⟨_, gi (by repeat first | exact .hd | apply In.tl), ?_⟩ | refine ⟨⟨rfl, leb rfl⟩, ?_⟩ | refine ⟨⟨by decide, by decide⟩, ?_⟩ | refine ⟨rfl, ?_⟩ | refine ⟨leb rfl, ?_⟩ | refine ⟨by decide, ?_⟩ | refine .inr ⟨⟨leb rfl, leb rfl, rfl, rfl⟩, ?_⟩ | (intro l hl) | refine ⟨_, _, _, true, fun _ H hR => ⟨H, rfl, hR⟩, h94 h1 h2 h3, rfl, ?_⟩ | refine ⟨_, _, _, false, fun _ H hR => ⟨H, rfl, hR⟩, h94 h1 h2 h3, rfl, ?_⟩ | fail)
  · have := hf.1 hc
    rw [this] at hK
    exact hK _
  · have : es.any (high fa) = false := by
      cases h : es.any (high fa) with
      | false => rfl
      | true => exact absurd (hf.2 h) hc
    rw [this] at hK
    exact hK _
def formB (s : SysD) (r : RunD) : Bool := decide (¬ (r.loc.length : Int) = s.len) || decide (¬ (r.fac.length : Int) = s.len) || r.loc.any fun l => decide (¬ (l.length : Int) = s.ag)
def highB (s : SysD) (r : RunD) : Bool := r.fac.any fun f => decide (¬ f / 2 ^ s.fa.toNat = 0)
def chkS (s : SysD) : Int :=
  if s.ag < 0 ∨ s.ag > 4 ∨ s.fa < 0 ∨ s.fa > 8 ∨ s.len < 1 ∨ s.len > 16 then 2 else
  if (s.runs.length : Int) > 64 ∨ (s.runs.length : Int) * s.len > 512 then 8 else
  if s.runs.length = 0 then 3 else if s.runs.any (formB s) then 3 else if s.runs.any (highB s) then 2 else 0
theorem locs_any (ag : Int) (l : List (List Int)) : (locsC l).any (lenNe ag) = l.any fun l => decide (¬ (l.length : Int) = ag) := by
  simp [locsC, List.any_map, Function.comp_def, lenNe, intsC]
theorem facs_any (fa : Int) (l : List Int) : (facsC l).any (high fa) = l.any fun f => decide (¬ f / 2 ^ fa.toNat = 0) := by
  simp [facsC, List.any_map, Function.comp_def, high]
theorem locs_all (l : List (List Int)) : (locsC l).all isL = true := by simp [locsC, isL]
theorem facs_all {l : List Int} (h : ∀ f ∈ l, U64 f) : (facsC l).all isU = true := by
  simp only [facsC, List.all_map, List.all_eq_true, Function.comp_def, isU]
  exact fun f hf => decide_eq_true (h f hf)
def TC : Tab := [(52, ⟨.iso, g52⟩), (54, ⟨.iso, g54⟩)]
theorem h52 {l : List (List Int)} {ag : Int} {r : List AV} {b : Bool} (h2 : l.length < most) (hb : (l.any fun l => decide (¬ (l.length : Int) = ag)) = b) : (hands TC).iso 52 [.list (locsC l), .func 53 [.fptr [.int .i64 ag :: r] 0 0]] = some [.bool b] := by
  rw [← hb, ← locs_any]
  show (if ((locsC l).all isL && (locsC l).length < most) = true then _ else _) = _
  exact if_pos (by simp [locs_all]; simpa [locsC] using h2)
theorem h54 {l : List Int} {fa : Int} {x : AV} {r : List AV} {b : Bool} (h1 : ∀ f ∈ l, U64 f) (h2 : l.length < most) (h3 : 0 ≤ fa ∧ fa ≤ 63) (hb : (l.any fun f => decide (¬ f / 2 ^ fa.toNat = 0)) = b) : (hands TC).iso 54 [.list (facsC l), .func 55 [.fptr [x :: .int .i64 fa :: r] 0 0]] = some [.bool b] := by
  rw [← hb, ← facs_any]
  show (if ((facsC l).all isU && (facsC l).length < most && decide (0 ≤ fa ∧ fa ≤ 63)) = true then _ else _) = _
  exact if_pos (by simp [facs_all h1, h3]; simpa [facsC] using h2)
theorem runs_len (rs : List RunD) : lenIs 2 (rs.map runC) = true := by cases rs <;> rfl
theorem runs_get {rs : List RunD} {k : Nat} (h : k < rs.length) : (rs.map runC)[((k : Nat) : Int).toNat]? = some (runC rs[k]) := by simp [h]
set_option maxRecDepth 100000 in
set_option maxHeartbeats 1000000 in
theorem run13 {n : Nat} {s : SysD} (hok : s.Ok) (hl : s.runs.length ≤ 9223372036854775807) (hlo : ∀ r ∈ s.runs, r.loc.length < most ∧ r.fac.length < most) {K : List AV → Ah → Prop} (hK : ∀ x A, x = chkS s → K [.int .i64 x] A) : aB (hands TC) (n + s.runs.length + 1) ir13 (.agg (sysC s) :: .undef :: .undef :: .undef :: .undef :: .undef :: .undef :: .undef :: .undef :: .undef :: .undef :: .undef :: .undef :: .undef :: .undef :: .undef :: .undef :: .undef :: .undef :: .undef :: .undef :: .undef :: .undef :: .undef :: .undef :: .undef :: .undef :: .undef :: .undef :: .undef :: .undef :: .undef :: .undef :: .undef :: .undef :: .undef :: .undef :: .undef :: .undef :: .undef :: .undef :: .undef :: .undef :: .undef :: .undef :: .undef :: .undef :: .undef :: .undef :: .undef :: .undef :: .undef :: .undef :: .undef :: .undef :: .undef :: .undef :: .undef :: .undef :: .undef :: .undef :: .undef :: .undef :: .undef :: .undef :: .undef :: .undef :: .undef :: .undef :: .undef :: .undef :: .undef :: .undef :: .undef :: .undef :: .undef :: .undef :: .undef :: .undef :: .undef :: .undef :: .undef :: .undef :: .undef :: .undef :: .undef :: .undef :: .undef :: .undef :: .undef :: .undef :: .undef :: []) [] K := by
  obtain ⟨⟨a1, a2⟩, ⟨f1, f2⟩, ⟨t1, t2⟩, hrs⟩ := hok
  refine ⟨rfl, ?_⟩
  intro l1 hl1
  repeat' ((conv => whnf); first | refine ⟨rfl, fun hc => ?_, fun hc => ?_⟩ | refine ⟨fun hc => ?_, fun hc => ?_⟩ | refine ⟨rfl, _, wrap64 (by omega) (by omega), ?_⟩ | refine ⟨_, wrap64 (by omega) (by omega), ?_⟩ | refine ⟨_, wrapU (by omega) (by omega), ?_⟩ | refine ⟨rfl, rfl, ?_⟩ | refine ⟨_, _, _, _, _, gi (by repeat first | exact .hd | apply In.tl), ?_⟩ | refine ⟨_, _, _, _, gi (by repeat first | exact .hd | apply In.tl), ⟨rfl, by exact leb rfl, by exact rfl⟩, ?_⟩ | refine ⟨_, gi (by repeat first | exact .hd | apply In.tl), ?_⟩ | refine ⟨⟨rfl, leb rfl⟩, ?_⟩ | refine ⟨⟨by decide, by decide⟩, ?_⟩ | refine ⟨rfl, ?_⟩ | refine ⟨leb rfl, ?_⟩ | refine ⟨by decide, ?_⟩ | refine .inr ⟨⟨leb rfl, leb rfl, rfl, rfl⟩, ?_⟩ | (intro l hl) | fail)
  · exact hK _ _ (by rw [chkS, if_pos (by omega)])
  · exact hK _ _ (by rw [chkS, if_pos (by omega)])
  · exact hK _ _ (by rw [chkS, if_pos (by omega)])
  · exact hK _ _ (by rw [chkS, if_pos (by omega)])
  · exact hK _ _ (by rw [chkS, if_pos (by omega)])
  · exact hK _ _ (by rw [chkS, if_pos (by omega)])
  · simp only [List.length_map] at hc
    exact hK _ _ (by rw [chkS, if_neg (by omega), if_pos (by omega)])
  · rename_i c0 c1 c2 c3 c4 c5
    simp only [List.length_map] at hc
    have hm1 : 0 ≤ (s.runs.length : Int) * s.len := Int.mul_nonneg (by omega) (by omega)
    have hm2 : (s.runs.length : Int) * s.len ≤ 64 * 16 := Int.mul_le_mul (by omega) (by omega) (by omega) (by omega)
    have hlm : ((s.runs.map runC).length : Int) = s.runs.length := by simp
    refine ⟨(s.runs.length : Int) * s.len, by rw [hlm]; exact wrap64 (by omega) (by omega), ?_⟩
    have hrng : ¬ (s.ag < 0 ∨ s.ag > 4 ∨ s.fa < 0 ∨ s.fa > 8 ∨ s.len < 1 ∨ s.len > 16) := by omega
    repeat' ((conv => whnf); first | refine ⟨rfl, fun hc => ?_, fun hc => ?_⟩ | refine ⟨fun hc => ?_, fun hc => ?_⟩ | refine ⟨rfl, _, wrap64 (by omega) (by omega), ?_⟩ | refine ⟨_, wrap64 (by omega) (by omega), ?_⟩ | refine ⟨_, wrapU (by omega) (by omega), ?_⟩ | refine ⟨rfl, rfl, ?_⟩ | refine ⟨_, _, _, _, _, gi (by repeat first | exact .hd | apply In.tl), ?_⟩ | refine ⟨_, _, _, _, gi (by repeat first | exact .hd | apply In.tl), ⟨rfl, by exact leb rfl, by exact rfl⟩, ?_⟩ | refine ⟨_, gi (by repeat first | exact .hd | apply In.tl), ?_⟩ | refine ⟨⟨rfl, leb rfl⟩, ?_⟩ | refine ⟨⟨by decide, by decide⟩, ?_⟩ | refine ⟨rfl, ?_⟩ | refine ⟨leb rfl, ?_⟩ | refine ⟨by decide, ?_⟩ | refine .inr ⟨⟨leb rfl, leb rfl, rfl, rfl⟩, ?_⟩ | (intro l hl) | fail)
    · exact hK _ _ (by rw [chkS, if_neg hrng, if_pos (by omega)])
    · rename_i c6
      simp only [List.length_map] at hc
      exact hK _ _ (by rw [chkS, if_neg hrng, if_neg (by omega), if_pos (by omega)])
    · rename_i c6
      simp only [List.length_map] at hc
      have hsz : ¬ ((s.runs.length : Int) > 64 ∨ (s.runs.length : Int) * s.len > 512) := by omega
      have hne : ¬ s.runs.length = 0 := by omega
      have ret3 : ∀ r ∈ s.runs, formB s r = true → ∀ A, K [.int .i64 3] A := fun r hr hf A => hK _ _ (by rw [chkS, if_neg hrng, if_neg hsz, if_neg hne, if_pos (List.any_eq_true.2 ⟨r, hr, hf⟩)])
      refine aLoop_by (fun m env A => A = [(l1, some (.cells (sysC s) 0 0 false false))] ∧ ∃ k : Nat, IEnv (fun g => (g 0 :: .ptr l1 0 0 :: .int .i64 0 :: g 3 :: g 4 :: g 5 :: g 6 :: g 7 :: g 8 :: g 9 :: g 10 :: g 11 :: g 12 :: g 13 :: g 14 :: g 15 :: g 16 :: g 17 :: g 18 :: g 19 :: g 20 :: g 21 :: g 22 :: g 23 :: g 24 :: g 25 :: g 26 :: g 27 :: g 28 :: g 29 :: g 30 :: g 31 :: g 32 :: g 33 :: g 34 :: g 35 :: g 36 :: g 37 :: g 38 :: g 39 :: g 40 :: g 41 :: g 42 :: g 43 :: g 44 :: g 45 :: g 46 :: g 47 :: g 48 :: g 49 :: g 50 :: g 51 :: g 52 :: .list (s.runs.map runC) :: .int .i64 (s.runs.map runC).length :: .int .i64 (k : Int) :: g 56 :: g 57 :: g 58 :: g 59 :: g 60 :: g 61 :: g 62 :: g 63 :: g 64 :: g 65 :: g 66 :: g 67 :: g 68 :: g 69 :: g 70 :: g 71 :: g 72 :: g 73 :: g 74 :: g 75 :: g 76 :: g 77 :: g 78 :: g 79 :: g 80 :: g 81 :: g 82 :: g 83 :: g 84 :: g 85 :: g 86 :: g 87 :: g 88 :: g 89 :: g 90 :: g 91 :: [])) env ∧ k ≤ s.runs.length ∧ m = s.runs.length - k ∧ (s.runs.take k).any (formB s) = false) (m := s.runs.length) (.refl _) ⟨rfl, 0, .mk rfl, by omega, by omega, by simp⟩ (by omega) ?_
      rintro m env A ⟨rfl, k, ⟨g, rfl⟩, hk, hm, hs⟩
      refine ⟨rfl, fun h4 => ?_, fun h4 => ?_⟩
      · simp only [List.length_map] at h4
        have hk' : k < s.runs.length := by omega
        have hmem : s.runs[k] ∈ s.runs := List.getElem_mem hk'
        have hnext : formB s s.runs[k] = false → (s.runs.take (k + 1)).any (formB s) = false := fun h => by
          rw [List.take_succ_eq_append_getElem hk', List.any_append, hs]; simp [h]
        have hl1' : ((locsC s.runs[k].loc).length : Int) = s.runs[k].loc.length := by simp [locsC]
        have hl2' : ((facsC s.runs[k].fac).length : Int) = s.runs[k].fac.length := by simp [facsC]
        refine ⟨⟨by omega, by simp; omega⟩, runs_len _, _, runs_get hk', ?_⟩
        intro l4 hl4
        rcases Bool.eq_false_or_eq_true (s.runs[k].loc.any fun l => decide (¬ (l.length : Int) = s.ag)) with hb | hb
        · repeat' ((conv => whnf); first | refine ⟨rfl, fun hc => ?_, fun hc => ?_⟩ | refine ⟨fun hc => ?_, fun hc => ?_⟩ | refine ⟨rfl, _, wrap64 (by omega) (by omega), ?_⟩ | refine ⟨_, wrap64 (by omega) (by omega), ?_⟩ | refine ⟨_, wrapU (by omega) (by omega), ?_⟩ | refine ⟨rfl, rfl, ?_⟩ | refine ⟨_, _, _, _, _, gi (by repeat first | exact .hd | apply In.tl), ?_⟩ | refine ⟨_, _, _, _, gi (by repeat first | exact .hd | apply In.tl), ⟨rfl, by exact leb rfl, by exact rfl⟩, ?_⟩ | refine ⟨_, gi (by repeat first | exact .hd | apply In.tl), ?_⟩ | refine ⟨⟨rfl, leb rfl⟩, ?_⟩ | refine ⟨⟨by decide, by decide⟩, ?_⟩ | refine ⟨rfl, ?_⟩ | refine ⟨leb rfl, ?_⟩ | refine ⟨by decide, ?_⟩ | refine .inr ⟨⟨leb rfl, leb rfl, rfl, rfl⟩, ?_⟩ | fail)
          · rw [hl1'] at hc
            exact ret3 _ hmem (by simp only [formB, decide_eq_true hc, Bool.true_or]) _
          · rw [hl2'] at hc
            exact ret3 _ hmem (by simp only [formB, decide_eq_true hc, Bool.true_or, Bool.or_true]) _
          · refine ⟨_, _, _, true, FrzL.frz (.cons (.self (d := 11) rfl) (.cons (.func (d := 11) (.cons (.ptr (i := 0) (d := 9) rfl rfl) .nil)) .nil)), h52 (hlo _ hmem).1 hb, rfl, ?_⟩
            repeat' ((conv => whnf); first | refine ⟨rfl, fun hc => ?_, fun hc => ?_⟩ | refine ⟨fun hc => ?_, fun hc => ?_⟩ | refine ⟨rfl, _, wrap64 (by omega) (by omega), ?_⟩ | refine ⟨_, wrap64 (by omega) (by omega), ?_⟩ | refine ⟨_, wrapU (by omega) (by omega), ?_⟩ | refine ⟨rfl, rfl, ?_⟩ | refine ⟨_, _, _, _, _, gi (by repeat first | exact .hd | apply In.tl), ?_⟩ | refine ⟨_, _, _, _, gi (by repeat first | exact .hd | apply In.tl), ⟨rfl, by exact leb rfl, by exact rfl⟩, ?_⟩ | refine ⟨_, gi (by repeat first | exact .hd | apply In.tl), ?_⟩ | refine ⟨⟨rfl, leb rfl⟩, ?_⟩ | refine ⟨⟨by decide, by decide⟩, ?_⟩ | refine ⟨rfl, ?_⟩ | refine ⟨leb rfl, ?_⟩ | refine ⟨by decide, ?_⟩ | refine .inr ⟨⟨leb rfl, leb rfl, rfl, rfl⟩, ?_⟩ | fail)
            exact ret3 _ hmem (by simp only [formB, hb, Bool.or_true]) _
        · repeat' ((conv => whnf); first | refine ⟨rfl, fun hc => ?_, fun hc => ?_⟩ | refine ⟨fun hc => ?_, fun hc => ?_⟩ | refine ⟨rfl, _, wrap64 (by omega) (by omega), ?_⟩ | refine ⟨_, wrap64 (by omega) (by omega), ?_⟩ | refine ⟨_, wrapU (by omega) (by omega), ?_⟩ | refine ⟨rfl, rfl, ?_⟩ | refine ⟨_, _, _, _, _, gi (by repeat first | exact .hd | apply In.tl), ?_⟩ | refine ⟨_, _, _, _, gi (by repeat first | exact .hd | apply In.tl), ⟨rfl, by exact leb rfl, by exact rfl⟩, ?_⟩ | refine ⟨_, gi (by repeat first | exact .hd | apply In.tl), ?_⟩ | refine ⟨⟨rfl, leb rfl⟩, ?_⟩ | refine ⟨⟨by decide, by decide⟩, ?_⟩ | refine ⟨rfl, ?_⟩ | refine ⟨leb rfl, ?_⟩ | refine ⟨by decide, ?_⟩ | refine .inr ⟨⟨leb rfl, leb rfl, rfl, rfl⟩, ?_⟩ | fail)
          · rw [hl1'] at hc
            exact ret3 _ hmem (by simp only [formB, decide_eq_true hc, Bool.true_or]) _
          · rw [hl2'] at hc
            exact ret3 _ hmem (by simp only [formB, decide_eq_true hc, Bool.true_or, Bool.or_true]) _
          · rename_i c7
            rw [hl1'] at c7
            rw [hl2'] at hc
            refine ⟨_, _, _, true, FrzL.frz (.cons (.self (d := 11) rfl) (.cons (.func (d := 11) (.cons (.ptr (i := 0) (d := 9) rfl rfl) .nil)) .nil)), h52 (hlo _ hmem).1 hb, rfl, ?_⟩
            repeat' ((conv => whnf); first | refine ⟨rfl, fun hc => ?_, fun hc => ?_⟩ | refine ⟨fun hc => ?_, fun hc => ?_⟩ | refine ⟨rfl, _, wrap64 (by omega) (by omega), ?_⟩ | refine ⟨_, wrap64 (by omega) (by omega), ?_⟩ | refine ⟨_, wrapU (by omega) (by omega), ?_⟩ | refine ⟨rfl, rfl, ?_⟩ | refine ⟨_, _, _, _, _, gi (by repeat first | exact .hd | apply In.tl), ?_⟩ | refine ⟨_, _, _, _, gi (by repeat first | exact .hd | apply In.tl), ⟨rfl, by exact leb rfl, by exact rfl⟩, ?_⟩ | refine ⟨_, gi (by repeat first | exact .hd | apply In.tl), ?_⟩ | refine ⟨⟨rfl, leb rfl⟩, ?_⟩ | refine ⟨⟨by decide, by decide⟩, ?_⟩ | refine ⟨rfl, ?_⟩ | refine ⟨leb rfl, ?_⟩ | refine ⟨by decide, ?_⟩ | refine .inr ⟨⟨leb rfl, leb rfl, rfl, rfl⟩, ?_⟩ | fail)
            exact ⟨s.runs.length - (k + 1), _, by omega, Sub.take 1, rfl, k + 1, .mk rfl, by omega, rfl, hnext (by simp only [formB, hb, decide_eq_false c7, decide_eq_false hc, Bool.or_false])⟩
      · simp only [List.length_map] at h4
        obtain rfl : k = s.runs.length := by omega
        rw [List.take_length] at hs
        have ret2 : ∀ r ∈ s.runs, highB s r = true → ∀ A, K [.int .i64 2] A := fun r hr hf A => hK _ _ (by rw [chkS, if_neg hrng, if_neg hsz, if_neg hne, if_neg (by rw [hs]; simp), if_pos (List.any_eq_true.2 ⟨r, hr, hf⟩)])
        repeat' ((conv => whnf); first | refine ⟨rfl, fun hc => ?_, fun hc => ?_⟩ | refine ⟨fun hc => ?_, fun hc => ?_⟩ | refine ⟨rfl, _, wrap64 (by omega) (by omega), ?_⟩ | refine ⟨_, wrap64 (by omega) (by omega), ?_⟩ | refine ⟨_, wrapU (by omega) (by omega), ?_⟩ | refine ⟨rfl, rfl, ?_⟩ | refine ⟨_, _, _, _, _, gi (by repeat first | exact .hd | apply In.tl), ?_⟩ | refine ⟨_, _, _, _, gi (by repeat first | exact .hd | apply In.tl), ⟨rfl, by exact leb rfl, by exact rfl⟩, ?_⟩ | refine ⟨_, gi (by repeat first | exact .hd | apply In.tl), ?_⟩ | refine ⟨⟨rfl, leb rfl⟩, ?_⟩ | refine ⟨⟨by decide, by decide⟩, ?_⟩ | refine ⟨rfl, ?_⟩ | refine ⟨leb rfl, ?_⟩ | refine ⟨by decide, ?_⟩ | refine .inr ⟨⟨leb rfl, leb rfl, rfl, rfl⟩, ?_⟩ | fail)
        refine aLoop_by (fun m env A => A = [(l1, some (.cells (sysC s) 0 0 false false))] ∧ ∃ k : Nat, IEnv (fun g => (g 0 :: .ptr l1 0 0 :: .int .i64 0 :: g 3 :: g 4 :: g 5 :: g 6 :: g 7 :: g 8 :: g 9 :: g 10 :: g 11 :: g 12 :: g 13 :: g 14 :: g 15 :: g 16 :: g 17 :: g 18 :: g 19 :: g 20 :: g 21 :: g 22 :: g 23 :: g 24 :: g 25 :: g 26 :: g 27 :: g 28 :: g 29 :: g 30 :: g 31 :: g 32 :: g 33 :: g 34 :: g 35 :: g 36 :: g 37 :: g 38 :: g 39 :: g 40 :: g 41 :: g 42 :: g 43 :: g 44 :: g 45 :: g 46 :: g 47 :: g 48 :: g 49 :: g 50 :: g 51 :: g 52 :: g 53 :: g 54 :: g 55 :: g 56 :: g 57 :: g 58 :: g 59 :: g 60 :: g 61 :: g 62 :: g 63 :: g 64 :: g 65 :: g 66 :: g 67 :: g 68 :: g 69 :: g 70 :: g 71 :: g 72 :: g 73 :: g 74 :: g 75 :: g 76 :: g 77 :: g 78 :: g 79 :: g 80 :: .list (s.runs.map runC) :: .int .i64 (s.runs.map runC).length :: .int .i64 (k : Int) :: g 84 :: g 85 :: g 86 :: g 87 :: g 88 :: g 89 :: g 90 :: g 91 :: [])) env ∧ k ≤ s.runs.length ∧ m = s.runs.length - k ∧ (s.runs.take k).any (highB s) = false) (m := s.runs.length) (.refl _) ⟨rfl, 0, .mk rfl, by omega, by omega, by simp⟩ (by omega) ?_
        rintro m env A ⟨rfl, k, ⟨g, rfl⟩, hk, hm, hs2⟩
        refine ⟨rfl, fun h4 => ?_, fun h4 => ?_⟩
        · simp only [List.length_map] at h4
          have hk' : k < s.runs.length := by omega
          have hmem : s.runs[k] ∈ s.runs := List.getElem_mem hk'
          have hnext : highB s s.runs[k] = false → (s.runs.take (k + 1)).any (highB s) = false := fun h => by
            rw [List.take_succ_eq_append_getElem hk', List.any_append, hs2]; simp [h]
          refine ⟨⟨by omega, by simp; omega⟩, runs_len _, _, runs_get hk', ?_⟩
          intro l6 hl6
          rcases Bool.eq_false_or_eq_true (highB s s.runs[k]) with hb | hb
          · repeat' ((conv => whnf); first | refine ⟨rfl, fun hc => ?_, fun hc => ?_⟩ | refine ⟨fun hc => ?_, fun hc => ?_⟩ | refine ⟨rfl, _, wrap64 (by omega) (by omega), ?_⟩ | refine ⟨_, wrap64 (by omega) (by omega), ?_⟩ | refine ⟨_, wrapU (by omega) (by omega), ?_⟩ | refine ⟨rfl, rfl, ?_⟩ | refine ⟨_, _, _, _, _, gi (by repeat first | exact .hd | apply In.tl), ?_⟩ | refine ⟨_, _, _, _, gi (by repeat first | exact .hd | apply In.tl), ⟨rfl, by exact leb rfl, by exact rfl⟩, ?_⟩ | refine ⟨_, gi (by repeat first | exact .hd | apply In.tl), ?_⟩ | refine ⟨⟨rfl, leb rfl⟩, ?_⟩ | refine ⟨⟨by decide, by decide⟩, ?_⟩ | refine ⟨rfl, ?_⟩ | refine ⟨leb rfl, ?_⟩ | refine ⟨by decide, ?_⟩ | refine .inr ⟨⟨leb rfl, leb rfl, rfl, rfl⟩, ?_⟩ | fail)
            refine ⟨_, _, _, true, FrzL.frz (.cons (.self (d := 11) rfl) (.cons (.func (d := 11) (.cons (.ptr (i := 0) (d := 9) rfl rfl) .nil)) .nil)), h54 (hrs _ hmem).2 (hlo _ hmem).2 ⟨by omega, by omega⟩ hb, rfl, ?_⟩
            repeat' ((conv => whnf); first | refine ⟨rfl, fun hc => ?_, fun hc => ?_⟩ | refine ⟨fun hc => ?_, fun hc => ?_⟩ | refine ⟨rfl, _, wrap64 (by omega) (by omega), ?_⟩ | refine ⟨_, wrap64 (by omega) (by omega), ?_⟩ | refine ⟨_, wrapU (by omega) (by omega), ?_⟩ | refine ⟨rfl, rfl, ?_⟩ | refine ⟨_, _, _, _, _, gi (by repeat first | exact .hd | apply In.tl), ?_⟩ | refine ⟨_, _, _, _, gi (by repeat first | exact .hd | apply In.tl), ⟨rfl, by exact leb rfl, by exact rfl⟩, ?_⟩ | refine ⟨_, gi (by repeat first | exact .hd | apply In.tl), ?_⟩ | refine ⟨⟨rfl, leb rfl⟩, ?_⟩ | refine ⟨⟨by decide, by decide⟩, ?_⟩ | refine ⟨rfl, ?_⟩ | refine ⟨leb rfl, ?_⟩ | refine ⟨by decide, ?_⟩ | refine .inr ⟨⟨leb rfl, leb rfl, rfl, rfl⟩, ?_⟩ | fail)
            exact ret2 _ hmem hb _
          · repeat' ((conv => whnf); first | refine ⟨rfl, fun hc => ?_, fun hc => ?_⟩ | refine ⟨fun hc => ?_, fun hc => ?_⟩ | refine ⟨rfl, _, wrap64 (by omega) (by omega), ?_⟩ | refine ⟨_, wrap64 (by omega) (by omega), ?_⟩ | refine ⟨_, wrapU (by omega) (by omega), ?_⟩ | refine ⟨rfl, rfl, ?_⟩ | refine ⟨_, _, _, _, _, gi (by repeat first | exact .hd | apply In.tl), ?_⟩ | refine ⟨_, _, _, _, gi (by repeat first | exact .hd | apply In.tl), ⟨rfl, by exact leb rfl, by exact rfl⟩, ?_⟩ | refine ⟨_, gi (by repeat first | exact .hd | apply In.tl), ?_⟩ | refine ⟨⟨rfl, leb rfl⟩, ?_⟩ | refine ⟨⟨by decide, by decide⟩, ?_⟩ | refine ⟨rfl, ?_⟩ | refine ⟨leb rfl, ?_⟩ | refine ⟨by decide, ?_⟩ | refine .inr ⟨⟨leb rfl, leb rfl, rfl, rfl⟩, ?_⟩ | fail)
            refine ⟨_, _, _, true, FrzL.frz (.cons (.self (d := 11) rfl) (.cons (.func (d := 11) (.cons (.ptr (i := 0) (d := 9) rfl rfl) .nil)) .nil)), h54 (hrs _ hmem).2 (hlo _ hmem).2 ⟨by omega, by omega⟩ hb, rfl, ?_⟩
            repeat' ((conv => whnf); first | refine ⟨rfl, fun hc => ?_, fun hc => ?_⟩ | refine ⟨fun hc => ?_, fun hc => ?_⟩ | refine ⟨rfl, _, wrap64 (by omega) (by omega), ?_⟩ | refine ⟨_, wrap64 (by omega) (by omega), ?_⟩ | refine ⟨_, wrapU (by omega) (by omega), ?_⟩ | refine ⟨rfl, rfl, ?_⟩ | refine ⟨_, _, _, _, _, gi (by repeat first | exact .hd | apply In.tl), ?_⟩ | refine ⟨_, _, _, _, gi (by repeat first | exact .hd | apply In.tl), ⟨rfl, by exact leb rfl, by exact rfl⟩, ?_⟩ | refine ⟨_, gi (by repeat first | exact .hd | apply In.tl), ?_⟩ | refine ⟨⟨rfl, leb rfl⟩, ?_⟩ | refine ⟨⟨by decide, by decide⟩, ?_⟩ | refine ⟨rfl, ?_⟩ | refine ⟨leb rfl, ?_⟩ | refine ⟨by decide, ?_⟩ | refine .inr ⟨⟨leb rfl, leb rfl, rfl, rfl⟩, ?_⟩ | fail)
            exact ⟨s.runs.length - (k + 1), _, by omega, Sub.take 1, rfl, k + 1, .mk rfl, by omega, rfl, hnext hb⟩
        · simp only [List.length_map] at h4
          obtain rfl : k = s.runs.length := by omega
          rw [List.take_length] at hs2
          exact hK _ _ (by rw [chkS, if_neg hrng, if_neg hsz, if_neg hne, if_neg (by rw [hs]; simp), if_neg (by rw [hs2]; simp)])
end Go.Proofs.Ytlgbbabijifflaa.runs
