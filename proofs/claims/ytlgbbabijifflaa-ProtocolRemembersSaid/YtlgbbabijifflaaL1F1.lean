/- Histories: Start, Time, After; what an agent sends; the check of a protocol. -/
import Derived.Test.YtlgbbabijifflaaR54
import Derived.Test.YtlgbbabijifflaaA27
set_option linter.unusedVariables false
set_option linter.unusedSimpArgs false
namespace Go.Proofs.Ytlgbbabijifflaa.law1
open Go Go.Ai Go.Proofs.Ytlgbbabijifflaa.L1R
theorem wrap64 {n : Int} (h1 : -9223372036854775808 ≤ n) (h2 : n ≤ 9223372036854775807) : wrapI .i64 n = n := by
  simp only [wrapI, topN, modN]
  omega
abbrev I64 (n : Int) : Prop := -9223372036854775808 ≤ n ∧ n ≤ 9223372036854775807
theorem mixed : Try.prog.follows .mixedOrders = true := by kernel_rfl
/-! ### Start -/
def startS (a b : Int) : Int := if a < 0 ∨ a > 1 ∨ b < 0 ∨ b > 1 then -1 else if a = 1 then 4 else 4 + b
set_option maxRecDepth 100000 in
theorem run46 {hd : Hands} {n : Nat} (a b : Int) {K : List AV → Ah → Prop} (hK : ∀ x, x = startS a b → K [.int .i64 x] []) : aB hd n ir46 (.int .i64 a :: .int .i64 b :: .undef :: .undef :: .undef :: .undef :: .undef :: .undef :: .undef :: .undef :: .undef :: .undef :: .undef :: .undef :: .undef :: .undef :: .undef :: .undef :: .undef :: .undef :: .undef :: .undef :: .undef :: []) [] K := by
  repeat' ((conv => whnf); first | refine ⟨rfl, fun hc => ?_, fun hc => ?_⟩ | refine ⟨fun hc => ?_, fun hc => ?_⟩ | refine ⟨rfl, _, wrap64 (by omega) (by omega), ?_⟩ | refine ⟨_, wrap64 (by omega) (by omega), ?_⟩ | refine ⟨_, wrapU (by omega) (by omega), ?_⟩ | refine ⟨rfl, rfl, ?_⟩ | refine ⟨_, _, _, _, _, gi (by repeat first | exact .hd | apply In.tl), ?_⟩ | refine ⟨_, _, _, _, gi (by repeat first | exact .hd | apply In.tl), ⟨rfl, by exact leb rfl, by exact rfl⟩, ?_⟩ | refine ⟨_, gi (by repeat first | exact .hd | apply In.tl), ?_⟩ | refine ⟨⟨rfl, leb rfl⟩, ?_⟩ | refine ⟨⟨by decide, by decide⟩, ?_⟩ | refine ⟨rfl, ?_⟩ | refine ⟨leb rfl, ?_⟩ | refine ⟨by decide, ?_⟩ | refine .inr ⟨⟨leb rfl, leb rfl, rfl, rfl⟩, ?_⟩ | (intro l hl) | fail)
  all_goals refine hK _ ?_
  all_goals simp only [startS]
  all_goals omega
def g46 (args : List AV) : Option (List AV) := match args with
  | [.int .i64 a, .int .i64 b] => some [.int .i64 (startS a b)]
  | _ => none
/-! ### Time -/
/-- First digits, and how many there are behind them. -/
def strip : Nat → Int → Int × Int
  | 0, h => (h, 0)
  | n + 1, h => if h < 8 then (h, 0) else ((strip n (h / 4)).1, (strip n (h / 4)).2 + 1)
def timeS (a h : Int) : Int :=
  if a < 0 ∨ a > 1 ∨ h < 4 then -1 else
  if (strip 64 h).1 < 4 ∨ (strip 64 h).1 > 5 - a ∨ (strip 64 h).2 > 5 then -1 else (strip 64 h).2
theorem strip_small {n : Nat} {h : Int} (hh : h < 8) : strip n h = (h, 0) := by cases n <;> simp [strip, hh]
theorem strip_nonneg : ∀ (n : Nat) (h : Int), 0 ≤ (strip n h).2
  | 0, h => by simp [strip]
  | n + 1, h => by
    have := strip_nonneg n (h / 4)
    simp only [strip]
    split
    · simp
    · simp only; omega
theorem tdiv4 {q : Int} (h : 0 ≤ q) : q.tdiv 4 = q / 4 := Int.tdiv_eq_ediv_of_nonneg h
set_option maxRecDepth 100000 in
theorem run45 {hd : Hands} {n : Nat} (hn : 64 < n) (a h : Int) (ha : I64 a) (hh : I64 h) {K : List AV → Ah → Prop} (hK : ∀ x, x = timeS a h → K [.int .i64 x] []) : aB hd n ir45 (.int .i64 a :: .int .i64 h :: .undef :: .undef :: .undef :: .undef :: .undef :: .undef :: .undef :: .undef :: .undef :: .undef :: .undef :: .undef :: .undef :: .undef :: .undef :: .undef :: .undef :: .undef :: .undef :: .undef :: .undef :: .undef :: .undef :: .undef :: .undef :: .undef :: .undef :: .undef :: .undef :: .undef :: .undef :: .undef :: .undef :: []) [] K := by
  obtain ⟨ha1, ha2⟩ := ha
  obtain ⟨hh1, hh2⟩ := hh
  repeat' ((conv => whnf); first | refine ⟨rfl, fun hc => ?_, fun hc => ?_⟩ | refine ⟨fun hc => ?_, fun hc => ?_⟩ | refine ⟨rfl, _, wrap64 (by omega) (by omega), ?_⟩ | refine ⟨_, wrap64 (by omega) (by omega), ?_⟩ | refine ⟨_, wrapU (by omega) (by omega), ?_⟩ | refine ⟨rfl, rfl, ?_⟩ | refine ⟨_, _, _, _, _, gi (by repeat first | exact .hd | apply In.tl), ?_⟩ | refine ⟨_, _, _, _, gi (by repeat first | exact .hd | apply In.tl), ⟨rfl, by exact leb rfl, by exact rfl⟩, ?_⟩ | refine ⟨_, gi (by repeat first | exact .hd | apply In.tl), ?_⟩ | refine ⟨⟨rfl, leb rfl⟩, ?_⟩ | refine ⟨⟨by decide, by decide⟩, ?_⟩ | refine ⟨rfl, ?_⟩ | refine ⟨leb rfl, ?_⟩ | refine ⟨by decide, ?_⟩ | refine .inr ⟨⟨leb rfl, leb rfl, rfl, rfl⟩, ?_⟩ | (intro l hl) | fail)
  · refine hK _ ?_
    simp only [timeS]; omega
  · refine hK _ ?_
    simp only [timeS]; omega
  · refine hK _ ?_
    simp only [timeS]; omega
  · refine aLoop_by (fun m env A => A = [] ∧ ∃ q t x6 x7 x8 x9 x10 x11 x12 x13 x14 x15 x16 x17 x18 x19 x20 x21, env = (.int .i64 a :: .int .i64 q :: .undef :: .undef :: .int .i64 0 :: .int .i64 t :: x6 :: x7 :: x8 :: x9 :: x10 :: x11 :: x12 :: x13 :: x14 :: x15 :: x16 :: x17 :: x18 :: x19 :: x20 :: x21 :: .undef :: .undef :: .undef :: .undef :: .undef :: .undef :: .undef :: .undef :: .undef :: .undef :: .undef :: .undef :: .undef :: []) ∧ m ≤ 64 ∧ 2 ≤ q ∧ q ≤ 9223372036854775807 ∧ q < 4 ^ m ∧ 0 ≤ t ∧ t ≤ 64 - m ∧ strip 64 h = ((strip m q).1, (strip m q).2 + t)) (m := 64) (.refl _) ⟨rfl, h, 0, _, _, _, _, _, _, _, _, _, _, _, _, _, _, _, _, rfl, Nat.le_refl _, by omega, by omega, by omega, by omega, by omega, by simp⟩ hn ?_
    rintro m env A ⟨rfl, q, t, x6, x7, x8, x9, x10, x11, x12, x13, x14, x15, x16, x17, x18, x19, x20, x21, rfl, b1, b2, b2', b3, b4, b5, b6⟩
    refine ⟨rfl, fun h4 => ?_, fun h4 => ?_⟩
    · have h5 : q.tdiv 4 = q / 4 := tdiv4 (by omega)
      refine ⟨rfl, by decide, q / 4, ?_, ?_⟩
      · rw [h5]; exact wrap64 (by omega) (by omega)
      · refine ⟨rfl, t + 1, wrap64 (by omega) (by omega), ?_⟩
        cases m with
        | zero => simp at b3; omega
        | succ m => exact ⟨m, [], by omega, .refl _, rfl, q / 4, t + 1, _, _, _, _, _, _, _, _, _, _, _, _, _, _, _, _, rfl, by omega, by omega, by omega, by rw [Int.pow_succ] at b3; omega, by omega, by omega, by rw [b6, strip, if_neg (by omega)]; simp only [Prod.mk.injEq, true_and]; omega⟩
    · repeat' ((conv => whnf); first | refine ⟨rfl, fun hc => ?_, fun hc => ?_⟩ | refine ⟨fun hc => ?_, fun hc => ?_⟩ | refine ⟨rfl, _, wrap64 (by omega) (by omega), ?_⟩ | refine ⟨_, wrap64 (by omega) (by omega), ?_⟩ | refine ⟨_, wrapU (by omega) (by omega), ?_⟩ | refine ⟨rfl, rfl, ?_⟩ | refine ⟨_, _, _, _, _, gi (by repeat first | exact .hd | apply In.tl), ?_⟩ | refine ⟨_, _, _, _, gi (by repeat first | exact .hd | apply In.tl), ⟨rfl, by exact leb rfl, by exact rfl⟩, ?_⟩ | refine ⟨_, gi (by repeat first | exact .hd | apply In.tl), ?_⟩ | refine ⟨⟨rfl, leb rfl⟩, ?_⟩ | refine ⟨⟨by decide, by decide⟩, ?_⟩ | refine ⟨rfl, ?_⟩ | refine ⟨leb rfl, ?_⟩ | refine ⟨by decide, ?_⟩ | refine .inr ⟨⟨leb rfl, leb rfl, rfl, rfl⟩, ?_⟩ | (intro l hl) | fail)
      all_goals refine hK _ ?_
      all_goals simp only [timeS, b6, strip_small (n := m) (show q < 8 by omega)]
      all_goals omega
def g45 (args : List AV) : Option (List AV) := match args with
  | [.int .i64 a, .int .i64 h] => if I64 a ∧ I64 h then some [.int .i64 (timeS a h)] else none
  | _ => none
theorem t45 {a h : Int} (ha : I64 a) (hh : I64 h) : g45 [.int .i64 a, .int .i64 h] = some [.int .i64 (timeS a h)] := if_pos ⟨ha, hh⟩
theorem t46 (a b : Int) : g46 [.int .i64 a, .int .i64 b] = some [.int .i64 (startS a b)] := rfl
/-! ### After -/
def T1 : Tab := [(45, ⟨.iso, g45⟩), (46, ⟨.iso, g46⟩)]
def afterS (h m : Int) : Int := if timeS 0 h < 0 ∨ timeS 0 h ≥ 5 ∨ m < 0 ∨ m > 3 then -1 else 4 * h + m
theorem strip_digits : ∀ (n : Nat) (h : Int) (k : Nat), (strip n h).1 ≤ 7 → (strip n h).2 = (k : Int) → h < 8 * 4 ^ k
  | 0, h, k, h1, h2 => by
    simp only [strip] at h1 h2
    obtain rfl : k = 0 := by omega
    omega
  | n + 1, h, k, h1, h2 => by
    simp only [strip] at h1 h2
    split at h1
    · rename_i hs
      rw [if_pos hs] at h2
      simp only at h2
      obtain rfl : k = 0 := by omega
      omega
    · rename_i hs
      rw [if_neg hs] at h2
      simp only at h1 h2
      cases k with
      | zero => have := strip_nonneg n (h / 4); omega
      | succ k =>
        have := strip_digits n (h / 4) k h1 (by omega)
        rw [Int.pow_succ]
        omega
theorem time_bound {a h : Int} (hh : 0 ≤ timeS a h) : 0 ≤ a ∧ a ≤ 1 ∧ 4 ≤ h ∧ h < 8192 ∧ timeS a h ≤ 5 := by
  unfold timeS at hh ⊢
  split at hh
  · omega
  · rename_i h1
    rw [if_neg h1]
    split at hh
    · omega
    · rename_i h2
      rw [if_neg h2]
      have h3 := strip_digits 64 h (strip 64 h).2.toNat (by omega) (by omega)
      have h4 : (strip 64 h).2.toNat = 0 ∨ (strip 64 h).2.toNat = 1 ∨ (strip 64 h).2.toNat = 2 ∨ (strip 64 h).2.toNat = 3 ∨ (strip 64 h).2.toNat = 4 ∨ (strip 64 h).2.toNat = 5 := by omega
      rcases h4 with h4 | h4 | h4 | h4 | h4 | h4 <;> rw [h4] at h3 <;> omega
set_option maxRecDepth 100000 in
theorem run44 {n : Nat} (h m : Int) (hh : I64 h) {K : List AV → Ah → Prop} (hK : ∀ x, x = afterS h m → K [.int .i64 x] []) : aB (hands T1) n ir44 (.int .i64 h :: .int .i64 m :: .undef :: .undef :: .undef :: .undef :: .undef :: .undef :: .undef :: .undef :: .undef :: .undef :: .undef :: .undef :: .undef :: .undef :: .undef :: .undef :: .undef :: .undef :: .undef :: .undef :: .undef :: .undef :: .undef :: .undef :: []) [] K := by
  have hb := @time_bound 0 h
  repeat' ((conv => whnf); first | refine ⟨rfl, fun hc => ?_, fun hc => ?_⟩ | refine ⟨fun hc => ?_, fun hc => ?_⟩ | refine ⟨rfl, _, wrap64 (by omega) (by omega), ?_⟩ | refine ⟨_, wrap64 (by omega) (by omega), ?_⟩ | refine ⟨_, wrapU (by omega) (by omega), ?_⟩ | refine ⟨rfl, rfl, ?_⟩ | refine ⟨_, _, _, _, _, gi (by repeat first | exact .hd | apply In.tl), ?_⟩ | refine ⟨_, _, _, _, gi (by repeat first | exact .hd | apply In.tl), ⟨rfl, by exact leb rfl, by exact rfl⟩, ?_⟩ | refine ⟨_, gi (by repeat first | exact .hd | apply In.tl), ?_⟩ | refine ⟨⟨rfl, leb rfl⟩, ?_⟩ | refine ⟨⟨by decide, by decide⟩, ?_⟩ | refine ⟨rfl, ?_⟩ | refine ⟨leb rfl, ?_⟩ | refine ⟨by decide, ?_⟩ | refine .inr ⟨⟨leb rfl, leb rfl, rfl, rfl⟩, ?_⟩ | (intro l hl) | refine ⟨_, _, _, true, fun _ H hR => ⟨H, rfl, hR⟩, t45 (by decide) hh, rfl, ?_⟩ | refine ⟨_, _, _, false, fun _ H hR => ⟨H, rfl, hR⟩, t45 (by decide) hh, rfl, ?_⟩ | fail)
  all_goals refine hK _ ?_
  all_goals simp only [afterS]
  all_goals omega
def g44 (args : List AV) : Option (List AV) := match args with
  | [.int .i64 h, .int .i64 m] => if I64 h then some [.int .i64 (afterS h m)] else none
  | _ => none
theorem t44 {h m : Int} (hh : I64 h) : g44 [.int .i64 h, .int .i64 m] = some [.int .i64 (afterS h m)] := if_pos hh
/-! ### Rules -/
structure Rule where
  a : Int
  h : Int
  m : Int
abbrev Rule.Ok (r : Rule) : Prop := I64 r.a ∧ I64 r.h ∧ I64 r.m
def ruleC (r : Rule) : List AV := [.int .i64 r.a, .int .i64 r.h, .int .i64 r.m]
def eC (n : Int) (rs : List Rule) : List AV := [.int .i64 n, .list (rs.map ruleC)]
theorem rules_len (rs : List Rule) : lenIs 3 (rs.map ruleC) = true := by cases rs <;> rfl
theorem rules_get {rs : List Rule} {k : Nat} (h : k < rs.length) : (rs.map ruleC)[((k : Nat) : Int).toNat]? = some (ruleC rs[k]) := by simp [h]
theorem Sub.take {A : Ah} (n : Nat) : Sub A (A.take n) := .list (List.take_sublist n A)
theorem wrapNat {k : Nat} (h : k < 9223372036854775807) : wrapI .i64 ((k : Int) + 1) = ((k + 1 : Nat) : Int) := by
  rw [wrap64 (by omega) (by omega)]; omega
def sendsS (a h : Int) : List Rule → Int
  | [] => 0
  | r :: rs => if r.a = a ∧ r.h = h then r.m else sendsS a h rs
set_option maxRecDepth 100000 in
theorem run92 {hd : Hands} {n : Nat} {e0 : Int} {rs : List Rule} (hrs : rs.length ≤ 100) (hn : 100 < n) (a h : Int) {K : List AV → Ah → Prop} (hK : ∀ A, K [.int .i64 (sendsS a h rs)] A) : aB hd n ir92 (.agg (eC e0 rs) :: .int .i64 a :: .int .i64 h :: .undef :: .undef :: .undef :: .undef :: .undef :: .undef :: .undef :: .undef :: .undef :: .undef :: .undef :: .undef :: .undef :: .undef :: .undef :: .undef :: .undef :: .undef :: .undef :: .undef :: .undef :: .undef :: .undef :: .undef :: .undef :: .undef :: []) [] K := by
  refine ⟨rfl, ?_⟩
  intro l3 hl3
  repeat' ((conv => whnf); first | refine ⟨rfl, fun hc => ?_, fun hc => ?_⟩ | refine ⟨fun hc => ?_, fun hc => ?_⟩ | refine ⟨rfl, _, wrap64 (by omega) (by omega), ?_⟩ | refine ⟨_, wrap64 (by omega) (by omega), ?_⟩ | refine ⟨_, wrapU (by omega) (by omega), ?_⟩ | refine ⟨rfl, rfl, ?_⟩ | refine ⟨_, _, _, _, _, gi (by repeat first | exact .hd | apply In.tl), ?_⟩ | refine ⟨_, _, _, _, gi (by repeat first | exact .hd | apply In.tl), ⟨rfl, by exact leb rfl, by exact rfl⟩, ?_⟩ | refine ⟨_, gi (by repeat first | exact .hd | apply In.tl), ?_⟩ | refine ⟨⟨rfl, leb rfl⟩, ?_⟩ | refine ⟨⟨by decide, by decide⟩, ?_⟩ | refine ⟨rfl, ?_⟩ | refine ⟨leb rfl, ?_⟩ | refine ⟨by decide, ?_⟩ | refine .inr ⟨⟨leb rfl, leb rfl, rfl, rfl⟩, ?_⟩ | (intro l hl) | fail)
  refine aLoop_by (fun m env A => A = [(l3, some (.cells (eC e0 rs) 0 0 false false))] ∧ ∃ (k : Nat) (x8 x13 x14 x15 x16 x17 x18 x19 x20 x21 x22 x23 x24 x25 x26 x27 x28 : AV), env = (.agg (eC e0 rs) :: .int .i64 a :: .int .i64 h :: .ptr l3 0 0 :: .undef :: .undef :: .int .i64 0 :: .undef :: x8 :: .ptr l3 1 0 :: .list (rs.map ruleC) :: .int .i64 (rs.map ruleC).length :: .int .i64 (k : Int) :: x13 :: x14 :: x15 :: x16 :: x17 :: x18 :: x19 :: x20 :: x21 :: x22 :: x23 :: x24 :: x25 :: x26 :: x27 :: x28 :: []) ∧ k ≤ rs.length ∧ m = rs.length - k ∧ sendsS a h (rs.drop k) = sendsS a h rs) (m := rs.length) (.refl _) ⟨rfl, 0, _, _, _, _, _, _, _, _, _, _, _, _, _, _, _, _, _, rfl, by omega, by omega, by simp⟩ (by omega) ?_
  rintro m env A ⟨rfl, k, x8, x13, x14, x15, x16, x17, x18, x19, x20, x21, x22, x23, x24, x25, x26, x27, x28, rfl, hk, hm, hs⟩
  refine ⟨rfl, fun h4 => ?_, fun h4 => ?_⟩
  · simp only [List.length_map] at h4
    have hk' : k < rs.length := by omega
    rw [List.drop_eq_getElem_cons hk', sendsS] at hs
    refine ⟨⟨by omega, by simp; omega⟩, rules_len rs, _, rules_get hk', ?_⟩
    intro l8 hl8
    repeat' ((conv => whnf); first | refine ⟨rfl, fun hc => ?_, fun hc => ?_⟩ | refine ⟨fun hc => ?_, fun hc => ?_⟩ | refine ⟨rfl, _, wrap64 (by omega) (by omega), ?_⟩ | refine ⟨_, wrap64 (by omega) (by omega), ?_⟩ | refine ⟨_, wrapU (by omega) (by omega), ?_⟩ | refine ⟨rfl, rfl, ?_⟩ | refine ⟨_, _, _, _, _, gi (by repeat first | exact .hd | apply In.tl), ?_⟩ | refine ⟨_, _, _, _, gi (by repeat first | exact .hd | apply In.tl), ⟨rfl, by exact leb rfl, by exact rfl⟩, ?_⟩ | refine ⟨_, gi (by repeat first | exact .hd | apply In.tl), ?_⟩ | refine ⟨⟨rfl, leb rfl⟩, ?_⟩ | refine ⟨⟨by decide, by decide⟩, ?_⟩ | refine ⟨rfl, ?_⟩ | refine ⟨leb rfl, ?_⟩ | refine ⟨by decide, ?_⟩ | refine .inr ⟨⟨leb rfl, leb rfl, rfl, rfl⟩, ?_⟩ | (intro l hl) | fail)
    · rename_i h5
      have h6 : ∀ A, K [.int .i64 rs[k].m] A := fun A => by rw [if_pos ⟨h5, hc⟩] at hs; rw [hs]; exact hK _
      exact h6 _
    · exact ⟨rs.length - (k + 1), _, by omega, Sub.take 1, rfl, k + 1, _, _, _, _, _, _, _, _, _, _, _, _, _, _, _, _, _, rfl, by omega, rfl, by rw [if_neg fun h => hc h.2] at hs; exact hs⟩
    · exact ⟨rs.length - (k + 1), _, by omega, Sub.take 1, rfl, k + 1, _, _, _, _, _, _, _, _, _, _, _, _, _, _, _, _, _, rfl, by omega, rfl, by rw [if_neg fun h => hc h.1] at hs; exact hs⟩
  · simp only [List.length_map] at h4
    obtain rfl : k = rs.length := by omega
    simp only [List.drop_length, sendsS] at hs
    have := hK [(l3, some (.cells (eC e0 rs) 0 0 false false))]
    rw [← hs] at this
    exact this
end Go.Proofs.Ytlgbbabijifflaa.law1
