/- Looking for an element: IndexFunc, ContainsFunc. -/
import Derived.Test.YtlgbbabijifflaaC1
set_option linter.unusedVariables false
set_option linter.unusedSimpArgs false
namespace Go.Proofs.Ytlgbbabijifflaa.runs
open Go Go.Ai Go.Proofs.Ytlgbbabijifflaa.L1R
theorem len1 {es : List (List AV)} (p : List AV → Bool) (hp : ∀ e, p e = true → e.length = 1) (h : es.all p = true) : lenIs 1 es = true := by
  cases es with
  | nil => rfl
  | cons e es =>
    simp only [List.all_cons, Bool.and_eq_true] at h
    simp [lenIs, hp e h.1]
theorem isL_len (e : List AV) (h : isL e = true) : e.length = 1 := by
  unfold isL at h; split at h <;> simp_all
theorem isU_len (e : List AV) (h : isU e = true) : e.length = 1 := by
  unfold isU at h; split at h <;> simp_all
theorem isL_get {e : List AV} (h : isL e = true) : ∃ l, e = [.list l] := by
  unfold isL at h; split at h
  · exact ⟨_, rfl⟩
  · cases h
theorem isU_get {e : List AV} (h : isU e = true) : ∃ f, e = [.int .u64 f] ∧ U64 f := by
  unfold isU at h; split at h
  · exact ⟨_, rfl, by simpa using h⟩
  · cases h
def TA : Tab := [(53, ⟨.iso, g53⟩), (55, ⟨.iso, g55⟩)]
theorem h53 {l : List (List AV)} {ag : Int} {r : List AV} {b : Bool} (h : lenNe ag [.list l] = b) : (hands TA).iso 53 [.list l, .fptr [.int .i64 ag :: r] 0 0] = some [.bool b] := by subst h; rfl
theorem h55 {f fa : Int} {x : AV} {r : List AV} {b : Bool} (hf : U64 f) (h0 : 0 ≤ fa ∧ fa ≤ 63) (h : high fa [.int .u64 f] = b) : (hands TA).iso 55 [.int .u64 f, .fptr [x :: .int .i64 fa :: r] 0 0] = some [.bool b] := by
  subst h
  show (if U64 f ∧ 0 ≤ fa ∧ fa ≤ 63 then _ else _) = _
  exact if_pos ⟨hf, h0.1, h0.2⟩
set_option maxRecDepth 100000 in
theorem run93 {n : Nat} {es : List (List AV)} {ag : Int} {r : List AV} (hes : es.all isL = true) (hl : es.length < most) {K : List AV → Ah → Prop} (hK : ∀ x A, x = firstS (lenNe ag) es 0 → K [.int .i64 x] A) : aB (hands TA) (n + es.length + 1) ir93 (.list es :: .func 53 [.fptr [.int .i64 ag :: r] 0 0] :: .undef :: .undef :: .undef :: .undef :: .undef :: .undef :: .undef :: .undef :: .undef :: .undef :: .undef :: .undef :: .undef :: .undef :: .undef :: .undef :: .undef :: []) [] K := by
  have hl' : es.length < 4294967296 := hl
  repeat' ((conv => whnf); first | refine ⟨rfl, fun hc => ?_, fun hc => ?_⟩ | refine ⟨fun hc => ?_, fun hc => ?_⟩ | refine ⟨rfl, _, wrap64 (by omega) (by omega), ?_⟩ | refine ⟨_, wrap64 (by omega) (by omega), ?_⟩ | refine ⟨_, wrapU (by omega) (by omega), ?_⟩ | refine ⟨rfl, rfl, ?_⟩ | refine ⟨_, _, _, _, _, gi (by repeat first | exact .hd | apply In.tl), ?_⟩ | refine ⟨_, _, _, _, gi (by repeat first | exact .hd | apply In.tl), ⟨rfl, by exact leb rfl, by exact rfl⟩, ?_⟩ | refine ⟨_, gi (by repeat first | exact .hd | apply In.tl), ?_⟩ | refine ⟨⟨rfl, leb rfl⟩, ?_⟩ | refine ⟨⟨by decide, by decide⟩, ?_⟩ | refine ⟨rfl, ?_⟩ | refine ⟨leb rfl, ?_⟩ | refine ⟨by decide, ?_⟩ | refine .inr ⟨⟨leb rfl, leb rfl, rfl, rfl⟩, ?_⟩ | (intro l hl) | fail)
  refine aLoop_by (fun m env A => A = [] ∧ ∃ k : Nat, IEnv (fun g => (.list es :: .func 53 [.fptr [.int .i64 ag :: r] 0 0] :: g 2 :: g 3 :: g 4 :: g 5 :: g 6 :: .int .i64 es.length :: .int .i64 (k : Int) :: g 9 :: g 10 :: g 11 :: g 12 :: g 13 :: g 14 :: g 15 :: g 16 :: g 17 :: g 18 :: [])) env ∧ k ≤ es.length ∧ m = es.length - k ∧ firstS (lenNe ag) (es.drop k) k = firstS (lenNe ag) es 0) (m := es.length) (.refl _) ⟨rfl, 0, .mk rfl, by omega, by omega, by simp⟩ (by omega) ?_
  rintro m env A ⟨rfl, k, ⟨g, rfl⟩, hk, hm, hs⟩
  refine ⟨rfl, fun h4 => ?_, fun h4 => ?_⟩
  · have hk' : k < es.length := by omega
    have hx := List.all_eq_true.1 hes es[k] (List.getElem_mem hk')
    obtain ⟨l, he⟩ := isL_get hx
    rw [List.drop_eq_getElem_cons hk', firstS] at hs
    refine ⟨⟨by omega, by omega⟩, len1 isL isL_len hes, es[k], by simp [hk'], ?_⟩
    rw [he] at hs ⊢
    rcases Bool.eq_false_or_eq_true ((lenNe ag) [.list l]) with hb | hb
    · rw [if_pos hb] at hs
      repeat' ((conv => whnf); first | refine ⟨rfl, fun hc => ?_, fun hc => ?_⟩ | refine ⟨fun hc => ?_, fun hc => ?_⟩ | refine ⟨rfl, _, wrap64 (by omega) (by omega), ?_⟩ | refine ⟨_, wrap64 (by omega) (by omega), ?_⟩ | refine ⟨_, wrapU (by omega) (by omega), ?_⟩ | refine ⟨rfl, rfl, ?_⟩ | refine ⟨_, _, _, _, _, gi (by repeat first | exact .hd | apply In.tl), ?_⟩ | refine ⟨_, _, _, _, gi (by repeat first | exact .hd | apply In.tl), ⟨rfl, by exact leb rfl, by exact rfl⟩, ?_⟩ | refine ⟨_, gi (by repeat first | exact .hd | apply In.tl), ?_⟩ | refine ⟨⟨rfl, leb rfl⟩, ?_⟩ | refine ⟨⟨by decide, by decide⟩, ?_⟩ | refine ⟨rfl, ?_⟩ | refine ⟨leb rfl, ?_⟩ | refine ⟨by decide, ?_⟩ | refine .inr ⟨⟨leb rfl, leb rfl, rfl, rfl⟩, ?_⟩ | (intro l hl) | refine ⟨_, _, _, true, fun _ H hR => ⟨H, rfl, hR⟩, h53 hb, rfl, ?_⟩ | refine ⟨_, _, _, false, fun _ H hR => ⟨H, rfl, hR⟩, h53 hb, rfl, ?_⟩ | fail)
      exact hK _ _ hs
    · rw [if_neg (by rw [hb]; simp)] at hs
      repeat' ((conv => whnf); first | refine ⟨rfl, fun hc => ?_, fun hc => ?_⟩ | refine ⟨fun hc => ?_, fun hc => ?_⟩ | refine ⟨rfl, _, wrap64 (by omega) (by omega), ?_⟩ | refine ⟨_, wrap64 (by omega) (by omega), ?_⟩ | refine ⟨_, wrapU (by omega) (by omega), ?_⟩ | refine ⟨rfl, rfl, ?_⟩ | refine ⟨_, _, _, _, _, gi (by repeat first | exact .hd | apply In.tl), ?_⟩ | refine ⟨_, _, _, _, gi (by repeat first | exact .hd | apply In.tl), ⟨rfl, by exact leb rfl, by exact rfl⟩, ?_⟩ | refine ⟨_, gi (by repeat first | exact .hd | apply In.tl), ?_⟩ | refine ⟨⟨rfl, leb rfl⟩, ?_⟩ | refine ⟨⟨by decide, by decide⟩, ?_⟩ | refine ⟨rfl, ?_⟩ | refine ⟨leb rfl, ?_⟩ | refine ⟨by decide, ?_⟩ | refine .inr ⟨⟨leb rfl, leb rfl, rfl, rfl⟩, ?_⟩ | (intro l hl) | refine ⟨_, _, _, true, fun _ H hR => ⟨H, rfl, hR⟩, h53 hb, rfl, ?_⟩ | refine ⟨_, _, _, false, fun _ H hR => ⟨H, rfl, hR⟩, h53 hb, rfl, ?_⟩ | fail)
      exact ⟨es.length - (k + 1), _, by omega, .refl _, rfl, k + 1, .mk rfl, by omega, rfl, hs⟩
  · obtain rfl : k = es.length := by omega
    simp only [List.drop_length, firstS] at hs
    exact hK _ _ hs
set_option maxRecDepth 100000 in
theorem run94 {n : Nat} {es : List (List AV)} {fa : Int} {x : AV} {r : List AV} (hes : es.all isU = true) (hl : es.length < most) (hfa : 0 ≤ fa ∧ fa ≤ 63) {K : List AV → Ah → Prop} (hK : ∀ x A, x = firstS (high fa) es 0 → K [.int .i64 x] A) : aB (hands TA) (n + es.length + 1) ir94 (.list es :: .func 55 [.fptr [x :: .int .i64 fa :: r] 0 0] :: .undef :: .undef :: .undef :: .undef :: .undef :: .undef :: .undef :: .undef :: .undef :: .undef :: .undef :: .undef :: .undef :: .undef :: .undef :: .undef :: .undef :: []) [] K := by
  have hl' : es.length < 4294967296 := hl
  repeat' ((conv => whnf); first | refine ⟨rfl, fun hc => ?_, fun hc => ?_⟩ | refine ⟨fun hc => ?_, fun hc => ?_⟩ | refine ⟨rfl, _, wrap64 (by omega) (by omega), ?_⟩ | refine ⟨_, wrap64 (by omega) (by omega), ?_⟩ | refine ⟨_, wrapU (by omega) (by omega), ?_⟩ | refine ⟨rfl, rfl, ?_⟩ | refine ⟨_, _, _, _, _, gi (by repeat first | exact .hd | apply In.tl), ?_⟩ | refine ⟨_, _, _, _, gi (by repeat first | exact .hd | apply In.tl), ⟨rfl, by exact leb rfl, by exact rfl⟩, ?_⟩ | refine ⟨_, gi (by repeat first | exact .hd | apply In.tl), ?_⟩ | refine ⟨⟨rfl, leb rfl⟩, ?_⟩ | refine ⟨⟨by decide, by decide⟩, ?_⟩ | refine ⟨rfl, ?_⟩ | refine ⟨leb rfl, ?_⟩ | refine ⟨by decide, ?_⟩ | refine .inr ⟨⟨leb rfl, leb rfl, rfl, rfl⟩, ?_⟩ | (intro l hl) | fail)
  refine aLoop_by (fun m env A => A = [] ∧ ∃ k : Nat, IEnv (fun g => (.list es :: .func 55 [.fptr [x :: .int .i64 fa :: r] 0 0] :: g 2 :: g 3 :: g 4 :: g 5 :: g 6 :: .int .i64 es.length :: .int .i64 (k : Int) :: g 9 :: g 10 :: g 11 :: g 12 :: g 13 :: g 14 :: g 15 :: g 16 :: g 17 :: g 18 :: [])) env ∧ k ≤ es.length ∧ m = es.length - k ∧ firstS (high fa) (es.drop k) k = firstS (high fa) es 0) (m := es.length) (.refl _) ⟨rfl, 0, .mk rfl, by omega, by omega, by simp⟩ (by omega) ?_
  rintro m env A ⟨rfl, k, ⟨g, rfl⟩, hk, hm, hs⟩
  refine ⟨rfl, fun h4 => ?_, fun h4 => ?_⟩
  · have hk' : k < es.length := by omega
    have hx := List.all_eq_true.1 hes es[k] (List.getElem_mem hk')
    obtain ⟨l, he, hu⟩ := isU_get hx
    rw [List.drop_eq_getElem_cons hk', firstS] at hs
    refine ⟨⟨by omega, by omega⟩, len1 isU isU_len hes, es[k], by simp [hk'], ?_⟩
    rw [he] at hs ⊢
    rcases Bool.eq_false_or_eq_true ((high fa) [.int .u64 l]) with hb | hb
    · rw [if_pos hb] at hs
      repeat' ((conv => whnf); first | refine ⟨rfl, fun hc => ?_, fun hc => ?_⟩ | refine ⟨fun hc => ?_, fun hc => ?_⟩ | refine ⟨rfl, _, wrap64 (by omega) (by omega), ?_⟩ | refine ⟨_, wrap64 (by omega) (by omega), ?_⟩ | refine ⟨_, wrapU (by omega) (by omega), ?_⟩ | refine ⟨rfl, rfl, ?_⟩ | refine ⟨_, _, _, _, _, gi (by repeat first | exact .hd | apply In.tl), ?_⟩ | refine ⟨_, _, _, _, gi (by repeat first | exact .hd | apply In.tl), ⟨rfl, by exact leb rfl, by exact rfl⟩, ?_⟩ | refine ⟨_, gi (by repeat first | exact .hd | apply In.tl), ?_⟩ | refine ⟨⟨rfl, leb rfl⟩, ?_⟩ | refine ⟨⟨by decide, by decide⟩, ?_⟩ | refine ⟨rfl, ?_⟩ | refine ⟨leb rfl, ?_⟩ | refine ⟨by decide, ?_⟩ | refine .inr ⟨⟨leb rfl, leb rfl, rfl, rfl⟩, ?_⟩ | (intro l hl) | refine ⟨_, _, _, true, fun _ H hR => ⟨H, rfl, hR⟩, h55 hu hfa hb, rfl, ?_⟩ | refine ⟨_, _, _, false, fun _ H hR => ⟨H, rfl, hR⟩, h55 hu hfa hb, rfl, ?_⟩ | fail)
      exact hK _ _ hs
    · rw [if_neg (by rw [hb]; simp)] at hs
      repeat' ((conv => whnf); first | refine ⟨rfl, fun hc => ?_, fun hc => ?_⟩ | refine ⟨fun hc => ?_, fun hc => ?_⟩ | refine ⟨rfl, _, wrap64 (by omega) (by omega), ?_⟩ | refine ⟨_, wrap64 (by omega) (by omega), ?_⟩ | refine ⟨_, wrapU (by omega) (by omega), ?_⟩ | refine ⟨rfl, rfl, ?_⟩ | refine ⟨_, _, _, _, _, gi (by repeat first | exact .hd | apply In.tl), ?_⟩ | refine ⟨_, _, _, _, gi (by repeat first | exact .hd | apply In.tl), ⟨rfl, by exact leb rfl, by exact rfl⟩, ?_⟩ | refine ⟨_, gi (by repeat first | exact .hd | apply In.tl), ?_⟩ | refine ⟨⟨rfl, leb rfl⟩, ?_⟩ | refine ⟨⟨by decide, by decide⟩, ?_⟩ | refine ⟨rfl, ?_⟩ | refine ⟨leb rfl, ?_⟩ | refine ⟨by decide, ?_⟩ | refine .inr ⟨⟨leb rfl, leb rfl, rfl, rfl⟩, ?_⟩ | (intro l hl) | refine ⟨_, _, _, true, fun _ H hR => ⟨H, rfl, hR⟩, h55 hu hfa hb, rfl, ?_⟩ | refine ⟨_, _, _, false, fun _ H hR => ⟨H, rfl, hR⟩, h55 hu hfa hb, rfl, ?_⟩ | fail)
      exact ⟨es.length - (k + 1), _, by omega, .refl _, rfl, k + 1, .mk rfl, by omega, rfl, hs⟩
  · obtain rfl : k = es.length := by omega
    simp only [List.drop_length, firstS] at hs
    exact hK _ _ hs
end Go.Proofs.Ytlgbbabijifflaa.runs
