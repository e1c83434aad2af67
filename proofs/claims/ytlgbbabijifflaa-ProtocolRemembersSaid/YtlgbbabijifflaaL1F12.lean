/- The plain law: what the two channels are, is as the law says. -/
import Derived.Test.YtlgbbabijifflaaL1F11
set_option linter.unusedVariables false
set_option linter.unusedSimpArgs false
namespace Go.Proofs.Ytlgbbabijifflaa.law1
open Go Go.Ai Go.Proofs.Ytlgbbabijifflaa.L1R
open runs (RunD SysD runC sysC intsC dInt dAll locsC facsC dInts sysFine syncOk recOk locS histS histP locP noRepB numP runFine)
/-! ### Times -/
theorem strip_at : ∀ (k n : Nat) (h : Int), k ≤ n → 4 * 4 ^ k ≤ h → h < 6 * 4 ^ k → 4 ≤ (strip n h).1 ∧ (strip n h).1 < 6 ∧ (strip n h).2 = k
  | 0, n, h, hk, h1, h2 => by
    simp only [Int.pow_zero] at h1 h2
    rw [strip_small (by omega)]
    simp only
    omega
  | k + 1, 0, h, hk, h1, h2 => by omega
  | k + 1, n + 1, h, hk, h1, h2 => by
    rw [Int.pow_succ] at h1 h2
    have hp : (0 : Int) < 4 ^ k := Int.pow_pos (by decide)
    have h8 : ¬ h < 8 := by omega
    have := strip_at k n (h / 4) (by omega) (by omega) (by omega)
    simp only [strip, if_neg h8]
    omega
theorem time_at {t : Nat} {h : Int} (ht : t ≤ 5) (h1 : 4 * 4 ^ t ≤ h) (h2 : h < 6 * 4 ^ t) : timeS 0 h = t := by
  have hp : (0 : Int) < 4 ^ t := Int.pow_pos (by decide)
  have := strip_at t 64 h (by omega) h1 h2
  unfold timeS
  rw [if_neg (by omega), if_neg (by omega)]
  exact this.2.2
theorem after_at {t : Nat} {h m : Int} (ht : t ≤ 4) (h1 : 4 * 4 ^ t ≤ h) (h2 : h < 6 * 4 ^ t) (m1 : 0 ≤ m) (m2 : m ≤ 3) : afterS h m = 4 * h + m := by
  rw [afterS, time_at (by omega) h1 h2, if_neg (by omega)]
/-! ### Rules -/
theorem chkL_zero (n : Int) : ∀ (rs : List Rule) (p : Option Rule), chkL n p rs = 0 → ∀ r ∈ rs, 1 ≤ r.m ∧ r.m ≤ 3
  | [], p, h => fun r hr => by simp at hr
  | r :: rs, p, h => by
    rw [chkL_cons] at h
    split at h
    · cases h
    · rename_i hn
      have hrest : ∀ r ∈ rs, 1 ≤ r.m ∧ r.m ≤ 3 := by
        cases p with
        | none => exact chkL_zero n rs _ h
        | some b =>
          simp only at h
          split at h
          · cases h
          · exact chkL_zero n rs _ h
      intro x hx
      rcases List.mem_cons.1 hx with rfl | hx
      · omega
      · exact hrest x hx
def Msgs (rs : List Rule) : Prop := ∀ r ∈ rs, 1 ≤ r.m ∧ r.m ≤ 3
theorem sends_at (a h : Int) : ∀ {rs : List Rule}, Msgs rs → 0 ≤ sendsS a h rs ∧ sendsS a h rs ≤ 3
  | [], _ => by simp [sendsS]
  | r :: rs, hm => by
    have h1 := hm r (by simp)
    have h2 := sends_at a h (rs := rs) fun x hx => hm x (by simp [hx])
    simp only [sendsS]
    split <;> omega
/-! ### States -/
def stA (a : Nat) (s : Int × Int) : Int := if a = 0 then s.1 else s.2
abbrev At (t : Nat) (h : Int) : Prop := 4 * 4 ^ t ≤ h ∧ h < 6 * 4 ^ t
theorem step_at {rs : List Rule} (hm : Msgs rs) {t : Nat} (ht : t ≤ 4) {s : Int × Int} (h1 : At t s.1) (h2 : At t s.2) (mask : Int) :
    ∃ x y, stepS rs mask s = (4 * s.1 + x, 4 * s.2 + y) ∧ (0 ≤ x ∧ x ≤ 3) ∧ (0 ≤ y ∧ y ≤ 3) ∧ x = (if mask / 2 % 2 = 1 then 0 else sendsS 1 s.2 rs) ∧ y = (if mask % 2 = 1 then 0 else sendsS 0 s.1 rs) := by
  have a1 := sends_at 1 s.2 hm
  have a2 := sends_at 0 s.1 hm
  have b1 : 0 ≤ (if mask / 2 % 2 = 1 then 0 else sendsS 1 s.2 rs) ∧ (if mask / 2 % 2 = 1 then 0 else sendsS 1 s.2 rs) ≤ 3 := by split <;> omega
  have b2 : 0 ≤ (if mask % 2 = 1 then 0 else sendsS 0 s.1 rs) ∧ (if mask % 2 = 1 then 0 else sendsS 0 s.1 rs) ≤ 3 := by split <;> omega
  exact ⟨_, _, by rw [stepS, after_at ht h1.1 h1.2 b1.1 b1.2, after_at ht h2.1 h2.2 b2.1 b2.2], b1, b2, rfl, rfl⟩
theorem st_at {rs : List Rule} (hm : Msgs rs) {bit : Int} (hb : bit = 0 ∨ bit = 1) (lost : List Int) : ∀ t, t ≤ 5 → At t (stS rs bit lost t).1 ∧ At t (stS rs bit lost t).2
  | 0, _ => by
    simp only [stS, startS, At, Int.pow_zero]
    omega
  | t + 1, ht => by
    obtain ⟨h1, h2⟩ := st_at hm hb lost t (by omega)
    obtain ⟨x, y, e, hx, hy, _⟩ := step_at hm (by omega) h1 h2 (lost.getD t 0)
    simp only [stS, e, At, Int.pow_succ] at *
    omega
theorem stA_at {rs : List Rule} (hm : Msgs rs) {bit : Int} (hb : bit = 0 ∨ bit = 1) (lost : List Int) (a t : Nat) (ht : t ≤ 5) : At t (stA a (stS rs bit lost t)) := by
  have := st_at hm hb lost t ht
  unfold stA
  split
  · exact this.1
  · exact this.2
theorem stA_succ {rs : List Rule} (hm : Msgs rs) {bit : Int} (hb : bit = 0 ∨ bit = 1) (lost : List Int) (a t : Nat) (ht : t ≤ 4) : ∃ x, stA a (stS rs bit lost (t + 1)) = 4 * stA a (stS rs bit lost t) + x ∧ 0 ≤ x ∧ x ≤ 3 := by
  have := st_at hm hb lost t (by omega)
  obtain ⟨x, y, e, hx, hy, _⟩ := step_at hm ht this.1 this.2 (lost.getD t 0)
  unfold stA
  simp only [stS, e]
  split
  · exact ⟨x, rfl, hx⟩
  · exact ⟨y, rfl, hy⟩
theorem st_congr (rs : List Rule) (bit : Int) {x y : List Int} : ∀ t, (∀ i, i < t → x.getD i 0 = y.getD i 0) → stS rs bit x t = stS rs bit y t
  | 0, _ => rfl
  | t + 1, h => by
    simp only [stS]
    rw [h t (by omega), st_congr rs bit t fun i hi => h i (by omega)]
/-! ### Losses -/
def allL (rs : List Rule) (bit : Int) : Nat → List Int → List (List Int)
  | 0, lost => [lost]
  | d + 1, lost => (((List.range 4).map msk).filter (okM rs bit lost)).flatMap fun m => allL rs bit d (lost ++ [m])
theorem fold_pre {rs : List Rule} {bit : Int} {f : List Int → List RunD → List RunD} (hf : ∀ lost acc, ∃ t, f lost acc = acc ++ t) (lost : List Int) (acc : List RunD) : ∀ i, ∃ t, foldG rs bit f i lost acc = acc ++ t
  | 0 => ⟨[], by simp [foldG]⟩
  | i + 1 => by
    obtain ⟨t, ht⟩ := fold_pre hf lost acc i
    simp only [foldG]
    split
    · obtain ⟨u, hu⟩ := hf (lost ++ [msk i]) (foldG rs bit f i lost acc)
      exact ⟨t ++ u, by rw [hu, ht, List.append_assoc]⟩
    · exact ⟨t, ht⟩
theorem enum_pre (rs : List Rule) (bit : Int) : ∀ (d : Nat) (lost : List Int) (acc : List RunD), ∃ t, enumS rs bit d lost acc = acc ++ t
  | 0, lost, acc => by
    simp only [enumS]
    split
    · exact ⟨[], by simp⟩
    · exact ⟨_, rfl⟩
  | d + 1, lost, acc => by
    simp only [enumS]
    split
    · exact ⟨[], by simp⟩
    · exact fold_pre (enum_pre rs bit d) lost acc 4
theorem fold_eq {rs : List Rule} {bit : Int} {d : Nat} (hf : ∀ lost acc, (enumS rs bit d lost acc).length ≤ 64 → enumS rs bit d lost acc = acc ++ (allL rs bit d lost).map (runD rs bit)) (lost : List Int) (acc : List RunD) : ∀ i, (foldG rs bit (enumS rs bit d) i lost acc).length ≤ 64 →
    foldG rs bit (enumS rs bit d) i lost acc = acc ++ ((((List.range i).map msk).filter (okM rs bit lost)).flatMap fun m => allL rs bit d (lost ++ [m])).map (runD rs bit)
  | 0, _ => by simp [foldG]
  | i + 1, h => by
    simp only [foldG] at h ⊢
    split
    · rename_i hk
      rw [if_pos hk] at h
      have e1 := hf _ _ h
      rw [e1] at h
      have e2 := fold_eq hf lost acc i (by simp only [List.length_append] at h; omega)
      rw [e1, e2]
      simp [List.range_succ, List.filter_append, List.filter_cons, hk, List.flatMap_append]
    · rename_i hk
      rw [if_neg hk] at h
      rw [fold_eq hf lost acc i h]
      simp [List.range_succ, List.filter_append, List.filter_cons, hk]
theorem enum_eq (rs : List Rule) (bit : Int) : ∀ (d : Nat) (lost : List Int) (acc : List RunD), (enumS rs bit d lost acc).length ≤ 64 → enumS rs bit d lost acc = acc ++ (allL rs bit d lost).map (runD rs bit)
  | 0, lost, acc, h => by
    simp only [enumS] at h ⊢
    split at h
    · omega
    · rename_i hn; rw [if_neg hn]; rfl
  | d + 1, lost, acc, h => by
    simp only [enumS] at h ⊢
    split at h
    · omega
    · rename_i hn
      rw [if_neg hn]
      exact fold_eq (enum_eq rs bit d) lost acc 4 h
theorem msks : (List.range 4).map msk = [0, 2, 1, 3] := rfl
theorem ok_spec {rs : List Rule} {bit : Int} {lost : List Int} {m : Int} (hm : m ∈ (List.range 4).map msk) (h : okM rs bit lost m = true) :
    (m = 0 ∨ m = 1 ∨ m = 2 ∨ m = 3) ∧ (m % 2 = 1 → 0 < sendsS 0 (stS rs bit lost lost.length).1 rs) ∧ (m / 2 % 2 = 1 → 0 < sendsS 1 (stS rs bit lost lost.length).2 rs) := by
  rw [msks] at hm
  have e : stS rs bit (lost ++ [0]) lost.length = stS rs bit lost lost.length := st_congr rs bit _ fun i hi => by simp [List.getD_eq_getElem?_getD, List.getElem?_append_left hi]
  simp only [okM, whoN, e, whoS, decide_eq_true_eq] at h
  simp only [List.mem_cons, List.not_mem_nil, or_false] at hm
  by_cases h1 : sendsS 0 (stS rs bit lost lost.length).1 rs > 0 <;> by_cases h2 : sendsS 1 (stS rs bit lost lost.length).2 rs > 0 <;> simp only [h1, h2, if_true, if_false] at h <;> rcases hm with rfl | rfl | rfl | rfl <;> first | (exact absurd h (by decide)) | (refine ⟨by decide, fun _ => ?_, fun _ => ?_⟩ <;> first | assumption | (exfalso; omega))
theorem ok_zero (rs : List Rule) (bit : Int) (lost : List Int) : okM rs bit lost 0 = true := by
  simp only [okM, whoN, whoS]
  split <;> split <;> rfl
theorem allL_head (rs : List Rule) (bit : Int) : ∀ (d : Nat) (lost : List Int), ∃ t, allL rs bit d lost = (lost ++ zeros d) :: t
  | 0, lost => ⟨[], by simp [allL, zeros]⟩
  | d + 1, lost => by
    obtain ⟨t, ht⟩ := allL_head rs bit d (lost ++ [0])
    simp only [allL, msks, List.filter_cons, ok_zero, if_true, List.flatMap_cons]
    rw [ht]
    exact ⟨_, by simp [zeros, List.replicate_succ]; rfl⟩
theorem allL_mem (rs : List Rule) (bit : Int) : ∀ (d : Nat) (lost x : List Int), x ∈ allL rs bit d lost → ∃ r, x = lost ++ r ∧ r.length = d
  | 0, lost, x, h => by simp only [allL, List.mem_singleton] at h; exact ⟨[], by simp [h], rfl⟩
  | d + 1, lost, x, h => by
    simp only [allL, List.mem_flatMap] at h
    obtain ⟨m, _, h⟩ := h
    obtain ⟨r, h1, h2⟩ := allL_mem rs bit d _ _ h
    exact ⟨m :: r, by simp [h1], by simp [h2]⟩
theorem step_ne {rs : List Rule} (hM : Msgs rs) {t : Nat} (ht : t ≤ 4) {s : Int × Int} (h1 : At t s.1) (h2 : At t s.2) {m m' : Int} (hm : m = 0 ∨ m = 1 ∨ m = 2 ∨ m = 3) (hm' : m' = 0 ∨ m' = 1 ∨ m' = 2 ∨ m' = 3)
    (o1 : m % 2 = 1 → 0 < sendsS 0 s.1 rs) (o2 : m / 2 % 2 = 1 → 0 < sendsS 1 s.2 rs) (o1' : m' % 2 = 1 → 0 < sendsS 0 s.1 rs) (o2' : m' / 2 % 2 = 1 → 0 < sendsS 1 s.2 rs) (hne : m ≠ m') : stepS rs m s ≠ stepS rs m' s := fun e => by
  obtain ⟨x, y, e1, _, _, ex, ey⟩ := step_at hM ht h1 h2 m
  obtain ⟨x', y', e2, _, _, ex', ey'⟩ := step_at hM ht h1 h2 m'
  rw [e1, e2, Prod.mk.injEq] at e
  split at ex <;> split at ex' <;> split at ey <;> split at ey' <;> omega
theorem run_loc {rs : List Rule} {bit : Int} {x y : List Int} (h : runD rs bit x = runD rs bit y) {t : Nat} (hx : t ≤ x.length) (hy : t ≤ y.length) : stS rs bit x t = stS rs bit y t := by
  have h1 := congrArg RunD.loc h
  simp only [runD] at h1
  have h2 := congrArg (fun l => l[t]?) h1
  simp only [List.getElem?_map, List.getElem?_range (show t < x.length + 1 by omega), List.getElem?_range (show t < y.length + 1 by omega), Option.map_some, Option.some.injEq, List.cons.injEq, and_true] at h2
  exact Prod.ext h2.1 h2.2
theorem allL_pw {rs : List Rule} (hM : Msgs rs) {bit : Int} (hb : bit = 0 ∨ bit = 1) : ∀ (d : Nat) (lost : List Int), lost.length + d ≤ 5 → ((allL rs bit d lost).map (runD rs bit)).Pairwise (· ≠ ·)
  | 0, lost, _ => by simp [allL]
  | d + 1, lost, h => by
    simp only [allL, List.map_flatMap, List.pairwise_flatMap]
    refine ⟨fun m _ => allL_pw hM hb d _ (by simp only [List.length_append, List.length_singleton]; omega), ?_⟩
    have hp : (((List.range 4).map msk).filter (okM rs bit lost)).Pairwise (· ≠ ·) := List.Pairwise.filter _ (by rw [msks]; decide)
    refine List.Pairwise.imp_of_mem (fun {a b} ha hb' hab => ?_) hp
    rw [List.mem_filter] at ha hb'
    intro u hu v hv e
    simp only [List.mem_map] at hu hv
    obtain ⟨x, hx, rfl⟩ := hu
    obtain ⟨y, hy, rfl⟩ := hv
    obtain ⟨r, rfl, hr⟩ := allL_mem rs bit d _ _ hx
    obtain ⟨r', rfl, hr'⟩ := allL_mem rs bit d _ _ hy
    have e1 := run_loc (t := lost.length + 1) e (by simp) (by simp)
    have c1 : ∀ (c : Int) (r : List Int), stS rs bit (lost ++ [c] ++ r) (lost.length + 1) = stepS rs c (stS rs bit lost lost.length) := fun c r => by
      simp only [stS]
      rw [st_congr rs bit (x := lost ++ [c] ++ r) (y := lost) lost.length fun i hi => by simp [List.getD_eq_getElem?_getD, List.getElem?_append_left hi]]
      congr 1
      simp [List.getD_eq_getElem?_getD]
    rw [c1, c1] at e1
    obtain ⟨s1, s2⟩ := st_at hM hb lost lost.length (by omega)
    obtain ⟨p1, p2, p3⟩ := ok_spec ha.1 ha.2
    obtain ⟨p4, p5, p6⟩ := ok_spec hb'.1 hb'.2
    exact step_ne hM (by omega) s1 s2 p1 p4 p2 p3 p5 p6 hab e1
end Go.Proofs.Ytlgbbabijifflaa.law1
