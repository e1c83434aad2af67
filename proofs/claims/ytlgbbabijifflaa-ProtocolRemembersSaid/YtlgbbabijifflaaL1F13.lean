/- The plain law: the two channels' systems are as the law asks. -/
import Derived.Test.YtlgbbabijifflaaL1F12
set_option linter.unusedVariables false
set_option linter.unusedSimpArgs false
namespace Go.Proofs.Ytlgbbabijifflaa.law1
open Go Go.Ai Go.Proofs.Ytlgbbabijifflaa.L1R
open runs (RunD SysD runC sysC intsC dInt dAll locsC facsC dInts sysFine syncOk recOk locS histS histP locP noRepB numP runFine)
def part (rs : List Rule) (b : Int) (n : Nat) : List RunD := (allL rs b n []).map (runD rs b)
theorem lossy_eq {e0 : Int} {rs : List Rule} (h : (lossyS e0 rs).length ≤ 64) : lossyS e0 rs = part rs 0 e0.toNat ++ part rs 1 e0.toNat := by
  unfold lossyS at h ⊢
  have e1 := enum_eq rs 1 _ _ _ h
  rw [e1] at h ⊢
  rw [enum_eq rs 0 _ _ _ (by simp only [List.length_append] at h; omega)]
  rfl
theorem part_mem {rs : List Rule} {b : Int} {n : Nat} {r : RunD} (h : r ∈ part rs b n) : ∃ lost, lost.length = n ∧ r = runD rs b lost := by
  obtain ⟨x, hx, rfl⟩ := List.mem_map.1 h
  obtain ⟨l, rfl, hl⟩ := allL_mem rs b n [] x hx
  exact ⟨_, by simpa using hl, rfl⟩
theorem part_head (rs : List Rule) (b : Int) (n : Nat) : ∃ t, part rs b n = runD rs b (zeros n) :: t := by
  obtain ⟨t, ht⟩ := allL_head rs b n []
  exact ⟨_, by unfold part; rw [ht]; rfl⟩
theorem run_fac {rs : List Rule} {b : Int} {lost : List Int} : (runD rs b lost).fac = b :: List.replicate lost.length b := by
  simp [runD, List.replicate_succ]
theorem pow_le {t t' : Nat} (h : t < t') : 4 * (4 : Int) ^ t ≤ 4 ^ t' := by
  obtain ⟨d, rfl⟩ : ∃ d, t' = t + 1 + d := ⟨t' - (t + 1), by omega⟩
  rw [Int.pow_add, Int.pow_succ]
  have h1 : (0 : Int) < 4 ^ t := Int.pow_pos (by decide)
  have h2 : (0 : Int) < 4 ^ d := Int.pow_pos (by decide)
  have h3 : (1 : Int) ≤ 4 ^ d := h2
  have : 4 ^ t * 4 * 1 ≤ (4 : Int) ^ t * 4 * 4 ^ d := Int.mul_le_mul_of_nonneg_left h3 (by omega)
  omega
theorem at_inj {t t' : Nat} {h : Int} (h1 : At t h) (h2 : At t' h) : t = t' := by
  obtain ⟨a1, a2⟩ := h1
  obtain ⟨b1, b2⟩ := h2
  have p1 : (0 : Int) < 4 ^ t := Int.pow_pos (by decide)
  have p2 : (0 : Int) < 4 ^ t' := Int.pow_pos (by decide)
  rcases Nat.lt_trichotomy t t' with h | h | h
  · have := pow_le h; omega
  · exact h
  · have := pow_le h; omega
/-- A list of runs of the channel. -/
structure Chan (rs : List Rule) (n : Nat) (L : List RunD) : Prop where
  msgs : Msgs rs
  le : n ≤ 4
  mem : ∀ r ∈ L, ∃ b lost, (b = 0 ∨ b = 1) ∧ lost.length = n ∧ r = runD rs b lost
  few : L.length ≤ 64
  pos : 0 < L.length
theorem loc_chan {rs : List Rule} {n : Nat} {L : List RunD} (h : Chan rs n L) {e0 : Int} (he : e0.toNat = n) (i : Nat) (hi : i < L.length) : ∃ b lost, (b = 0 ∨ b = 1) ∧ lost.length = n ∧ L[i] = runD rs b lost ∧ ∀ a t, a < 2 → t ≤ n → locS ⟨2, 1, e0 + 1, L⟩ a i t = stA a (stS rs b lost t) := by
  obtain ⟨b, lost, h1, h2, h3⟩ := h.mem _ (List.getElem_mem hi)
  refine ⟨b, lost, h1, h2, h3, fun a t ha ht => ?_⟩
  have ht' : t < lost.length + 1 := by omega
  simp only [locS, List.getElem?_eq_getElem hi, h3, Option.map_some, Option.getD_some, runD]
  have e : ((List.range (lost.length + 1)).map fun i => [(stS rs b lost i).1, (stS rs b lost i).2]).getD t [] = [(stS rs b lost t).1, (stS rs b lost t).2] := by
    rw [List.getD_eq_getElem?_getD, List.getElem?_map, List.getElem?_range ht']
    rfl
  rw [e]
  match a, ha with
  | 0, _ => rfl
  | 1, _ => rfl
theorem chan_chk {rs : List Rule} {n : Nat} {L : List RunD} (h : Chan rs n L) {e0 : Int} (he : e0.toNat = n) (h0 : 0 ≤ e0) : runs.chkS ⟨2, 1, e0 + 1, L⟩ = 0 := by
  have hn := h.le
  have hf := h.few
  have hp := h.pos
  unfold runs.chkS
  simp only
  rw [if_neg (by omega)]
  have h5 : (L.length : Int) * (e0 + 1) ≤ 64 * 5 := by
    have h1 : (L.length : Int) * (e0 + 1) ≤ 64 * (e0 + 1) := Int.mul_le_mul_of_nonneg_right (by omega) (by omega)
    omega
  rw [if_neg (by omega), if_neg (by omega)]
  have hA : (L.any fun r => runs.formB ⟨2, 1, e0 + 1, L⟩ r) = false := by
    rw [List.any_eq_false]
    intro r hr
    obtain ⟨b, lost, h1, h2, rfl⟩ := h.mem r hr
    simp only [runs.formB, runD, List.length_map, List.length_range, List.length_replicate, Bool.or_eq_true, decide_eq_true_eq, List.any_map, List.any_eq_true, Function.comp_def, List.length_cons, List.length_nil, not_or]
    refine ⟨⟨by omega, by omega⟩, fun ⟨x, _, hx⟩ => hx rfl⟩
  have hB : (L.any fun r => runs.highB ⟨2, 1, e0 + 1, L⟩ r) = false := by
    rw [List.any_eq_false]
    intro r hr
    obtain ⟨b, lost, h1, h2, rfl⟩ := h.mem r hr
    simp only [runs.highB, runD, List.any_eq_true, decide_eq_true_eq, not_exists, not_and, Decidable.not_not]
    intro x hx
    rw [List.mem_replicate] at hx
    obtain ⟨_, rfl⟩ := hx
    rcases h1 with rfl | rfl <;> decide
  rw [if_neg (by rw [hA]; decide), if_neg (by rw [hB]; decide)]
theorem chan_fine {rs : List Rule} {n : Nat} {L : List RunD} (h : Chan rs n L) {e0 : Int} (he : e0.toNat = n) (h0 : 0 ≤ e0) : sysFine ⟨2, 1, e0 + 1, L⟩ := by
  have hn := h.le
  refine ⟨⟨⟨by simp only; omega, by simp only; omega⟩, ⟨by simp only; omega, by simp only; omega⟩, ⟨by simp only; omega, by simp only; omega⟩, fun r hr => ?_⟩, h.few, fun r hr => ?_⟩
  · obtain ⟨b, lost, h1, h2, rfl⟩ := h.mem r hr
    refine ⟨fun l hl x hx => ?_, fun f hf => ?_⟩
    · simp only [runD, List.mem_map, List.mem_range] at hl
      obtain ⟨i, hi, rfl⟩ := hl
      have := st_bound rs h1 lost i
      simp only [List.mem_cons, List.not_mem_nil, or_false] at hx
      rcases hx with rfl | rfl <;> exact ⟨by omega, by omega⟩
    · simp only [runD, List.mem_replicate] at hf
      obtain ⟨_, rfl⟩ := hf
      rcases h1 with rfl | rfl <;> decide
  · obtain ⟨b, lost, h1, h2, rfl⟩ := h.mem r hr
    simp only [runD, List.length_map, List.length_range, List.length_replicate, most]
    omega
theorem chan_numP {rs : List Rule} {n : Nat} {L : List RunD} (h : Chan rs n L) {e0 : Int} (he : e0.toNat = n) (h0 : 0 ≤ e0) : numP ⟨2, 1, e0 + 1, L⟩ = L.length * (n + 1) := by
  unfold numP
  rw [if_pos (chan_chk h he h0)]
  simp only
  congr 1
  omega
theorem chan_sync {rs : List Rule} {n : Nat} {L : List RunD} (h : Chan rs n L) {e0 : Int} (he : e0.toNat = n) (h0 : 0 ≤ e0) : syncOk ⟨2, 1, e0 + 1, L⟩ := by
  refine ⟨chan_fine h he h0, chan_chk h he h0, fun i j a hi hj ha hne => ?_⟩
  rw [chan_numP h he h0] at hi hj
  have el : (e0 + 1).toNat = n + 1 := by omega
  simp only [el] at hne ⊢
  have ha' : a < 2 := by simp only at ha; omega
  have ei : i / (n + 1) < L.length := (Nat.div_lt_iff_lt_mul (by omega)).2 hi
  have ej : j / (n + 1) < L.length := (Nat.div_lt_iff_lt_mul (by omega)).2 hj
  have mi := Nat.mod_lt i (show 0 < n + 1 by omega)
  have mj := Nat.mod_lt j (show 0 < n + 1 by omega)
  obtain ⟨b, l, b1, b2, b3, b4⟩ := loc_chan h he _ ei
  obtain ⟨c, m, c1, c2, c3, c4⟩ := loc_chan h he _ ej
  have hn := h.le
  intro e
  rw [b4 a _ ha' (by omega), c4 a _ ha' (by omega)] at e
  have p1 := stA_at h.msgs b1 l a (i % (n + 1)) (by omega)
  have p2 := stA_at h.msgs c1 m a (j % (n + 1)) (by omega)
  rw [e] at p1
  exact hne (at_inj p1 p2)
theorem hist_back {rs : List Rule} (hM : Msgs rs) {b c : Int} (hb : b = 0 ∨ b = 1) (hc : c = 0 ∨ c = 1) (l m : List Int) (a : Nat) : ∀ (t : Nat), t ≤ 5 → stA a (stS rs b l t) = stA a (stS rs c m t) → ∀ i, i ≤ t → stA a (stS rs b l i) = stA a (stS rs c m i)
  | 0, ht, h, i, hi => by obtain rfl : i = 0 := by omega
                          exact h
  | t + 1, ht, h, i, hi => by
    by_cases e : i = t + 1
    · subst e; exact h
    · refine hist_back hM hb hc l m a t (by omega) ?_ i (by omega)
      obtain ⟨x, e1, x1, x2⟩ := stA_succ hM hb l a t (by omega)
      obtain ⟨y, e2, y1, y2⟩ := stA_succ hM hc m a t (by omega)
      omega
theorem noRep_of : ∀ (l : List Int), (∀ k (h : k + 1 < l.length), l[k + 1] ≠ l[k]) → noRepB l = true
  | [], h => rfl
  | [_], h => rfl
  | x :: y :: r, h => by
    simp only [noRepB, Bool.and_eq_true, decide_eq_true_eq]
    exact ⟨h 0 (by simp), noRep_of (y :: r) fun k hk => h (k + 1) (by simpa using hk)⟩
theorem chan_rec {rs : List Rule} {n : Nat} {L : List RunD} (h : Chan rs n L) {e0 : Int} (he : e0.toNat = n) (h0 : 0 ≤ e0) : recOk ⟨2, 1, e0 + 1, L⟩ := by
  refine ⟨chan_fine h he h0, chan_chk h he h0, fun a i ha hi => ?_⟩
  rw [chan_numP h he h0] at hi ⊢
  have el : (e0 + 1).toNat = n + 1 := by omega
  have hn := h.le
  have ha' : a < 2 := by simp only at ha; omega
  have ei : i / (n + 1) < L.length := (Nat.div_lt_iff_lt_mul (by omega)).2 hi
  have mi := Nat.mod_lt i (show 0 < n + 1 by omega)
  obtain ⟨b, l, b1, b2, b3, b4⟩ := loc_chan h he _ ei
  have hh : ∀ (i : Nat) (b : Int) (l : List Int), (∀ a t, a < 2 → t ≤ n → locS ⟨2, 1, e0 + 1, L⟩ a (i / (n + 1)) t = stA a (stS rs b l t)) → histP ⟨2, 1, e0 + 1, L⟩ a i = (List.range (i % (n + 1) + 1)).map fun t => stA a (stS rs b l t) := fun i b l b4 => by
    have mi := Nat.mod_lt i (show 0 < n + 1 by omega)
    simp only [histP, histS, el]
    refine List.map_congr_left fun t ht => ?_
    rw [List.mem_range] at ht
    exact b4 a t ha' (by omega)
  refine ⟨?_, fun j hj e => ?_⟩
  · rw [hh i b l b4]
    refine noRep_of _ fun k hk => ?_
    simp only [List.length_map, List.length_range] at hk
    simp only [List.getElem_map, List.getElem_range]
    intro e
    have p1 := stA_at h.msgs b1 l a (k + 1) (by omega)
    have p2 := stA_at h.msgs b1 l a k (by omega)
    rw [e] at p1
    have := at_inj p1 p2
    omega
  · have ej : j / (n + 1) < L.length := (Nat.div_lt_iff_lt_mul (by omega)).2 hj
    have mj := Nat.mod_lt j (show 0 < n + 1 by omega)
    obtain ⟨c, m, c1, c2, c3, c4⟩ := loc_chan h he _ ej
    simp only [locP, el] at e
    rw [b4 a _ ha' (by omega), c4 a _ ha' (by omega)] at e
    have p1 := stA_at h.msgs b1 l a (i % (n + 1)) (by omega)
    have p2 := stA_at h.msgs c1 m a (j % (n + 1)) (by omega)
    rw [e] at p1
    have et := at_inj p1 p2
    rw [hh i b l b4, hh j c m c4, et]
    rw [et] at e
    refine List.map_congr_left fun t ht => ?_
    rw [List.mem_range] at ht
    exact hist_back h.msgs b1 c1 l m a _ (by omega) e t (by omega)
theorem getElem_append_cases {X Y : List RunD} {i : Nat} (h : i < (X ++ Y).length) : (∃ h1 : i < X.length, (X ++ Y)[i] = X[i]) ∨ (X.length ≤ i ∧ ∃ h1 : i - X.length < Y.length, (X ++ Y)[i] = Y[i - X.length]) := by
  by_cases h1 : i < X.length
  · exact .inl ⟨h1, List.getElem_append_left h1⟩
  · exact .inr ⟨by omega, by simp only [List.length_append] at h; omega, List.getElem_append_right (by omega)⟩
theorem part_fac {rs : List Rule} {b : Int} {n : Nat} {r : RunD} (h : r ∈ part rs b n) : r.fac.headD 0 = b ∧ ∃ t, r.fac = b :: t := by
  obtain ⟨l, _, rfl⟩ := part_mem h
  rw [run_fac]
  exact ⟨rfl, _, rfl⟩
theorem good {e0 : Int} {rs : List Rule} (h0 : chkS e0 rs = 0) (h64 : (lossyS e0 rs).length ≤ 64) : Good ⟨2, 1, e0 + 1, lossyS e0 rs⟩ (relS e0 rs) := by
  have hc := h0
  unfold chkS at hc
  split at hc
  · cases hc
  rename_i hn
  split at hc
  · cases hc
  have hM : Msgs rs := chkL_zero e0 rs none hc
  obtain ⟨n, hen⟩ : ∃ n, e0.toNat = n := ⟨_, rfl⟩
  have hn4 : n ≤ 4 := by omega
  have hle := lossy_eq h64
  rw [hle] at h64
  rw [hle]
  rw [hen] at h64 ⊢
  obtain ⟨t0, hp0⟩ := part_head rs 0 n
  obtain ⟨t1, hp1⟩ := part_head rs 1 n
  have hmem : ∀ r ∈ part rs 0 n ++ part rs 1 n, ∃ b lost, (b = 0 ∨ b = 1) ∧ lost.length = n ∧ r = runD rs b lost := fun r hr => by
    rcases List.mem_append.1 hr with hr | hr
    · obtain ⟨l, h1, h2⟩ := part_mem hr; exact ⟨0, l, .inl rfl, h1, h2⟩
    · obtain ⟨l, h1, h2⟩ := part_mem hr; exact ⟨1, l, .inr rfl, h1, h2⟩
  have hlen0 : 0 < (part rs 0 n).length := by rw [hp0]; simp
  have hlen1 : 0 < (part rs 1 n).length := by rw [hp1]; simp
  have hC : Chan rs n (part rs 0 n ++ part rs 1 n) := ⟨hM, hn4, hmem, h64, by simp only [List.length_append]; omega⟩
  have hR : Chan rs n [runD rs 0 (zeros n), runD rs 1 (zeros n)] := ⟨hM, hn4, fun r hr => by
    simp only [List.mem_cons, List.not_mem_nil, or_false] at hr
    rcases hr with rfl | rfl
    · exact ⟨0, zeros n, .inl rfl, by simp [zeros], rfl⟩
    · exact ⟨1, zeros n, .inr rfl, by simp [zeros], rfl⟩, by simp, by simp⟩
  have heR : relS e0 rs = ⟨2, 1, e0 + 1, [runD rs 0 (zeros n), runD rs 1 (zeros n)]⟩ := by rw [relS, hen]
  rw [heR]
  have hpw : (part rs 0 n ++ part rs 1 n).Pairwise (· ≠ ·) := by
    rw [List.pairwise_append]
    refine ⟨allL_pw hM (.inl rfl) n [] (by simp; omega), allL_pw hM (.inr rfl) n [] (by simp; omega), fun x hx y hy e => ?_⟩
    have h1 := (part_fac hx).1
    have h2 := (part_fac hy).1
    rw [e, h2] at h1
    cases h1
  have hfac : ∀ i (h : i < (part rs 0 n ++ part rs 1 n).length), ((part rs 0 n ++ part rs 1 n)[i]).fac.headD 0 = if i < (part rs 0 n).length then 0 else 1 := fun i h => by
    rcases getElem_append_cases h with ⟨h1, e⟩ | ⟨h1, h2, e⟩
    · rw [e, if_pos h1]; exact (part_fac (List.getElem_mem h1)).1
    · rw [e, if_neg (by omega)]; exact (part_fac (List.getElem_mem h2)).1
  refine ⟨chan_fine hC hen (by omega), chan_chk hC hen (by omega), chan_sync hC hen (by omega), chan_rec hC hen (by omega), chan_fine hR hen (by omega), chan_chk hR hen (by omega), rfl, by simp only [List.length_append]; omega, fun i h => ?_, fun i k h h2 => ?_, fun i h b r hb h1 h2 => ?_, fun b hb => ?_, fun r hr => ?_⟩
  · obtain ⟨b, lost, h1, h2, h3⟩ := hmem _ (List.getElem_mem h)
    simp only
    rw [h3, run_fac]
    exact ⟨b, _, rfl, h1⟩
  · exact fun e => List.pairwise_iff_getElem.1 hpw k i (Nat.lt_trans h2 h) h h2 e.symm
  · simp only at h h1 h2 ⊢
    have hfi := hfac i h
    rw [h1] at hfi
    simp only [List.headD_cons] at hfi
    simp only [List.length_cons, List.length_nil] at hb
    split at hfi
    · rename_i hlt
      obtain rfl : b = 0 := by omega
      obtain rfl : i = 0 := by
        refine Nat.eq_zero_of_not_pos fun hpos => h2 0 hpos ?_
        rw [hfac 0 (by omega), if_pos hlen0]; rfl
      rw [List.getElem_append_left hlt]
      simp [hp0]
    · rename_i hlt
      obtain rfl : b = 1 := by omega
      obtain rfl : i = (part rs 0 n).length := by
        refine Nat.le_antisymm (Nat.le_of_not_lt fun hgt => h2 (part rs 0 n).length hgt ?_) (by omega)
        rw [hfac _ (by omega), if_neg (by omega)]; rfl
      rw [List.getElem_append_right (by omega)]
      simp [hp1]
  · rcases hb with rfl | rfl
    · refine ⟨0, by simp only [List.length_append]; omega, ?_⟩
      simp only
      rw [hfac 0 (by simp only [List.length_append]; omega), if_pos hlen0]
    · refine ⟨(part rs 0 n).length, by simp only [List.length_append]; omega, ?_⟩
      simp only
      rw [hfac _ (by simp only [List.length_append]; omega), if_neg (by omega)]
  · obtain ⟨b, lost, h1, h2, rfl⟩ := hmem r hr
    simp only [runD, List.length_map, List.length_range, List.length_replicate]
    refine ⟨by omega, by omega, fun l hl => ?_⟩
    simp only [List.mem_map] at hl
    obtain ⟨i, _, rfl⟩ := hl
    simp
end Go.Proofs.Ytlgbbabijifflaa.law1
