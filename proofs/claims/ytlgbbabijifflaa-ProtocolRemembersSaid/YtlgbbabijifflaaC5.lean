/- All points; histories. -/
import Derived.Test.YtlgbbabijifflaaC4
set_option linter.unusedVariables false
set_option linter.unusedSimpArgs false
namespace Go.Proofs.Ytlgbbabijifflaa.runs
open Go Go.Ai Go.Proofs.Ytlgbbabijifflaa.L1R
/-! ### Points -/
def sysFine (s : SysD) : Prop := s.Ok ∧ s.runs.length ≤ 64 ∧ ∀ r ∈ s.runs, r.loc.length < most ∧ r.fac.length < most
instance (r : RunD) : Decidable r.Ok := by unfold RunD.Ok; infer_instance
instance (s : SysD) : Decidable s.Ok := by unfold SysD.Ok; infer_instance
instance (s : SysD) : Decidable (sysFine s) := by unfold sysFine; infer_instance
def g13 (args : List AV) : Option (List AV) := match args with
  | [.agg xs] => (dSys xs).bind fun s => if sysFine s then some [.int .i64 (chkS s)] else none
  | _ => none
def ptC (L i : Nat) : List AV := [.int .i64 ((i / L : Nat) : Int), .int .i64 ((i % L : Nat) : Int)]
def ptsF (L c : Nat) : List AV := (List.range c).flatMap (ptC L)
def ptsC (L c : Nat) : List (List AV) := (List.range c).map (ptC L)
def numP (s : SysD) : Nat := if chkS s = 0 then s.runs.length * s.len.toNat else 0
theorem ptsF_len (L c : Nat) : (ptsF L c).length = c * 2 := by
  induction c with
  | zero => rfl
  | succ c ih => simp [ptsF, List.range_succ, ptC] at ih ⊢; omega
theorem ptsF_succ (L c : Nat) : ptsF L (c + 1) = ptsF L c ++ ptC L c := by simp [ptsF, List.range_succ]
theorem ptsF_chunk (L : Nat) : ∀ c, chunk 2 c (ptsF L c) = ptsC L c := fun c => by
  have h : ptsF L c = (ptsC L c).flatten := by simp [ptsF, ptsC, List.flatMap_def]
  have h2 : (ptsC L c).length = c := by simp [ptsC]
  have h3 := chunk_flat (k := 2) (ptsC L c) (by simp [ptsC, ptC])
  rw [h2] at h3
  rw [h, h3]
theorem ptsF_self (L c : Nat) : (ptsF L c).all selfV = true := by
  simp [ptsF, ptC, selfV]
def PV (lp : Nat) : Nat → AV
  | 0 => .nilsl
  | j + 1 => .ref lp 0 (j + 1) (j + 1) 2
def PA (L lp : Nat) : Nat → Ah
  | 0 => []
  | j + 1 => [(lp, some (.cells (ptsF L (j + 1)) 2 (j + 1) true false))]
def TD : Tab := [(13, ⟨.iso, g13⟩), (57, ⟨.iso, fun _ => none⟩)]
theorem h13 {s : SysD} (h : sysFine s) {c : Int} (hc : chkS s = c) : (hands TD).iso 13 [.agg (sysC s)] = some [.int .i64 c] := by
  subst hc
  show (dSys (sysC s)).bind _ = _
  rw [dSys_C]
  exact if_pos h
theorem chk_ok {s : SysD} (h : chkS s = 0) : 0 ≤ s.ag ∧ s.ag ≤ 4 ∧ 0 ≤ s.fa ∧ s.fa ≤ 8 ∧ 1 ≤ s.len ∧ s.len ≤ 16 ∧ s.runs.length ≤ 64 ∧ 0 < s.runs.length ∧ ∀ r ∈ s.runs, (r.loc.length : Int) = s.len ∧ (r.fac.length : Int) = s.len ∧ (∀ l ∈ r.loc, (l.length : Int) = s.ag) ∧ ∀ f ∈ r.fac, f / 2 ^ s.fa.toNat = 0 := by
  unfold chkS at h
  split at h
  · cases h
  rename_i h1
  split at h
  · cases h
  rename_i h2
  split at h
  · cases h
  rename_i h3
  split at h
  · cases h
  rename_i h4
  split at h
  · cases h
  rename_i h5
  refine ⟨by omega, by omega, by omega, by omega, by omega, by omega, by omega, by omega, fun r hr => ?_⟩
  simp only [List.any_eq_true, not_exists, not_and, Bool.not_eq_true] at h4 h5
  have a := h4 r hr
  have b := h5 r hr
  simp only [formB, Bool.or_eq_false_iff, decide_eq_false_iff_not, List.any_eq_false, decide_eq_true_eq] at a
  simp only [highB, List.any_eq_false, decide_eq_true_eq] at b
  refine ⟨by omega, by omega, fun l hl => ?_, fun f hf => ?_⟩
  · have := a.2 l hl; omega
  · have := b f hf; omega
set_option maxRecDepth 100000 in
set_option maxHeartbeats 1000000 in
theorem run56 {n : Nat} {s : SysD} (hf : sysFine s) {K : List AV → Ah → Prop} (hK : ∀ rs' A, Fin .iso A rs' [.list (ptsC s.len.toNat (numP s))] → K rs' A) : aB (hands TD) (n + 80) ir56 (.agg (sysC s) :: .undef :: .undef :: .undef :: .undef :: .undef :: .undef :: .undef :: .undef :: .undef :: .undef :: .undef :: .undef :: .undef :: .undef :: .undef :: .undef :: .undef :: .undef :: .undef :: .undef :: .undef :: .undef :: .undef :: .undef :: .undef :: .undef :: .undef :: .undef :: []) [] K := by
  refine ⟨rfl, ?_⟩
  intro l1 hl1
  by_cases h0 : chkS s = 0
  · repeat' ((conv => whnf); first | refine ⟨rfl, fun hc => ?_, fun hc => ?_⟩ | refine ⟨fun hc => ?_, fun hc => ?_⟩ | refine ⟨rfl, _, wrap64 (by omega) (by omega), ?_⟩ | refine ⟨_, wrap64 (by omega) (by omega), ?_⟩ | refine ⟨_, wrapU (by omega) (by omega), ?_⟩ | refine ⟨rfl, rfl, ?_⟩ | refine ⟨_, _, _, _, _, gi (by repeat first | exact .hd | apply In.tl), ?_⟩ | refine ⟨_, _, _, _, gi (by repeat first | exact .hd | apply In.tl), ⟨rfl, by exact leb rfl, by exact rfl⟩, ?_⟩ | refine ⟨_, gi (by repeat first | exact .hd | apply In.tl), ?_⟩ | refine ⟨⟨rfl, leb rfl⟩, ?_⟩ | refine ⟨⟨by decide, by decide⟩, ?_⟩ | refine ⟨rfl, ?_⟩ | refine ⟨leb rfl, ?_⟩ | refine ⟨by decide, ?_⟩ | refine .inr ⟨⟨leb rfl, leb rfl, rfl, rfl⟩, ?_⟩ | (intro l hl) | refine ⟨_, _, _, true, fun _ H hR => ⟨H, rfl, hR⟩, h13 hf h0, rfl, ?_⟩ | refine ⟨_, _, _, false, fun _ H hR => ⟨H, rfl, hR⟩, h13 hf h0, rfl, ?_⟩ | fail)
    obtain ⟨q1, q2, q3, q4, q5, q6, q7, q8, q9⟩ := chk_ok h0
    · exact absurd rfl hc
    obtain ⟨q1, q2, q3, q4, q5, q6, q7, q8, q9⟩ := chk_ok h0
    obtain ⟨L, hL⟩ : ∃ L : Nat, s.len = L := ⟨s.len.toNat, by omega⟩
    have hLn : s.len.toNat = L := by omega
    refine aLoop_by (fun m env A => ∃ (k lp : Nat), A = [(l1, some (.cells (sysC s) 0 0 false false))] ++ PA L lp (k * L) ∧ IEnv (fun g => (g 0 :: .ptr l1 0 0 :: g 2 :: PV lp (k * L) :: g 4 :: g 5 :: g 6 :: g 7 :: g 8 :: g 9 :: g 10 :: .int .i64 (s.runs.map runC).length :: .int .i64 (k : Int) :: g 13 :: g 14 :: g 15 :: g 16 :: g 17 :: g 18 :: g 19 :: g 20 :: g 21 :: g 22 :: g 23 :: g 24 :: g 25 :: g 26 :: g 27 :: g 28 :: [])) env ∧ k ≤ s.runs.length ∧ m = s.runs.length - k) (m := s.runs.length) (A0 := [(l1, some (.cells (sysC s) 0 0 false false))] ++ PA L 0 (0 * L)) (by rw [Nat.zero_mul]; exact .refl _) ⟨0, 0, rfl, .mk (by rw [Nat.zero_mul]; rfl), by omega, by omega⟩ (by omega) ?_
    rintro m env A ⟨k, lp, rfl, ⟨g, rfl⟩, hk, hm⟩
    refine ⟨rfl, fun h4 => ?_, fun h4 => ?_⟩
    · simp only [List.length_map] at h4
      repeat' ((conv => whnf); first | refine ⟨rfl, fun hc => ?_, fun hc => ?_⟩ | refine ⟨fun hc => ?_, fun hc => ?_⟩ | refine ⟨rfl, _, wrap64 (by omega) (by omega), ?_⟩ | refine ⟨_, wrap64 (by omega) (by omega), ?_⟩ | refine ⟨_, wrapU (by omega) (by omega), ?_⟩ | refine ⟨rfl, rfl, ?_⟩ | refine ⟨_, _, _, _, _, gi (by repeat first | exact .hd | apply In.tl), ?_⟩ | refine ⟨_, _, _, _, gi (by repeat first | exact .hd | apply In.tl), ⟨rfl, by exact leb rfl, by exact rfl⟩, ?_⟩ | refine ⟨_, gi (by repeat first | exact .hd | apply In.tl), ?_⟩ | refine ⟨⟨rfl, leb rfl⟩, ?_⟩ | refine ⟨⟨by decide, by decide⟩, ?_⟩ | refine ⟨rfl, ?_⟩ | refine ⟨leb rfl, ?_⟩ | refine ⟨by decide, ?_⟩ | refine .inr ⟨⟨leb rfl, leb rfl, rfl, rfl⟩, ?_⟩ | fail)
      refine aLoop_by (fun m env A => ∃ (t lp : Nat), A = [(l1, some (.cells (sysC s) 0 0 false false))] ++ PA L lp (k * L + t) ∧ IEnv (fun g => (g 0 :: .ptr l1 0 0 :: g 2 :: PV lp (k * L + t) :: .int .i64 (k : Int) :: g 5 :: g 6 :: g 7 :: g 8 :: g 9 :: g 10 :: .int .i64 (s.runs.map runC).length :: .int .i64 (k : Int) :: g 13 :: g 14 :: g 15 :: .int .i64 s.len :: .int .i64 (t : Int) :: g 18 :: g 19 :: g 20 :: g 21 :: g 22 :: g 23 :: g 24 :: g 25 :: g 26 :: g 27 :: g 28 :: [])) env ∧ t ≤ L ∧ m = L - t) (m := L) (.refl _) ⟨0, lp, rfl, .mk rfl, by omega, by omega⟩ (by omega) ?_
      rintro m env A ⟨t, lp, rfl, ⟨g, rfl⟩, ht, hm⟩
      refine ⟨rfl, fun h5 => ?_, fun h5 => ?_⟩
      · have hkL : k * L + t < 64 * 17 := by
          have : k * L ≤ 63 * 16 := Nat.mul_le_mul (by omega) (by omega)
          omega
        have hdiv : ptC L (k * L + t) = [.int .i64 (k : Int), .int .i64 (t : Int)] := by
          have e1 : (k * L + t) / L = k := by rw [Nat.mul_comm, Nat.mul_add_div (by omega), Nat.div_eq_of_lt (by omega)]; omega
          have e2 : (k * L + t) % L = t := by rw [Nat.mul_comm, Nat.mul_add_mod]; exact Nat.mod_eq_of_lt (by omega)
          simp only [ptC, e1, e2]
        have hsucc := ptsF_succ L (k * L + t)
        rw [hdiv] at hsucc
        have hlen := ptsF_len L (k * L + t)
        have he : k * L + (t + 1) = (k * L + t) + 1 := by omega
        generalize hcc : k * L + t = c at *
        cases c with
        | zero =>
          repeat' ((conv => whnf); first | refine ⟨rfl, fun hc => ?_, fun hc => ?_⟩ | refine ⟨fun hc => ?_, fun hc => ?_⟩ | refine ⟨rfl, _, wrap64 (by omega) (by omega), ?_⟩ | refine ⟨_, wrap64 (by omega) (by omega), ?_⟩ | refine ⟨_, wrapU (by omega) (by omega), ?_⟩ | refine ⟨rfl, rfl, ?_⟩ | refine ⟨_, _, _, _, _, gi (by repeat first | exact .hd | apply In.tl), ?_⟩ | refine ⟨_, _, _, _, gi (by repeat first | exact .hd | apply In.tl), ⟨rfl, by exact leb rfl, by exact rfl⟩, ?_⟩ | refine ⟨_, gi (by repeat first | exact .hd | apply In.tl), ?_⟩ | refine ⟨⟨rfl, leb rfl⟩, ?_⟩ | refine ⟨⟨by decide, by decide⟩, ?_⟩ | refine ⟨rfl, ?_⟩ | refine ⟨leb rfl, ?_⟩ | refine ⟨by decide, ?_⟩ | refine .inr ⟨⟨leb rfl, leb rfl, rfl, rfl⟩, ?_⟩ | fail)
          intro lq hlq
          repeat' ((conv => whnf); first | refine ⟨rfl, fun hc => ?_, fun hc => ?_⟩ | refine ⟨fun hc => ?_, fun hc => ?_⟩ | refine ⟨rfl, _, wrap64 (by omega) (by omega), ?_⟩ | refine ⟨_, wrap64 (by omega) (by omega), ?_⟩ | refine ⟨_, wrapU (by omega) (by omega), ?_⟩ | refine ⟨rfl, rfl, ?_⟩ | refine ⟨_, _, _, _, _, gi (by repeat first | exact .hd | apply In.tl), ?_⟩ | refine ⟨_, _, _, _, gi (by repeat first | exact .hd | apply In.tl), ⟨rfl, by exact leb rfl, by exact rfl⟩, ?_⟩ | refine ⟨_, gi (by repeat first | exact .hd | apply In.tl), ?_⟩ | refine ⟨⟨rfl, leb rfl⟩, ?_⟩ | refine ⟨⟨by decide, by decide⟩, ?_⟩ | refine ⟨rfl, ?_⟩ | refine ⟨leb rfl, ?_⟩ | refine ⟨by decide, ?_⟩ | refine .inr ⟨⟨leb rfl, leb rfl, rfl, rfl⟩, ?_⟩ | fail)
          exact ⟨L - (t + 1), _, by omega, .refl _, t + 1, lq, by rw [he]; simp only [PA, hsucc]; rfl, .mk (by rw [he]; rfl), by omega, rfl⟩
        | succ j =>
          repeat' ((conv => whnf); first | refine ⟨rfl, fun hc => ?_, fun hc => ?_⟩ | refine ⟨fun hc => ?_, fun hc => ?_⟩ | refine ⟨rfl, _, wrap64 (by omega) (by omega), ?_⟩ | refine ⟨_, wrap64 (by omega) (by omega), ?_⟩ | refine ⟨_, wrapU (by omega) (by omega), ?_⟩ | refine ⟨rfl, rfl, ?_⟩ | refine ⟨_, _, _, _, _, gi (by repeat first | exact .hd | apply In.tl), ?_⟩ | refine ⟨_, _, _, _, gi (by repeat first | exact .hd | apply In.tl), ⟨rfl, by exact leb rfl, by exact rfl⟩, ?_⟩ | refine ⟨_, gi (by repeat first | exact .hd | apply In.tl), ?_⟩ | refine ⟨⟨rfl, leb rfl⟩, ?_⟩ | refine ⟨⟨by decide, by decide⟩, ?_⟩ | refine ⟨rfl, ?_⟩ | refine ⟨leb rfl, ?_⟩ | refine ⟨by decide, ?_⟩ | refine .inr ⟨⟨leb rfl, leb rfl, rfl, rfl⟩, ?_⟩ | fail)
          refine ⟨1, _, _, rfl, ⟨rfl, by rw [hlen]; omega, rfl, (by show j + 1 + 1 < 4294967296; omega), rfl⟩, .inr ⟨Nat.le_of_ble_eq_true rfl, ?_⟩⟩
          repeat' ((conv => whnf); first | refine ⟨rfl, fun hc => ?_, fun hc => ?_⟩ | refine ⟨fun hc => ?_, fun hc => ?_⟩ | refine ⟨rfl, _, wrap64 (by omega) (by omega), ?_⟩ | refine ⟨_, wrap64 (by omega) (by omega), ?_⟩ | refine ⟨_, wrapU (by omega) (by omega), ?_⟩ | refine ⟨rfl, rfl, ?_⟩ | refine ⟨_, _, _, _, _, gi (by repeat first | exact .hd | apply In.tl), ?_⟩ | refine ⟨_, _, _, _, gi (by repeat first | exact .hd | apply In.tl), ⟨rfl, by exact leb rfl, by exact rfl⟩, ?_⟩ | refine ⟨_, gi (by repeat first | exact .hd | apply In.tl), ?_⟩ | refine ⟨⟨rfl, leb rfl⟩, ?_⟩ | refine ⟨⟨by decide, by decide⟩, ?_⟩ | refine ⟨rfl, ?_⟩ | refine ⟨leb rfl, ?_⟩ | refine ⟨by decide, ?_⟩ | refine .inr ⟨⟨leb rfl, leb rfl, rfl, rfl⟩, ?_⟩ | fail)
          exact ⟨L - (t + 1), _, by omega, .refl _, t + 1, lp, by rw [he]; simp only [PA, hsucc]; rfl, .mk (by rw [he]; rfl), by omega, rfl⟩
      · obtain rfl : t = L := by omega
        have he : (k + 1) * t = k * t + t := Nat.succ_mul k t
        repeat' ((conv => whnf); first | refine ⟨rfl, fun hc => ?_, fun hc => ?_⟩ | refine ⟨fun hc => ?_, fun hc => ?_⟩ | refine ⟨rfl, _, wrap64 (by omega) (by omega), ?_⟩ | refine ⟨_, wrap64 (by omega) (by omega), ?_⟩ | refine ⟨_, wrapU (by omega) (by omega), ?_⟩ | refine ⟨rfl, rfl, ?_⟩ | refine ⟨_, _, _, _, _, gi (by repeat first | exact .hd | apply In.tl), ?_⟩ | refine ⟨_, _, _, _, gi (by repeat first | exact .hd | apply In.tl), ⟨rfl, by exact leb rfl, by exact rfl⟩, ?_⟩ | refine ⟨_, gi (by repeat first | exact .hd | apply In.tl), ?_⟩ | refine ⟨⟨rfl, leb rfl⟩, ?_⟩ | refine ⟨⟨by decide, by decide⟩, ?_⟩ | refine ⟨rfl, ?_⟩ | refine ⟨leb rfl, ?_⟩ | refine ⟨by decide, ?_⟩ | refine .inr ⟨⟨leb rfl, leb rfl, rfl, rfl⟩, ?_⟩ | fail)
        exact ⟨s.runs.length - (k + 1), _, by omega, .refl _, k + 1, lp, by rw [he], .mk (by rw [he]; rfl), by omega, rfl⟩
    · simp only [List.length_map] at h4
      obtain rfl : k = s.runs.length := by omega
      have hnum : numP s = s.runs.length * L := by simp only [numP, h0, if_true, hLn]
      rw [hnum, hLn] at hK
      generalize s.runs.length * L = c at *
      cases c with
      | zero =>
        repeat' ((conv => whnf); first | refine ⟨rfl, fun hc => ?_, fun hc => ?_⟩ | refine ⟨fun hc => ?_, fun hc => ?_⟩ | refine ⟨rfl, _, wrap64 (by omega) (by omega), ?_⟩ | refine ⟨_, wrap64 (by omega) (by omega), ?_⟩ | refine ⟨_, wrapU (by omega) (by omega), ?_⟩ | refine ⟨rfl, rfl, ?_⟩ | refine ⟨_, _, _, _, _, gi (by repeat first | exact .hd | apply In.tl), ?_⟩ | refine ⟨_, _, _, _, gi (by repeat first | exact .hd | apply In.tl), ⟨rfl, by exact leb rfl, by exact rfl⟩, ?_⟩ | refine ⟨_, gi (by repeat first | exact .hd | apply In.tl), ?_⟩ | refine ⟨⟨rfl, leb rfl⟩, ?_⟩ | refine ⟨⟨by decide, by decide⟩, ?_⟩ | refine ⟨rfl, ?_⟩ | refine ⟨leb rfl, ?_⟩ | refine ⟨by decide, ?_⟩ | refine .inr ⟨⟨leb rfl, leb rfl, rfl, rfl⟩, ?_⟩ | fail)
        exact hK _ _ (Fin.frz (FrzL.frz (.cons .nilsl .nil)))
      | succ j =>
        repeat' ((conv => whnf); first | refine ⟨rfl, fun hc => ?_, fun hc => ?_⟩ | refine ⟨fun hc => ?_, fun hc => ?_⟩ | refine ⟨rfl, _, wrap64 (by omega) (by omega), ?_⟩ | refine ⟨_, wrap64 (by omega) (by omega), ?_⟩ | refine ⟨_, wrapU (by omega) (by omega), ?_⟩ | refine ⟨rfl, rfl, ?_⟩ | refine ⟨_, _, _, _, _, gi (by repeat first | exact .hd | apply In.tl), ?_⟩ | refine ⟨_, _, _, _, gi (by repeat first | exact .hd | apply In.tl), ⟨rfl, by exact leb rfl, by exact rfl⟩, ?_⟩ | refine ⟨_, gi (by repeat first | exact .hd | apply In.tl), ?_⟩ | refine ⟨⟨rfl, leb rfl⟩, ?_⟩ | refine ⟨⟨by decide, by decide⟩, ?_⟩ | refine ⟨rfl, ?_⟩ | refine ⟨leb rfl, ?_⟩ | refine ⟨by decide, ?_⟩ | refine .inr ⟨⟨leb rfl, leb rfl, rfl, rfl⟩, ?_⟩ | fail)
        exact hK _ _ (Fin.frz (FrzL.frz (.cons (.row (i := 1) (d := 10) rfl (by have := ptsF_len L (j + 1); unfold cut; rw [if_pos (by omega)]; simp [← this]) (ptsF_self _ _) (ptsF_chunk _ _)) .nil)))
  · repeat' ((conv => whnf); first | refine ⟨rfl, fun hc => ?_, fun hc => ?_⟩ | refine ⟨fun hc => ?_, fun hc => ?_⟩ | refine ⟨rfl, _, wrap64 (by omega) (by omega), ?_⟩ | refine ⟨_, wrap64 (by omega) (by omega), ?_⟩ | refine ⟨_, wrapU (by omega) (by omega), ?_⟩ | refine ⟨rfl, rfl, ?_⟩ | refine ⟨_, _, _, _, _, gi (by repeat first | exact .hd | apply In.tl), ?_⟩ | refine ⟨_, _, _, _, gi (by repeat first | exact .hd | apply In.tl), ⟨rfl, by exact leb rfl, by exact rfl⟩, ?_⟩ | refine ⟨_, gi (by repeat first | exact .hd | apply In.tl), ?_⟩ | refine ⟨⟨rfl, leb rfl⟩, ?_⟩ | refine ⟨⟨by decide, by decide⟩, ?_⟩ | refine ⟨rfl, ?_⟩ | refine ⟨leb rfl, ?_⟩ | refine ⟨by decide, ?_⟩ | refine .inr ⟨⟨leb rfl, leb rfl, rfl, rfl⟩, ?_⟩ | (intro l hl) | refine ⟨_, _, _, true, fun _ H hR => ⟨H, rfl, hR⟩, h13 hf rfl, rfl, ?_⟩ | refine ⟨_, _, _, false, fun _ H hR => ⟨H, rfl, hR⟩, h13 hf rfl, rfl, ?_⟩ | fail)
    · have hnum : numP s = 0 := by simp only [numP, h0, if_false]
      rw [hnum] at hK
      exact hK _ _ (Fin.frz (FrzL.frz (.cons .nilsl .nil)))
    · exact absurd (Classical.byContradiction fun h => hc h) h0
end Go.Proofs.Ytlgbbabijifflaa.runs
