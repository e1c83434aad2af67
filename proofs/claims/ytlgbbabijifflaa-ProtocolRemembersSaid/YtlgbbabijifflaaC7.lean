/- Telling the time; remembering. -/
import Derived.Test.YtlgbbabijifflaaC6
set_option linter.unusedVariables false
set_option linter.unusedSimpArgs false
namespace Go.Proofs.Ytlgbbabijifflaa.runs
open Go Go.Ai Go.Proofs.Ytlgbbabijifflaa.L1R
def g56 (args : List AV) : Option (List AV) := match args with
  | [.agg xs] => (dSys xs).bind fun s => if sysFine s then some [.list (ptsC s.len.toNat (numP s))] else none
  | _ => none
abbrev inPts (s : SysD) (a r t : Int) : Prop := chkS s = 0 ∧ 0 ≤ a ∧ a < s.ag ∧ 0 ≤ r ∧ r < s.runs.length ∧ 0 ≤ t ∧ t < s.len
def g57 (args : List AV) : Option (List AV) := match args with
  | [.agg xs, .int .i64 a, .agg [.int .i64 r, .int .i64 t]] => (dSys xs).bind fun s => if inPts s a r t then some [.int .i64 (locS s a.toNat r.toNat t.toNat)] else none
  | _ => none
def g58 (args : List AV) : Option (List AV) := match args with
  | [.agg xs, .int .i64 a, .agg [.int .i64 r, .int .i64 t]] => (dSys xs).bind fun s => if inPts s a r t ∧ noRepB (histS s a.toNat r.toNat t.toNat) = true then some [.list (intsC (histS s a.toNat r.toNat t.toNat))] else none
  | _ => none
def g59 (args : List AV) : Option (List AV) := match args with
  | [.list x, .list y] => (dAll dInt x).bind fun x => (dAll dInt y).bind fun y => if x.length < most ∧ y.length < most then some [.bool (decide (x = y))] else none
  | _ => none
def TF : Tab := [(13, ⟨.iso, g13⟩), (56, ⟨.iso, g56⟩), (57, ⟨.iso, g57⟩), (58, ⟨.iso, g58⟩), (59, ⟨.iso, g59⟩)]
theorem k13 {s : SysD} (h : sysFine s) {c : Int} (hc : chkS s = c) : (hands TF).iso 13 [.agg (sysC s)] = some [.int .i64 c] := h13 h hc
theorem k56 {s : SysD} (h : sysFine s) : (hands TF).iso 56 [.agg (sysC s)] = some [.list (ptsC s.len.toNat (numP s))] := by
  show (dSys (sysC s)).bind _ = _
  rw [dSys_C]
  exact if_pos h
theorem k57 {s : SysD} {a r t : Nat} (h : inPts s a r t) : (hands TF).iso 57 [.agg (sysC s), .int .i64 (a : Int), .agg [.int .i64 (r : Int), .int .i64 (t : Int)]] = some [.int .i64 (locS s a r t)] := by
  show (dSys (sysC s)).bind _ = _
  rw [dSys_C]
  exact if_pos h
theorem k58 {s : SysD} {a r t : Nat} (h : inPts s a r t) (hn : noRepB (histS s a r t) = true) : (hands TF).iso 58 [.agg (sysC s), .int .i64 (a : Int), .agg [.int .i64 (r : Int), .int .i64 (t : Int)]] = some [.list (intsC (histS s a r t))] := by
  show (dSys (sysC s)).bind _ = _
  rw [dSys_C]
  exact if_pos ⟨h, hn⟩
theorem k59 {x y : List Int} (hx : x.length < most) (hy : y.length < most) {b : Bool} (h : decide (x = y) = b) : (hands TF).iso 59 [.list (intsC x), .list (intsC y)] = some [.bool b] := by
  subst h
  show (dAll dInt (intsC x)).bind _ = _
  rw [dInts, Option.bind_some, dInts]
  exact if_pos ⟨hx, hy⟩
theorem pts_len (L c : Nat) : lenIs 2 (ptsC L c) = true := by
  cases c with
  | zero => rfl
  | succ c => simp [ptsC, List.range_succ_eq_map, lenIs, ptC]
theorem pts_length (L c : Nat) : (ptsC L c).length = c := by simp [ptsC]
theorem pts_get {L c i : Nat} (h : i < c) : (ptsC L c)[((i : Nat) : Int).toNat]? = some (ptC L i) := by simp [ptsC, h]
def syncOk (s : SysD) : Prop := sysFine s ∧ chkS s = 0 ∧ ∀ (i j a : Nat), i < numP s → j < numP s → (a : Int) < s.ag → i % s.len.toNat ≠ j % s.len.toNat → locS s a (i / s.len.toNat) (i % s.len.toNat) ≠ locS s a (j / s.len.toNat) (j % s.len.toNat)
theorem in_pts {s : SysD} (h : chkS s = 0) {a i : Nat} (ha : (a : Int) < s.ag) (hi : i < numP s) : inPts s a ((i / s.len.toNat : Nat) : Int) ((i % s.len.toNat : Nat) : Int) := by
  obtain ⟨q1, q2, q3, q4, q5, q6, q7, q8, q9⟩ := chk_ok h
  simp only [numP, h, if_true] at hi
  have hL : 0 < s.len.toNat := by omega
  have h1 : i / s.len.toNat < s.runs.length := by rw [Nat.div_lt_iff_lt_mul hL]; exact hi
  have h2 := Nat.mod_lt i hL
  exact ⟨h, by omega, ha, Int.natCast_nonneg _, Int.ofNat_lt.2 h1, Int.natCast_nonneg _, by omega⟩
theorem numP_le {s : SysD} (h : sysFine s) : numP s ≤ 1024 := by
  unfold numP
  split
  · rename_i h0
    obtain ⟨q1, q2, q3, q4, q5, q6, q7, q8, q9⟩ := chk_ok h0
    have := Nat.mul_le_mul (show s.runs.length ≤ 64 by omega) (show s.len.toNat ≤ 16 by omega)
    omega
  · omega
set_option maxRecDepth 100000 in
set_option maxHeartbeats 1000000 in
theorem run14 {n : Nat} {s : SysD} (h : syncOk s) {K : List AV → Ah → Prop} (hK : ∀ A, K [.bool true] A) : aB (hands TF) (n + 2000) ir14 (.agg (sysC s) :: .undef :: .undef :: .undef :: .undef :: .undef :: .undef :: .undef :: .undef :: .undef :: .undef :: .undef :: .undef :: .undef :: .undef :: .undef :: .undef :: .undef :: .undef :: .undef :: .undef :: .undef :: .undef :: .undef :: .undef :: .undef :: .undef :: .undef :: .undef :: .undef :: .undef :: .undef :: .undef :: .undef :: .undef :: .undef :: .undef :: .undef :: .undef :: .undef :: .undef :: .undef :: .undef :: .undef :: .undef :: .undef :: .undef :: .undef :: .undef :: []) [] K := by
  obtain ⟨hf, h0, hs⟩ := h
  obtain ⟨q1, q2, q3, q4, q5, q6, q7, q8, q9⟩ := chk_ok h0
  have hN := numP_le hf
  refine ⟨rfl, ?_⟩
  intro l1 hl1
  repeat' ((conv => whnf); first | refine ⟨rfl, fun hc => ?_, fun hc => ?_⟩ | refine ⟨fun hc => ?_, fun hc => ?_⟩ | refine ⟨rfl, _, wrap64 (by omega) (by omega), ?_⟩ | refine ⟨_, wrap64 (by omega) (by omega), ?_⟩ | refine ⟨_, wrapU (by omega) (by omega), ?_⟩ | refine ⟨rfl, rfl, ?_⟩ | refine ⟨_, _, _, _, _, gi (by repeat first | exact .hd | apply In.tl), ?_⟩ | refine ⟨_, _, _, _, gi (by repeat first | exact .hd | apply In.tl), ⟨rfl, by exact leb rfl, by exact rfl⟩, ?_⟩ | refine ⟨_, gi (by repeat first | exact .hd | apply In.tl), ?_⟩ | refine ⟨⟨rfl, leb rfl⟩, ?_⟩ | refine ⟨⟨by decide, by decide⟩, ?_⟩ | refine ⟨rfl, ?_⟩ | refine ⟨leb rfl, ?_⟩ | refine ⟨by decide, ?_⟩ | refine .inr ⟨⟨leb rfl, leb rfl, rfl, rfl⟩, ?_⟩ | refine ⟨_, _, _, true, fun _ H hR => ⟨H, rfl, hR⟩, k56 hf, rfl, ?_⟩ | refine ⟨_, _, _, false, fun _ H hR => ⟨H, rfl, hR⟩, k56 hf, rfl, ?_⟩ | fail)
  refine aLoop_by (fun m env A => A = [(l1, some (.cells (sysC s) 0 0 false false))] ∧ ∃ i : Nat, IEnv (fun g => (g 0 :: .ptr l1 0 0 :: .bool false :: g 3 :: g 4 :: g 5 :: g 6 :: g 7 :: g 8 :: .list (ptsC s.len.toNat (numP s)) :: .int .i64 (ptsC s.len.toNat (numP s)).length :: .int .i64 (i : Int) :: g 12 :: g 13 :: g 14 :: g 15 :: g 16 :: g 17 :: g 18 :: g 19 :: g 20 :: g 21 :: g 22 :: g 23 :: g 24 :: g 25 :: g 26 :: g 27 :: g 28 :: g 29 :: g 30 :: g 31 :: g 32 :: g 33 :: g 34 :: g 35 :: g 36 :: g 37 :: g 38 :: g 39 :: g 40 :: g 41 :: g 42 :: g 43 :: g 44 :: g 45 :: g 46 :: g 47 :: g 48 :: [])) env ∧ i ≤ numP s ∧ m = numP s - i) (m := numP s) (.refl _) ⟨rfl, 0, .mk rfl, by omega, by omega⟩ (by omega) ?_
  rintro m env A ⟨rfl, i, ⟨g, rfl⟩, hi, hm⟩
  refine ⟨rfl, fun h4 => ?_, fun h4 => ?_⟩
  · simp only [pts_length] at h4
    have hi' : i < numP s := by omega
    refine ⟨⟨by omega, by simp [pts_length]; omega⟩, pts_len _ _, _, pts_get hi', ?_⟩
    intro l4 hl4
    repeat' ((conv => whnf); first | refine ⟨rfl, fun hc => ?_, fun hc => ?_⟩ | refine ⟨fun hc => ?_, fun hc => ?_⟩ | refine ⟨rfl, _, wrap64 (by omega) (by omega), ?_⟩ | refine ⟨_, wrap64 (by omega) (by omega), ?_⟩ | refine ⟨_, wrapU (by omega) (by omega), ?_⟩ | refine ⟨rfl, rfl, ?_⟩ | refine ⟨_, _, _, _, _, gi (by repeat first | exact .hd | apply In.tl), ?_⟩ | refine ⟨_, _, _, _, gi (by repeat first | exact .hd | apply In.tl), ⟨rfl, by exact leb rfl, by exact rfl⟩, ?_⟩ | refine ⟨_, gi (by repeat first | exact .hd | apply In.tl), ?_⟩ | refine ⟨⟨rfl, leb rfl⟩, ?_⟩ | refine ⟨⟨by decide, by decide⟩, ?_⟩ | refine ⟨rfl, ?_⟩ | refine ⟨leb rfl, ?_⟩ | refine ⟨by decide, ?_⟩ | refine .inr ⟨⟨leb rfl, leb rfl, rfl, rfl⟩, ?_⟩ | refine ⟨_, _, _, true, fun _ H hR => ⟨H, rfl, hR⟩, k56 hf, rfl, ?_⟩ | refine ⟨_, _, _, false, fun _ H hR => ⟨H, rfl, hR⟩, k56 hf, rfl, ?_⟩ | fail)
    refine aLoop_by (fun m env A => A = [(l1, some (.cells (sysC s) 0 0 false false)), (l4, some (.cells (ptC s.len.toNat i) 0 0 false false))] ∧ ∃ j : Nat, IEnv (fun g => (g 0 :: .ptr l1 0 0 :: .bool false :: g 3 :: .ptr l4 0 0 :: g 5 :: g 6 :: g 7 :: g 8 :: .list (ptsC s.len.toNat (numP s)) :: .int .i64 (ptsC s.len.toNat (numP s)).length :: .int .i64 (i : Int) :: g 12 :: g 13 :: g 14 :: g 15 :: .list (ptsC s.len.toNat (numP s)) :: .int .i64 (ptsC s.len.toNat (numP s)).length :: .int .i64 (j : Int) :: g 19 :: g 20 :: g 21 :: g 22 :: g 23 :: g 24 :: g 25 :: g 26 :: g 27 :: g 28 :: g 29 :: g 30 :: g 31 :: g 32 :: g 33 :: g 34 :: g 35 :: g 36 :: g 37 :: g 38 :: g 39 :: g 40 :: g 41 :: g 42 :: g 43 :: g 44 :: g 45 :: g 46 :: g 47 :: g 48 :: [])) env ∧ j ≤ numP s ∧ m = numP s - j) (m := numP s) (.refl _) ⟨rfl, 0, .mk rfl, by omega, by omega⟩ (by omega) ?_
    rintro m env A ⟨rfl, j, ⟨g, rfl⟩, hj, hm⟩
    refine ⟨rfl, fun h5 => ?_, fun h5 => ?_⟩
    · simp only [pts_length] at h5
      have hj' : j < numP s := by omega
      refine ⟨⟨by omega, by simp [pts_length]; omega⟩, pts_len _ _, _, pts_get hj', ?_⟩
      intro l6 hl6
      repeat' ((conv => whnf); first | refine ⟨rfl, fun hc => ?_, fun hc => ?_⟩ | refine ⟨fun hc => ?_, fun hc => ?_⟩ | refine ⟨rfl, _, wrap64 (by omega) (by omega), ?_⟩ | refine ⟨_, wrap64 (by omega) (by omega), ?_⟩ | refine ⟨_, wrapU (by omega) (by omega), ?_⟩ | refine ⟨rfl, rfl, ?_⟩ | refine ⟨_, _, _, _, _, gi (by repeat first | exact .hd | apply In.tl), ?_⟩ | refine ⟨_, _, _, _, gi (by repeat first | exact .hd | apply In.tl), ⟨rfl, by exact leb rfl, by exact rfl⟩, ?_⟩ | refine ⟨_, gi (by repeat first | exact .hd | apply In.tl), ?_⟩ | refine ⟨⟨rfl, leb rfl⟩, ?_⟩ | refine ⟨⟨by decide, by decide⟩, ?_⟩ | refine ⟨rfl, ?_⟩ | refine ⟨leb rfl, ?_⟩ | refine ⟨by decide, ?_⟩ | refine .inr ⟨⟨leb rfl, leb rfl, rfl, rfl⟩, ?_⟩ | fail)
      refine aLoop_by (fun m env A => A = [(l1, some (.cells (sysC s) 0 0 false false)), (l4, some (.cells (ptC s.len.toNat i) 0 0 false false)), (l6, some (.cells (ptC s.len.toNat j) 0 0 false false))] ∧ ∃ a : Nat, IEnv (fun g => (g 0 :: .ptr l1 0 0 :: .bool false :: g 3 :: .ptr l4 0 0 :: g 5 :: .ptr l6 0 0 :: g 7 :: g 8 :: .list (ptsC s.len.toNat (numP s)) :: .int .i64 (ptsC s.len.toNat (numP s)).length :: .int .i64 (i : Int) :: g 12 :: g 13 :: g 14 :: g 15 :: .list (ptsC s.len.toNat (numP s)) :: .int .i64 (ptsC s.len.toNat (numP s)).length :: .int .i64 (j : Int) :: g 19 :: g 20 :: g 21 :: g 22 :: .int .i64 s.ag :: .int .i64 (a : Int) :: g 25 :: g 26 :: g 27 :: g 28 :: g 29 :: g 30 :: g 31 :: g 32 :: g 33 :: g 34 :: g 35 :: g 36 :: g 37 :: g 38 :: g 39 :: g 40 :: g 41 :: g 42 :: g 43 :: g 44 :: g 45 :: g 46 :: g 47 :: g 48 :: [])) env ∧ (a : Int) ≤ s.ag ∧ m = s.ag.toNat - a) (m := s.ag.toNat) (.refl _) ⟨rfl, 0, .mk rfl, by omega, by omega⟩ (by omega) ?_
      rintro m env A ⟨rfl, a, ⟨g, rfl⟩, ha, hm⟩
      refine ⟨rfl, fun h6 => ?_, fun h6 => ?_⟩
      · have p1 := in_pts h0 h6 hi'
        have p2 := in_pts h0 h6 hj'
        repeat' ((conv => whnf); first | refine ⟨rfl, fun hc => ?_, fun hc => ?_⟩ | refine ⟨fun hc => ?_, fun hc => ?_⟩ | refine ⟨rfl, _, wrap64 (by omega) (by omega), ?_⟩ | refine ⟨_, wrap64 (by omega) (by omega), ?_⟩ | refine ⟨_, wrapU (by omega) (by omega), ?_⟩ | refine ⟨rfl, rfl, ?_⟩ | refine ⟨_, _, _, _, _, gi (by repeat first | exact .hd | apply In.tl), ?_⟩ | refine ⟨_, _, _, _, gi (by repeat first | exact .hd | apply In.tl), ⟨rfl, by exact leb rfl, by exact rfl⟩, ?_⟩ | refine ⟨_, gi (by repeat first | exact .hd | apply In.tl), ?_⟩ | refine ⟨⟨rfl, leb rfl⟩, ?_⟩ | refine ⟨⟨by decide, by decide⟩, ?_⟩ | refine ⟨rfl, ?_⟩ | refine ⟨leb rfl, ?_⟩ | refine ⟨by decide, ?_⟩ | refine .inr ⟨⟨leb rfl, leb rfl, rfl, rfl⟩, ?_⟩ | fail)
        intro b hb
        have hb1 : l1 < b := hb (l1, _) (List.mem_of_getElem? (i := 0) rfl)
        have hb6 : l6 < b := hb (l6, _) (List.mem_of_getElem? (i := 2) rfl)
        repeat' ((conv => whnf); first | refine ⟨rfl, fun hc => ?_, fun hc => ?_⟩ | refine ⟨fun hc => ?_, fun hc => ?_⟩ | refine ⟨rfl, _, wrap64 (by omega) (by omega), ?_⟩ | refine ⟨_, wrap64 (by omega) (by omega), ?_⟩ | refine ⟨_, wrapU (by omega) (by omega), ?_⟩ | refine ⟨rfl, rfl, ?_⟩ | refine ⟨_, _, _, _, _, gi (by repeat first | exact .hd | apply In.tl), ?_⟩ | refine ⟨_, _, _, _, gi (by repeat first | exact .hd | apply In.tl), ⟨rfl, by exact leb rfl, by exact rfl⟩, ?_⟩ | refine ⟨_, gi (by repeat first | exact .hd | apply In.tl), ?_⟩ | refine ⟨⟨rfl, leb rfl⟩, ?_⟩ | refine ⟨⟨by decide, by decide⟩, ?_⟩ | refine ⟨rfl, ?_⟩ | refine ⟨leb rfl, ?_⟩ | refine ⟨by decide, ?_⟩ | refine .inr ⟨⟨leb rfl, leb rfl, rfl, rfl⟩, ?_⟩ | fail)
        · refine ⟨_, fun H hR => acc_g rfl (acc_call (by decide) rfl (r := []) rfl), ?_⟩
          repeat' ((conv => whnf); first | refine ⟨rfl, fun hc => ?_, fun hc => ?_⟩ | refine ⟨fun hc => ?_, fun hc => ?_⟩ | refine ⟨rfl, _, wrap64 (by omega) (by omega), ?_⟩ | refine ⟨_, wrap64 (by omega) (by omega), ?_⟩ | refine ⟨_, wrapU (by omega) (by omega), ?_⟩ | refine ⟨rfl, rfl, ?_⟩ | refine ⟨_, _, _, _, _, gi (by repeat first | exact .hd | apply In.tl), ?_⟩ | refine ⟨_, _, _, _, gi (by repeat first | exact .hd | apply In.tl), ⟨rfl, by exact leb rfl, by exact rfl⟩, ?_⟩ | refine ⟨_, gi (by repeat first | exact .hd | apply In.tl), ?_⟩ | refine ⟨⟨rfl, leb rfl⟩, ?_⟩ | refine ⟨⟨by decide, by decide⟩, ?_⟩ | refine ⟨rfl, ?_⟩ | refine ⟨leb rfl, ?_⟩ | refine ⟨by decide, ?_⟩ | refine .inr ⟨⟨leb rfl, leb rfl, rfl, rfl⟩, ?_⟩ | refine ⟨_, _, _, true, fun _ H hR => ⟨H, rfl, hR⟩, k57 p1, rfl, ?_⟩ | refine ⟨_, _, _, false, fun _ H hR => ⟨H, rfl, hR⟩, k57 p1, rfl, ?_⟩ | fail)
          refine ⟨_, fun H hR => acc_g rfl (acc_load rfl), ?_⟩
          repeat' ((conv => whnf); first | refine ⟨rfl, fun hc => ?_, fun hc => ?_⟩ | refine ⟨fun hc => ?_, fun hc => ?_⟩ | refine ⟨rfl, _, wrap64 (by omega) (by omega), ?_⟩ | refine ⟨_, wrap64 (by omega) (by omega), ?_⟩ | refine ⟨_, wrapU (by omega) (by omega), ?_⟩ | refine ⟨rfl, rfl, ?_⟩ | refine ⟨_, _, _, _, _, gi (by repeat first | exact .hd | apply In.tl), ?_⟩ | refine ⟨_, _, _, _, gi (by repeat first | exact .hd | apply In.tl), ⟨rfl, by exact leb rfl, by exact rfl⟩, ?_⟩ | refine ⟨_, gi (by repeat first | exact .hd | apply In.tl), ?_⟩ | refine ⟨⟨rfl, leb rfl⟩, ?_⟩ | refine ⟨⟨by decide, by decide⟩, ?_⟩ | refine ⟨rfl, ?_⟩ | refine ⟨leb rfl, ?_⟩ | refine ⟨by decide, ?_⟩ | refine .inr ⟨⟨leb rfl, leb rfl, rfl, rfl⟩, ?_⟩ | fail)
          refine ⟨_, fun H hR => acc_g rfl (acc_load rfl), ?_⟩
          repeat' ((conv => whnf); first | refine ⟨rfl, fun hc => ?_, fun hc => ?_⟩ | refine ⟨fun hc => ?_, fun hc => ?_⟩ | refine ⟨rfl, _, wrap64 (by omega) (by omega), ?_⟩ | refine ⟨_, wrap64 (by omega) (by omega), ?_⟩ | refine ⟨_, wrapU (by omega) (by omega), ?_⟩ | refine ⟨rfl, rfl, ?_⟩ | refine ⟨_, _, _, _, _, gi (by repeat first | exact .hd | apply In.tl), ?_⟩ | refine ⟨_, _, _, _, gi (by repeat first | exact .hd | apply In.tl), ⟨rfl, by exact leb rfl, by exact rfl⟩, ?_⟩ | refine ⟨_, gi (by repeat first | exact .hd | apply In.tl), ?_⟩ | refine ⟨⟨rfl, leb rfl⟩, ?_⟩ | refine ⟨⟨by decide, by decide⟩, ?_⟩ | refine ⟨rfl, ?_⟩ | refine ⟨leb rfl, ?_⟩ | refine ⟨by decide, ?_⟩ | refine .inr ⟨⟨leb rfl, leb rfl, rfl, rfl⟩, ?_⟩ | refine ⟨_, _, _, true, fun _ H hR => ⟨H, rfl, hR⟩, k57 p2, rfl, ?_⟩ | refine ⟨_, _, _, false, fun _ H hR => ⟨H, rfl, hR⟩, k57 p2, rfl, ?_⟩ | fail)
          · rename_i hne
            exact absurd hc (hs i j a hi' hj' h6 (by omega))
          · refine ⟨Bool.and_eq_true_iff.2 ⟨free_of rfl rfl (fun l h => ?_) (fun l h => nomatch h), Bool.and_eq_true_iff.2 ⟨free_of rfl rfl (fun l h => ?_) (fun l h => nomatch h), rfl⟩⟩, ?_⟩
            · simp at h ⊢; omega
            · simp at h ⊢; omega
            repeat' ((conv => whnf); first | refine ⟨rfl, fun hc => ?_, fun hc => ?_⟩ | refine ⟨fun hc => ?_, fun hc => ?_⟩ | refine ⟨rfl, _, wrap64 (by omega) (by omega), ?_⟩ | refine ⟨_, wrap64 (by omega) (by omega), ?_⟩ | refine ⟨_, wrapU (by omega) (by omega), ?_⟩ | refine ⟨rfl, rfl, ?_⟩ | refine ⟨_, _, _, _, _, gi (by repeat first | exact .hd | apply In.tl), ?_⟩ | refine ⟨_, _, _, _, gi (by repeat first | exact .hd | apply In.tl), ⟨rfl, by exact leb rfl, by exact rfl⟩, ?_⟩ | refine ⟨_, gi (by repeat first | exact .hd | apply In.tl), ?_⟩ | refine ⟨⟨rfl, leb rfl⟩, ?_⟩ | refine ⟨⟨by decide, by decide⟩, ?_⟩ | refine ⟨rfl, ?_⟩ | refine ⟨leb rfl, ?_⟩ | refine ⟨by decide, ?_⟩ | refine .inr ⟨⟨leb rfl, leb rfl, rfl, rfl⟩, ?_⟩ | fail)
            exact ⟨s.ag.toNat - (a + 1), _, by omega, Sub.take 3, rfl, a + 1, .mk rfl, by omega, rfl⟩
        · refine ⟨_, fun H hR => acc_skip rfl, ?_⟩
          repeat' ((conv => whnf); first | refine ⟨rfl, fun hc => ?_, fun hc => ?_⟩ | refine ⟨fun hc => ?_, fun hc => ?_⟩ | refine ⟨rfl, _, wrap64 (by omega) (by omega), ?_⟩ | refine ⟨_, wrap64 (by omega) (by omega), ?_⟩ | refine ⟨_, wrapU (by omega) (by omega), ?_⟩ | refine ⟨rfl, rfl, ?_⟩ | refine ⟨_, _, _, _, _, gi (by repeat first | exact .hd | apply In.tl), ?_⟩ | refine ⟨_, _, _, _, gi (by repeat first | exact .hd | apply In.tl), ⟨rfl, by exact leb rfl, by exact rfl⟩, ?_⟩ | refine ⟨_, gi (by repeat first | exact .hd | apply In.tl), ?_⟩ | refine ⟨⟨rfl, leb rfl⟩, ?_⟩ | refine ⟨⟨by decide, by decide⟩, ?_⟩ | refine ⟨rfl, ?_⟩ | refine ⟨leb rfl, ?_⟩ | refine ⟨by decide, ?_⟩ | refine .inr ⟨⟨leb rfl, leb rfl, rfl, rfl⟩, ?_⟩ | fail)
          refine ⟨_, fun H hR => acc_skip rfl, ?_⟩
          repeat' ((conv => whnf); first | refine ⟨rfl, fun hc => ?_, fun hc => ?_⟩ | refine ⟨fun hc => ?_, fun hc => ?_⟩ | refine ⟨rfl, _, wrap64 (by omega) (by omega), ?_⟩ | refine ⟨_, wrap64 (by omega) (by omega), ?_⟩ | refine ⟨_, wrapU (by omega) (by omega), ?_⟩ | refine ⟨rfl, rfl, ?_⟩ | refine ⟨_, _, _, _, _, gi (by repeat first | exact .hd | apply In.tl), ?_⟩ | refine ⟨_, _, _, _, gi (by repeat first | exact .hd | apply In.tl), ⟨rfl, by exact leb rfl, by exact rfl⟩, ?_⟩ | refine ⟨_, gi (by repeat first | exact .hd | apply In.tl), ?_⟩ | refine ⟨⟨rfl, leb rfl⟩, ?_⟩ | refine ⟨⟨by decide, by decide⟩, ?_⟩ | refine ⟨rfl, ?_⟩ | refine ⟨leb rfl, ?_⟩ | refine ⟨by decide, ?_⟩ | refine .inr ⟨⟨leb rfl, leb rfl, rfl, rfl⟩, ?_⟩ | fail)
          refine ⟨_, fun H hR => acc_skip rfl, ?_⟩
          repeat' ((conv => whnf); first | refine ⟨rfl, fun hc => ?_, fun hc => ?_⟩ | refine ⟨fun hc => ?_, fun hc => ?_⟩ | refine ⟨rfl, _, wrap64 (by omega) (by omega), ?_⟩ | refine ⟨_, wrap64 (by omega) (by omega), ?_⟩ | refine ⟨_, wrapU (by omega) (by omega), ?_⟩ | refine ⟨rfl, rfl, ?_⟩ | refine ⟨_, _, _, _, _, gi (by repeat first | exact .hd | apply In.tl), ?_⟩ | refine ⟨_, _, _, _, gi (by repeat first | exact .hd | apply In.tl), ⟨rfl, by exact leb rfl, by exact rfl⟩, ?_⟩ | refine ⟨_, gi (by repeat first | exact .hd | apply In.tl), ?_⟩ | refine ⟨⟨rfl, leb rfl⟩, ?_⟩ | refine ⟨⟨by decide, by decide⟩, ?_⟩ | refine ⟨rfl, ?_⟩ | refine ⟨leb rfl, ?_⟩ | refine ⟨by decide, ?_⟩ | refine .inr ⟨⟨leb rfl, leb rfl, rfl, rfl⟩, ?_⟩ | fail)
          exact ⟨s.ag.toNat - (a + 1), _, by omega, Sub.take 3, rfl, a + 1, .mk rfl, by omega, rfl⟩
      · obtain hae : (a : Int) = s.ag := by omega
        repeat' ((conv => whnf); first | refine ⟨rfl, fun hc => ?_, fun hc => ?_⟩ | refine ⟨fun hc => ?_, fun hc => ?_⟩ | refine ⟨rfl, _, wrap64 (by omega) (by omega), ?_⟩ | refine ⟨_, wrap64 (by omega) (by omega), ?_⟩ | refine ⟨_, wrapU (by omega) (by omega), ?_⟩ | refine ⟨rfl, rfl, ?_⟩ | refine ⟨_, _, _, _, _, gi (by repeat first | exact .hd | apply In.tl), ?_⟩ | refine ⟨_, _, _, _, gi (by repeat first | exact .hd | apply In.tl), ⟨rfl, by exact leb rfl, by exact rfl⟩, ?_⟩ | refine ⟨_, gi (by repeat first | exact .hd | apply In.tl), ?_⟩ | refine ⟨⟨rfl, leb rfl⟩, ?_⟩ | refine ⟨⟨by decide, by decide⟩, ?_⟩ | refine ⟨rfl, ?_⟩ | refine ⟨leb rfl, ?_⟩ | refine ⟨by decide, ?_⟩ | refine .inr ⟨⟨leb rfl, leb rfl, rfl, rfl⟩, ?_⟩ | fail)
        exact ⟨numP s - (j + 1), _, by omega, Sub.take 2, rfl, j + 1, .mk rfl, by omega, rfl⟩
    · repeat' ((conv => whnf); first | refine ⟨rfl, fun hc => ?_, fun hc => ?_⟩ | refine ⟨fun hc => ?_, fun hc => ?_⟩ | refine ⟨rfl, _, wrap64 (by omega) (by omega), ?_⟩ | refine ⟨_, wrap64 (by omega) (by omega), ?_⟩ | refine ⟨_, wrapU (by omega) (by omega), ?_⟩ | refine ⟨rfl, rfl, ?_⟩ | refine ⟨_, _, _, _, _, gi (by repeat first | exact .hd | apply In.tl), ?_⟩ | refine ⟨_, _, _, _, gi (by repeat first | exact .hd | apply In.tl), ⟨rfl, by exact leb rfl, by exact rfl⟩, ?_⟩ | refine ⟨_, gi (by repeat first | exact .hd | apply In.tl), ?_⟩ | refine ⟨⟨rfl, leb rfl⟩, ?_⟩ | refine ⟨⟨by decide, by decide⟩, ?_⟩ | refine ⟨rfl, ?_⟩ | refine ⟨leb rfl, ?_⟩ | refine ⟨by decide, ?_⟩ | refine .inr ⟨⟨leb rfl, leb rfl, rfl, rfl⟩, ?_⟩ | fail)
      exact ⟨numP s - (i + 1), _, by omega, Sub.take 1, rfl, i + 1, .mk rfl, by omega, rfl⟩
  · repeat' ((conv => whnf); first | refine ⟨rfl, fun hc => ?_, fun hc => ?_⟩ | refine ⟨fun hc => ?_, fun hc => ?_⟩ | refine ⟨rfl, _, wrap64 (by omega) (by omega), ?_⟩ | refine ⟨_, wrap64 (by omega) (by omega), ?_⟩ | refine ⟨_, wrapU (by omega) (by omega), ?_⟩ | refine ⟨rfl, rfl, ?_⟩ | refine ⟨_, _, _, _, _, gi (by repeat first | exact .hd | apply In.tl), ?_⟩ | refine ⟨_, _, _, _, gi (by repeat first | exact .hd | apply In.tl), ⟨rfl, by exact leb rfl, by exact rfl⟩, ?_⟩ | refine ⟨_, gi (by repeat first | exact .hd | apply In.tl), ?_⟩ | refine ⟨⟨rfl, leb rfl⟩, ?_⟩ | refine ⟨⟨by decide, by decide⟩, ?_⟩ | refine ⟨rfl, ?_⟩ | refine ⟨leb rfl, ?_⟩ | refine ⟨by decide, ?_⟩ | refine .inr ⟨⟨leb rfl, leb rfl, rfl, rfl⟩, ?_⟩ | refine ⟨_, _, _, true, fun _ H hR => ⟨H, rfl, hR⟩, k13 hf h0, rfl, ?_⟩ | refine ⟨_, _, _, false, fun _ H hR => ⟨H, rfl, hR⟩, k13 hf h0, rfl, ?_⟩ | fail)
    · exact hK _
    · exact absurd rfl hc
end Go.Proofs.Ytlgbbabijifflaa.runs
