/- The system of the lossy channel. -/
import Derived.Test.YtlgbbabijifflaaL1F7
set_option linter.unusedVariables false
set_option linter.unusedSimpArgs false
namespace Go.Proofs.Ytlgbbabijifflaa.law1
open Go Go.Ai Go.Proofs.Ytlgbbabijifflaa.L1R
open runs (RunD SysD runC sysC intsC dInt dAll locsC facsC dInts)
def spec1 : List (Nat × (List AV → Option (List AV))) := [(48, g48), (50, g50), (51, cloneG 1)]
def G1 : Prg := ⟨fun f => match Nat.beq f 49 with
  | true => some ir49
  | false => none, how1, Go.Ai.look spec1⟩
theorem evalI_spec {G : Prg} {k f : Nat} {g : List AV → Option (List AV)} {args : List AV} (h : G.spec f = some g) : evalI G (k + 1) f args = g args := by simp [evalI, h]
theorem iso1 (k : Nat) : IsoH (evalI G1 (k + 1)) where
  run := fun {e0 bit rs lost} h => by
    rw [evalI_spec (g := g50) rfl]
    exact t50 (e0 := e0) h
  cl := fun {l} h => by
    rw [evalI_spec (g := cloneG 1) rfl]
    cases l with
    | nil => rfl
    | cons x xs =>
      have : cloneOk 1 (intsC (x :: xs)) = true := by
        simp only [cloneOk, Bool.and_eq_true, decide_eq_true_eq]
        refine ⟨by rw [runs.ints_length]; simp only [most]; omega, ?_⟩
        simp [intsC, selfV, AV.one]
      simp only [intsC, List.map_cons] at this ⊢
      simp only [cloneG, this, if_true]
      rfl
theorem sh1 (k : Nat) (args : List AV) (H : Hp) : evalS G1 (k + 1) 49 args H = evalB ⟨how1, evalI G1 k, evalS G1 k⟩ k ir49 args H := rfl
def Post (e0 : Int) (rs : List Rule) (le ls lf : Nat) (E : List RunD) (rs' : List AV) (A' : Ah) : Prop := rs' = [] ∧ ∃ lr', Sub A' (core e0 rs le ls lf lr' E ++ RA lr' E)
theorem out1 {k : Nat} {args env : List AV} {A F : Ah} {H : Hp} {e0 : Int} {rs : List Rule} {le ls lf : Nat} {E : List RunD} (henv : args ++ List.replicate (ir49.ntmps - args.length) .undef = env) (hR : RepF F A H) (h : aB ⟨how1, evalI G1 k, evalS G1 k⟩ k ir49 env A (Post e0 rs le ls lf E)) :
    ∃ H' lr', evalS G1 (k + 1) 49 args H = some ([], H') ∧ RepF F (core e0 rs le ls lf lr' E ++ RA lr' E) H' := by
  obtain ⟨rs', H', h1, A', h2, rfl, lr', h3⟩ := aB_out henv hR h
  exact ⟨H', lr', by rw [sh1]; exact h1, h3 F H' h2⟩
theorem shOk1 {e0 : Int} {rs : List Rule} {bit : Int} (he0 : 0 ≤ e0 ∧ e0 ≤ 4) : ∀ (d k : Nat), ShOk e0 rs bit (evalS G1 (d + k + 8)) d
  | 0, k => by
    intro F H le ls lf lx lr g lost acc hd hne hok ha hR
    cases lost with
    | nil => exact absurd rfl hne
    | cons z zs =>
      cases acc with
      | nil => exact out1 rfl hR (leaf10 (iso1 _) hok ha he0 (by simpa using hd) fun A' lr' hs => ⟨rfl, lr', hs⟩)
      | cons y ys => exact out1 rfl hR (leaf11 (iso1 _) hok ha he0 (by simpa using hd) fun A' lr' hs => ⟨rfl, lr', hs⟩)
  | d + 1, k => by
    intro F H le ls lf lx lr g lost acc hd hne hok ha hR
    have ih := shOk1 (rs := rs) (bit := bit) he0 d k
    cases lost with
    | nil => exact absurd rfl hne
    | cons z zs =>
      have h1 : evalS G1 (d + 1 + k + 8) = evalS G1 ((d + k + 2 + 6) + 1) := by congr 1; omega
      rw [h1]
      exact out1 rfl hR (node1 (n := d + k + 2) (iso1 (d + k + 7)) ih hok ha he0 hd fun A' lr' hs => ⟨rfl, lr', hs⟩)
/-- The closure, called at the start. -/
theorem top1 {e0 : Int} {rs : List Rule} {bit : Int} (he0 : 0 ≤ e0 ∧ e0 ≤ 4) {F : Ah} {H : Hp} {le ls lf lr : Nat} {acc : List RunD} (hok : runOk rs bit []) (ha : acc.length ≤ 65) (hR : RepF F (core e0 rs le ls lf lr acc ++ RA lr acc) H) :
    ∃ H' lr', evalS G1 20 49 [.int .i64 bit, .nilsl, .ptr ls 0 0, .ptr le 0 0, .ptr lf 0 0] H = some ([], H') ∧ RepF F (core e0 rs le ls lf lr' (enumS rs bit e0.toNat [] acc) ++ RA lr' (enumS rs bit e0.toNat [] acc)) H' := by
  obtain ⟨d, hd⟩ : ∃ d : Nat, e0.toNat = d := ⟨_, rfl⟩
  rw [hd]
  cases d with
  | zero =>
    cases acc with
    | nil => exact out1 (k := 19) rfl hR (leaf00 (iso1 _) hok ha he0 (by simp; omega) fun A' lr' hs => ⟨rfl, lr', hs⟩)
    | cons y ys => exact out1 (k := 19) rfl hR (leaf01 (iso1 _) hok ha he0 (by simp; omega) fun A' lr' hs => ⟨rfl, lr', hs⟩)
  | succ d =>
    have ih := shOk1 (rs := rs) (bit := bit) he0 d (11 - d)
    rw [show d + (11 - d) + 8 = 19 by omega] at ih
    exact out1 (k := 19) rfl hR (node0 (n := 13) (iso1 18) ih hok ha he0 (by simp; omega) fun A' lr' hs => ⟨rfl, lr', hs⟩)
def lossyS (e0 : Int) (rs : List Rule) : List RunD := enumS rs 1 e0.toNat [] (enumS rs 0 e0.toNat [] [])
def lossyR (e0 : Int) (rs : List Rule) : List AV := if chkS e0 rs = 0 then (if (lossyS e0 rs).length > 64 then [.agg noSys, .int .i64 8] else [.agg (sysC ⟨2, 1, e0 + 1, lossyS e0 rs⟩), .int .i64 0]) else [.agg noSys, .int .i64 (chkS e0 rs)]
theorem i48 {e0 : Int} {rs : List Rule} (h : eOk e0 rs) {c : Int} (hc : chkS e0 rs = c) : (⟨how1, evalI G1 20, evalS G1 20⟩ : Hands).iso 48 [.agg (eC e0 rs)] = some [.int .i64 c] := by
  subst hc
  have e : evalI G1 (19 + 1) 48 [.agg (eC e0 rs)] = g48 [.agg (eC e0 rs)] := evalI_spec rfl
  refine Eq.trans (b := g48 [.agg (eC e0 rs)]) e ?_
  show (toRules (rs.map ruleC)).bind _ = _
  rw [toRules_map]
  exact if_pos h
theorem runsF_chunk (E : List RunD) : chunk 2 E.length (runsF E) = E.map runC := by
  have h := chunk_flat (k := 2) (E.map runC) (by simp [runC])
  simpa [runsF] using h
theorem runsF_self (E : List RunD) : (runsF E).all selfV = true := by
  simp only [runsF, List.all_eq_true, List.mem_flatten, List.mem_map]
  rintro x ⟨_, ⟨r, _, rfl⟩, hx⟩
  simp only [runC, List.mem_cons, List.not_mem_nil, or_false] at hx
  rcases hx with rfl | rfl <;> rfl
set_option maxRecDepth 100000 in
set_option maxHeartbeats 1000000 in
theorem run11 {e0 : Int} {rs : List Rule} (he : eOk e0 rs) {K : List AV → Ah → Prop}
    (hK : ∀ rs' A, Fin .iso A rs' (lossyR e0 rs) → K rs' A) : aB ⟨how1, evalI G1 20, evalS G1 20⟩ 20 ir11 (.agg (eC e0 rs) :: .undef :: .undef :: .undef :: .undef :: .undef :: .undef :: .undef :: .undef :: .undef :: .undef :: .undef :: .undef :: .undef :: .undef :: .undef :: .undef :: .undef :: .undef :: .undef :: .undef :: .undef :: .undef :: .undef :: .undef :: .undef :: .undef :: .undef :: []) [] K := by
  refine ⟨rfl, ?_⟩
  intro l1 hl1
  repeat' ((conv => whnf); first | refine ⟨rfl, fun hc => ?_, fun hc => ?_⟩ | refine ⟨fun hc => ?_, fun hc => ?_⟩ | refine ⟨rfl, _, wrap64 (by omega) (by omega), ?_⟩ | refine ⟨_, wrap64 (by omega) (by omega), ?_⟩ | refine ⟨_, wrapU (by omega) (by omega), ?_⟩ | refine ⟨rfl, rfl, ?_⟩ | refine ⟨_, _, _, _, _, gi (by repeat first | exact .hd | apply In.tl), ?_⟩ | refine ⟨_, _, _, _, gi (by repeat first | exact .hd | apply In.tl), ⟨rfl, by exact leb rfl, by exact rfl⟩, ?_⟩ | refine ⟨_, gi (by repeat first | exact .hd | apply In.tl), ?_⟩ | refine ⟨⟨rfl, leb rfl⟩, ?_⟩ | refine ⟨⟨by decide, by decide⟩, ?_⟩ | refine ⟨rfl, ?_⟩ | refine ⟨leb rfl, ?_⟩ | refine ⟨by decide, ?_⟩ | refine .inr ⟨⟨leb rfl, leb rfl, rfl, rfl⟩, ?_⟩ | fail)
  intro l2 hl2
  by_cases h0 : chkS e0 rs = 0
  · obtain ⟨z1, z2, z3⟩ := chk_zero h0
    simp only [lossyR, h0, if_true] at hK
    repeat' ((conv => whnf); first | refine ⟨rfl, fun hc => ?_, fun hc => ?_⟩ | refine ⟨fun hc => ?_, fun hc => ?_⟩ | refine ⟨rfl, _, wrap64 (by omega) (by omega), ?_⟩ | refine ⟨_, wrap64 (by omega) (by omega), ?_⟩ | refine ⟨_, wrapU (by omega) (by omega), ?_⟩ | refine ⟨rfl, rfl, ?_⟩ | refine ⟨_, _, _, _, _, gi (by repeat first | exact .hd | apply In.tl), ?_⟩ | refine ⟨_, _, _, _, gi (by repeat first | exact .hd | apply In.tl), ⟨rfl, by exact leb rfl, by exact rfl⟩, ?_⟩ | refine ⟨_, gi (by repeat first | exact .hd | apply In.tl), ?_⟩ | refine ⟨⟨rfl, leb rfl⟩, ?_⟩ | refine ⟨⟨by decide, by decide⟩, ?_⟩ | refine ⟨rfl, ?_⟩ | refine ⟨leb rfl, ?_⟩ | refine ⟨by decide, ?_⟩ | refine .inr ⟨⟨leb rfl, leb rfl, rfl, rfl⟩, ?_⟩ | refine ⟨_, _, _, true, fun _ H hR => ⟨H, rfl, hR⟩, i48 he h0, rfl, ?_⟩ | refine ⟨_, _, _, false, fun _ H hR => ⟨H, rfl, hR⟩, i48 he h0, rfl, ?_⟩ | fail)
    · exact absurd rfl hc
    intro l5 hl5
    repeat' ((conv => whnf); first | refine ⟨rfl, fun hc => ?_, fun hc => ?_⟩ | refine ⟨fun hc => ?_, fun hc => ?_⟩ | refine ⟨rfl, _, wrap64 (by omega) (by omega), ?_⟩ | refine ⟨_, wrap64 (by omega) (by omega), ?_⟩ | refine ⟨_, wrapU (by omega) (by omega), ?_⟩ | refine ⟨rfl, rfl, ?_⟩ | refine ⟨_, _, _, _, _, gi (by repeat first | exact .hd | apply In.tl), ?_⟩ | refine ⟨_, _, _, _, gi (by repeat first | exact .hd | apply In.tl), ⟨rfl, by exact leb rfl, by exact rfl⟩, ?_⟩ | refine ⟨_, gi (by repeat first | exact .hd | apply In.tl), ?_⟩ | refine ⟨⟨rfl, leb rfl⟩, ?_⟩ | refine ⟨⟨by decide, by decide⟩, ?_⟩ | refine ⟨rfl, ?_⟩ | refine ⟨leb rfl, ?_⟩ | refine ⟨by decide, ?_⟩ | refine .inr ⟨⟨leb rfl, leb rfl, rfl, rfl⟩, ?_⟩ | fail)
    intro l6 hl6
    repeat' ((conv => whnf); first | refine ⟨rfl, fun hc => ?_, fun hc => ?_⟩ | refine ⟨fun hc => ?_, fun hc => ?_⟩ | refine ⟨rfl, _, wrap64 (by omega) (by omega), ?_⟩ | refine ⟨_, wrap64 (by omega) (by omega), ?_⟩ | refine ⟨_, wrapU (by omega) (by omega), ?_⟩ | refine ⟨rfl, rfl, ?_⟩ | refine ⟨_, _, _, _, _, gi (by repeat first | exact .hd | apply In.tl), ?_⟩ | refine ⟨_, _, _, _, gi (by repeat first | exact .hd | apply In.tl), ⟨rfl, by exact leb rfl, by exact rfl⟩, ?_⟩ | refine ⟨_, gi (by repeat first | exact .hd | apply In.tl), ?_⟩ | refine ⟨⟨rfl, leb rfl⟩, ?_⟩ | refine ⟨⟨by decide, by decide⟩, ?_⟩ | refine ⟨rfl, ?_⟩ | refine ⟨leb rfl, ?_⟩ | refine ⟨by decide, ?_⟩ | refine .inr ⟨⟨leb rfl, leb rfl, rfl, rfl⟩, ?_⟩ | fail)
    intro F H hR
    have hR1 : RepF F ((core e0 rs l1 l5 l6 0 ([] : List RunD) ++ RA 0 ([] : List RunD)) ++ [(l2, some (LObj.cells [.int .i64 0, .int .i64 0, .int .i64 0, .nilsl] 0 0 false false))]) H := by
      refine Sub.of_perm ?_ F H hR
      refine List.Perm.cons _ ?_
      exact (List.perm_append_comm (l₁ := [(l2, some (LObj.cells [.int .i64 0, .int .i64 0, .int .i64 0, .nilsl] 0 0 false false))]) (l₂ := [(l5, some (LObj.cells [.int .i64 2, .int .i64 1, .int .i64 (e0 + 1), RV 0 ([] : List RunD)] 0 0 false false)), (l6, some (LObj.cells [.func 49 [.ptr l5 0 0, .ptr l1 0 0, .ptr l6 0 0]] 0 0 false false))] ++ RA 0 ([] : List RunD)))
    obtain ⟨H', lra, e1, e2⟩ := top1 (rs := rs) (bit := 0) ⟨z1, z2⟩ ⟨by decide, z3, by simp, by simp⟩ (by simp) hR1.split
    have e3 : RepF F ([(l1, some (LObj.cells (eC e0 rs) 0 0 false false)), (l2, some (LObj.cells [.int .i64 0, .int .i64 0, .int .i64 0, .nilsl] 0 0 false false)), (l5, some (LObj.cells [.int .i64 2, .int .i64 1, .int .i64 (e0 + 1), RV lra (enumS rs 0 e0.toNat [] ([] : List RunD))] 0 0 false false)), (l6, some (LObj.cells [.func 49 [.ptr l5 0 0, .ptr l1 0 0, .ptr l6 0 0]] 0 0 false false))] ++ RA lra (enumS rs 0 e0.toNat [] ([] : List RunD))) H' := by
      refine Sub.of_perm ?_ F H' e2.join
      refine List.Perm.cons _ ?_
      exact (List.perm_append_comm (l₂ := [(l2, some (LObj.cells [.int .i64 0, .int .i64 0, .int .i64 0, .nilsl] 0 0 false false))]) (l₁ := [(l5, some (LObj.cells [.int .i64 2, .int .i64 1, .int .i64 (e0 + 1), RV lra (enumS rs 0 e0.toNat [] ([] : List RunD))] 0 0 false false)), (l6, some (LObj.cells [.func 49 [.ptr l5 0 0, .ptr l1 0 0, .ptr l6 0 0]] 0 0 false false))] ++ RA lra (enumS rs 0 e0.toNat [] ([] : List RunD))))
    refine ⟨.tup [], H', _, ?_, e3, ?_⟩
    · show (if how1 49 = How.shared then (evalS G1 20 49 _ H).map _ else _) = _
      rw [if_pos (show how1 49 = How.shared from rfl)]
      have e4 : (evalS G1 20 49 [.int .i64 0, .nilsl, .ptr l5 0 0, .ptr l1 0 0, .ptr l6 0 0] H).map (fun r : List AV × Hp => (pack r.1, r.2)) = some (.tup [], H') := by rw [e1]; rfl
      exact e4
    have hlen : (enumS rs 0 e0.toNat [] []).length ≤ 65 := enum_len rs 0 _ _ _ (by simp)
    repeat' ((conv => whnf); first | refine ⟨rfl, fun hc => ?_, fun hc => ?_⟩ | refine ⟨fun hc => ?_, fun hc => ?_⟩ | refine ⟨rfl, _, wrap64 (by omega) (by omega), ?_⟩ | refine ⟨_, wrap64 (by omega) (by omega), ?_⟩ | refine ⟨_, wrapU (by omega) (by omega), ?_⟩ | refine ⟨rfl, rfl, ?_⟩ | refine ⟨_, _, _, _, _, gi (by repeat first | exact .hd | apply In.tl), ?_⟩ | refine ⟨_, _, _, _, gi (by repeat first | exact .hd | apply In.tl), ⟨rfl, by exact leb rfl, by exact rfl⟩, ?_⟩ | refine ⟨_, gi (by repeat first | exact .hd | apply In.tl), ?_⟩ | refine ⟨⟨rfl, leb rfl⟩, ?_⟩ | refine ⟨⟨by decide, by decide⟩, ?_⟩ | refine ⟨rfl, ?_⟩ | refine ⟨leb rfl, ?_⟩ | refine ⟨by decide, ?_⟩ | refine .inr ⟨⟨leb rfl, leb rfl, rfl, rfl⟩, ?_⟩ | fail)
    intro F H hR
    have hR1 : RepF F ((core e0 rs l1 l5 l6 lra (enumS rs 0 e0.toNat [] []) ++ RA lra (enumS rs 0 e0.toNat [] [])) ++ [(l2, some (LObj.cells [.int .i64 0, .int .i64 0, .int .i64 0, .nilsl] 0 0 false false))]) H := by
      refine Sub.of_perm ?_ F H hR
      refine List.Perm.cons _ ?_
      exact (List.perm_append_comm (l₁ := [(l2, some (LObj.cells [.int .i64 0, .int .i64 0, .int .i64 0, .nilsl] 0 0 false false))]) (l₂ := [(l5, some (LObj.cells [.int .i64 2, .int .i64 1, .int .i64 (e0 + 1), RV lra (enumS rs 0 e0.toNat [] [])] 0 0 false false)), (l6, some (LObj.cells [.func 49 [.ptr l5 0 0, .ptr l1 0 0, .ptr l6 0 0]] 0 0 false false))] ++ RA lra (enumS rs 0 e0.toNat [] [])))
    obtain ⟨H', lrb, e1, e2⟩ := top1 (rs := rs) (bit := 1) ⟨z1, z2⟩ ⟨by decide, z3, by simp, by simp⟩ hlen hR1.split
    have e3 : RepF F ([(l1, some (LObj.cells (eC e0 rs) 0 0 false false)), (l2, some (LObj.cells [.int .i64 0, .int .i64 0, .int .i64 0, .nilsl] 0 0 false false)), (l5, some (LObj.cells [.int .i64 2, .int .i64 1, .int .i64 (e0 + 1), RV lrb (enumS rs 1 e0.toNat [] (enumS rs 0 e0.toNat [] []))] 0 0 false false)), (l6, some (LObj.cells [.func 49 [.ptr l5 0 0, .ptr l1 0 0, .ptr l6 0 0]] 0 0 false false))] ++ RA lrb (enumS rs 1 e0.toNat [] (enumS rs 0 e0.toNat [] []))) H' := by
      refine Sub.of_perm ?_ F H' e2.join
      refine List.Perm.cons _ ?_
      exact (List.perm_append_comm (l₂ := [(l2, some (LObj.cells [.int .i64 0, .int .i64 0, .int .i64 0, .nilsl] 0 0 false false))]) (l₁ := [(l5, some (LObj.cells [.int .i64 2, .int .i64 1, .int .i64 (e0 + 1), RV lrb (enumS rs 1 e0.toNat [] (enumS rs 0 e0.toNat [] []))] 0 0 false false)), (l6, some (LObj.cells [.func 49 [.ptr l5 0 0, .ptr l1 0 0, .ptr l6 0 0]] 0 0 false false))] ++ RA lrb (enumS rs 1 e0.toNat [] (enumS rs 0 e0.toNat [] []))))
    refine ⟨.tup [], H', _, ?_, e3, ?_⟩
    · show (if how1 49 = How.shared then (evalS G1 20 49 _ H).map _ else _) = _
      rw [if_pos (show how1 49 = How.shared from rfl)]
      have e4 : (evalS G1 20 49 [.int .i64 1, .nilsl, .ptr l5 0 0, .ptr l1 0 0, .ptr l6 0 0] H).map (fun r : List AV × Hp => (pack r.1, r.2)) = some (.tup [], H') := by rw [e1]; rfl
      exact e4
    rw [show lossyS e0 rs = enumS rs 1 e0.toNat [] (enumS rs 0 e0.toNat [] []) from rfl] at hK
    generalize enumS rs 1 e0.toNat [] (enumS rs 0 e0.toNat [] []) = E at hK ⊢
    clear e1 e2 e3 hR1 hR
    cases E with
    | nil =>
      rw [if_neg (by simp)] at hK
      repeat' ((conv => whnf); first | refine ⟨rfl, fun hc => ?_, fun hc => ?_⟩ | refine ⟨fun hc => ?_, fun hc => ?_⟩ | refine ⟨rfl, _, wrap64 (by omega) (by omega), ?_⟩ | refine ⟨_, wrap64 (by omega) (by omega), ?_⟩ | refine ⟨_, wrapU (by omega) (by omega), ?_⟩ | refine ⟨rfl, rfl, ?_⟩ | refine ⟨_, _, _, _, _, gi (by repeat first | exact .hd | apply In.tl), ?_⟩ | refine ⟨_, _, _, _, gi (by repeat first | exact .hd | apply In.tl), ⟨rfl, by exact leb rfl, by exact rfl⟩, ?_⟩ | refine ⟨_, gi (by repeat first | exact .hd | apply In.tl), ?_⟩ | refine ⟨⟨rfl, leb rfl⟩, ?_⟩ | refine ⟨⟨by decide, by decide⟩, ?_⟩ | refine ⟨rfl, ?_⟩ | refine ⟨leb rfl, ?_⟩ | refine ⟨by decide, ?_⟩ | refine .inr ⟨⟨leb rfl, leb rfl, rfl, rfl⟩, ?_⟩ | fail)
      · exact absurd hc (by decide)
      · exact hK _ _ (Fin.frz (FrzL.frz (.cons (.agg (d := 11) (.cons (.self (d := 10) rfl) (.cons (.self (d := 10) rfl) (.cons (.self (d := 10) rfl) (.cons (.nilsl (d := 10)) .nil))))) (.cons (.self (d := 11) rfl) .nil))))
    | cons y ys =>
      repeat' ((conv => whnf); first | refine ⟨rfl, fun hc => ?_, fun hc => ?_⟩ | refine ⟨fun hc => ?_, fun hc => ?_⟩ | refine ⟨rfl, _, wrap64 (by omega) (by omega), ?_⟩ | refine ⟨_, wrap64 (by omega) (by omega), ?_⟩ | refine ⟨_, wrapU (by omega) (by omega), ?_⟩ | refine ⟨rfl, rfl, ?_⟩ | refine ⟨_, _, _, _, _, gi (by repeat first | exact .hd | apply In.tl), ?_⟩ | refine ⟨_, _, _, _, gi (by repeat first | exact .hd | apply In.tl), ⟨rfl, by exact leb rfl, by exact rfl⟩, ?_⟩ | refine ⟨_, gi (by repeat first | exact .hd | apply In.tl), ?_⟩ | refine ⟨⟨rfl, leb rfl⟩, ?_⟩ | refine ⟨⟨by decide, by decide⟩, ?_⟩ | refine ⟨rfl, ?_⟩ | refine ⟨leb rfl, ?_⟩ | refine ⟨by decide, ?_⟩ | refine .inr ⟨⟨leb rfl, leb rfl, rfl, rfl⟩, ?_⟩ | fail)
      · rw [if_pos (by simp only [List.length_cons]; omega)] at hK
        exact hK _ _ (Fin.frz (FrzL.frz (.cons (.agg (d := 11) (.cons (.self (d := 10) rfl) (.cons (.self (d := 10) rfl) (.cons (.self (d := 10) rfl) (.cons (.nilsl (d := 10)) .nil))))) (.cons (.self (d := 11) rfl) .nil))))
      · rw [if_neg (by simp only [List.length_cons]; omega)] at hK
        exact hK _ _ (Fin.frz (FrzL.frz (.cons (.agg (d := 11) (.cons (.self (d := 10) rfl) (.cons (.self (d := 10) rfl) (.cons (.self (d := 10) rfl) (.cons (.row (i := 4) (d := 9) rfl (by have := runsF_len (y :: ys); simp only [List.length_cons] at this; unfold cut; rw [if_pos (by omega)]; simp [← this]) (runsF_self _) (runsF_chunk (y :: ys))) .nil))))) (.cons (.self (d := 11) rfl) .nil))))
  · simp only [lossyR, h0, if_false] at hK
    repeat' ((conv => whnf); first | refine ⟨rfl, fun hc => ?_, fun hc => ?_⟩ | refine ⟨fun hc => ?_, fun hc => ?_⟩ | refine ⟨rfl, _, wrap64 (by omega) (by omega), ?_⟩ | refine ⟨_, wrap64 (by omega) (by omega), ?_⟩ | refine ⟨_, wrapU (by omega) (by omega), ?_⟩ | refine ⟨rfl, rfl, ?_⟩ | refine ⟨_, _, _, _, _, gi (by repeat first | exact .hd | apply In.tl), ?_⟩ | refine ⟨_, _, _, _, gi (by repeat first | exact .hd | apply In.tl), ⟨rfl, by exact leb rfl, by exact rfl⟩, ?_⟩ | refine ⟨_, gi (by repeat first | exact .hd | apply In.tl), ?_⟩ | refine ⟨⟨rfl, leb rfl⟩, ?_⟩ | refine ⟨⟨by decide, by decide⟩, ?_⟩ | refine ⟨rfl, ?_⟩ | refine ⟨leb rfl, ?_⟩ | refine ⟨by decide, ?_⟩ | refine .inr ⟨⟨leb rfl, leb rfl, rfl, rfl⟩, ?_⟩ | refine ⟨_, _, _, true, fun _ H hR => ⟨H, rfl, hR⟩, i48 he rfl, rfl, ?_⟩ | refine ⟨_, _, _, false, fun _ H hR => ⟨H, rfl, hR⟩, i48 he rfl, rfl, ?_⟩ | fail)
    · exact hK _ _ (Fin.frz (FrzL.frz (.cons (.agg (d := 11) (.cons (.self (d := 10) rfl) (.cons (.self (d := 10) rfl) (.cons (.self (d := 10) rfl) (.cons (.nilsl (d := 10)) .nil))))) (.cons (.self (d := 11) rfl) .nil))))
    · exact absurd (Classical.byContradiction fun h => hc h) h0
end Go.Proofs.Ytlgbbabijifflaa.law1
