/- ProtocolRemembers: the systems of two agents are valid and synchronous, the agents remember everything, all runs are different, and the first one for each bit loses nothing; for every input. -/
import Derived.Test.YtlgbbabijifflaaL1F13
import Derived.Test.YtlgbbabijifflaaL1Row
set_option linter.unusedVariables false
set_option linter.unusedSimpArgs false
namespace Go.Proofs.Ytlgbbabijifflaa.law1
open Go Go.Ai Go.Proofs.Ytlgbbabijifflaa.L1R
open runs (fin1 c13 c14 c15 c16)
theorem okL : HandsOk Try.prog (hands TL) := hands_ok (.cons c10 (.cons c11 (.cons c12 (.cons c13 (.cons c14 (.cons c15 (.cons c16 .nil)))))))
def g3 (args : List AV) : Option (List AV) := match args with
  | [.agg [.int .i64 e0, .list es]] => (toRules es).bind fun rs => if eOk e0 rs then some [.bool true] else none
  | _ => none
theorem iso_true {P : Program} {hd : Hands} {f : Nat} {fn : Func} {ir : IFunc} {g : List AV → Option (List AV)} (hm : P.follows .mixedOrders = true) (hh : HandsOk P hd) (hfn : P.funcs[f]? = some fn) (hc : compile P fn = some ir)
    (h : ∀ args rs, g args = some rs → rs = [.bool true] ∧ ∃ n env, args ++ List.replicate (ir.ntmps - args.length) .undef = env ∧ aB hd n ir env [] fun rs' A => rs' = [.bool true]) : IsoOk P f g := by
  refine ⟨compile_enters hfn hc, fun Pr w args vs rs hp ha hg => ?_⟩
  obtain ⟨rfl, n, env, henv, hw⟩ := h args rs hg
  obtain ⟨rs', H', h1, A', hR, rfl⟩ := aB_out (F := []) henv RepF.nil hw
  exact iso_core (how := .iso) (by decide) hm hh hfn hc h1 (fin1 (A := A') rfl H' hR.base) hp ha
theorem c3 : IsoOk Try.prog 3 g3 := iso_true mixed okL Try.func3 cir3 fun args rs h => by
  unfold g3 at h
  split at h
  · simp only [Option.bind_eq_some_iff] at h
    obtain ⟨r, h1, h⟩ := h
    cases toRules_inv h1
    split at h
    · rename_i hh
      injection h with h
      exact ⟨h.symm, _, _, rfl, run3 (n := 0) hh fun _ h0 h64 => good h0 h64⟩
    · cases h
  · cases h
theorem has_i64 {x : AV} (h : Has (.int .i64) x) : ∃ n, x = .int .i64 n ∧ I64 n := by
  cases h with
  | int k n h =>
    refine ⟨n, rfl, ?_⟩
    simp only [Lit.wf, Bool.and_eq_true, decide_eq_true_eq] at h
    have e1 : IntKind.i64.min = -9223372036854775808 := rfl
    have e2 : IntKind.i64.max = 9223372036854775807 := rfl
    rw [e1, e2] at h
    exact h
theorem rules_of : ∀ (es : List (List AV)), (∀ e ∈ es, e.length = 3) → (∀ e ∈ es, ∀ (j : Nat) (x : AV) (s : Sh), e[j]? = some x → [Sh.int .i64, .int .i64, .int .i64][j]? = some s → Has s x) → ∃ rs, toRules es = some rs ∧ (∀ r ∈ rs, r.Ok) ∧ rs.length = es.length
  | [], _, _ => ⟨[], rfl, fun r hr => by simp at hr, rfl⟩
  | e :: es, hk, h => by
    obtain ⟨rs, h1, h2, h3⟩ := rules_of es (fun e he => hk e (by simp [he])) fun e he => h e (by simp [he])
    have hl := hk e (by simp)
    match e, hl with
    | [x, y, z], _ =>
      have h0 := h [x, y, z] (by simp)
      obtain ⟨a, rfl, ha⟩ := has_i64 (h0 0 x _ rfl rfl)
      obtain ⟨b, rfl, hb⟩ := has_i64 (h0 1 y _ rfl rfl)
      obtain ⟨c, rfl, hc⟩ := has_i64 (h0 2 z _ rfl rfl)
      refine ⟨⟨a, b, c⟩ :: rs, by simp [toRules, toRule, h1], fun r hr => ?_, by simp [h3]⟩
      rcases List.mem_cons.1 hr with rfl | hr
      · exact ⟨ha, hb, hc⟩
      · exact h2 r hr
theorem left : Left := ⟨g3, c3, fun xs h => by
  obtain ⟨hl, h⟩ := h
  match xs, hl with
  | [x, y], _ =>
    obtain ⟨e0, rfl, he⟩ := has_i64 (h 0 x _ rfl rfl)
    have hy := h 1 y _ rfl rfl
    cases hy with
    | list ss es hle hk hh =>
      obtain ⟨rs, h1, h2, h3⟩ := rules_of es hk hh
      simp only [g3, h1, Option.bind_some]
      refine if_pos ⟨he, h2, ?_⟩
      rw [h3]
      have : maxLen = 9223372036854775807 := rfl
      omega⟩
theorem holds : Rows.ProtocolRemembersSaid := over left
end Go.Proofs.Ytlgbbabijifflaa.law1
