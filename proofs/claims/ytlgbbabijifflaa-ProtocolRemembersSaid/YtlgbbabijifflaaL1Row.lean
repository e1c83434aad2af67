/- The row of ProtocolRemembers, out of the contract of its law. -/
import Derived.Test.YtlgbbabijifflaaRows
import Derived.Test.YtlgbbabijifflaaA25
import Derived.WalkKit
import Derived.OpenShut
import Derived.ChangeOld
import Derived.Below
namespace Go.Proofs.Ytlgbbabijifflaa.law1
open Go.ChangeShapes Go.WideShapes Go.ChangeAt Go.RowKit Go.Ai
set_option linter.unusedVariables false
theorem own : ownKnob Try.prog.godebug = none := by kernel_rfl
theorem laidOut : laidOutB Try.prog = true := by kernel_rfl
theorem shape : shOf Try.prog 9 24 = some [.int .i64, .list [.int .i64, .int .i64, .int .i64]] := by kernel_rfl
/-- What is left to be shown of the law. -/
def Left : Prop := ∃ g, IsoOk Try.prog 3 g ∧ ∀ xs, HasL [.int .i64, .list [.int .i64, .int .i64, .int .i64]] xs → g [.agg xs] = some [.bool true]
set_option maxRecDepth 100000 in
theorem lifted (left : Left) (os : Os) (started : os.Started) (H : Type) (enc : TypeId × Value → H) :
    ReturnsInHanded {} Try.checked os 3 .any (Rows.protocolRemembersSpec.pre6 enc Try.prog Try.f3 Rows.protocolRemembersRow.domain false) (Rows.protocolRemembersSpec.post enc Try.prog Try.f3 false true false false) := by
  refine returnsInHanded_of_change_sized (C := Try.checked) own started (by kernel_rfl) Try.func3
    (ChangeSpec.witness6 (enc := enc) (C := Try.checked) false ⟨#[], #[.agg #[.int .i64 0, .slice none 0 0]], []⟩ 8 (by kernel_rfl) (by kernel_rfl) (by kernel_rfl) (by kernel_rfl)) ?_
  intro W base args ds gs before hval0 hW hcnd hsz0 _
  have hW' := hW
  obtain ⟨p, q, hA0, hV, rfl, hfz, hnd⟩ := hW
  have hA : DataW.TrodAll enc Try.prog W 0 (fun _ => true) true Try.f3.params.toList args.toList ds p := hA0
  rw [Try.params3] at hA
  obtain ⟨v0, vs0, d0, ds0, p0, q0, hargs, rfl, rfl, h0, r0⟩ := trodAll_cons hA
  obtain ⟨rfl, rfl, rfl⟩ := trodAll_nil r0
  obtain rfl : args = #[v0] := by cases args; simp_all
  obtain ⟨rfl, rfl⟩ := trodVars_none hV
  have k0 := h0
  have lt0 : ∀ x ∈ p0, x.block < W.heap.size := by obtain ⟨m, hm⟩ := k0; exact DataW.trod_lt m _ _ _ hm
  obtain ⟨xs, hxs, hpr⟩ := arg_struct (open_arg h0 shape) (by simp)
  obtain ⟨g, hg, hleft⟩ := left
  refine (law_calls hg (args := [.agg xs]) (vs := #[v0]) ⟨rfl, fun i x u hx hu => by cases i <;> simp at hx hu; subst hx hu; exact hpr⟩ (hleft xs hxs)).mono fun e W' ⟨he, bel⟩ => ?_
  subst he
  exact ⟨_, rfl, _, _, _, [], _, [], hW', trodAll_mk1 (shut_bool Try.underlying4 _), (trodAll_cons_mk (Below.trod laidOut (by kernel_rfl) (of_decide_eq_true (by kernel_rfl)) k0 bel lt0) trodAll_mk0), rfl, bel.frame _, fun h => by cases h⟩
theorem over (left : Left) : Rows.protocolRemembersRow.holds Try.pinned (OpenSpec.ofChange Rows.protocolRemembersSpec) :=
  OpenClaim.holds_of_wide 3 Try.f3 rfl rfl rfl rfl rfl rfl rfl ⟨rfl, rfl, rfl, rfl, rfl⟩ rfl rfl rfl rfl rfl (by kernel_rfl) Try.func3 (by kernel_rfl)
    (of_decide_eq_true (by kernel_rfl)) (by unfold Func.isWrapper; first | (rw [if_pos (by decide +kernel)]; kernel_rfl) | (rw [if_neg (by decide +kernel)]; exact ⟨rfl, rfl⟩))
    (fun os started H enc _ => lifted left os started H enc)
end Go.Proofs.Ytlgbbabijifflaa.law1
