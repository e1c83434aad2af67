/- From a contract to a row: the law's call returns true and writes nothing that was there. -/
import Derived.Test.YtlgbbabijifflaaA24
import Derived.SizedLaws
import Derived.Carry
import Derived.ProofKit
import Derived.ShutString
set_option linter.unusedVariables false
set_option linter.unusedSimpArgs false
namespace Go.Ai
open Go.RowKit
section
variable {w : World}
theorem arg_struct {ss : List Sh} {v : Value} (h : Opens w ss v.cells.toList) (hn : ss.length ≠ 1) : ∃ xs, HasL ss xs ∧ PR (Old w) w (.agg xs) v := by
  obtain ⟨xs, h1, h2, h3⟩ := h
  have hl : v.cells.size ≠ 1 := by have := h1.1; simp at h2; omega
  cases v with
  | agg vs => exact ⟨xs, h1, .agg xs vs (by simpa [Value.cells] using h2) fun i x u hx hu => h3 i x u hx (by simpa [Value.cells] using hu)⟩
  | _ => simp [Value.cells] at hl
theorem law_calls {P : Program} {f : Nat} {g : List AV → Option (List AV)} (h : IsoOk P f g) {args : List AV} {vs : Array Value} (ha : ArgsR (Old w) w args vs) (hg : g args = some [.bool true]) : Calls P f vs w fun e w' => e = .returned (.bool true) ∧ Below w.heap.size w w' := by
  refine (h.2 (Old w) w args vs _ (fun b hb => hb) ha hg).mono ?_
  rintro e w' ⟨us, rfl, Pr', _, _, _, hbel, hlen, blk, hret, _⟩
  refine ⟨?_, hbel⟩
  have h1 : us.size = 1 := by simpa using hlen.symm
  have h2 := hret 0 (.bool true) us[0] rfl (by simp [h1])
  simp only [RetR] at h2
  unfold packV
  rw [dif_pos h1]
  congr 1
  generalize us[0] = u at h2
  cases h2
  rfl
end
end Go.Ai
