/- The examples of the chapter, evaluated. -/
import Derived.Test.YtlgbbabijifflaaL1F10
set_option linter.unusedVariables false
set_option linter.unusedSimpArgs false
namespace Go.Proofs.Ytlgbbabijifflaa.law1
open Go Go.Ai Go.Proofs.Ytlgbbabijifflaa.L1R
open runs (g16 c16)
def how2 (f : Nat) : How := match Nat.beq f 88 with
  | true => .shared
  | false => match Nat.beq f 51 with
    | true => .thaw
    | false => match Nat.beq f 89 with
      | true => .thaw
      | false => .iso
def fun2 : List (Nat × IFunc) := [(10, ir10), (41, ir41), (42, ir42), (43, ir43), (47, ir47), (86, ir86), (87, ir87), (88, ir88), (90, ir90), (91, ir91), (124, ir124), (125, ir125)]
def spec2 : List (Nat × (List AV → Option (List AV))) := [(11, g11), (16, g16), (44, g44), (45, g45), (46, g46), (51, cloneG 1), (89, cloneG 2)]
def G2 : Prg := ⟨Go.Ai.look fun2, how2, Go.Ai.look spec2⟩
set_option maxRecDepth 1000000 in
theorem aw : evalI G2 60 10 [] = some [.bool true] := by kernel_rfl
theorem okG2 : PrgOk Try.prog G2 where
  mixed := mixed
  ok := fun f ir h => by
    have hm := look_mem (l := fun2) h
    simp only [fun2, List.mem_cons, Prod.mk.injEq, List.not_mem_nil, or_false] at hm
    rcases hm with ⟨rfl, rfl⟩ | ⟨rfl, rfl⟩ | ⟨rfl, rfl⟩ | ⟨rfl, rfl⟩ | ⟨rfl, rfl⟩ | ⟨rfl, rfl⟩ | ⟨rfl, rfl⟩ | ⟨rfl, rfl⟩ | ⟨rfl, rfl⟩ | ⟨rfl, rfl⟩ | ⟨rfl, rfl⟩ | ⟨rfl, rfl⟩
    · exact ⟨_, Try.func10, cir10⟩
    · exact ⟨_, Try.func41, cir41⟩
    · exact ⟨_, Try.func42, cir42⟩
    · exact ⟨_, Try.func43, cir43⟩
    · exact ⟨_, Try.func47, cir47⟩
    · exact ⟨_, Try.func86, cir86⟩
    · exact ⟨_, Try.func87, cir87⟩
    · exact ⟨_, Try.func88, cir88⟩
    · exact ⟨_, Try.func90, cir90⟩
    · exact ⟨_, Try.func91, cir91⟩
    · exact ⟨_, Try.func124, cir124⟩
    · exact ⟨_, Try.func125, cir125⟩
  spec := fun f g hf h => by
    have hm := look_mem (l := spec2) h
    simp only [spec2, List.mem_cons, Prod.mk.injEq, List.not_mem_nil, or_false] at hm
    rcases hm with ⟨rfl, rfl⟩ | ⟨rfl, rfl⟩ | ⟨rfl, rfl⟩ | ⟨rfl, rfl⟩ | ⟨rfl, rfl⟩ | ⟨rfl, rfl⟩ | ⟨rfl, rfl⟩
    · exact c11
    · exact c16
    · exact c44
    · exact c45
    · exact c46
    · exact c51g
    · exact clone_ok (bytes := 16) (z := [.int .i64 0, .int .i64 0]) mixed Try.func89 cir89
  fspec := fun f g hf h => by
    have hm := look_mem (l := spec2) h
    simp only [spec2, List.mem_cons, Prod.mk.injEq, List.not_mem_nil, or_false] at hm
    rcases hm with ⟨rfl, rfl⟩ | ⟨rfl, rfl⟩ | ⟨rfl, rfl⟩ | ⟨rfl, rfl⟩ | ⟨rfl, rfl⟩ | ⟨rfl, rfl⟩ | ⟨rfl, rfl⟩ <;> cases hf
theorem iso_le {P : Program} {f : Nat} {g g' : List AV → Option (List AV)} (h : IsoOk P f g) (hw : ∀ args rs, g' args = some rs → g args = some rs) : IsoOk P f g' :=
  ⟨h.1, fun Pr w args vs rs hp ha hg => h.2 Pr w args vs rs hp ha (hw _ _ hg)⟩
theorem c10 : IsoOk Try.prog 10 g10 := by
  have h0 : IsoOk Try.prog 10 (evalI G2 60 10) := evalI_ok okG2 (by decide) (by decide) aw
  have e0 := aw
  generalize evalI G2 60 10 = g at h0 e0
  refine iso_le h0 fun args rs h => ?_
  unfold g10 at h
  split at h
  · injection h with h; subst h; exact e0
  · cases h
end Go.Proofs.Ytlgbbabijifflaa.law1
