/- The contracts of the protocol's functions. -/
import Derived.Test.YtlgbbabijifflaaL1F9
set_option linter.unusedVariables false
set_option linter.unusedSimpArgs false
namespace Go.Proofs.Ytlgbbabijifflaa.law1
open Go Go.Ai Go.Proofs.Ytlgbbabijifflaa.L1R
open runs (RunD SysD runC sysC intsC dInt dAll locsC facsC dInts fin1 dInts_inv nilOk)
theorem toRule_inv {e : List AV} {r : Rule} (h : toRule e = some r) : e = ruleC r := by
  unfold toRule at h
  split at h
  · injection h with h; subst h; rfl
  · cases h
theorem toRules_inv : ∀ {es : List (List AV)} {rs : List Rule}, toRules es = some rs → es = rs.map ruleC
  | [], rs, h => by
    simp only [toRules, Option.some.injEq] at h
    subst h; rfl
  | e :: es, rs, h => by
    simp only [toRules, Option.bind_eq_some_iff, Option.map_eq_some_iff] at h
    obtain ⟨r, h1, t, h2, rfl⟩ := h
    rw [toRule_inv h1, toRules_inv h2]; rfl
theorem c46 : IsoOk Try.prog 46 g46 := iso_of .iso (by decide) mixed nilOk Try.func46 cir46 fun args rs h => by
  unfold g46 at h
  split at h
  · injection h with h; subst h
    exact ⟨0, _, rfl, run46 _ _ fun x e => by subst e; exact fin1 rfl⟩
  · cases h
theorem c45 : IsoOk Try.prog 45 g45 := iso_of .iso (by decide) mixed nilOk Try.func45 cir45 fun args rs h => by
  unfold g45 at h
  split at h
  · split at h
    · rename_i hh
      injection h with h; subst h
      exact ⟨65, _, rfl, run45 (by decide) _ _ hh.1 hh.2 fun x e => by subst e; exact fin1 rfl⟩
    · cases h
  · cases h
theorem ok1 : HandsOk Try.prog (hands T1) := hands_ok (.cons c45 (.cons c46 .nil))
theorem c44 : IsoOk Try.prog 44 g44 := iso_of .iso (by decide) mixed ok1 Try.func44 cir44 fun args rs h => by
  unfold g44 at h
  split at h
  · split at h
    · rename_i hh
      injection h with h; subst h
      exact ⟨0, _, rfl, run44 _ _ hh fun x e => by subst e; exact fin1 rfl⟩
    · cases h
  · cases h
theorem c92 : IsoOk Try.prog 92 g92 := iso_of .iso (by decide) mixed nilOk Try.func92 cir92 fun args rs h => by
  unfold g92 at h
  split at h
  · simp only [Option.bind_eq_some_iff] at h
    obtain ⟨r, h1, h⟩ := h
    cases toRules_inv h1
    split at h
    · rename_i hh
      injection h with h; subst h
      exact ⟨101, _, rfl, run92 hh (by decide) _ _ fun A => fin1 rfl⟩
    · cases h
  · cases h
theorem c48 : IsoOk Try.prog 48 g48 := iso_of .iso (by decide) mixed ok1 Try.func48 cir48 fun args rs h => by
  unfold g48 at h
  split at h
  · simp only [Option.bind_eq_some_iff] at h
    obtain ⟨r, h1, h⟩ := h
    cases toRules_inv h1
    split at h
    · rename_i hh
      injection h with h; subst h
      exact ⟨102, _, rfl, run48 hh.1 hh.2.1 hh.2.2 (by decide) fun x A e => by subst e; exact fin1 rfl⟩
    · cases h
  · cases h
theorem c51 : FreshOk Try.prog 51 (cloneF 1) := cloneF_ok (bytes := 8) (z := [.int .i64 0]) mixed Try.func51 cir51
theorem c51g : IsoOk Try.prog 51 (cloneG 1) := clone_ok (bytes := 8) (z := [.int .i64 0]) mixed Try.func51 cir51
theorem ok2 : HandsOk Try.prog (hands T2) := hands_ok (.cons c44 (.cons c46 (.cons c51 (.cons c92 .nil))))
theorem c50 : IsoOk Try.prog 50 g50 := iso_of .iso (by decide) mixed ok2 Try.func50 cir50 fun args rs h => by
  unfold g50 at h
  split at h
  · simp only [Option.bind_eq_some_iff] at h
    obtain ⟨r, h1, l, h2, h⟩ := h
    cases toRules_inv h1
    cases dInts_inv h2
    split at h
    · rename_i hh
      injection h with h; subst h
      exact ⟨_, _, rfl, run50 (n := 0) hh.1 hh.2.1 hh.2.2.1 hh.2.2.2 fun rs' A e => by rw [runR_eq] at e; exact e⟩
    · cases h
  · cases h
theorem ok3 : HandsOk Try.prog (hands T3) := hands_ok (.cons c48 (.cons c50 .nil))
theorem c12 : IsoOk Try.prog 12 g12 := iso_of .iso (by decide) mixed ok3 Try.func12 cir12 fun args rs h => by
  unfold g12 at h
  split at h
  · simp only [Option.bind_eq_some_iff] at h
    obtain ⟨r, h1, h⟩ := h
    cases toRules_inv h1
    split at h
    · rename_i hh
      injection h with h; subst h
      refine ⟨_, _, rfl, run12 (n := 0) hh (fun hc rs' A e => ?_) (fun hc rs' A e => ?_)⟩
      · rw [relR, if_neg hc]; exact e
      · rw [relR, if_pos hc]; exact e
    · cases h
  · cases h
theorem okG1 : PrgOk Try.prog G1 where
  mixed := mixed
  ok := fun f ir h => by
    simp only [G1] at h
    split at h
    · rename_i hf
      injection h with h; subst h
      cases Nat.eq_of_beq_eq_true hf
      exact ⟨_, Try.func49, cir49⟩
    · cases h
  spec := fun f g hf h => by
    have hm := look_mem (l := spec1) h
    simp only [spec1, List.mem_cons, Prod.mk.injEq, List.not_mem_nil, or_false] at hm
    rcases hm with ⟨rfl, rfl⟩ | ⟨rfl, rfl⟩ | ⟨rfl, rfl⟩
    · exact c48
    · exact c50
    · exact c51g
  fspec := fun f g hf h => by
    have hm := look_mem (l := spec1) h
    simp only [spec1, List.mem_cons, Prod.mk.injEq, List.not_mem_nil, or_false] at hm
    rcases hm with ⟨rfl, rfl⟩ | ⟨rfl, rfl⟩ | ⟨rfl, rfl⟩
    · cases hf
    · cases hf
    · cases hf
theorem c11 : IsoOk Try.prog 11 g11 := iso_of (hd := ⟨how1, evalI G1 20, evalS G1 20⟩) .iso (by decide) mixed (handsOk okG1 20) Try.func11 cir11 fun args rs h => by
  unfold g11 at h
  split at h
  · simp only [Option.bind_eq_some_iff] at h
    obtain ⟨r, h1, h⟩ := h
    cases toRules_inv h1
    split at h
    · rename_i hh
      injection h with h; subst h
      exact ⟨_, _, rfl, run11 hh fun rs' A e => e⟩
    · cases h
  · cases h
end Go.Proofs.Ytlgbbabijifflaa.law1
