/- The contracts of the functions about systems. -/
import Derived.Test.YtlgbbabijifflaaC8
import Derived.Test.YtlgbbabijifflaaC9
set_option linter.unusedVariables false
set_option linter.unusedSimpArgs false
namespace Go.Proofs.Ytlgbbabijifflaa.runs
open Go Go.Ai Go.Proofs.Ytlgbbabijifflaa.L1R
theorem fin1 {A : Ah} {v : AV} (h : selfV v = true) : Fin .iso A [v] [v] := Fin.frz (FrzL.frz (.cons (.self (d := 11) h) .nil))
/-! ### Backwards -/
theorem dAll_inv {α : Type} {d : List AV → Option α} {c : α → List AV} (h : ∀ e x, d e = some x → e = c x) : ∀ {es : List (List AV)} {xs : List α}, dAll d es = some xs → es = xs.map c
  | [], xs, e => by
    simp only [dAll, Option.some.injEq] at e
    subst e; rfl
  | y :: es, xs, e => by
    simp only [dAll, Option.bind_eq_some_iff, Option.map_eq_some_iff] at e
    obtain ⟨x, h1, r, h2, rfl⟩ := e
    rw [h _ _ h1, dAll_inv h h2]; rfl
theorem dInt_inv {e : List AV} {x : Int} (h : dInt e = some x) : e = [.int .i64 x] := by
  unfold dInt at h
  split at h
  · injection h with h; subst h; rfl
  · cases h
theorem dInts_inv {es : List (List AV)} {xs : List Int} (h : dAll dInt es = some xs) : es = intsC xs := dAll_inv (fun _ _ => dInt_inv) h
theorem dLoc_inv {e : List AV} {x : List Int} (h : dLoc e = some x) : e = [.list (intsC x)] := by
  unfold dLoc at h
  split at h
  · rw [dInts_inv h]
  · cases h
theorem dFac_inv {e : List AV} {x : Int} (h : dFac e = some x) : e = [.int .u64 x] := by
  unfold dFac at h
  split at h
  · injection h with h; subst h; rfl
  · cases h
theorem dRun_inv {e : List AV} {x : RunD} (h : dRun e = some x) : e = runC x := by
  unfold dRun at h
  split at h
  · simp only [Option.bind_eq_some_iff, Option.map_eq_some_iff] at h
    obtain ⟨x, h1, y, h2, rfl⟩ := h
    rw [dAll_inv (fun _ _ => dLoc_inv) h1, dAll_inv (fun _ _ => dFac_inv) h2]; rfl
  · cases h
theorem dSys_inv {e : List AV} {x : SysD} (h : dSys e = some x) : e = sysC x := by
  unfold dSys at h
  split at h
  · simp only [Option.map_eq_some_iff] at h
    obtain ⟨y, h1, rfl⟩ := h
    rw [dAll_inv (fun _ _ => dRun_inv) h1]; rfl
  · cases h
/-! ### Contracts -/
theorem nilOk : HandsOk Try.prog (hands []) := hands_ok .nil
theorem c53 : IsoOk Try.prog 53 g53 := iso_of .iso (by decide) mixed nilOk Try.func53 cir53 fun args rs h => by
  unfold g53 at h
  split at h
  · injection h with h; subst h
    exact ⟨0, _, rfl, run53 fun x A e => by subst e; exact fin1 rfl⟩
  · cases h
theorem c55 : IsoOk Try.prog 55 g55 := iso_of .iso (by decide) mixed nilOk Try.func55 cir55 fun args rs h => by
  unfold g55 at h
  split at h
  · split at h
    · rename_i hh
      injection h with h; subst h
      exact ⟨0, _, rfl, run55 hh.1 hh.2.1 hh.2.2 fun x A e => by subst e; exact fin1 rfl⟩
    · cases h
  · cases h
theorem okA : HandsOk Try.prog (hands TA) := hands_ok (.cons c53 (.cons c55 .nil))
theorem c93 : IsoOk Try.prog 93 g93 := iso_of .iso (by decide) mixed okA Try.func93 cir93 fun args rs h => by
  unfold g93 at h
  split at h
  · split at h
    · rename_i hh
      simp only [Bool.and_eq_true, decide_eq_true_eq] at hh
      injection h with h; subst h
      exact ⟨_, _, rfl, run93 (n := 0) hh.1 hh.2 fun x A e => by subst e; exact fin1 rfl⟩
    · cases h
  · cases h
theorem c94 : IsoOk Try.prog 94 g94 := iso_of .iso (by decide) mixed okA Try.func94 cir94 fun args rs h => by
  unfold g94 at h
  split at h
  · split at h
    · rename_i hh
      simp only [Bool.and_eq_true, decide_eq_true_eq] at hh
      injection h with h; subst h
      exact ⟨_, _, rfl, run94 (n := 0) hh.1.1 hh.1.2 hh.2 fun x A e => by subst e; exact fin1 rfl⟩
    · cases h
  · cases h
theorem okB : HandsOk Try.prog (hands TB) := hands_ok (.cons c93 (.cons c94 .nil))
theorem c52 : IsoOk Try.prog 52 g52 := iso_of .iso (by decide) mixed okB Try.func52 cir52 fun args rs h => by
  unfold g52 at h
  split at h
  · split at h
    · rename_i hh
      simp only [Bool.and_eq_true, decide_eq_true_eq] at hh
      injection h with h; subst h
      exact ⟨0, _, rfl, run52 hh.1 hh.2 fun A => fin1 rfl⟩
    · cases h
  · cases h
theorem c54 : IsoOk Try.prog 54 g54 := iso_of .iso (by decide) mixed okB Try.func54 cir54 fun args rs h => by
  unfold g54 at h
  split at h
  · split at h
    · rename_i hh
      simp only [Bool.and_eq_true, decide_eq_true_eq] at hh
      injection h with h; subst h
      exact ⟨0, _, rfl, run54 hh.1.1 hh.1.2 hh.2 fun A => fin1 rfl⟩
    · cases h
  · cases h
theorem okC : HandsOk Try.prog (hands TC) := hands_ok (.cons c52 (.cons c54 .nil))
theorem c13 : IsoOk Try.prog 13 g13 := iso_of .iso (by decide) mixed okC Try.func13 cir13 fun args rs h => by
  unfold g13 at h
  split at h
  · simp only [Option.bind_eq_some_iff] at h
    obtain ⟨s, h1, h⟩ := h
    cases dSys_inv h1
    split at h
    · rename_i hh
      injection h with h; subst h
      exact ⟨_, _, rfl, run13 (n := 0) hh.1 (by have := hh.2.1; omega) hh.2.2 fun x A e => by subst e; exact fin1 rfl⟩
    · cases h
  · cases h
theorem c57n : IsoOk Try.prog 57 (fun _ => none) := iso_of .iso (by decide) mixed nilOk Try.func57 cir57 fun args rs h => by cases h
theorem okD : HandsOk Try.prog (hands TD) := hands_ok (.cons c13 (.cons c57n .nil))
theorem c56 : IsoOk Try.prog 56 g56 := iso_of .iso (by decide) mixed okD Try.func56 cir56 fun args rs h => by
  unfold g56 at h
  split at h
  · simp only [Option.bind_eq_some_iff] at h
    obtain ⟨s, h1, h⟩ := h
    cases dSys_inv h1
    split at h
    · rename_i hh
      injection h with h; subst h
      exact ⟨_, _, rfl, run56 (n := 0) hh fun rs' A e => e⟩
    · cases h
  · cases h
theorem pts_in {s : SysD} {a r t : Int} (h : inPts s a r t) : ∃ h1 : r.toNat < s.runs.length, ∀ i, i ≤ t.toNat → ∃ h2 : i < s.runs[r.toNat].loc.length, a.toNat < s.runs[r.toNat].loc[i].length := by
  obtain ⟨h0, a1, a2, r1, r2, t1, t2⟩ := h
  obtain ⟨q1, q2, q3, q4, q5, q6, q7, q8, q9⟩ := chk_ok h0
  have h1 : r.toNat < s.runs.length := by omega
  obtain ⟨p1, p2, p3, p4⟩ := q9 _ (List.getElem_mem h1)
  refine ⟨h1, fun i hi => ?_⟩
  have h2 : i < s.runs[r.toNat].loc.length := by omega
  have := p3 _ (List.getElem_mem h2)
  exact ⟨h2, by omega⟩
theorem c57 : IsoOk Try.prog 57 g57 := iso_of .iso (by decide) mixed nilOk Try.func57 cir57 fun args rs h => by
  unfold g57 at h
  split at h
  · rename_i xs a r t
    simp only [Option.bind_eq_some_iff] at h
    obtain ⟨s, h1, h⟩ := h
    cases dSys_inv h1
    split at h
    · rename_i hh
      injection h with h; subst h
      obtain ⟨i1, i2⟩ := pts_in hh
      obtain ⟨i3, i4⟩ := i2 t.toNat (Nat.le_refl _)
      obtain ⟨_, a1, _, r1, _, t1, _⟩ := hh
      have ea : ((a.toNat : Nat) : Int) = a := by omega
      have er : ((r.toNat : Nat) : Int) = r := by omega
      have et : ((t.toNat : Nat) : Int) = t := by omega
      have := run57 (hd := hands []) (n := 0) (K := fun rs' A => Fin .iso A rs' [.int .i64 (locS s a.toNat r.toNat t.toNat)]) i1 i3 i4 (fun A => by rw [loc_at i1 i3 i4]; exact fin1 rfl)
      rw [ea, er, et] at this
      exact ⟨_, _, rfl, this⟩
    · cases h
  · cases h
theorem c59 : IsoOk Try.prog 59 g59 := iso_of .iso (by decide) mixed nilOk Try.func59 cir59 fun args rs h => by
  unfold g59 at h
  split at h
  · simp only [Option.bind_eq_some_iff] at h
    obtain ⟨x, h1, y, h2, h⟩ := h
    cases dInts_inv h1
    cases dInts_inv h2
    split at h
    · rename_i hh
      injection h with h; subst h
      exact ⟨_, _, rfl, run59 (n := 0) hh.1 hh.2 fun b A e => by subst e; exact fin1 rfl⟩
    · cases h
  · cases h
theorem c95 : IsoOk Try.prog 95 g95 := iso_of .iso (by decide) mixed nilOk Try.func95 cir95 fun args rs h => by
  unfold g95 at h
  split at h
  · simp only [Option.bind_eq_some_iff] at h
    obtain ⟨x, h1, h⟩ := h
    cases dInts_inv h1
    split at h
    · rename_i hh
      simp only [Bool.and_eq_true, decide_eq_true_eq] at hh
      injection h with h; subst h
      exact ⟨_, _, rfl, run95 (n := 0) hh.2 (noRepB_spec hh.1) fun A => fin1 rfl⟩
    · cases h
  · cases h
theorem okE : HandsOk Try.prog (hands TE) := hands_ok (.cons c95 .nil)
theorem c58 : IsoOk Try.prog 58 g58 := iso_of .iso (by decide) mixed okE Try.func58 cir58 fun args rs h => by
  unfold g58 at h
  split at h
  · rename_i xs a r t
    simp only [Option.bind_eq_some_iff] at h
    obtain ⟨s, h1, h⟩ := h
    cases dSys_inv h1
    split at h
    · rename_i hh
      injection h with h; subst h
      obtain ⟨hh, hn⟩ := hh
      obtain ⟨i1, i2⟩ := pts_in hh
      obtain ⟨q1, q2, q3, q4, q5, q6, q7, q8, q9⟩ := chk_ok hh.1
      obtain ⟨_, a1, _, r1, _, t1, t2⟩ := hh
      have ea : ((a.toNat : Nat) : Int) = a := by omega
      have er : ((r.toNat : Nat) : Int) = r := by omega
      have et : ((t.toNat : Nat) : Int) = t := by omega
      have := run58 (n := 0) (K := fun rs' A => Fin .iso A rs' [.list (intsC (histS s a.toNat r.toNat t.toNat))]) i1 i2 (by omega) hn (fun A => fin1 rfl)
      rw [ea, er, et] at this
      exact ⟨_, _, rfl, this⟩
    · cases h
  · cases h
theorem okF : HandsOk Try.prog (hands TF) := hands_ok (.cons c13 (.cons c56 (.cons c57 (.cons c58 (.cons c59 .nil)))))
open Classical in
noncomputable def g14 (args : List AV) : Option (List AV) := match args with
  | [.agg xs] => (dSys xs).bind fun s => if syncOk s then some [.bool true] else none
  | _ => none
open Classical in
noncomputable def g15 (args : List AV) : Option (List AV) := match args with
  | [.agg xs] => (dSys xs).bind fun s => if recOk s then some [.bool true] else none
  | _ => none
theorem c14 : IsoOk Try.prog 14 g14 := iso_of .iso (by decide) mixed okF Try.func14 cir14 fun args rs h => by
  unfold g14 at h
  split at h
  · simp only [Option.bind_eq_some_iff] at h
    obtain ⟨s, h1, h⟩ := h
    cases dSys_inv h1
    split at h
    · rename_i hh
      injection h with h; subst h
      exact ⟨_, _, rfl, run14 (n := 0) hh fun A => fin1 rfl⟩
    · cases h
  · cases h
theorem c15 : IsoOk Try.prog 15 g15 := iso_of .iso (by decide) mixed okF Try.func15 cir15 fun args rs h => by
  unfold g15 at h
  split at h
  · simp only [Option.bind_eq_some_iff] at h
    obtain ⟨s, h1, h⟩ := h
    cases dSys_inv h1
    split at h
    · rename_i hh
      injection h with h; subst h
      exact ⟨_, _, rfl, run15 (n := 0) hh fun A => fin1 rfl⟩
    · cases h
  · cases h
abbrev runFine (x : RunD) : Prop := x.loc.length ≤ 100 ∧ x.fac.length ≤ 100 ∧ ∀ l ∈ x.loc, l.length ≤ 100
theorem dRun_C (r : RunD) : dRun (runC r) = some r := by simp [dRun, runC, dLocs, dFacs]
def g16 (args : List AV) : Option (List AV) := match args with
  | [.agg xs, .agg ys] => (dRun xs).bind fun x => (dRun ys).bind fun y => if runFine x then some [.bool (decide (x = y))] else none
  | _ => none
theorem c16 : IsoOk Try.prog 16 g16 := iso_of .iso (by decide) mixed nilOk Try.func16 cir16 fun args rs h => by
  unfold g16 at h
  split at h
  · simp only [Option.bind_eq_some_iff] at h
    obtain ⟨x, h1, y, h2, h⟩ := h
    cases dRun_inv h1
    cases dRun_inv h2
    split at h
    · rename_i hh
      obtain ⟨e1, e2, e3⟩ := hh
      injection h with h; subst h
      exact ⟨101, _, rfl, run16 ⟨by simp only [most]; omega, by simp only [most]; omega, fun l hl => by have := e3 l hl; omega⟩ ⟨by omega, by omega, fun l hl => by have := e3 l hl; omega⟩ fun b A e => by subst e; exact fin1 rfl⟩
    · cases h
  · cases h
end Go.Proofs.Ytlgbbabijifflaa.runs
