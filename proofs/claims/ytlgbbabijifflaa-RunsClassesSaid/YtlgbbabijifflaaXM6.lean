/- RunsModels: model and Slice return the specified models and errors; for every input. -/
import Derived.Test.YtlgbbabijifflaaRows
import Derived.WalkKit
import Derived.OpenShut
import Derived.ChangeOld
import Derived.Below
import Derived.Test.YtlgbbabijifflaaXM5
set_option linter.unusedVariables false
set_option linter.unusedSimpArgs false
namespace Go.Ai
open Go.RowKit
theorem wf_i64 {n : Int} (h : (Lit.int .i64 n).wf = true) : I64 n := by
  simp only [Lit.wf, Bool.and_eq_true, decide_eq_true_eq] at h
  have e1 : IntKind.i64.min = -9223372036854775808 := rfl
  have e2 : IntKind.i64.max = 9223372036854775807 := rfl
  rw [e1, e2] at h
  exact h
theorem wf_u64 {n : Int} (h : (Lit.int .u64 n).wf = true) : U64 n := by
  simp only [Lit.wf, Bool.and_eq_true, decide_eq_true_eq] at h
  have e1 : IntKind.u64.min = 0 := rfl
  have e2 : IntKind.u64.max = 18446744073709551615 := rfl
  rw [e1, e2] at h
  exact h
theorem has_int {k : IntKind} {x : AV} (h : Has (.int k) x) : ∃ n, x = .int k n ∧ (Lit.int k n).wf = true := by
  cases h with
  | int k n h => exact ⟨n, rfl, h⟩
theorem has_bool {x : AV} (h : Has .bool x) : ∃ b, x = .bool b := by
  cases h with
  | bool b => exact ⟨b, rfl⟩
theorem has_list {ss : List Sh} {x : AV} (h : Has (.list ss) x) : ∃ es, x = .list es ∧ es.length ≤ maxLen ∧ ∀ e ∈ es, HasL ss e := by
  cases h with
  | list ss es hl hk hh => exact ⟨es, rfl, hl, fun e he => ⟨hk e he, hh e he⟩⟩
theorem hasL_nil {xs : List AV} (h : HasL [] xs) : xs = [] := List.eq_nil_of_length_eq_zero h.1
theorem hasL_cons {s : Sh} {ss : List Sh} {xs : List AV} (h : HasL (s :: ss) xs) : ∃ x r, xs = x :: r ∧ Has s x ∧ HasL ss r := by
  obtain ⟨hl, hh⟩ := h
  cases xs with
  | nil => simp at hl
  | cons x r => exact ⟨x, r, rfl, hh 0 x s rfl rfl, by simpa using hl, fun j y t hy ht => hh (j + 1) y t (by simpa using hy) (by simpa using ht)⟩
theorem has_map {α : Type} {ss : List Sh} {c : α → List AV} {p : α → Prop} (hc : ∀ e, HasL ss e → ∃ x, e = c x ∧ p x) : ∀ (es : List (List AV)), (∀ e ∈ es, HasL ss e) → ∃ xs : List α, es = xs.map c ∧ ∀ x ∈ xs, p x
  | [], _ => ⟨[], rfl, fun x hx => by simp at hx⟩
  | e :: es, h => by
    obtain ⟨xs, rfl, h2⟩ := has_map hc es fun e he => h e (by simp [he])
    obtain ⟨x, rfl, h4⟩ := hc e (h e (by simp))
    exact ⟨x :: xs, rfl, fun y hy => by
      rcases List.mem_cons.1 hy with rfl | hy
      · exact h4
      · exact h2 y hy⟩
theorem has_maps {α : Type} {ss : List Sh} {c : α → List AV} {p : α → Prop} {x : AV} (h : Has (.list ss) x) (hc : ∀ e, HasL ss e → ∃ x, e = c x ∧ p x) : ∃ xs : List α, x = .list (xs.map c) ∧ xs.length ≤ maxLen ∧ ∀ x ∈ xs, p x := by
  obtain ⟨es, rfl, h1, h2⟩ := has_list h
  obtain ⟨xs, rfl, h3⟩ := has_map hc es h2
  exact ⟨xs, rfl, by simpa using h1, h3⟩
theorem iso_true {P : Program} {hd : Hands} {f : Nat} {fn : Func} {ir : IFunc} {α : Type} {a : CC α} {ok : α → Prop} [DecidablePred ok] (hm : P.follows .mixedOrders = true) (hh : HandsOk P hd) (hfn : P.funcs[f]? = some fn) (hc : compile P fn = some ir)
    (h : ∀ x, ok x → ∃ n env, a.enc x ++ List.replicate (ir.ntmps - (a.enc x).length) .undef = env ∧ aB hd n ir env [] fun rs' A => rs' = [.bool true]) : IsoOk P f (con a ok fun _ => [.bool true]) := by
  refine ⟨compile_enters hfn hc, fun Pr w args vs rs hp ha hg => ?_⟩
  obtain ⟨x, hx, rfl, rfl⟩ := con_inv hg
  obtain ⟨n, env, henv, hw⟩ := h x hx
  obtain ⟨rs', H', h1, A', hR, rfl⟩ := aB_out (F := []) henv RepF.nil hw
  exact iso_core (how := .iso) (by decide) hm hh hfn hc h1 (fin1 (A := A') rfl H' hR.base) hp ha
end Go.Ai
namespace Go.Proofs.Ytlgbbabijifflaa.law4
open Go.ChangeShapes Go.WideShapes Go.ChangeAt Go.RowKit Go.Ai
set_option linter.unusedVariables false
theorem own : ownKnob Try.prog.godebug = none := by kernel_rfl
theorem laidOut : laidOutB Try.prog = true := by kernel_rfl
theorem shape0 : shOf Try.prog 12 28 = some [.int .i64, .int .i64, .int .i64, .list [.list [.list [.int .i64]], .list [.int .u64]]] := by kernel_rfl
def Left : Prop := ∃ g, IsoOk Try.prog 4 g ∧ ∀ (xs0 : List AV) (x1 : Int), HasL [.int .i64, .int .i64, .int .i64, .list [.list [.list [.int .i64]], .list [.int .u64]]] xs0 → (Lit.int .i64 x1).wf = true → g [.agg xs0, .int .i64 x1] = some [.bool true]
set_option maxRecDepth 100000 in
theorem lifted (left : Left) (os : Os) (started : os.Started) (H : Type) (enc : TypeId × Value → H) :
    ReturnsInHanded {} Try.checked os 4 .any (Rows.runsModelsSpec.pre6 enc Try.prog Try.f4 Rows.runsModelsRow.domain false) (Rows.runsModelsSpec.post enc Try.prog Try.f4 false true false false) := by
  refine returnsInHanded_of_change_sized (C := Try.checked) own started (by kernel_rfl) Try.func4
    (ChangeSpec.witness6 (enc := enc) (C := Try.checked) false ⟨#[], #[.agg #[.int .i64 0, .int .i64 0, .int .i64 0, .slice none 0 0], .int .i64 0], []⟩ 8 (by kernel_rfl) (by kernel_rfl) (by kernel_rfl) (by kernel_rfl)) ?_
  intro W base args ds gs before hval0 hW hcnd hsz0 _
  have hW' := hW
  obtain ⟨p, q, hA0, hV, rfl, hfz, hnd⟩ := hW
  have hA : DataW.TrodAll enc Try.prog W 0 (fun _ => true) true Try.f4.params.toList args.toList ds p := hA0
  rw [Try.params4] at hA hval0
  obtain ⟨v0, vs0, d0, ds0, p0, q0, hargs0, rfl, rfl, h0, r0⟩ := trodAll_cons hA
  obtain ⟨v1, vs1, d1, ds1, p1, q1, hargs1, rfl, rfl, h1, r1⟩ := trodAll_cons r0
  subst hargs1
  obtain ⟨rfl, rfl, rfl⟩ := trodAll_nil r1
  obtain rfl : args = #[v0, v1] := by cases args; simp_all
  obtain ⟨rfl, rfl⟩ := trodVars_none hV
  have k0 := h0
  have lt0 : ∀ x ∈ p0, x.block < W.heap.size := by obtain ⟨m, hm⟩ := k0; exact DataW.trod_lt m _ _ _ hm
  obtain ⟨xs0, hxs0, hpr0⟩ := arg_struct (open_arg h0 shape0) (by simp)
  have k1 := h1
  have lt1 : ∀ x ∈ p1, x.block < W.heap.size := by obtain ⟨m, hm⟩ := k1; exact DataW.trod_lt m _ _ _ hm
  obtain ⟨x1, rfl, rfl, rfl, hxs1⟩ := open_int Try.underlying3 (hval0 1 _ _ rfl rfl) h1
  obtain ⟨g, hg, hleft⟩ := left
  refine (law_calls hg (args := [.agg xs0, .int .i64 x1]) (vs := #[v0, .int .i64 x1]) ⟨rfl, fun i x u hx hu => ?_⟩ (hleft xs0 x1 hxs0 hxs1)).mono fun e W' ⟨he, bel⟩ => ?_
  · match i with
    | 0 => simp at hx hu; subst hx hu; exact hpr0
    | 1 => simp at hx hu; subst hx hu; exact .int _ _
    | i + 2 => simp at hx
  subst he
  exact ⟨_, rfl, _, _, _, [], _, [], hW', trodAll_mk1 (shut_bool Try.underlying4 _), (trodAll_cons_mk (Below.trod laidOut (by kernel_rfl) (of_decide_eq_true (by kernel_rfl)) k0 bel lt0) (trodAll_cons_mk (Below.trod laidOut (by kernel_rfl) (of_decide_eq_true (by kernel_rfl)) k1 bel lt1) trodAll_mk0)), rfl, bel.frame _, fun h => by cases h⟩
theorem over (left : Left) : Rows.runsModelsRow.holds Try.pinned (OpenSpec.ofChange Rows.runsModelsSpec) :=
  OpenClaim.holds_of_wide 4 Try.f4 rfl rfl rfl rfl rfl rfl rfl ⟨rfl, rfl, rfl, rfl, rfl⟩ rfl rfl rfl rfl rfl (by kernel_rfl) Try.func4 (by kernel_rfl)
    (of_decide_eq_true (by kernel_rfl)) (by unfold Func.isWrapper; first | (rw [if_pos (by decide +kernel)]; kernel_rfl) | (rw [if_neg (by decide +kernel)]; exact ⟨rfl, rfl⟩))
    (fun os started H enc _ => lifted left os started H enc)
end Go.Proofs.Ytlgbbabijifflaa.law4
set_option linter.unusedVariables false
set_option linter.unusedSimpArgs false
namespace Go.Proofs.Ytlgbbabijifflaa.sys
open Go Go.Ai Go.Proofs.Ytlgbbabijifflaa.L1R
open runs (RunD SysD runC sysC intsC locsC facsC)
open mdl (mixed nilOk)
theorem sys_has {xs : List AV} (h : HasL [.int .i64, .int .i64, .int .i64, .list [.list [.list [.int .i64]], .list [.int .u64]]] xs) : ∃ s : SysD, xs = sysC s ∧ s.Ok ∧ s.runs.length ≤ maxLen := by
  obtain ⟨x1, r1, rfl, h1, h⟩ := hasL_cons h
  obtain ⟨x2, r2, rfl, h2, h⟩ := hasL_cons h
  obtain ⟨x3, r3, rfl, h3, h⟩ := hasL_cons h
  obtain ⟨x4, r4, rfl, h4, h⟩ := hasL_cons h
  obtain rfl := hasL_nil h
  obtain ⟨a, rfl, ha⟩ := has_int h1
  obtain ⟨b, rfl, hb⟩ := has_int h2
  obtain ⟨c, rfl, hc⟩ := has_int h3
  obtain ⟨rs, rfl, hl, hr⟩ := has_maps (c := runC) (p := fun r => r.Ok) h4 fun e he => by
    obtain ⟨y1, q1, rfl, g1, he⟩ := hasL_cons he
    obtain ⟨y2, q2, rfl, g2, he⟩ := hasL_cons he
    obtain rfl := hasL_nil he
    obtain ⟨ls, rfl, _, hls⟩ := has_maps (c := fun l => [.list (intsC l)]) (p := fun l => ∀ x ∈ l, runs.I64 x) g1 fun e he => by
      obtain ⟨z, q, rfl, g, he⟩ := hasL_cons he
      obtain rfl := hasL_nil he
      obtain ⟨l, rfl, _, hl⟩ := has_maps (c := fun x => [.int .i64 x]) (p := fun x => runs.I64 x) g fun e he => by
        obtain ⟨z, q, rfl, g, he⟩ := hasL_cons he
        obtain rfl := hasL_nil he
        obtain ⟨n, rfl, hn⟩ := has_int g
        exact ⟨n, rfl, wf_i64 hn⟩
      exact ⟨l, rfl, hl⟩
    obtain ⟨fs, rfl, _, hfs⟩ := has_maps (c := fun x => [.int .u64 x]) (p := fun x => runs.U64 x) g2 fun e he => by
      obtain ⟨z, q, rfl, g, he⟩ := hasL_cons he
      obtain rfl := hasL_nil he
      obtain ⟨n, rfl, hn⟩ := has_int g
      exact ⟨n, rfl, wf_u64 hn⟩
    exact ⟨⟨ls, fs⟩, rfl, hls, hfs⟩
  exact ⟨⟨a, b, c, rs⟩, rfl, ⟨wf_i64 ha, wf_i64 hb, wf_i64 hc, hr⟩, hl⟩
instance (s : SysD) : Decidable s.Ok := by unfold runs.SysD.Ok runs.RunD.Ok; infer_instance
theorem okUL : HandsOk Try.prog (hands UL) := hands_ok (.cons c17 (.cons c18 (.cons c19 (.cons c20 (.cons c21 (.cons c22 (.cons c23 (.cons mdl.c24 .nil))))))))
theorem c4 : IsoOk Try.prog 4 (con (.cons (.agg sysK) (.one .i64)) (fun x => x.1.Ok) fun _ => [.bool true]) := iso_true mixed okUL Try.func4 cir4 fun x hx => ⟨0, _, rfl, run4 hx⟩
theorem runsModels : Rows.RunsModelsSaid := law4.over ⟨_, c4, fun xs x hx hn => by
  obtain ⟨s, rfl, hs, _⟩ := sys_has hx
  exact con_at (x := (s, x)) hs rfl rfl⟩
end Go.Proofs.Ytlgbbabijifflaa.sys
