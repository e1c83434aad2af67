/- Each operation but a call, at once. -/
import Derived.Test.YtlgbbabijifflaaA11
set_option linter.unusedVariables false
set_option linter.unusedSimpArgs false
namespace Go.Ai
open Go.RowKit
section
variable {P : Program} {s : Stt} {a : Act} {ops : Array Oper} {B0 : Nat}
/-- What an operation hands on. -/
def NextR (t : Stt) (v : AV) (n : Next) : Prop := (∃ u, n = .value u ∧ VR t v u) ∨ (n = .skip ∧ v = .undef)
theorem wrapV' {m : Sem Value} {u : Value} {w w' : World} (h : m.run P w = .ok u w') : (do pure (Next.value (← m)) : Sem Next).run P w = .ok (.value u) w' := by
  simp [h]
theorem wrapU {m : Sem Unit} {w w' : World} (h : m.run P w = .ok () w') : (do m; pure Next.skip : Sem Next).run P w = .ok .skip w' := by
  simp [h]
def IOp.calls : IOp → Bool
  | .call .. | .dyn .. => true
  | _ => false
def IOp.heapy : IOp → Bool
  | .tlit .. | .rlit .. | .alloc .. | .box .. | .load .. | .store .. | .mslice .. | .mmap | .slarr .. | .lookup .. | .mupd .. | .append .. | .clear .. => true
  | _ => false
def AllO {α : Type} (p : α → Prop) : Option α → Prop
  | none => True
  | some a => p a
theorem AllO.bind {α β : Type} {p : β → Prop} {o : Option α} {f : α → Option β} (h : ∀ x, AllO p (f x)) : AllO p (o >>= f) := by
  cases o with
  | none => trivial
  | some x => exact h x
theorem AllO.map {α β : Type} {p : β → Prop} {o : Option α} {f : α → β} (h : ∀ x, p (f x)) : AllO p (o.map f) := by
  cases o with
  | none => trivial
  | some x => exact h x
theorem AllO.out {α : Type} {p : α → Prop} {o : Option α} {x : α} (h : AllO p o) (e : o = some x) : p x := by subst e; exact h
/-- These operations leave memory alone. -/
def quiet : Op → Bool
  | .move _ | .assign _ | .pick .. | .build .. | .nilCheck _ | .binOp .. | .unOp .. | .convert .. | .makeFunc .. | .fieldAddr .. | .field .. | .indexAddr .. | .index .. | .extract .. => true
  | _ => false
theorem quiet_cop {o : Oper} (h : quiet o.op = true) : AllO (fun i => i.heapy = false) (cop P ops o) := by
  obtain ⟨dst, op, type, pos, after, guard⟩ := o
  cases op <;> simp only [quiet, Bool.false_eq_true] at h
  case makeFunc fn first caps =>
    cases fn <;> simp only [cop] <;> (repeat' first | exact trivial | exact AllO.map fun _ => rfl | (refine AllO.bind fun _ => ?_) | exact rfl | split)
  all_goals simp only [cop] <;>
    (repeat' first | exact trivial | exact AllO.map fun _ => rfl | (refine AllO.bind fun _ => ?_) | exact rfl | split)
theorem evalH_pure {iop : IOp} {env : List AV} {hd : Hands} {slot : Option Nat} {H : Hp} (h : iop.heapy = false) (hc : iop.calls = false) : evalH hd slot env H iop = hPure H (evalP env iop) := by
  cases iop <;> simp only [IOp.heapy, IOp.calls, Bool.true_eq_false, reduceCtorEq] at h hc <;> rfl
theorem appC {ops : Array Oper} {c : Call} {dst : Option Tmp} {type : TypeId} {pos : String} {after : Array Edge} {guard : Option (Nat × Bool)} {iop : IOp} (hb : c.callee = .builtin .append)
    (hc : cop P ops ⟨dst, .call c, type, pos, after, guard⟩ = some iop) : ∃ t e i z x y x' y', c.argTypes[0]? = some t ∧ c.argTypes[1]? = some t ∧ P.underlying t = some (.slice e) ∧ P.info? e = some i ∧ tzeroK P e = some z ∧ i.size ≠ 0 ∧ i.bytes ≠ 0 ∧ i.bytes ≤ 32768 ∧
      c.args[0]? = some x ∧ c.args[1]? = some y ∧ ex x = some x' ∧ ex y = some y' ∧ iop = .append i.size i.bytes x' y' := by
  simp only [cop, hb] at hc
  obtain ⟨t, h0, hc⟩ := Option.bind_eq_some_iff.1 hc
  split at hc
  · cases hc
  · rename_i h1
    obtain ⟨ty, ht, hc⟩ := Option.bind_eq_some_iff.1 hc
    split at hc
    · rename_i e
      obtain ⟨i, hi, hc⟩ := Option.bind_eq_some_iff.1 hc
      split at hc
      · cases hc
      · rename_i h2
        obtain ⟨z, hz, hc⟩ := Option.bind_eq_some_iff.1 hc
        obtain ⟨x, hx, hc⟩ := Option.bind_eq_some_iff.1 hc
        obtain ⟨x', hx', hc⟩ := Option.bind_eq_some_iff.1 hc
        obtain ⟨y, hy, hc⟩ := Option.bind_eq_some_iff.1 hc
        obtain ⟨y', hy', hc⟩ := Option.bind_eq_some_iff.1 hc
        injection hc with hc
        simp only [bne_iff_ne, ne_eq, Decidable.not_not] at h1
        simp only [Bool.or_eq_true, decide_eq_true_eq, not_or] at h2
        exact ⟨t, e, i, z, x, y, x', y', h0, h1, ht, hi, hz, h2.1.1, h2.1.2, by omega, hx, hy, hx', hy', hc.symm⟩
    · cases hc
set_option maxHeartbeats 1000000 in
theorem evalH_sound {o : Oper} {iop : IOp} {env : List AV} {hd : Hands} {slot : Option Nat} {v : AV} {H' : Hp} (hc : cop P ops o = some iop) (he : EnvR s env a.tmps) (hs : Sim B0 s) (hB : B0 ≤ s.w.heap.size)
    (hcall : iop.calls = false) (h : evalH hd slot env s.H iop = some (v, H')) :
    ∃ n t, (execOp a.eval o).run P s.w = .ok n t.w ∧ NextR t v n ∧ t.H = H' ∧ Step B0 s t := by
  have gx : ∀ {x : Operand} {y : Ex}, ex x = some y → VR s (y.ev env) (a.eval x) := fun h => ex_VR he h
  have quietly : hPure s.H (evalP env iop) = some (v, H') → ∃ n t, (execOp a.eval o).run P s.w = .ok n t.w ∧ NextR t v n ∧ t.H = H' ∧ Step B0 s t := by
    intro h
    cases hp : evalP env iop with
    | none => simp [hPure, hp] at h
    | some v' =>
      simp only [hPure, hp, Option.some.injEq, Prod.mk.injEq] at h
      obtain ⟨rfl, rfl⟩ := h
      obtain ⟨u, h1, h2⟩ := evalP_sound hc he hp
      exact ⟨_, s, h1, .inl ⟨u, rfl, h2⟩, rfl, .refl hs⟩
  have same : ∀ {m : Sem Value} {u : Value}, (execOp a.eval o = do pure (Next.value (← m))) → m.run P s.w = .ok u s.w → VR s v u → H' = s.H → ∃ n t, (execOp a.eval o).run P s.w = .ok n t.w ∧ NextR t v n ∧ t.H = H' ∧ Step B0 s t := by
    intro m u h1 h2 h3 h4
    exact ⟨_, s, by rw [h1]; exact wrapV' h2, .inl ⟨u, rfl, h3⟩, h4.symm, .refl hs⟩
  have turn : ∀ {m : Sem Value}, (execOp a.eval o = do pure (Next.value (← m))) → (∃ u t, m.run P s.w = .ok u t.w ∧ VR t v u ∧ t.H = H' ∧ Step B0 s t) → ∃ n t, (execOp a.eval o).run P s.w = .ok n t.w ∧ NextR t v n ∧ t.H = H' ∧ Step B0 s t := by
    rintro m h1 ⟨u, t, h2, h3, h4, h5⟩
    exact ⟨_, t, by rw [h1]; exact wrapV' h2, .inl ⟨u, rfl, h3⟩, h4, h5⟩
  have write : ∀ {m : Sem Unit}, (execOp a.eval o = do m; pure .skip) → (∃ t, m.run P s.w = .ok () t.w ∧ t.H = H' ∧ v = .undef ∧ Step B0 s t) → ∃ n t, (execOp a.eval o).run P s.w = .ok n t.w ∧ NextR t v n ∧ t.H = H' ∧ Step B0 s t := by
    rintro m h1 ⟨t, h2, h3, h4, h5⟩
    exact ⟨_, t, by rw [h1]; exact wrapU h2, .inr ⟨rfl, h4⟩, h3, h5⟩
  by_cases hq : quiet o.op = true
  · have h1 := (quiet_cop (P := P) (ops := ops) hq).out hc
    rw [evalH_pure h1 hcall] at h
    exact quietly h
  obtain ⟨dst, op, type, pos, after, guard⟩ := o
  cases op <;> simp only [quiet, Bool.not_eq_true, reduceCtorEq, not_true_eq_false] at hq <;> simp only [cop, reduceCtorEq] at hc
  case alloc t =>
    obtain ⟨z, hz, hc⟩ := Option.bind_eq_some_iff.1 hc
    injection hc with hc
    subst hc
    exact turn rfl (h_alloc hs hB hz h)
  case box t x =>
    obtain ⟨n, hn, hc⟩ := Option.bind_eq_some_iff.1 hc
    obtain ⟨y, hy, hc⟩ := Option.bind_eq_some_iff.1 hc
    injection hc with hc
    subst hc
    exact turn rfl (h_box hs hB (gx hy) h)
  case load t x =>
    obtain ⟨n, hn, hc⟩ := Option.bind_eq_some_iff.1 hc
    obtain ⟨g, hg, hc⟩ := Option.bind_eq_some_iff.1 hc
    obtain ⟨y, hy, hc⟩ := Option.bind_eq_some_iff.1 hc
    injection hc with hc
    subst hc
    obtain ⟨u, h1, h2, h3⟩ := h_load (P := P) hs hn hg (gx hy) h
    exact same rfl h1 h2 h3
  case store t x y =>
    obtain ⟨n, hn, hc⟩ := Option.bind_eq_some_iff.1 hc
    obtain ⟨x', hx', hc⟩ := Option.bind_eq_some_iff.1 hc
    obtain ⟨y', hy', hc⟩ := Option.bind_eq_some_iff.1 hc
    injection hc with hc
    subst hc
    exact write rfl (h_store hs hn (gx hx') (gx hy') h)
  case buildSlice t n ps =>
    obtain ⟨ty, ht, hc⟩ := Option.bind_eq_some_iff.1 hc
    split at hc
    · obtain ⟨k, hk, hc⟩ := Option.bind_eq_some_iff.1 hc
      split at hc
      · cases hc
      · rename_i hsmall
        obtain ⟨ps', hps, hc⟩ := Option.bind_eq_some_iff.1 hc
        obtain ⟨z, hz, hc⟩ := Option.bind_eq_some_iff.1 hc
        injection hc with hc
        subst hc
        split at h
        · exact turn rfl (h_tlit hs hB ht hk hz hps hsmall (fun o x h => gx h) h)
        · exact turn rfl (h_rlit hs hB ht hk hz hps hsmall (fun o x h => gx h) h)
    · cases hc
  case makeMap t r =>
    cases r with
    | some r => simp only [cop, reduceCtorEq] at hc
    | none =>
    simp only [cop] at hc
    obtain ⟨ty, ht, hc⟩ := Option.bind_eq_some_iff.1 hc
    split at hc
    · obtain ⟨_, _, hc⟩ := Option.bind_eq_some_iff.1 hc
      injection hc with hc
      subst hc
      exact turn rfl (h_mmap hs hB h)
    · cases hc
  case makeSlice t l c =>
    obtain ⟨ty, ht, hc⟩ := Option.bind_eq_some_iff.1 hc
    split at hc
    · obtain ⟨i, hi, hc⟩ := Option.bind_eq_some_iff.1 hc
      obtain ⟨z, hz, hc⟩ := Option.bind_eq_some_iff.1 hc
      obtain ⟨l', hl, hc⟩ := Option.bind_eq_some_iff.1 hc
      obtain ⟨c', hcap, hc⟩ := Option.bind_eq_some_iff.1 hc
      injection hc with hc
      subst hc
      exact turn rfl (h_mslice hs hB ht hi hz (gx hl) (gx hcap) h)
    · cases hc
  case slice t x lo hi mx =>
    cases mx with
    | some m => simp only [cop, reduceCtorEq] at hc
    | none =>
    simp only [cop] at hc
    have hc0 := hc
    obtain ⟨lo', hlo, hc⟩ := Option.bind_eq_some_iff.1 hc
    obtain ⟨hi', hhi, hc⟩ := Option.bind_eq_some_iff.1 hc
    obtain ⟨ty, ht, hc⟩ := Option.bind_eq_some_iff.1 hc
    split at hc
    · obtain ⟨k, hk, hc⟩ := Option.bind_eq_some_iff.1 hc
      obtain ⟨y, hy, hc⟩ := Option.bind_eq_some_iff.1 hc
      injection hc with hc
      subst hc
      exact quietly h
    · obtain ⟨k, hk, hc⟩ := Option.bind_eq_some_iff.1 hc
      obtain ⟨y, hy, hc⟩ := Option.bind_eq_some_iff.1 hc
      injection hc with hc
      subst hc
      obtain ⟨u, h1, h2, h3⟩ := h_slarr (P := P) hs ht hk (gx hy) (exo_VR he hlo) (exo_VR he hhi) h
      exact same rfl h1 h2 h3
    · obtain ⟨y, hy, hc⟩ := Option.bind_eq_some_iff.1 hc
      injection hc with hc
      subst hc
      exact quietly h
    · cases hc
  case lookup t m x ok =>
    obtain ⟨ty, ht, hc⟩ := Option.bind_eq_some_iff.1 hc
    split at hc
    · obtain ⟨ks, hks, hc⟩ := Option.bind_eq_some_iff.1 hc
      obtain ⟨z, hz, hc⟩ := Option.bind_eq_some_iff.1 hc
      obtain ⟨m', hm, hc⟩ := Option.bind_eq_some_iff.1 hc
      obtain ⟨x', hx, hc⟩ := Option.bind_eq_some_iff.1 hc
      injection hc with hc
      subst hc
      obtain ⟨u, h1, h2, h3⟩ := h_lookup (P := P) (i := default) hs ht hks hz (gx hm) (gx hx) h
      exact same rfl h1 h2 h3
    · cases hc
  case mapUpdate t m x y =>
    obtain ⟨ty, ht, hc⟩ := Option.bind_eq_some_iff.1 hc
    split at hc
    · obtain ⟨ks, hks, hc⟩ := Option.bind_eq_some_iff.1 hc
      obtain ⟨m', hm, hc⟩ := Option.bind_eq_some_iff.1 hc
      obtain ⟨x', hx, hc⟩ := Option.bind_eq_some_iff.1 hc
      obtain ⟨y', hy, hc⟩ := Option.bind_eq_some_iff.1 hc
      injection hc with hc
      subst hc
      exact write rfl (h_mupd hs ht hks (gx hm) (gx hx) (gx hy) h)
    · cases hc
  case call c =>
    have fin : ∀ {b : Builtin} {m : Sem Value}, c.callee = .builtin b → (∀ cs, builtin b c.argTypes type cs (c.args.map a.eval) = (do pure (Next.value (← m)))) → (∃ u t, m.run P s.w = .ok u t.w ∧ VR t v u ∧ t.H = H' ∧ Step B0 s t) →
        ∃ n t, (execOp a.eval ⟨dst, .call c, type, pos, after, guard⟩).run P s.w = .ok n t.w ∧ NextR t v n ∧ t.H = H' ∧ Step B0 s t := by
      rintro b m h1 h2 ⟨u, t, h3, h4, h5, h6⟩
      refine ⟨_, t, ?_, .inl ⟨u, rfl, h4⟩, h5, h6⟩
      simp only [execOp, resolve, h1, Sem.run_bind, Sem.run_pure, Result.andThen_ok, invoke, h2, h3]
    split at hc
    · obtain ⟨ys, hys, hc⟩ := Option.bind_eq_some_iff.1 hc
      injection hc with hc
      subst hc
      simp [IOp.calls] at hcall
    · obtain ⟨y, hy, hc⟩ := Option.bind_eq_some_iff.1 hc
      obtain ⟨ys, hys, hc⟩ := Option.bind_eq_some_iff.1 hc
      injection hc with hc
      subst hc
      simp [IOp.calls] at hcall
    · obtain ⟨x, hx, hc⟩ := Option.bind_eq_some_iff.1 hc
      obtain ⟨t, ht, hc⟩ := Option.bind_eq_some_iff.1 hc
      obtain ⟨ty, hty, hc⟩ := Option.bind_eq_some_iff.1 hc
      split at hc
      · obtain ⟨y, hy, hc⟩ := Option.bind_eq_some_iff.1 hc
        injection hc with hc
        subst hc
        exact quietly h
      · obtain ⟨y, hy, hc⟩ := Option.bind_eq_some_iff.1 hc
        injection hc with hc
        subst hc
        exact quietly h
      · injection hc with hc
        subst hc
        exact quietly h
      · cases hc
    · rename_i hb
      obtain ⟨t, e, i, z, x, y, x', y', h0, h1, ht, hi, hz, k0, b0, b1, hx, hy, hx', hy', rfl⟩ := appC (type := type) (pos := pos) (after := after) (guard := guard) (dst := dst) (iop := iop) (ops := ops) hb (by simp only [cop, hb]; exact hc)
      exact fin hb (fun _ => rfl) (h_append hs hB h0 h1 (by simp [hx]) (by simp [hy]) ht hi hz k0 b0 b1 (gx hx') (gx hy') h)
    · obtain ⟨ys, hys, hc⟩ := Option.bind_eq_some_iff.1 hc
      injection hc with hc
      subst hc
      exact quietly h
    · obtain ⟨ys, hys, hc⟩ := Option.bind_eq_some_iff.1 hc
      injection hc with hc
      subst hc
      exact quietly h
    · rename_i hb
      obtain ⟨t, h0, hc⟩ := Option.bind_eq_some_iff.1 hc
      obtain ⟨ty, ht, hc⟩ := Option.bind_eq_some_iff.1 hc
      split at hc
      · obtain ⟨k, hk, hc⟩ := Option.bind_eq_some_iff.1 hc
        obtain ⟨z, hz, hc⟩ := Option.bind_eq_some_iff.1 hc
        obtain ⟨x, hx, hc⟩ := Option.bind_eq_some_iff.1 hc
        obtain ⟨x', hx', hc⟩ := Option.bind_eq_some_iff.1 hc
        injection hc with hc
        subst hc
        exact fin hb (fun _ => rfl) (h_clear hs h0 (by simp [hx]) ht hk hz (gx hx') h)
      · cases hc
    · cases hc
end
end Go.Ai
