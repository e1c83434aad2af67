/- clear; maps. -/
import Derived.Test.YtlgbbabijifflaaA9
import Derived.MapKept
set_option linter.unusedVariables false
set_option linter.unusedSimpArgs false
namespace Go.Ai
open Go.RowKit
section
variable {P : Program} {s : Stt} {B0 : Nat}
theorem h_clear {t e ty : TypeId} {z : List AV} {k : Nat} {ts : Array TypeId} {vs : Array Value} {x v : AV} {vx : Value} {H' : Hp} (hs : Sim B0 s) (h0 : ts[0]? = some t) (hv0 : vs[0]? = some vx)
    (ht : P.underlying t = some (.slice e)) (hk : tsize P e = some k) (hz : tzeroK P e = some z) (hx : VR s x vx) (h : hClear s.H k z x = some (v, H')) :
    ∃ u s', (Builtin.clear_ ts ty vs).run P s.w = .ok u s'.w ∧ VR s' v u ∧ s'.H = H' ∧ Step B0 s s' := by
  have hu : VR s (.tup []) (.tuple #[]) := .tup [] #[] rfl (fun i x u hx => by simp at hx)
  unfold hClear at h
  split at h
  · simp only [Option.some.injEq, Prod.mk.injEq] at h; obtain ⟨rfl, rfl⟩ := h
    cases hx with | pure hp => cases hp; exact ⟨_, s, by simp [Builtin.clear_, h0, hv0, run_underlying ht], hu, rfl, .refl hs⟩
  · simp only [Option.some.injEq, Prod.mk.injEq] at h; obtain ⟨rfl, rfl⟩ := h
    cases hx with | pure hp => cases hp; exact ⟨_, s, by simp [Builtin.clear_, h0, hv0, run_underlying ht], hu, rfl, .refl hs⟩
  · simp only [Option.some.injEq, Prod.mk.injEq] at h; obtain ⟨rfl, rfl⟩ := h
    cases hx with | pure hp => cases hp; rename_i A; exact ⟨_, s, by cases A <;> simp [Builtin.clear_, h0, hv0, run_underlying ht], hu, rfl, .refl hs⟩
  · rename_i l o n g k'
    split at h
    · rename_i cs kk g' row frz hl
      split at h
      · rename_i hc
        obtain ⟨rfl, rfl, rfl, hfit, hzk, hone⟩ := hc
        simp only [setH, fO_eq, fSet_eq, Option.some.injEq, Prod.mk.injEq] at h
        obtain ⟨rfl, rfl⟩ := h
        obtain ⟨i, zv, hi, hzv, hcz, hzl, hzs⟩ := tzeroK_spec s hz
        have hki : i.size = k := by simpa [tsize, hi] using hk
        obtain ⟨q1, q2⟩ := zero_VR (s := s) (n := n) hcz hzk
        have hlen := (zrep (n := n) hzk).1
        have hones : ((List.replicate n z).flatten).all AV.one = true := by
          rw [List.all_eq_true]
          intro y hy
          obtain ⟨e', he', hy'⟩ := List.mem_flatten.1 hy
          rw [(List.mem_replicate.1 he').2] at hy'
          exact List.all_eq_true.1 hone y hy'
        obtain ⟨b, p, hlay, t1, hrun, hH, hst⟩ := h_put (P := P) hs (us := (Builtin.zeroCells zv.cells n).toList) (ys := (List.replicate n z).flatten) (o := o) hl
          (by simp only [Array.length_toList, size_zeroCells, hlen]; rw [hzs, hki]) (fun i y v hy hv => q2 i y v hy (by
            simp only [Builtin.zeroCells, Array.getElem?_toList] at hv
            rw [show zv.cells.size = k by omega] at hv ⊢
            exact hv)) hones (by omega)
        obtain ⟨A, cp, rfl, _, hn, hA, href⟩ := vr_ref hx
        have hr := (href ⟨cs, kk, row, false, hl⟩ b p hlay).1
        refine ⟨.tuple #[], t1, ?_, hu.move hst.keeps, hH, hst⟩
        rcases Nat.eq_zero_or_pos n with hn0 | hn0
        · subst hn0
          have hw : t1.w = s.w := by
            have : Builtin.zeroCells zv.cells 0 = #[] := by simp [Builtin.zeroCells, map_range0]
            rw [this] at hrun
            simpa [storeCells] using hrun.symm
          rw [hw]
          cases A <;> simp [Builtin.clear_, h0, hv0, run_underlying ht]
        · have hA' := hr.resolve_left (by omega)
          subst hA'
          obtain ⟨m, rfl⟩ : ∃ m, n = m + 1 := ⟨n - 1, by omega⟩
          simp [Builtin.clear_, h0, hv0, run_underlying ht, zeroValue, typeInfo, hi, hzv, hrun]
      · cases h
    · cases h
  · cases h

/-! ### Keys -/
theorem eqK1_true {d : Nat} {x y : AV} {u v : Value} (hd : d ≠ 2) (hx : VR s x u) (hy : VR s y v) (h : eqK1 d x y = some true) : u = v ∧ ∀ n, Instr.sameBits n u v = true := by
  match d, x, y, h with
  | 0, .int k a, .int k' b, h =>
    simp [eqK1] at h
    obtain ⟨rfl, rfl⟩ := h
    obtain rfl := vr_int hx
    obtain rfl := vr_int hy
    exact ⟨rfl, fun n => by cases n <;> simp [Instr.sameBits]⟩
  | 1, .bool a, .bool b, h =>
    simp [eqK1] at h
    subst h
    obtain rfl := vr_bool hx
    obtain rfl := vr_bool hy
    exact ⟨rfl, fun n => by cases n <;> simp [Instr.sameBits]⟩
  | 2, .str a, .str b, h => exact absurd rfl hd
theorem eqL_true : ∀ (ks : List Nat) (xs ys : List AV) (us vs : List Value), ks.all (fun d => d != 2) = true → xs.length = us.length → ys.length = vs.length → (∀ (i : Nat) (x : AV) (u : Value), xs[i]? = some x → us[i]? = some u → VR s x u) →
    (∀ (i : Nat) (x : AV) (u : Value), ys[i]? = some x → vs[i]? = some u → VR s x u) → eqL ks xs ys = some true → us = vs ∧ ∀ n, (us.zip vs).all (fun (x, y) => Instr.sameBits n x y) = true
  | [], [], [], [], [], _, _, _, _, _, _ => ⟨rfl, fun n => rfl⟩
  | [], [], [], _ :: _, _, _, h, _, _, _, _ => by simp at h
  | [], [], [], _, _ :: _, _, _, h, _, _, _ => by simp at h
  | d :: ds, x :: xs, y :: ys, [], _, _, h, _, _, _, _ => by simp at h
  | d :: ds, x :: xs, y :: ys, _, [], _, _, h, _, _, _ => by simp at h
  | d :: ds, x :: xs, y :: ys, u :: us, v :: vs, hd, h1, h2, hx, hy, h => by
    simp only [List.all_cons, Bool.and_eq_true, bne_iff_ne, ne_eq] at hd
    simp only [eqL] at h
    split at h
    · rename_i hc
      obtain ⟨rfl, e2⟩ := eqK1_true hd.1 (hx 0 x u rfl rfl) (hy 0 y v rfl rfl) hc
      obtain ⟨rfl, e4⟩ := eqL_true ds xs ys us vs hd.2 (by simpa using h1) (by simpa using h2) (fun i x u hx' hu => hx (i + 1) x u (by simpa using hx') (by simpa using hu)) (fun i x u hx' hu => hy (i + 1) x u (by simpa using hx') (by simpa using hu)) h
      exact ⟨rfl, fun n => by simp only [List.zip_cons_cons, List.all_cons, e2 n, e4 n, Bool.and_self]⟩
    · simp at h
    · cases h
  | [], _ :: _, _, _, _, _, _, _, _, _, h => by simp [eqL] at h
  | [], [], _ :: _, _, _, _, _, _, _, _, h => by simp [eqL] at h
  | _ :: _, [], _, _, _, _, _, _, _, _, h => by simp [eqL] at h
  | _ :: _, _ :: _, [], _, _, _, _, _, _, _, h => by simp [eqL] at h
/-- What a key's type says. -/
def KeyT (P : Program) (kt : TypeId) : Option (List Nat) → Prop
  | none => ∃ k, P.underlying kt = some (.int k)
  | some ks => flatK P kt = some ks
theorem keyK_spec {kt : TypeId} {ks : Option (List Nat)} (h : keyK P kt = some ks) : KeyT P kt ks := by
  unfold keyK at h
  split at h
  · rename_i k hk; injection h with h; subst h; exact ⟨k, hk⟩
  · obtain ⟨l, hl, rfl⟩ := Option.map_eq_some_iff.1 h
    exact hl
  · cases h
theorem key_same {ks : Option (List Nat)} {x y : AV} {u v : Value} (hx : VR s x u) (hy : VR s y v) (hok : okKey ks x = true) (h : eqKey ks x y = some true) : Instr.sameBits 10000 v u = true := by
  cases ks with
  | none =>
    obtain ⟨rfl, h2⟩ := eqK1_true (by decide) hx hy h
    exact h2 _
  | some ks =>
    cases x <;> simp only [eqKey, reduceCtorEq] at h
    cases y <;> simp only [reduceCtorEq] at h
    rename_i xs ys
    simp only [okKey, Bool.and_eq_true] at hok
    obtain ⟨us, rfl, l1, v1⟩ := vr_agg hx
    obtain ⟨vs, rfl, l2, v2⟩ := vr_agg hy
    obtain ⟨e1, e2⟩ := eqL_true ks xs ys us.toList vs.toList hok.2 (by simpa using l1) (by simpa using l2) (fun i x u hx hu => v1 i x u hx (by simpa using hu)) (fun i x u hx hu => v2 i x u hx (by simpa using hu)) h
    have : us = vs := by cases us; cases vs; simpa using e1
    subst this
    rw [show (10000 : Nat) = 9999 + 1 from rfl]
    simp only [Instr.sameBits, beq_self_eq_true, Bool.true_and]
    exact e2 9999
theorem run_checkFlat {m : Nat} {em : Bool} {cs : Array Value} (w : World) : ∀ (fs : List Field) (i : Nat) (ks : List Nat), fieldKs P i fs = some ks → i + ks.length ≤ cs.size →
    (forIn fs PUnit.unit (fun f r => do
      if f.name ≠ "_" then do
        Instr.checkKey em (m + 1) f.type (← part f.type cs f.offset)
        pure (ForInStep.yield PUnit.unit)
      else do pure PUnit.unit; pure (ForInStep.yield PUnit.unit)) : Sem PUnit).run P w = .ok PUnit.unit w
  | [], i, ks, h, _ => by simp
  | f :: fs, i, ks, h, hl => by
    unfold fieldKs at h
    split at h
    case isFalse => cases h
    rename_i hc
    obtain ⟨hn, rfl⟩ := hc
    split at h
    case h_2 => cases h
    rename_i d ds hd hds
    injection h with h
    subst h
    simp only [List.length_cons] at hl
    have ih := run_checkFlat (m := m) (em := em) (cs := cs) w fs (f.offset + 1) ds hds (by omega)
    have hp := oneK_part (P := P) hd (vs := cs) (i := f.offset) (u := cs[f.offset]) (Array.getElem?_eq_getElem (by omega)) w
    have hck : (Instr.checkKey em (m + 1) f.type cs[f.offset]).run P w = .ok () w := by
      rcases oneK_spec hd with ⟨_, k, hk⟩ | ⟨_, hk⟩ | ⟨_, hk⟩ <;> simp [Instr.checkKey, run_underlying hk]
    simp only [List.forIn_cons, Sem.run_bind, hn, ne_eq, not_false_eq_true, if_true, hp, Result.andThen_ok, hck, Sem.run_pure]
    exact ih
theorem run_okKey {kt : TypeId} {ks : Option (List Nat)} {x : AV} {u : Value} (hk : KeyT P kt ks) (hx : VR s x u) (h : okKey ks x = true) (em : Bool) (w : World) : (Instr.checkKey em 10000 kt u).run P w = .ok () w := by
  unfold okKey at h
  split at h
  · rename_i k n
    cases ks with
    | some ks => simp at h
    | none =>
      obtain ⟨k', hk⟩ := hk
      rw [show (10000 : Nat) = 9999 + 1 from rfl]
      unfold Instr.checkKey
      simp only [Sem.run_bind, run_underlying hk, Result.andThen_ok]
      rfl
  · rename_i xs
    cases ks with
    | none => simp at h
    | some ks =>
      simp only [Bool.and_eq_true, beq_iff_eq] at h
      obtain ⟨h, _⟩ := h
      obtain ⟨h1, h2, h3, h4⟩ := flatK_spec hk
      obtain ⟨us, rfl, l1, v1⟩ := vr_agg hx
      have := run_checkFlat (P := P) (m := 9998) (em := em) (cs := us) w _ 0 ks h4 (by omega)
      rw [show (10000 : Nat) = 9999 + 1 from rfl]
      unfold Instr.checkKey
      simp only [Sem.run_bind, run_underlying h1, Result.andThen_ok]
      rw [← Array.forIn_toList]
      first
        | exact this
        | (erw [this]; rfl)
        | (trace_state; simp at this ⊢; simp [this])
  · cases h
end
end Go.Ai
