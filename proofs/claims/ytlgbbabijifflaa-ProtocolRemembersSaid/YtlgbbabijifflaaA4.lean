/- Operations that hang on the temporaries alone, all at once: by what 'compile' makes of them. -/
import Derived.Test.YtlgbbabijifflaaA3
set_option linter.unusedVariables false
set_option linter.unusedSimpArgs false
namespace Go.Ai
open Go.RowKit
section
variable {P : Program} {s : Stt} {a : Act} {ops : Array Oper}
theorem exs_VR {env : List AV} {tm : Act} (h : EnvR s env tm.tmps) {xs : Array Operand} {ys : List Ex} (hy : exs xs = some ys) :
    (ys.map (·.ev env)).length = (xs.map tm.eval).size ∧ ∀ (i : Nat) (x : AV) (u : Value), (ys.map (·.ev env))[i]? = some x → (xs.map tm.eval)[i]? = some u → VR s x u := by
  obtain ⟨l⟩ := xs
  simp only [exs] at hy
  have : ∀ (l : List Operand) (ys : List Ex), l.mapM ex = some ys → ys.length = l.length ∧ ∀ (i : Nat) (y : Ex) (o : Operand), ys[i]? = some y → l[i]? = some o → ex o = some y := by
    intro l
    induction l with
    | nil => intro ys h; simp at h; subst h; exact ⟨rfl, fun i y o hy => by simp at hy⟩
    | cons o l ih =>
      intro ys h
      simp only [List.mapM_cons] at h
      obtain ⟨y, h1, h⟩ := Option.bind_eq_some_iff.1 h
      obtain ⟨r, h2, h⟩ := Option.bind_eq_some_iff.1 h
      injection h with h
      subst h
      obtain ⟨h3, h4⟩ := ih r h2
      refine ⟨by simp [h3], fun i y' o' hy' ho' => ?_⟩
      cases i with
      | zero => simp at hy' ho'; subst hy' ho'; exact h1
      | succ i => exact h4 i y' o' (by simpa using hy') (by simpa using ho')
  obtain ⟨h1, h2⟩ := this l ys hy
  refine ⟨by simp [h1], fun i x u hx hu => ?_⟩
  simp only [List.getElem?_map, Option.map_eq_some_iff] at hx
  obtain ⟨y, hy', rfl⟩ := hx
  simp only [List.map_toArray, List.getElem?_toArray, List.getElem?_map, Option.map_eq_some_iff] at hu
  obtain ⟨o, ho, rfl⟩ := hu
  exact ex_VR h (h2 i y o hy' ho)
theorem exo_VR {env : List AV} {tm : Act} (h : EnvR s env tm.tmps) {o : Option Operand} {x : Option Ex} (hx : exo o = some x) :
    (evo env x = none ∧ o.map tm.eval = none) ∨ ∃ y vy, evo env x = some y ∧ o.map tm.eval = some vy ∧ VR s y vy := by
  cases o with
  | none => simp [exo] at hx; subst hx; exact .inl ⟨rfl, rfl⟩
  | some o =>
    simp only [exo, Option.map_eq_some_iff] at hx
    obtain ⟨y, hy, rfl⟩ := hx
    exact .inr ⟨_, _, rfl, rfl, ex_VR h hy⟩
theorem wrapV {m : Sem Value} {u : Value} (h : m.run P s.w = .ok u s.w) : (do pure (Next.value (← m)) : Sem Next).run P s.w = .ok (.value u) s.w := by
  simp [h]
theorem eqop {op : BinOp} (h : isEq op = true) : op = if isNe op = true then .neq else .eql := by
  cases op <;> simp [isEq, isNe] at h ⊢
theorem isNilC_eval {kd : Nat} {y : Operand} (h : isNilC kd y = true) : a.eval y = nilVal kd := by
  unfold isNilC at h
  split at h <;> first | rfl | cases h
set_option maxHeartbeats 1000000 in
theorem evalP_sound {o : Oper} {iop : IOp} {env : List AV} {v : AV} (hc : cop P ops o = some iop) (he : EnvR s env a.tmps) (h : evalP env iop = some v) :
    ∃ u, (execOp a.eval o).run P s.w = .ok (.value u) s.w ∧ VR s v u := by
  obtain ⟨dst, op, type, pos, after, guard⟩ := o
  have gx : ∀ {x : Operand} {y : Ex}, ex x = some y → VR s (y.ev env) (a.eval x) := fun h => ex_VR he h
  cases op <;> simp only [cop, reduceCtorEq] at hc
  case move x =>
    obtain ⟨y, hy, rfl⟩ := Option.map_eq_some_iff.1 hc
    simp only [evalP, Option.some.injEq] at h
    subst h
    exact ⟨_, rfl, gx hy⟩
  case assign x =>
    obtain ⟨y, hy, rfl⟩ := Option.map_eq_some_iff.1 hc
    simp only [evalP, Option.some.injEq] at h
    subst h
    exact ⟨_, rfl, gx hy⟩
  case pick c x y =>
    obtain ⟨c', hc', hc⟩ := Option.bind_eq_some_iff.1 hc
    obtain ⟨x', hx', hc⟩ := Option.bind_eq_some_iff.1 hc
    obtain ⟨y', hy', hc⟩ := Option.bind_eq_some_iff.1 hc
    injection hc with hc
    subst hc
    obtain ⟨u, h1, h2⟩ := g_pick (P := P) (gx hc') (gx hx') (gx hy') h
    exact ⟨u, h1, h2⟩
  case nilCheck x =>
    obtain ⟨y, hy, rfl⟩ := Option.map_eq_some_iff.1 hc
    exact g_nilck (P := P) rfl rfl (gx hy) h
  case build t parts =>
    obtain ⟨ty, ht, hc⟩ := Option.bind_eq_some_iff.1 hc
    split at hc
    · rename_i fs
      split at hc
      · rename_i hall
        obtain ⟨z, hz, hc⟩ := Option.bind_eq_some_iff.1 hc
        obtain ⟨ps, hp, hc⟩ := Option.bind_eq_some_iff.1 hc
        injection hc with hc
        subst hc
        obtain ⟨u, h1, h2⟩ := g_build_struct (P := P) (s := s) (a := a) ht hz hp (fun f hf => by
          have := List.all_eq_true.1 hall f hf
          exact this) (fun o x h => gx h) h
        exact ⟨u, wrapV h1, h2⟩
      · cases hc
    · rename_i n e
      obtain ⟨k, hk, hc⟩ := Option.bind_eq_some_iff.1 hc
      obtain ⟨z, hz, hc⟩ := Option.bind_eq_some_iff.1 hc
      obtain ⟨ps, hp, hc⟩ := Option.bind_eq_some_iff.1 hc
      injection hc with hc
      subst hc
      obtain ⟨u, h1, h2⟩ := g_build_array (P := P) (s := s) (a := a) ht hk hz hp (fun o x h => gx h) h
      exact ⟨u, wrapV h1, h2⟩
    · cases hc
  case unOp op t x =>
    obtain ⟨y, hy, hc⟩ := Option.bind_eq_some_iff.1 hc
    injection hc with hc
    subst hc
    obtain ⟨u, h1, h2⟩ := g_un (P := P) (gx hy) h
    exact ⟨u, wrapV h1, h2⟩
  case convert src dst x =>
    obtain ⟨t1, ht1, hc⟩ := Option.bind_eq_some_iff.1 hc
    split at hc
    · obtain ⟨t2, ht2, hc⟩ := Option.bind_eq_some_iff.1 hc
      split at hc
      · obtain ⟨y, hy, hc⟩ := Option.bind_eq_some_iff.1 hc
        injection hc with hc
        subst hc
        obtain ⟨u, h1, h2⟩ := g_conv (P := P) ht1 ht2 (gx hy) h
        exact ⟨u, wrapV h1, h2⟩
      · cases hc
    · cases hc
  case extract x i =>
    obtain ⟨y, hy, hc⟩ := Option.bind_eq_some_iff.1 hc
    injection hc with hc
    subst hc
    obtain ⟨u, h1, h2⟩ := g_extract (P := P) (gx hy) h
    exact ⟨u, wrapV h1, h2⟩
  case field t x i =>
    obtain ⟨ty, ht, hc⟩ := Option.bind_eq_some_iff.1 hc
    split at hc
    · obtain ⟨f, hf, hc⟩ := Option.bind_eq_some_iff.1 hc
      obtain ⟨n, hn, hc⟩ := Option.bind_eq_some_iff.1 hc
      obtain ⟨ag, hg, hc⟩ := Option.bind_eq_some_iff.1 hc
      obtain ⟨y, hy, hc⟩ := Option.bind_eq_some_iff.1 hc
      injection hc with hc
      subst hc
      obtain ⟨u, h1, h2⟩ := g_field (P := P) ht hf hn hg (gx hy) h
      exact ⟨u, wrapV h1, h2⟩
    · cases hc
  case fieldAddr t x i =>
    obtain ⟨ty, ht, hc⟩ := Option.bind_eq_some_iff.1 hc
    split at hc
    · obtain ⟨f, hf, hc⟩ := Option.bind_eq_some_iff.1 hc
      obtain ⟨n, hn, hc⟩ := Option.bind_eq_some_iff.1 hc
      split at hc
      · cases hc
      · rename_i hn0
        obtain ⟨y, hy, hc⟩ := Option.bind_eq_some_iff.1 hc
        injection hc with hc
        subst hc
        obtain ⟨u, h1, h2⟩ := g_faddr (P := P) ht hf hn hn0 (gx hy) h
        exact ⟨u, wrapV h1, h2⟩
    · cases hc
  case indexAddr t x i =>
    obtain ⟨ty, ht, hc⟩ := Option.bind_eq_some_iff.1 hc
    split at hc
    · obtain ⟨k, hk, hc⟩ := Option.bind_eq_some_iff.1 hc
      obtain ⟨y, hy, hc⟩ := Option.bind_eq_some_iff.1 hc
      obtain ⟨j, hj, hc⟩ := Option.bind_eq_some_iff.1 hc
      injection hc with hc
      subst hc
      obtain ⟨u, h1, h2⟩ := g_iaddr (P := P) ht hk (gx hy) (gx hj) h
      exact ⟨u, wrapV h1, h2⟩
    · obtain ⟨k, hk, hc⟩ := Option.bind_eq_some_iff.1 hc
      obtain ⟨y, hy, hc⟩ := Option.bind_eq_some_iff.1 hc
      obtain ⟨j, hj, hc⟩ := Option.bind_eq_some_iff.1 hc
      injection hc with hc
      subst hc
      obtain ⟨u, h1, h2⟩ := g_iarr (P := P) ht hk (gx hy) (gx hj) h
      exact ⟨u, wrapV h1, h2⟩
    · cases hc
  case index t x i =>
    obtain ⟨ty, ht, hc⟩ := Option.bind_eq_some_iff.1 hc
    split at hc
    · obtain ⟨y, hy, hc⟩ := Option.bind_eq_some_iff.1 hc
      obtain ⟨j, hj, hc⟩ := Option.bind_eq_some_iff.1 hc
      injection hc with hc
      subst hc
      obtain ⟨u, h1, h2⟩ := g_idxs (P := P) ht (gx hy) (gx hj) h
      exact ⟨u, wrapV h1, h2⟩
    · obtain ⟨k, hk, hc⟩ := Option.bind_eq_some_iff.1 hc
      obtain ⟨ag, hg, hc⟩ := Option.bind_eq_some_iff.1 hc
      obtain ⟨y, hy, hc⟩ := Option.bind_eq_some_iff.1 hc
      obtain ⟨j, hj, hc⟩ := Option.bind_eq_some_iff.1 hc
      injection hc with hc
      subst hc
      obtain ⟨u, h1, h2⟩ := g_idxa (P := P) ht hk hg (gx hy) (gx hj) h
      exact ⟨u, wrapV h1, h2⟩
    · cases hc
  case slice t x lo hi mx =>
    cases mx with
    | some m => simp only [cop, reduceCtorEq] at hc
    | none =>
    simp only [cop] at hc
    obtain ⟨lo', hlo, hc⟩ := Option.bind_eq_some_iff.1 hc
    obtain ⟨hi', hhi, hc⟩ := Option.bind_eq_some_iff.1 hc
    obtain ⟨ty, ht, hc⟩ := Option.bind_eq_some_iff.1 hc
    split at hc
    · obtain ⟨k, hk, hc⟩ := Option.bind_eq_some_iff.1 hc
      obtain ⟨y, hy, hc⟩ := Option.bind_eq_some_iff.1 hc
      injection hc with hc
      subst hc
      obtain ⟨u, h1, h2⟩ := g_slice (P := P) ht hk (gx hy) (exo_VR he hlo) (exo_VR he hhi) h
      exact ⟨u, wrapV h1, h2⟩
    · obtain ⟨k, hk, hc⟩ := Option.bind_eq_some_iff.1 hc
      obtain ⟨y, hy, hc⟩ := Option.bind_eq_some_iff.1 hc
      injection hc with hc
      subst hc
      simp [evalP] at h
    · obtain ⟨y, hy, hc⟩ := Option.bind_eq_some_iff.1 hc
      injection hc with hc
      subst hc
      obtain ⟨u, h1, h2⟩ := g_slstr (P := P) ht (gx hy) (exo_VR he hlo) (exo_VR he hhi) h
      exact ⟨u, wrapV h1, h2⟩
    · cases hc
  case makeFunc fn first caps =>
    cases fn with
    | func f =>
      simp only [cop] at hc
      split at hc
      · rename_i hf
        obtain ⟨ys, hys, hc⟩ := Option.bind_eq_some_iff.1 hc
        injection hc with hc
        subst hc
        simp only [evalP, Option.some.injEq] at h
        subst h
        obtain ⟨h1, h2⟩ := exs_VR he hys
        simp only [Array.isEmpty_iff] at hf
        subst hf
        exact ⟨_, wrapV (by simp [Instr.makeFunc]), .func f _ _ h1 h2⟩
      · cases hc
    | method m => simp only [cop, reduceCtorEq] at hc
    | methodOf t m => simp only [cop, reduceCtorEq] at hc
    | via t m f b => simp only [cop, reduceCtorEq] at hc
    | yield l => simp only [cop, reduceCtorEq] at hc
  case binOp op t x y sc =>
    obtain ⟨ty, ht, hc⟩ := Option.bind_eq_some_iff.1 hc
    have fin : ∀ {vx vy u : Value} {op' : BinOp}, a.eval x = vx → a.eval y = vy → op = op' → (binOp op' t vx vy).run P s.w = .ok u s.w → ((eqGuard op' t x y vx vy).run P s.w = .ok () s.w) → (execOp a.eval ⟨dst, .binOp op t x y sc, type, pos, after, guard⟩).run P s.w = .ok (.value u) s.w := by
      intro vx vy u op' e1 e2 e3 h1 h2
      subst e1 e2 e3
      simp only [execOp]
      exact wrapV (by simp [h1, h2])
    split at hc
    · obtain ⟨x', hx', hc⟩ := Option.bind_eq_some_iff.1 hc
      obtain ⟨y', hy', hc⟩ := Option.bind_eq_some_iff.1 hc
      injection hc with hc
      subst hc
      obtain ⟨u, h1, h2, h3⟩ := g_bin (P := P) (t := t) (gx hx') (gx hy') h
      exact ⟨u, fin rfl rfl rfl h1 (by rw [h3 x y]; rfl), h2⟩
    · obtain ⟨x', hx', hc⟩ := Option.bind_eq_some_iff.1 hc
      obtain ⟨y', hy', hc⟩ := Option.bind_eq_some_iff.1 hc
      injection hc with hc
      subst hc
      obtain ⟨u, h1, h2, h3⟩ := g_bin (P := P) (t := t) (gx hx') (gx hy') h
      exact ⟨u, fin rfl rfl rfl h1 (by rw [h3 x y]; rfl), h2⟩
    · split at hc
      · rename_i hop
        obtain ⟨x', hx', hc⟩ := Option.bind_eq_some_iff.1 hc
        obtain ⟨y', hy', hc⟩ := Option.bind_eq_some_iff.1 hc
        injection hc with hc
        subst hc
        obtain ⟨u, h1, h2, h3⟩ := g_eqb (P := P) ht (gx hx') (gx hy') h
        exact ⟨u, fin rfl rfl (eqop hop) h1 (by rw [h3]; rfl), h2⟩
      · cases hc
    · split at hc
      · rename_i hop
        obtain ⟨ks, hks, hc⟩ := Option.bind_eq_some_iff.1 hc
        obtain ⟨x', hx', hc⟩ := Option.bind_eq_some_iff.1 hc
        obtain ⟨y', hy', hc⟩ := Option.bind_eq_some_iff.1 hc
        injection hc with hc
        subst hc
        obtain ⟨u, h1, h2, h3⟩ := g_eqs (P := P) hks (gx hx') (gx hy') h
        exact ⟨u, fin rfl rfl (eqop hop) h1 (h3 _ x y), h2⟩
      · cases hc
    · rename_i e
      split at hc
      · rename_i hop
        simp only [Bool.and_eq_true] at hop
        obtain ⟨x', hx', hc⟩ := Option.bind_eq_some_iff.1 hc
        injection hc with hc
        subst hc
        obtain ⟨u, h1, h2, h3⟩ := g_eqn (P := P) (kd := 0) (t := t) ⟨e, ht⟩ (gx hx') h
        exact ⟨u, fin rfl (isNilC_eval hop.2) (eqop hop.1) h1 (by rw [h3]; rfl), h2⟩
      · cases hc
    · rename_i e
      split at hc
      · rename_i hop
        simp only [Bool.and_eq_true] at hop
        obtain ⟨x', hx', hc⟩ := Option.bind_eq_some_iff.1 hc
        injection hc with hc
        subst hc
        obtain ⟨u, h1, h2, h3⟩ := g_eqn (P := P) (kd := 1) (t := t) ⟨e, ht⟩ (gx hx') h
        exact ⟨u, fin rfl (isNilC_eval hop.2) (eqop hop.1) h1 (by rw [h3]; rfl), h2⟩
      · cases hc
    · rename_i k e
      split at hc
      · rename_i hop
        simp only [Bool.and_eq_true] at hop
        obtain ⟨x', hx', hc⟩ := Option.bind_eq_some_iff.1 hc
        injection hc with hc
        subst hc
        obtain ⟨u, h1, h2, h3⟩ := g_eqn (P := P) (kd := 2) (t := t) ⟨k, e, ht⟩ (gx hx') h
        exact ⟨u, fin rfl (isNilC_eval hop.2) (eqop hop.1) h1 (by rw [h3]; rfl), h2⟩
      · cases hc
    · rename_i p r b
      split at hc
      · rename_i hop
        simp only [Bool.and_eq_true] at hop
        obtain ⟨x', hx', hc⟩ := Option.bind_eq_some_iff.1 hc
        injection hc with hc
        subst hc
        obtain ⟨u, h1, h2, h3⟩ := g_eqn (P := P) (kd := 3) (t := t) ⟨p, r, b, ht⟩ (gx hx') h
        exact ⟨u, fin rfl (isNilC_eval hop.2) (eqop hop.1) h1 (by rw [h3]; rfl), h2⟩
      · cases hc
    · cases hc
  case call c =>
    have fin : ∀ {b : Builtin} {m : Sem Value} {u : Value}, c.callee = .builtin b → (∀ cs, builtin b c.argTypes type cs (c.args.map a.eval) = (do pure (Next.value (← m)))) → m.run P s.w = .ok u s.w →
        (execOp a.eval ⟨dst, .call c, type, pos, after, guard⟩).run P s.w = .ok (.value u) s.w := by
      intro b m u h1 h2 h3
      simp only [execOp, resolve, h1, Sem.run_bind, Sem.run_pure, Result.andThen_ok, invoke, h2, h3]
    split at hc
    · obtain ⟨ys, hys, hc⟩ := Option.bind_eq_some_iff.1 hc
      injection hc with hc
      subst hc
      simp [evalP] at h
    · obtain ⟨y, hy, hc⟩ := Option.bind_eq_some_iff.1 hc
      obtain ⟨ys, hys, hc⟩ := Option.bind_eq_some_iff.1 hc
      injection hc with hc
      subst hc
      simp [evalP] at h
    · rename_i hb
      obtain ⟨x, hx, hc⟩ := Option.bind_eq_some_iff.1 hc
      obtain ⟨t, ht, hc⟩ := Option.bind_eq_some_iff.1 hc
      obtain ⟨ty, hty, hc⟩ := Option.bind_eq_some_iff.1 hc
      have hx' : (c.args.map a.eval)[0]? = some (a.eval x) := by simp [hx]
      split at hc
      · obtain ⟨y, hy, hc⟩ := Option.bind_eq_some_iff.1 hc
        injection hc with hc
        subst hc
        obtain ⟨u, h1, h2⟩ := g_len (P := P) (ty := type) ht hx' hty (gx hy) h
        exact ⟨u, fin hb (fun _ => rfl) h1, h2⟩
      · obtain ⟨y, hy, hc⟩ := Option.bind_eq_some_iff.1 hc
        injection hc with hc
        subst hc
        obtain ⟨u, h1, h2⟩ := g_lens (P := P) (ty := type) ht hx' hty (gx hy) h
        exact ⟨u, fin hb (fun _ => rfl) h1, h2⟩
      · rename_i n e
        injection hc with hc
        subst hc
        simp only [evalP, Ex.ev, Option.some.injEq] at h
        subst h
        exact ⟨_, fin hb (fun _ => rfl) (by simp [Builtin.len_, ht, hx, run_underlying hty, goInt]), .pure (.int _ _)⟩
      · cases hc
    · skip
      obtain ⟨_, _, hc⟩ := Option.bind_eq_some_iff.1 hc
      split at hc
      · cases hc
      · obtain ⟨_, _, hc⟩ := Option.bind_eq_some_iff.1 hc
        split at hc
        · obtain ⟨_, _, hc⟩ := Option.bind_eq_some_iff.1 hc
          split at hc
          · cases hc
          · obtain ⟨_, _, hc⟩ := Option.bind_eq_some_iff.1 hc
            obtain ⟨_, _, hc⟩ := Option.bind_eq_some_iff.1 hc
            obtain ⟨_, _, hc⟩ := Option.bind_eq_some_iff.1 hc
            obtain ⟨_, _, hc⟩ := Option.bind_eq_some_iff.1 hc
            obtain ⟨_, _, hc⟩ := Option.bind_eq_some_iff.1 hc
            injection hc with hc
            subst hc
            simp [evalP] at h
        · cases hc
    · rename_i hb
      obtain ⟨ys, hys, hc⟩ := Option.bind_eq_some_iff.1 hc
      injection hc with hc
      subst hc
      obtain ⟨h1, h2⟩ := exs_VR he hys
      obtain ⟨u, h3, h4⟩ := g_max (P := P) (s := s) (ts := c.argTypes) (ty := type) h1 h2 h
      exact ⟨u, fin hb (fun _ => rfl) h3, h4⟩
    · rename_i hb
      obtain ⟨ys, hys, hc⟩ := Option.bind_eq_some_iff.1 hc
      injection hc with hc
      subst hc
      obtain ⟨h1, h2⟩ := exs_VR he hys
      obtain ⟨u, h3, h4⟩ := g_min (P := P) (s := s) (ts := c.argTypes) (ty := type) h1 h2 h
      exact ⟨u, fin hb (fun _ => rfl) h3, h4⟩
    · skip
      obtain ⟨_, _, hc⟩ := Option.bind_eq_some_iff.1 hc
      obtain ⟨_, _, hc⟩ := Option.bind_eq_some_iff.1 hc
      split at hc
      · obtain ⟨_, _, hc⟩ := Option.bind_eq_some_iff.1 hc
        obtain ⟨_, _, hc⟩ := Option.bind_eq_some_iff.1 hc
        obtain ⟨_, _, hc⟩ := Option.bind_eq_some_iff.1 hc
        obtain ⟨_, _, hc⟩ := Option.bind_eq_some_iff.1 hc
        injection hc with hc
        subst hc
        simp [evalP] at h
      · cases hc
    · cases hc
  case alloc t => 
    obtain ⟨_, _, hc⟩ := Option.bind_eq_some_iff.1 hc
    injection hc with hc
    subst hc
    simp [evalP] at h
  case box t x =>
    obtain ⟨_, _, hc⟩ := Option.bind_eq_some_iff.1 hc
    obtain ⟨_, _, hc⟩ := Option.bind_eq_some_iff.1 hc
    injection hc with hc
    subst hc
    simp [evalP] at h
  case load t x =>
    obtain ⟨_, _, hc⟩ := Option.bind_eq_some_iff.1 hc
    obtain ⟨_, _, hc⟩ := Option.bind_eq_some_iff.1 hc
    obtain ⟨_, _, hc⟩ := Option.bind_eq_some_iff.1 hc
    injection hc with hc
    subst hc
    simp [evalP] at h
  case store t x y =>
    obtain ⟨_, _, hc⟩ := Option.bind_eq_some_iff.1 hc
    obtain ⟨_, _, hc⟩ := Option.bind_eq_some_iff.1 hc
    obtain ⟨_, _, hc⟩ := Option.bind_eq_some_iff.1 hc
    injection hc with hc
    subst hc
    simp [evalP] at h
  case buildSlice t n ps =>
    obtain ⟨_, _, hc⟩ := Option.bind_eq_some_iff.1 hc
    split at hc
    · obtain ⟨_, _, hc⟩ := Option.bind_eq_some_iff.1 hc
      split at hc
      · cases hc
      · obtain ⟨_, _, hc⟩ := Option.bind_eq_some_iff.1 hc
        obtain ⟨_, _, hc⟩ := Option.bind_eq_some_iff.1 hc
        injection hc with hc
        subst hc
        split at h <;> simp [evalP] at h
    · cases hc
  case makeMap t r =>
    cases r with
    | some r => simp only [cop, reduceCtorEq] at hc
    | none =>
    simp only [cop] at hc
    obtain ⟨_, _, hc⟩ := Option.bind_eq_some_iff.1 hc
    split at hc
    · obtain ⟨_, _, hc⟩ := Option.bind_eq_some_iff.1 hc
      injection hc with hc
      subst hc
      simp [evalP] at h
    · cases hc
  case makeSlice t l c =>
    obtain ⟨_, _, hc⟩ := Option.bind_eq_some_iff.1 hc
    split at hc
    · obtain ⟨_, _, hc⟩ := Option.bind_eq_some_iff.1 hc
      obtain ⟨_, _, hc⟩ := Option.bind_eq_some_iff.1 hc
      obtain ⟨_, _, hc⟩ := Option.bind_eq_some_iff.1 hc
      obtain ⟨_, _, hc⟩ := Option.bind_eq_some_iff.1 hc
      injection hc with hc
      subst hc
      simp [evalP] at h
    · cases hc
  case lookup t m x ok =>
    obtain ⟨_, _, hc⟩ := Option.bind_eq_some_iff.1 hc
    split at hc
    · obtain ⟨_, _, hc⟩ := Option.bind_eq_some_iff.1 hc
      obtain ⟨_, _, hc⟩ := Option.bind_eq_some_iff.1 hc
      obtain ⟨_, _, hc⟩ := Option.bind_eq_some_iff.1 hc
      obtain ⟨_, _, hc⟩ := Option.bind_eq_some_iff.1 hc
      injection hc with hc
      subst hc
      simp [evalP] at h
    · cases hc
  case mapUpdate t m x v =>
    obtain ⟨_, _, hc⟩ := Option.bind_eq_some_iff.1 hc
    split at hc
    · obtain ⟨_, _, hc⟩ := Option.bind_eq_some_iff.1 hc
      obtain ⟨_, _, hc⟩ := Option.bind_eq_some_iff.1 hc
      obtain ⟨_, _, hc⟩ := Option.bind_eq_some_iff.1 hc
      obtain ⟨_, _, hc⟩ := Option.bind_eq_some_iff.1 hc
      injection hc with hc
      subst hc
      simp [evalP] at h
    · cases hc
end
end Go.Ai
