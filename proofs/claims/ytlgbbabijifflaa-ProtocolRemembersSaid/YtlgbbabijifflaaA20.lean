/- The code of a function; results. -/
import Derived.Test.YtlgbbabijifflaaA19
import Derived.LoopN
set_option linter.unusedVariables false
set_option linter.unusedSimpArgs false
namespace Go.Ai
open Go.RowKit
def exitOf : Out → Exit
  | .normal => .normal
  | .exit i => .exit i
  | .ret => .ret
section
variable {P : Program} {B0 : Nat}
/-- What is asked at the end of a piece of code. -/
def Ends (B0 : Nat) (s : Stt) (a : Act) (st' : St) (Q : Act → World → Prop) : Prop := ∀ t a', EnvR t st'.env a'.tmps → a'.defers = a.defers → t.H = st'.H → Step B0 s t → Q a' t.w
theorem Ends.next {s t : Stt} {a a' : Act} {st' : St} {Q : Act → World → Prop} (h : Ends B0 s a st' Q) (hd : a'.defers = a.defers) (hst : Step B0 s t) : Ends B0 t a' st' Q :=
  fun u a'' e1 e2 e3 e4 => h u a'' e1 (e2.trans hd) e3 (hst.trans e4)
def CodeOk (P : Program) (B0 : Nat) (f : St → Option (Out × St)) (c : Code) : Prop :=
  ∀ (Q : Exit → Act → World → Prop) (s : Stt) (a : Act) (st : St) (o : Out) (st' : St), EnvR s st.env a.tmps → s.H = st.H → Sim B0 s → B0 ≤ s.w.heap.size → f st = some (o, st') → Ends B0 s a st' (Q (exitOf o)) → c.wp P Q a s.w
theorem loop_ok {c : Code} {f : St → Option (Out × St)} (hc : CodeOk P B0 f c) : ∀ (n : Nat) (Q : Exit → Act → World → Prop) (s : Stt) (a : Act) (st : St) (o : Out) (st' : St), EnvR s st.env a.tmps → s.H = st.H → Sim B0 s → B0 ≤ s.w.heap.size → loopN f n st = some (o, st') → Ends B0 s a st' (Q (exitOf o)) → Code.rounds P c Q n a s.w
  | 0, Q, s, a, st, o, st', he, hH, hs, hB, h, hK => by simp [loopN] at h
  | n + 1, Q, s, a, st, o, st', he, hH, hs, hB, h, hK => by
    simp only [loopN] at h
    rw [rounds_succ]
    split at h
    · cases h
    · rename_i s1 h1
      refine hc _ s a st _ s1 he hH hs hB h1 fun t a' e1 e2 e3 e4 => ?_
      exact loop_ok hc n Q t a' s1 o st' e1 e3 e4.sim (e4.size hB) h (hK.next e2 e4)
    · rename_i o1 s1 hne h1
      simp only [Option.some.injEq, Prod.mk.injEq] at h
      obtain ⟨rfl, rfl⟩ := h
      refine hc _ s a st _ s1 he hH hs hB h1 fun t a' e1 e2 e3 e4 => ?_
      cases o1 with
      | normal => exact absurd rfl hne
      | exit i => exact hK t a' e1 e2 e3 e4
      | ret => exact hK t a' e1 e2 e3 e4
theorem code_ok {hd : Hands} (hm : P.follows .mixedOrders = true) (hh : HandsOk P hd) (n : Nat) : ∀ (c : Code) (ic : IC), comp P c = some ic → CodeOk P B0 (evalC hd n ic) c
  | .skip, ic, hc => by
    simp only [comp, Option.some.injEq] at hc
    subst hc
    intro Q s a st o st' he hH hs hB h hK
    simp only [evalC, Option.some.injEq, Prod.mk.injEq] at h
    obtain ⟨rfl, rfl⟩ := h
    exact wp_skip (hK s a he rfl hH (.refl hs))
  | .region id ops false, ic, hc => by
    simp only [comp] at hc
    obtain ⟨is, his, hc⟩ := Option.bind_eq_some_iff.1 hc
    injection hc with hc
    subst hc
    intro Q s a st o st' he hH hs hB h hK
    simp only [evalC] at h
    split at h
    · cases h
    · rename_i s1 h1
      simp only [Option.some.injEq, Prod.mk.injEq] at h
      obtain ⟨rfl, rfl⟩ := h
      exact region_ok hh his he hH hs hB h1 hK
  | .region id ops true, ic, hc => by
    simp only [comp] at hc
    obtain ⟨is, his, hc⟩ := Option.bind_eq_some_iff.1 hc
    split at hc
    · rename_i hdr
      injection hc with hc
      subst hc
      intro Q s a st o st' he hH hs hB h hK
      simp only [evalC] at h
      split at h
      · cases h
      · rename_i s1 as h1
        split at h
        · rename_i hps
          simp only [Option.some.injEq, Prod.mk.injEq] at h
          obtain ⟨rfl, rfl⟩ := h
          exact draw_ok hm hh his hdr he hH hs hB h1 hps hK
        · cases h
    · cases hc
  | .seq x y, ic, hc => by
    simp only [comp] at hc
    obtain ⟨ix, hx, hc⟩ := Option.bind_eq_some_iff.1 hc
    obtain ⟨iy, hy, hc⟩ := Option.bind_eq_some_iff.1 hc
    injection hc with hc
    subst hc
    intro Q s a st o st' he hH hs hB h hK
    refine wp_seq ?_
    simp only [evalC] at h
    split at h
    · cases h
    · rename_i s1 h1
      refine code_ok hm hh n x ix hx _ s a st _ s1 he hH hs hB h1 fun t a' e1 e2 e3 e4 => ?_
      exact code_ok hm hh n y iy hy Q t a' s1 o st' e1 e3 e4.sim (e4.size hB) h (hK.next e2 e4)
    · rename_i o1 s1 hne h1
      simp only [Option.some.injEq, Prod.mk.injEq] at h
      obtain ⟨rfl, rfl⟩ := h
      refine code_ok hm hh n x ix hx _ s a st _ s1 he hH hs hB h1 fun t a' e1 e2 e3 e4 => ?_
      cases o1 with
      | normal => exact absurd rfl hne
      | exit i => exact hK t a' e1 e2 e3 e4
      | ret => exact hK t a' e1 e2 e3 e4
  | .cond c x y, ic, hc => by
    simp only [comp] at hc
    obtain ⟨ec, hec, hc⟩ := Option.bind_eq_some_iff.1 hc
    obtain ⟨ix, hx, hc⟩ := Option.bind_eq_some_iff.1 hc
    obtain ⟨iy, hy, hc⟩ := Option.bind_eq_some_iff.1 hc
    injection hc with hc
    subst hc
    intro Q s a st o st' he hH hs hB h hK
    have hv := ex_VR he hec
    simp only [evalC] at h
    split at h
    · rename_i hb
      exact wp_cond_true ((vr_bool_iff hv true).1 hb) (code_ok hm hh n x ix hx Q s a st o st' he hH hs hB h hK)
    · rename_i hb
      exact wp_cond_false ((vr_bool_iff hv false).1 hb) (code_ok hm hh n y iy hy Q s a st o st' he hH hs hB h hK)
    · cases h
  | .block i c, ic, hc => by
    simp only [comp] at hc
    obtain ⟨ix, hx, hc⟩ := Option.bind_eq_some_iff.1 hc
    injection hc with hc
    subst hc
    intro Q s a st o st' he hH hs hB h hK
    refine wp_block ?_
    simp only [evalC] at h
    split at h
    · cases h
    · rename_i j s1 h1
      refine code_ok hm hh n c ix hx _ s a st _ s1 he hH hs hB h1 fun t a' e1 e2 e3 e4 => ?_
      simp only [exitOf, Exit.inBlock]
      split at h
      · rename_i e; subst e
        simp only [Option.some.injEq, Prod.mk.injEq] at h
        obtain ⟨rfl, rfl⟩ := h
        rw [if_pos rfl]
        exact hK t a' e1 e2 e3 e4
      · rename_i e
        simp only [Option.some.injEq, Prod.mk.injEq] at h
        obtain ⟨rfl, rfl⟩ := h
        rw [if_neg e]
        exact hK t a' e1 e2 e3 e4
    · rename_i o1 s1 hne h1
      simp only [Option.some.injEq, Prod.mk.injEq] at h
      obtain ⟨rfl, rfl⟩ := h
      refine code_ok hm hh n c ix hx _ s a st _ s1 he hH hs hB h1 fun t a' e1 e2 e3 e4 => ?_
      cases o1 with
      | normal => exact hK t a' e1 e2 e3 e4
      | exit i => exact absurd rfl (hne i)
      | ret => exact hK t a' e1 e2 e3 e4
  | .loop c, ic, hc => by
    simp only [comp] at hc
    obtain ⟨ix, hx, hc⟩ := Option.bind_eq_some_iff.1 hc
    injection hc with hc
    subst hc
    intro Q s a st o st' he hH hs hB h hK
    simp only [evalC] at h
    exact wp_loop_rounds n (loop_ok (code_ok hm hh n c ix hx) n Q s a st o st' he hH hs hB h hK)
  | .exit i, ic, hc => by
    simp only [comp, Option.some.injEq] at hc
    subst hc
    intro Q s a st o st' he hH hs hB h hK
    simp only [evalC, Option.some.injEq, Prod.mk.injEq] at h
    obtain ⟨rfl, rfl⟩ := h
    exact wp_exit (hK s a he rfl hH (.refl hs))
  | .ret, ic, hc => by
    simp only [comp, Option.some.injEq] at hc
    subst hc
    intro Q s a st o st' he hH hs hB h hK
    simp only [evalC, Option.some.injEq, Prod.mk.injEq] at h
    obtain ⟨rfl, rfl⟩ := h
    exact wp_ret (hK s a he rfl hH (.refl hs))
/-! ### Results -/
def resM (tmps : Array Value) : ResultVar → Sem Value
  | .tmp t => pure (tmps.getD t undef)
  | .cell a t => do loadVar t (← asAddr (tmps.getD a undef))
theorem result_ok {s : Stt} {st : St} {tmps : Array Value} (hs : Sim B0 s) (he : EnvR s st.env tmps) (hH : s.H = st.H) {r : ResultVar} {ir : IRes} {v : AV} (hr : cres P r = some ir) (h : result st ir = some v) :
    ∃ u, (resM tmps r).run P s.w = .ok u s.w ∧ VR s v u := by
  cases r with
  | tmp t =>
    simp only [cres, Option.some.injEq] at hr
    subst hr
    simp only [result, Option.some.injEq] at h
    subst h
    exact ⟨_, rfl, he.get t⟩
  | cell t ty =>
    simp only [cres] at hr
    obtain ⟨n, hn, hr⟩ := Option.bind_eq_some_iff.1 hr
    obtain ⟨ag, hag, hr⟩ := Option.bind_eq_some_iff.1 hr
    injection hr with hr
    subst hr
    simp only [result] at h
    split at h
    · rename_i l o g hp
      obtain ⟨⟨cs, k, g', row, frz⟩, hc, h⟩ := Option.bind_eq_some_iff.1 h
      simp only at h
      split at h
      · rename_i hg
        subst hg
        obtain ⟨c, hcut, hm⟩ := Option.bind_eq_some_iff.1 h
        have hl := getC_some hc
        rw [← hH] at hl
        obtain ⟨b, p, cur, e, hlay, h0, h1, h2, h3, h4, h5⟩ := obj_cells hs hl
        have hv := he.get t
        rw [hp] at hv
        cases hv' : tmps.getD t undef with
        | pointer A =>
          rw [hv'] at hv
          cases hv with
          | pure h => cases h
          | ptr _ _ _ a ha hh =>
            obtain rfl := hh ⟨cs, k, row, frz, hl⟩ b p hlay
            obtain ⟨c1, c2⟩ := cut_get hcut
            obtain ⟨u, hu, hvu⟩ := run_loadC (P := P) (s := s) (b := b) (q := p + o) hn hag c1 (fun j x hx => by
              obtain ⟨u, hu, hv⟩ := h4 (o + j) x (c2 j x hx).1
              exact ⟨u, by rw [← hu]; congr 2; omega, hv⟩) hm
            refine ⟨u, ?_, hvu⟩
            simp only [resM, hv', asAddr]
            simpa [Instr.loadAt, Instr.sureAddr] using hu
        | _ => rw [hv'] at hv; cases hv with | pure h => cases h
      · cases h
    · cases h
theorem resL_ok {s : Stt} {st : St} {tmps : Array Value} (hs : Sim B0 s) (he : EnvR s st.env tmps) (hH : s.H = st.H) : ∀ (rs : List ResultVar) (irs : List IRes) (vs : List AV), rs.mapM (cres P) = some irs → resL st irs = some vs →
    ∃ us : List Value, (rs.mapM (resM tmps)).run P s.w = .ok us s.w ∧ vs.length = us.length ∧ ∀ (i : Nat) (x : AV) (u : Value), vs[i]? = some x → us[i]? = some u → VR s x u
  | [], irs, vs, hr, h => by
    simp at hr; subst hr
    simp only [resL, Option.some.injEq] at h
    subst h
    exact ⟨[], rfl, rfl, fun i x u hx => by simp at hx⟩
  | r :: rs, irs, vs, hr, h => by
    simp only [List.mapM_cons] at hr
    obtain ⟨ir, h1, hr⟩ := Option.bind_eq_some_iff.1 hr
    obtain ⟨irs', h2, hr⟩ := Option.bind_eq_some_iff.1 hr
    injection hr with hr
    subst hr
    simp only [resL] at h
    split at h
    · cases h
    · rename_i v hv
      split at h
      · cases h
      · rename_i vs' hvs
        injection h with h
        subst h
        obtain ⟨u, hu, hvu⟩ := result_ok hs he hH h1 hv
        obtain ⟨us, hus, hl, hx⟩ := resL_ok hs he hH rs irs' vs' h2 hvs
        refine ⟨u :: us, ?_, by simp [hl], fun i x w hx' hw => ?_⟩
        · simp only [List.mapM_cons, Sem.run_bind, hu, hus, Result.andThen_ok]
          rfl
        · cases i with
          | zero => simp at hx' hw; subst hx' hw; exact hvu
          | succ i => exact hx i x w (by simpa using hx') (by simpa using hw)
theorem results_run {fn : Func} {tmps : Array Value} {w : World} {us : List Value} (h : (fn.results.toList.mapM (resM tmps)).run P w = .ok us w) : (results fn tmps).run P w = .ok (packV us.toArray) w := by
  have : results fn tmps = (do let vs ← fn.results.mapM (resM tmps); pure (packV vs)) := by
    unfold results packV resM
    congr 1
  rw [this, Array.mapM_eq_mapM_toList]
  simp [Sem.run_bind, h]
/-- The body of a function. -/
theorem body_ok {hd : Hands} (hm : P.follows .mixedOrders = true) (hh : HandsOk P hd) {f : Nat} {fn : Func} {ir : IFunc} (hf : P.funcs[f]? = some fn) (hc : compile P fn = some ir) {n : Nat} {s : Stt} {args : List AV} {vs : Array Value} {rs : List AV} {H' : Hp}
    (hs : Sim B0 s) (hB : B0 ≤ s.w.heap.size) (ha : VArgs s args vs) (h : evalB hd n ir args s.H = some (rs, H')) : Calls P f vs s.w (ShPost B0 s rs H') := by
  unfold compile at hc
  split at hc
  · cases hc
  obtain ⟨irs, hr, hc⟩ := Option.bind_eq_some_iff.1 hc
  obtain ⟨c, hb, hc⟩ := Option.bind_eq_some_iff.1 hc
  obtain ⟨ic, hic, hc⟩ := Option.bind_eq_some_iff.1 hc
  injection hc with hc
  subst hc
  simp only [evalB, fVs_eq] at h
  have key : ∀ (o : Out) (st : St), evalC hd n ic ⟨args ++ List.replicate (fn.ntmps - args.length) .undef, s.H⟩ = some (o, st) → o ≠ .normal ∧ o ≠ .ret ∨ (resL st irs = some rs ∧ st.H = H') → (o = .normal ∨ o = .ret) → Calls P f vs s.w (ShPost B0 s rs H') := by
    intro o st h1 h2 ho
    obtain ⟨h2, h3⟩ := h2.resolve_left (fun hn => ho.elim hn.1 hn.2)
    have he : EnvR s (args ++ List.replicate (fn.ntmps - args.length) .undef) (vs ++ Array.replicate (fn.ntmps - vs.size) undef) := by
      refine ⟨by simp [ha.1], fun i x u hx hu => ?_⟩
      by_cases hi : i < args.length
      · rw [List.getElem?_append_left hi] at hx
        rw [Array.getElem?_append_left (by have := ha.1; omega)] at hu
        exact ha.2 i x u hx hu
      · rw [List.getElem?_append_right (by omega), List.getElem?_replicate] at hx
        rw [Array.getElem?_append_right (by have := ha.1; omega), Array.getElem?_replicate] at hu
        split at hx
        · split at hu
          · injection hx with hx; injection hu with hu
            subst hx hu
            exact .undef
          · cases hu
        · cases hx
    refine calls_of_wp hf hb (code_ok hm hh n c ic hic _ s _ _ o st he rfl hs hB h1 fun t a' e1 e2 e3 e4 => ?_)
    have hfin : a'.defers = [] ∧ ∃ v, (results fn a'.tmps).run P t.w = .ok v t.w ∧ ShPost B0 s rs H' (.returned v) t.w := by
      refine ⟨e2, ?_⟩
      obtain ⟨us, hu1, hu2, hu3⟩ := resL_ok (P := P) e4.sim e1 e3 _ _ _ hr h2
      exact ⟨_, results_run hu1, us.toArray, t, rfl, rfl, e3.trans h3, e4, by simpa using hu2, fun i x u hx hu => hu3 i x u hx (by simpa using hu)⟩
    rcases ho with rfl | rfl
    · exact hfin
    · exact hfin
  split at h
  · cases h
  · cases h
  · rename_i o st hne h1
    split at h
    · cases h
    · rename_i vs' h2
      simp only [Option.some.injEq, Prod.mk.injEq] at h
      obtain ⟨rfl, rfl⟩ := h
      refine key o st h1 (.inr ⟨h2, rfl⟩) ?_
      cases o with
      | normal => exact .inl rfl
      | ret => exact .inr rfl
      | exit i => exact absurd rfl (hne i)
end
end Go.Ai
