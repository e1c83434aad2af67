/- A whole program: what 'evalI' and 'evalS' say is what the calls do. -/
import Derived.Test.YtlgbbabijifflaaA20
set_option linter.unusedVariables false
set_option linter.unusedSimpArgs false
namespace Go.Ai
open Go.RowKit
section
variable {P : Program} {B0 : Nat}
theorem flat_at {k : Nat} : ∀ (es : List (List AV)), (∀ e ∈ es, e.length = k) → ∀ (i : Nat) (e : List AV) (j : Nat) (x : AV), es[i]? = some e → e[j]? = some x → es.flatten[i * k + j]? = some x
  | [], h, i, e, j, x, he, hx => by simp at he
  | e0 :: es, h, i, e, j, x, he, hx => by
    have h0 := h e0 (by simp)
    have hj : j < e.length := (List.getElem?_eq_some_iff.1 hx).1
    rw [List.flatten_cons]
    cases i with
    | zero =>
      simp at he; subst he
      rw [Nat.zero_mul, Nat.zero_add, List.getElem?_append_left hj]; exact hx
    | succ i =>
      have := flat_at es (fun e he => h e (by simp [he])) i e j x (by simpa using he) hx
      rw [List.getElem?_append_right (by rw [h0, Nat.succ_mul]; omega), h0, show (i + 1) * k + j - k = i * k + j by rw [Nat.succ_mul]; omega]
      exact this
theorem PR.notOwn {Pr : Nat → Prop} {w : World} {v : AV} {u : Value} (h : PR Pr w v u) : isOwn v = false := by cases h <;> rfl
theorem PR.ret {Pr : Nat → Prop} {w : World} {B b : Nat} {v : AV} {u : Value} (h : PR Pr w v u) : RetR Pr w B b v u := by
  have := h.notOwn
  unfold RetR
  split
  · simp [isOwn] at this
  · exact h
/-- As 'Fz', but what was thawed has left the ghost heap. -/
structure Fw (B0 : Nat) (s : Stt) (H : Hp) (t : Stt) (H' : Hp) : Prop where
  step : Step B0 s t
  world : t.w = s.w
  lay : t.lay = s.lay
  sub : SubH H' t.H
  pr : ∀ b, t.Pr b → s.Pr b ∨ Among s H b
  objs : ∀ (l : Nat) (o : LObj), H'[l]? = some (some o) → ∃ o' : LObj, H[l]? = some (some o')
theorem Fz.fw {s t : Stt} {H H' : Hp} (h : Fz B0 s H t H') : Fw B0 s H t H' := ⟨h.step, h.world, h.lay, h.sub, h.pr, h.objs⟩
theorem Fw.trans {s t u : Stt} {H H1 H2 : Hp} (h : Fw B0 s H t H1) (k : Fw B0 t H1 u H2) : Fw B0 s H u H2 :=
  ⟨h.step.trans k.step, k.world.trans h.world, k.lay.trans h.lay, k.sub, fun b hb => (k.pr b hb).elim (h.pr b) fun ⟨l, o, p, h1, h2⟩ =>
    let ⟨o', h3⟩ := h.objs l o h1; .inr ⟨l, o', p, h3, by rw [← h.lay]; exact h2⟩, fun l o ho => let ⟨o1, h1⟩ := k.objs l o ho; h.objs l o1 h1⟩
/-- One result, thawed; l: the object that was given away. -/
def Thawed (B0 : Nat) (s : Stt) (H : Hp) (t : Stt) (H' : Hp) (l : Nat) (y : AV) (u : Value) : Prop :=
  PR t.Pr t.w y u ∨ isOwn y = true ∧ (∃ o, H[l]? = some (some o)) ∧ (∀ o, H'[l]? ≠ some (some o)) ∧ ∃ b p, s.lay l = some (b, p) ∧ RetR t.Pr t.w B0 b y u
theorem thaw_own {s : Stt} {H H' : Hp} {l o n g k : Nat} {y : AV} {u : Value} (hs : Sim B0 s) (hsub : SubH H s.H) (hx : VR s (.ref l o n g k) u) (h : thawV H (.ref l o n g k) = some (y, H')) : ∃ t, Fw B0 s H t H' ∧ Thawed B0 s H t H' l y u := by
  simp only [thawV] at h
  obtain ⟨⟨cs, k1, g', row, frz⟩, hc, h1⟩ := Option.bind_eq_some_iff.1 h
  clear h
  have h := h1
  clear h1
  simp only at h
  split at h
  · rename_i hcond
    obtain ⟨rfl, rfl, rfl, rfl, hlen⟩ := hcond
    simp only [fSet_eq, Option.map_eq_some_iff, Prod.mk.injEq] at h
    obtain ⟨⟨es, H1⟩, h, rfl, rfl⟩ := h
    have hl0 := getC_some hc
    simp only at hl0
    have hl := hsub _ _ hl0
    obtain ⟨b, p, hlay, h0, ⟨cur, e, h1, h2, h3⟩, _, hnp⟩ := hs.obj l _ hl
    have hnp := hnp rfl
    have hlt : l < H.length := (List.getElem?_eq_some_iff.1 hl0).1
    have hsub' : SubH (H.set l none) s.H := fun i q hi => by
      rw [List.getElem?_set] at hi
      split at hi
      · simp at hi
      · exact hsub i q hi
    obtain ⟨t, f1, f2, f3, f4⟩ := listsR_ok (B0 := B0) (d := depth) (fun u x => freezeV_ok depth u x) (fun i j => cur.getD (p + (i * k + j)) undef) k (chunk k n cs) (fun e he => by
      obtain ⟨i, hi⟩ := List.getElem?_of_mem he
      exact chunk_elem hlen.symm hi) s (H.set l none) H1 es hs hsub' (fun i e j x he hx => by
      obtain ⟨c1, c2⟩ := chunk_cell hlen.symm he hx
      obtain ⟨u, hu, hv⟩ := h3 _ x c2
      simp [Array.getD_eq_getD_getElem?, hu]
      exact hv) h
    have hout : ∀ q, H1[l]? ≠ some (some q) := fun q hq => by
      obtain ⟨o', h5⟩ := f1.objs l q hq
      simp [hlt] at h5
    refine ⟨t, ⟨f1.step, f1.world, f1.lay, f1.sub, fun i hi => ?_, fun i q hi => ?_⟩, .inr ⟨rfl, ⟨_, hl0⟩, hout, b, p, hlay, ?_⟩⟩
    · rcases f1.pr i hi with h5 | ⟨l', o', p', a1, a2⟩
      · exact .inl h5
      · rw [List.getElem?_set] at a1
        split at a1
        · simp at a1
        · exact .inr ⟨l', o', p', a1, a2⟩
    · obtain ⟨o', h5⟩ := f1.objs i q hi
      rw [List.getElem?_set] at h5
      split at h5
      · simp at h5
      · exact ⟨o', h5⟩
    · have hn : es.length = n := by rw [f2, chunk_length]
      obtain ⟨g1, g2⟩ := flat_get es f3
      cases hx with
      | pure h => cases h
      | ref _ _ _ _ _ A c ha hnc hA hh =>
        obtain ⟨h6, h7⟩ := hh ⟨cs, k1, true, false, hl⟩ b p hlay
        simp only [bsize, h1, Nat.add_zero] at h6 h7
        refine ⟨A, c, p, cur, e, by rw [hn], by rw [hn]; exact hnc, by rw [hn]; exact hA, h6, h7, by rw [f1.world]; exact h1, h0, fun hp => ?_, f3, ?_, fun j x hx => ?_⟩
        · rcases f1.pr b hp with h | ⟨l', o', p', a1, a2⟩
          · exact hnp h
          · have := hs.inj l' l b p' p a2 hlay
            subst this
            simp [hlt] at a1
        · rw [g1, hn, hlen]; exact h2
        · obtain ⟨i, e', j', he, hx', rfl⟩ := g2 j x hx
          have hi : i < n := by rw [← hn]; exact (List.getElem?_eq_some_iff.1 he).1
          have hj : j' < k := by rw [← f3 e' (List.mem_of_getElem? he)]; exact (List.getElem?_eq_some_iff.1 hx').1
          have hin : i * k + j' < cs.length := by
            rw [← hlen]
            calc i * k + j' < i * k + k := by omega
              _ = (i + 1) * k := by rw [Nat.succ_mul]
              _ ≤ n * k := Nat.mul_le_mul_right k hi
          obtain ⟨u, hu, _⟩ := h3 _ _ (List.getElem?_eq_getElem hin)
          have := f4 i e' j' x he hx'
          simp [Array.getD_eq_getD_getElem?, hu] at this
          exact ⟨u, hu, this⟩
  · cases h
theorem thawV_ok {s : Stt} {H H' : Hp} {x y : AV} {u : Value} (hs : Sim B0 s) (hsub : SubH H s.H) (hx : VR s x u) (h : thawV H x = some (y, H')) : ∃ t l, Fw B0 s H t H' ∧ Thawed B0 s H t H' l y u := by
  have hz : freezeV depth H x = some (y, H') → ∃ t l, Fw B0 s H t H' ∧ Thawed B0 s H t H' l y u := fun h => by
    obtain ⟨t, h1, h2⟩ := freezeV_ok depth u x s H H' y hs hsub hx h
    exact ⟨t, 0, h1.fw, .inl h2⟩
  cases x
  case ref l o n g k =>
    obtain ⟨t, h1, h2⟩ := thaw_own hs hsub hx h
    exact ⟨t, l, h1, h2⟩
  case nilsl =>
    simp only [thawV, Option.some.injEq, Prod.mk.injEq] at h
    obtain ⟨rfl, rfl⟩ := h
    exact ⟨s, 0, (Fz.refl hs hsub).fw, .inl (by cases hx with | pure h => exact h)⟩
  case mtn =>
    simp only [thawV, Option.some.injEq, Prod.mk.injEq] at h
    obtain ⟨rfl, rfl⟩ := h
    exact ⟨s, 0, (Fz.refl hs hsub).fw, .inl (by cases hx with | pure h => exact h)⟩
  case mt =>
    simp only [thawV, Option.some.injEq, Prod.mk.injEq] at h
    obtain ⟨rfl, rfl⟩ := h
    exact ⟨s, 0, (Fz.refl hs hsub).fw, .inl (by cases hx with | pure h => exact h)⟩
  all_goals exact hz h
/-- What was given away stays given away. -/
theorem Thawed.next {s t t' : Stt} {H H1 H2 : Hp} {l : Nat} {y : AV} {u : Value} (hs : Sim B0 s) (hf : Fw B0 s H t H1) (hk : Fw B0 t H1 t' H2) (h : Thawed B0 s H t H1 l y u) : Thawed B0 s H t' H2 l y u := by
  rcases h with h | ⟨h1, h2, h3, b, p, h4, h5⟩
  · exact .inl (h.move hk.step.keeps.pr hk.step.keeps.fr)
  · refine .inr ⟨h1, h2, fun o ho => ?_, b, p, h4, ?_⟩
    · obtain ⟨o', h6⟩ := hk.objs l o ho
      exact h3 o' h6
    · cases y <;> simp only [isOwn, Bool.false_eq_true] at h1
      obtain ⟨A, c, q, cur, e, rfl, o1, o2, o3, o4, o5, o6, o7, o8, o9, o10⟩ := h5
      refine ⟨A, c, q, cur, e, rfl, o1, o2, o3, o4, by rw [hk.world]; exact o5, o6, fun hp => ?_, o8, o9, fun j x hx => ?_⟩
      · rcases hk.pr b hp with h | ⟨l', o', p', a1, a2⟩
        · exact o7 h
        · rw [hf.lay] at a2
          have := hs.inj l' l b p' p a2 h4
          subst this
          exact h3 o' a1
      · obtain ⟨u, hu, hv⟩ := o10 j x hx
        exact ⟨u, hu, hv.move hk.step.keeps.pr hk.step.keeps.fr⟩
theorem thaws_ok : ∀ (rs : List AV) (us : List Value) (s : Stt) (H H' : Hp) (ys : List AV), Sim B0 s → SubH H s.H → rs.length = us.length → (∀ (i : Nat) (x : AV) (u : Value), rs[i]? = some x → us[i]? = some u → VR s x u) → mapH thawV H rs = some (ys, H') →
    ∃ t, Fw B0 s H t H' ∧ ys.length = us.length ∧ ∃ L : Nat → Nat, (∀ (i : Nat) (y : AV) (u : Value), ys[i]? = some y → us[i]? = some u → Thawed B0 s H t H' (L i) y u) ∧
      ∀ (i j : Nat) (y y' : AV), ys[i]? = some y → ys[j]? = some y' → isOwn y = true → isOwn y' = true → L i = L j → i = j
  | [], us, s, H, H', ys, hs, hsub, hl, hv, h => by
    simp only [mapH, Option.some.injEq, Prod.mk.injEq] at h
    obtain ⟨rfl, rfl⟩ := h
    exact ⟨s, (Fz.refl hs hsub).fw, hl, fun _ => 0, fun i y u hy => by simp at hy, fun i j y y' hy => by simp at hy⟩
  | x :: rs, [], s, H, H', ys, hs, hsub, hl, hv, h => by simp at hl
  | x :: rs, u :: us, s, H, H', ys, hs, hsub, hl, hv, h => by
    simp only [mapH] at h
    split at h
    · cases h
    · rename_i y H1 h1
      split at h
      · cases h
      · rename_i ys' H2 h2
        simp only [Option.some.injEq, Prod.mk.injEq] at h
        obtain ⟨rfl, rfl⟩ := h
        obtain ⟨t, l, f1, f2⟩ := thawV_ok hs hsub (hv 0 x u rfl rfl) h1
        obtain ⟨t2, k1, k2, L, k3, k4⟩ := thaws_ok rs us t H1 H2 ys' f1.step.sim f1.sub (by simpa using hl) (fun i x u hx hu => (hv (i + 1) x u (by simpa using hx) (by simpa using hu)).move f1.step.keeps) h2
        have hfirst := f2.next hs f1 k1
        refine ⟨t2, f1.trans k1, by simp [k2], fun i => match i with | 0 => l | i + 1 => L i, fun i z u hz hu => ?_, fun i j z z' hz hz' oz oz' hij => ?_⟩
        · cases i with
          | zero => simp at hz hu; subst hz hu; exact hfirst
          | succ i =>
            rcases k3 i z u (by simpa using hz) (by simpa using hu) with h | ⟨a1, ⟨o, a2⟩, a3, b, p, a4, a5⟩
            · exact .inl h
            · exact .inr ⟨a1, f1.objs _ _ a2, a3, b, p, by rw [← f1.lay]; exact a4, a5⟩
        · have hfar : ∀ j z', ys'[j]? = some z' → isOwn z' = true → isOwn y = true → l ≠ L j := fun j z' hz' oz' oy e => by
            have hj : j < us.length := by rw [← k2]; exact (List.getElem?_eq_some_iff.1 hz').1
            rcases k3 j z' _ hz' (List.getElem?_eq_getElem hj) with h | ⟨a1, ⟨o, a2⟩, _⟩
            · rw [h.notOwn] at oz'; cases oz'
            · rcases f2 with h | ⟨_, _, b3, _⟩
              · rw [h.notOwn] at oy; cases oy
              · rw [← e] at a2; exact b3 o a2
          cases i with
          | zero =>
            cases j with
            | zero => rfl
            | succ j =>
              simp at hz; subst hz
              exact absurd hij (hfar j z' (by simpa using hz') oz' oz)
          | succ i =>
            cases j with
            | zero =>
              simp at hz'; subst hz'
              exact absurd hij.symm (hfar i z (by simpa using hz) oz oz')
            | succ j => rw [k4 i j z z' (by simpa using hz) (by simpa using hz') oz oz' hij]
/-- The program of an interpretation: each of its functions is one of P's; what is specified holds. -/
structure PrgOk (P : Program) (G : Prg) : Prop where
  mixed : P.follows .mixedOrders = true
  ok : ∀ f ir, G.F f = some ir → ∃ fn, P.funcs[f]? = some fn ∧ compile P fn = some ir
  spec : ∀ f g, G.how f ≠ .fresh → G.spec f = some g → IsoOk P f g
  fspec : ∀ f g, G.how f = .fresh → G.spec f = some g → FreshOk P f g
theorem compile_enters {f : Nat} {fn : Func} {ir : IFunc} (hf : P.funcs[f]? = some fn) (hc : compile P fn = some ir) : Enters P f := by
  unfold compile at hc
  split at hc
  · cases hc
  · rename_i hn
    obtain ⟨irs, hr, hc⟩ := Option.bind_eq_some_iff.1 hc
    obtain ⟨c, hb, hc⟩ := Option.bind_eq_some_iff.1 hc
    exact ⟨fn, hf, by simpa using hn, by rw [hb]; rfl⟩
theorem start_sim {Pr : Nat → Prop} {w : World} (hp : ∀ b, Pr b → b < w.heap.size) : Sim w.heap.size ⟨fun _ => none, [], Pr, w⟩ :=
  ⟨fun l o h => by simp at h, fun l l' b p p' h => by simp at h, hp, fun l b p h => by simp at h⟩
/-- One call of a function whose arguments are written no more. -/
theorem iso_core {how : How} (hnf : how ≠ .fresh) {hd : Hands} (hm : P.follows .mixedOrders = true) (ih : HandsOk P hd) {f : Nat} {fn : Func} {ir : IFunc} (hfn : P.funcs[f]? = some fn) (hc : compile P fn = some ir) {n : Nat} {args rs : List AV} {r : List AV × Hp}
    (h1 : evalB hd n ir args [] = some r) (h2 : finish how r = some rs) {Pr : Nat → Prop} {w : World} {vs : Array Value} (hp : ∀ b, Pr b → b < w.heap.size) (ha : ArgsR Pr w args vs) : Calls P f vs w (IsoPost Pr w rs) := by
  obtain ⟨rs', H'⟩ := r
  have hsim := start_sim hp
  refine (body_ok (B0 := w.heap.size) hm ih hfn hc (s := ⟨fun _ => none, [], Pr, w⟩) hsim (Nat.le_refl _) ⟨ha.1, fun i x u hx hu => .pure (ha.2 i x u hx hu)⟩ h1).mono ?_
  rintro e w' ⟨us, t, rfl, rfl, rfl, hst, hva⟩
  refine ⟨us, rfl, ?_⟩
  unfold finish at h2
  rw [if_neg hnf] at h2
  split at h2
  · simp only [Option.map_eq_some_iff] at h2
    obtain ⟨⟨ys, H2⟩, h2, rfl⟩ := h2
    obtain ⟨t2, f1, f2, L, f3, f4⟩ := thaws_ok rs' us.toList t t.H H2 ys hst.sim (.refl _) (by simpa using hva.1) (fun i x u hx hu => hva.2 i x u hx (by simpa using hu)) h2
    have hst2 := hst.trans f1.step
    have hw := f1.world
    let blk : Nat → Nat := fun i => match t.lay (L i) with | some (b, _) => b | none => 0
    refine ⟨t2.Pr, hst2.keeps.pr, fun b hb => by have := hst2.sim.old b hb; rwa [hw] at this, fun b hb h => hst2.prb b hb h, by have := hst2.below; rwa [hw] at this, by simpa using f2, blk, fun i v u hv hu => ?_, fun i j v v' hv hv' o o' e => ?_⟩
    · rcases f3 i v u hv (by simpa using hu) with h | ⟨a1, a2, a3, b, p, a4, a5⟩
      · rw [← hw]; exact h.ret
      · have : blk i = b := by simp only [blk, a4]
        rw [this, ← hw]; exact a5
    · refine f4 i j v v' hv hv' o o' ?_
      have hi : i < us.toList.length := by rw [← f2]; exact (List.getElem?_eq_some_iff.1 hv).1
      have hj : j < us.toList.length := by rw [← f2]; exact (List.getElem?_eq_some_iff.1 hv').1
      rcases f3 i v _ hv (List.getElem?_eq_getElem hi) with h | ⟨a1, a2, a3, b, p, a4, a5⟩
      · rw [h.notOwn] at o; cases o
      · rcases f3 j v' _ hv' (List.getElem?_eq_getElem hj) with h | ⟨b1, b2, b3, b', p', b4, b5⟩
        · rw [h.notOwn] at o'; cases o'
        · simp only [blk, a4, b4] at e
          subst e
          exact hst.sim.inj _ _ _ p p' a4 b4
  · simp only [Option.map_eq_some_iff] at h2
    obtain ⟨⟨ys, H2⟩, h2, rfl⟩ := h2
    obtain ⟨t2, f1, f2, f3⟩ := listR_ok (B0 := w.heap.size) (d := depth) (fun u x => freezeV_ok depth u x) (fun j => us.getD j undef) rs' t t.H H2 ys hst.sim (.refl _) (fun j x hx => by
      have : j < us.size := by have := (List.getElem?_eq_some_iff.1 hx).1; have := hva.1; omega
      exact hva.2 j x _ hx (by simp [this])) h2
    have hst2 := hst.trans f1.step
    have hw := f1.world
    have hpr : ∀ (i : Nat) (v : AV) (u : Value), ys[i]? = some v → us[i]? = some u → PR t2.Pr t.w v u := fun i v u hv hu => by
      have := f3 i v hv
      rw [hw] at this
      simpa [Array.getD_eq_getD_getElem?, hu] using this
    refine ⟨t2.Pr, hst2.keeps.pr, fun b hb => by have := hst2.sim.old b hb; rwa [hw] at this, fun b hb h => hst2.prb b hb h, by have := hst2.below; rwa [hw] at this, f2.trans hva.1, fun _ => 0, fun i v u hv hu => (hpr i v u hv hu).ret, fun i j v v' hv hv' o o' e => ?_⟩
    have hi : i < us.size := by rw [← hva.1, ← f2]; exact (List.getElem?_eq_some_iff.1 hv).1
    have := (hpr i v _ hv (Array.getElem?_eq_getElem hi)).notOwn
    rw [this] at o; cases o
theorem fresh_of {f : Nat} {g : List AV → Option (List AV)} (h : IsoOk P f g) : FreshOk P f fun args => (g args).bind fun rs => if rs.all flatV then some (rs.map unown) else none := by
  obtain ⟨h1, h2⟩ := h
  refine ⟨h1, fun Pr w args vs rs hp ha hg => ?_⟩
  obtain ⟨rs', hg', hg⟩ := Option.bind_eq_some_iff.1 hg
  split at hg
  · rename_i hflat
    injection hg with hg
    subst hg
    refine (h2 Pr w args vs rs' hp ha hg').mono ?_
    rintro e w' ⟨us, rfl, Pr', p1, p2, p3, hbel, hlen, blk, hret, hinj⟩
    refine ⟨us, rfl, hbel, fun b => w.heap.size ≤ b ∧ b < w'.heap.size, fun b h => h, by simpa using hlen, fun i v u hv hu => ?_⟩
    simp only [List.getElem?_map, Option.map_eq_some_iff] at hv
    obtain ⟨x, hx, rfl⟩ := hv
    have hr := hret i x u hx hu
    have hf := List.all_eq_true.1 hflat x (List.mem_of_getElem? hx)
    by_cases ho : isOwn x = true
    · cases x <;> simp only [isOwn, Bool.false_eq_true] at ho
      rename_i k es
      obtain ⟨A, c, p, cur, e, rfl, o1, o2, o3, o4, o5, o6, o7, o8, o9, o10⟩ := hr
      simp only [flatV, List.all_eq_true] at hf
      simp only [unown]
      cases es with
      | nil => exact .list0 _ _ fun hA0 => o3.resolve_right (by rw [hA0]; simp)
      | cons e0 er =>
        obtain ⟨a, rfl⟩ := o2 (by simp)
        have hc : ¬ c = 0 := by simp at o1; omega
        obtain rfl : a = ⟨blk i, p, none⟩ := by
          have := o3.resolve_left hc
          injection this
        obtain ⟨g1, g2⟩ := flat_get (e0 :: er) o8
        have hcell : ∀ (m : Nat) (x : AV), (e0 :: er).flatten[m]? = some x → ∃ u, cur[p + m]? = some u ∧ PR Pr' w' x u := o10
        have hix : ∀ (i' : Nat) (e' : List AV) (j : Nat) (x : AV), (e0 :: er)[i']? = some e' → e'[j]? = some x → (e0 :: er).flatten[i' * k + j]? = some x := flat_at (e0 :: er) o8
        have hlt : blk i < w'.heap.size := (Array.getElem?_eq_some_iff.1 o5).1
        refine .list (blk i) p k c (e0 :: er) (fun i' j => cur.getD (p + (i' * k + j)) undef) ⟨o6, hlt⟩ o1 o8 (fun i' e' j x he hx => ?_) (fun i' e' j x he hx => ?_)
        · obtain ⟨u, hu, hv⟩ := hcell _ x (hix i' e' j x he hx)
          simp [World.cell?, o5, hu, Nat.add_assoc, Array.getD_eq_getD_getElem?]
        · obtain ⟨u, hu, hv⟩ := hcell _ x (hix i' e' j x he hx)
          simp only [Array.getD_eq_getD_getElem?, hu, Option.getD_some]
          exact flat1_PR hv (hf e' (List.mem_of_getElem? he) x (List.mem_of_getElem? hx))
    · have hp : PR Pr' w' x u := by
        unfold RetR at hr
        split at hr
        · simp [isOwn] at ho
        · exact hr
      have : unown x = x := by cases x <;> first | rfl | (simp [isOwn] at ho)
      rw [this]
      exact flatV_PR hp hf
  · cases hg
theorem handsOk {G : Prg} (hG : PrgOk P G) : ∀ k, HandsOk P ⟨G.how, evalI G k, evalS G k⟩
  | 0 => ⟨fun f _ ⟨args, rs, h⟩ => by simp [evalI] at h, fun f _ _ ⟨args, rs, h⟩ => by simp [evalI] at h, fun f _ ⟨args, H, rs, h⟩ => by simp [evalS] at h⟩
  | k + 1 => by
    have ih := handsOk hG k
    refine ⟨fun f hf hex => ?_, fun f hf hff hex => ?_, fun f hf hex => ?_⟩
    · cases hsp : G.spec f with
      | some g =>
        have : evalI G (k + 1) f = g := by funext args; simp [evalI, hsp]
        show FreshOk P f (evalI G (k + 1) f)
        rw [this]
        exact hG.fspec f g hf hsp
      | none =>
        obtain ⟨args0, rs0, h0⟩ := hex
        simp only [evalI, hsp] at h0
        obtain ⟨ir, hir, _⟩ := Option.bind_eq_some_iff.1 h0
        obtain ⟨fn, hfn, hc⟩ := hG.ok f ir hir
        have hthaw : IsoOk P f fun args => (evalB ⟨G.how, evalI G k, evalS G k⟩ k ir args []).bind (finish .thaw) := ⟨compile_enters hfn hc, fun Pr w args vs rs hp ha h => by
          obtain ⟨r, h1, h2⟩ := Option.bind_eq_some_iff.1 h
          exact iso_core (how := .thaw) (by simp) hG.mixed ih hfn hc h1 h2 hp ha⟩
        have heq : evalI G (k + 1) f = fun args => ((evalB ⟨G.how, evalI G k, evalS G k⟩ k ir args []).bind (finish .thaw)).bind fun rs => if rs.all flatV then some (rs.map unown) else none := by
          funext args
          have hf' : G.how f = .fresh := hf
          simp only [evalI, hsp, hir, Option.bind_some, hf']
          cases evalB ⟨G.how, evalI G k, evalS G k⟩ k ir args [] with
          | none => rfl
          | some r =>
            simp only [Option.bind_some, finish, if_true, reduceCtorEq, if_false]
            cases mapH thawV r.2 r.1 <;> rfl
        show FreshOk P f (evalI G (k + 1) f)
        rw [heq]
        exact fresh_of hthaw
    · cases hsp : G.spec f with
      | some g =>
        have : evalI G (k + 1) f = g := by funext args; simp [evalI, hsp]
        show IsoOk P f (evalI G (k + 1) f)
        rw [this]
        exact hG.spec f g hff hsp
      | none =>
        obtain ⟨args0, rs0, h0⟩ := hex
        simp only [evalI, hsp] at h0
        obtain ⟨ir, hir, _⟩ := Option.bind_eq_some_iff.1 h0
        obtain ⟨fn, hfn, hc⟩ := hG.ok f ir hir
        refine ⟨compile_enters hfn hc, fun Pr w args vs rs hp ha h => ?_⟩
        simp only [evalI, hsp, hir, Option.bind_some] at h
        obtain ⟨r, h1, h2⟩ := Option.bind_eq_some_iff.1 h
        exact iso_core hff hG.mixed ih hfn hc h1 h2 hp ha
    · obtain ⟨args0, H0, rs0, h0⟩ := hex
      simp only [evalS] at h0
      obtain ⟨ir, hir, _⟩ := Option.bind_eq_some_iff.1 h0
      obtain ⟨fn, hfn, hc⟩ := hG.ok f ir hir
      refine ⟨compile_enters hfn hc, fun B0 s args vs rs H' hs hB ha h => ?_⟩
      simp only [evalS, hir, Option.bind_some] at h
      exact body_ok hG.mixed ih hfn hc hs hB ha h
/-- A function of the program, called with what is written no more. -/
theorem evalI_ok {G : Prg} (hG : PrgOk P G) {k f : Nat} (hf : G.how f ≠ .shared) (hff : G.how f ≠ .fresh) {args rs : List AV} (h : evalI G k f args = some rs) : IsoOk P f (evalI G k f) := (handsOk hG k).iso f hf hff ⟨args, rs, h⟩
end
end Go.Ai
