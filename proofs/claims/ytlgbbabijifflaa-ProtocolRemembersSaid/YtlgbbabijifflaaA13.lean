/- Calls: what is asked of the called, and what the caller has of it. -/
import Derived.Test.YtlgbbabijifflaaA12
set_option linter.unusedVariables false
set_option linter.unusedSimpArgs false
namespace Go.Ai
open Go.RowKit
def packV (us : Array Value) : Value := if h : us.size = 1 then us[0] else .tuple us
/-- A result that is handed over whole: its block is the caller's from now on. -/
def OwnR (Pr : Nat → Prop) (w : World) (B b k : Nat) (es : List (List AV)) (u : Value) : Prop :=
  ∃ A c p cur e, u = .slice A es.length c ∧ es.length ≤ c ∧ (0 < es.length → ∃ a, A = some a) ∧ (c = 0 ∨ A = some ⟨b, p, none⟩) ∧ p + c * k ≤ cur.size ∧ w.heap[b]? = some (.cells cur e (0, 0)) ∧ B ≤ b ∧ ¬ Pr b ∧
    (∀ e ∈ es, e.length = k) ∧ p + es.flatten.length ≤ cur.size ∧ ∀ (j : Nat) (x : AV), es.flatten[j]? = some x → ∃ u, cur[p + j]? = some u ∧ PR Pr w x u
def isOwn : AV → Bool
  | .own _ _ => true
  | _ => false
def RetR (Pr : Nat → Prop) (w : World) (B b : Nat) (v : AV) (u : Value) : Prop := match v with
  | .own k es => OwnR Pr w B b k es u
  | v => PR Pr w v u
def RetsR (Pr : Nat → Prop) (w : World) (B : Nat) (rs : List AV) (us : Array Value) : Prop :=
  rs.length = us.size ∧ ∃ blk : Nat → Nat, (∀ (i : Nat) (v : AV) (u : Value), rs[i]? = some v → us[i]? = some u → RetR Pr w B (blk i) v u) ∧
    ∀ (i j : Nat) (v v' : AV), rs[i]? = some v → rs[j]? = some v' → isOwn v = true → isOwn v' = true → blk i = blk j → i = j
/-- The function is one with code. -/
def Enters (P : Program) (f : Nat) : Prop := ∃ fn, P.funcs[f]? = some fn ∧ fn.name ≠ "runtime.NumGoroutine" ∧ fn.body.isNone = false
def ArgsR (Pr : Nat → Prop) (w : World) (args : List AV) (vs : Array Value) : Prop := args.length = vs.size ∧ ∀ (i : Nat) (x : AV) (u : Value), args[i]? = some x → vs[i]? = some u → PR Pr w x u
def IsoPost (Pr : Nat → Prop) (w : World) (rs : List AV) : Ending → World → Prop := fun e w' =>
  ∃ us, e = .returned (packV us) ∧ ∃ Pr' : Nat → Prop, (∀ b, Pr b → Pr' b) ∧ (∀ b, Pr' b → b < w'.heap.size) ∧ (∀ b, b < w.heap.size → Pr' b → Pr b) ∧ Below w.heap.size w w' ∧ RetsR Pr' w' w.heap.size rs us
def IsoOk (P : Program) (f : Nat) (g : List AV → Option (List AV)) : Prop :=
  Enters P f ∧ ∀ (Pr : Nat → Prop) (w : World) (args : List AV) (vs : Array Value) (rs : List AV), (∀ b, Pr b → b < w.heap.size) → ArgsR Pr w args vs → g args = some rs → Calls P f vs w (IsoPost Pr w rs)
def VArgs (s : Stt) (args : List AV) (vs : Array Value) : Prop := args.length = vs.size ∧ ∀ (i : Nat) (x : AV) (u : Value), args[i]? = some x → vs[i]? = some u → VR s x u
def ShPost (B0 : Nat) (s : Stt) (rs : List AV) (H' : Hp) : Ending → World → Prop := fun e w' =>
  ∃ us t, e = .returned (packV us) ∧ t.w = w' ∧ t.H = H' ∧ Step B0 s t ∧ VArgs t rs us
def ShOk (P : Program) (f : Nat) (sh : List AV → Hp → Option (List AV × Hp)) : Prop :=
  Enters P f ∧ ∀ (B0 : Nat) (s : Stt) (args : List AV) (vs : Array Value) (rs : List AV) (H' : Hp), Sim B0 s → B0 ≤ s.w.heap.size → VArgs s args vs → sh args s.H = some (rs, H') → Calls P f vs s.w (ShPost B0 s rs H')
/-- What comes back is of new blocks alone. -/
def FreshPost (w : World) (rs : List AV) : Ending → World → Prop := fun e w' =>
  ∃ us, e = .returned (packV us) ∧ Below w.heap.size w w' ∧ ∃ Pr' : Nat → Prop, (∀ b, Pr' b → w.heap.size ≤ b ∧ b < w'.heap.size) ∧ rs.length = us.size ∧ ∀ (i : Nat) (v : AV) (u : Value), rs[i]? = some v → us[i]? = some u → PR Pr' w' v u
def FreshOk (P : Program) (f : Nat) (g : List AV → Option (List AV)) : Prop :=
  Enters P f ∧ ∀ (Pr : Nat → Prop) (w : World) (args : List AV) (vs : Array Value) (rs : List AV), (∀ b, Pr b → b < w.heap.size) → ArgsR Pr w args vs → g args = some rs → Calls P f vs w (FreshPost w rs)
structure HandsOk (P : Program) (hd : Hands) : Prop where
  fr : ∀ f, hd.how f = .fresh → (∃ args rs, hd.iso f args = some rs) → FreshOk P f (hd.iso f)
  iso : ∀ f, hd.how f ≠ .shared → hd.how f ≠ .fresh → (∃ args rs, hd.iso f args = some rs) → IsoOk P f (hd.iso f)
  sh : ∀ f, hd.how f = .shared → (∃ args H rs, hd.sh f args H = some rs) → ShOk P f (hd.sh f)
section
variable {P : Program} {s : Stt} {B0 : Nat}
theorem pack_VR {t : Stt} {rs : List AV} {us : Array Value} (h : VArgs t rs us) : VR t (pack rs) (packV us) := by
  obtain ⟨h1, h2⟩ := h
  unfold pack packV
  split
  · rename_i v
    have : us.size = 1 := by simpa using h1.symm
    rw [dif_pos this]
    exact h2 0 v _ rfl (by simp [this])
  · rename_i hne
    have : us.size ≠ 1 := by
      intro h
      have h3 : rs.length = 1 := by omega
      obtain ⟨v, rfl⟩ := List.length_eq_one_iff.1 h3
      exact hne v rfl
    rw [dif_neg this]
    exact .tup rs us h1 h2
/-- After an isolated call: the caller's state in the new world. -/
theorem step_call (hs : Sim B0 s) (hB : B0 ≤ s.w.heap.size) {w' : World} {Pr' : Nat → Prop} (hbel : Below s.w.heap.size s.w w') (h1 : ∀ b, s.Pr b → Pr' b) (h2 : ∀ b, Pr' b → b < w'.heap.size) (h3 : ∀ b, b < s.w.heap.size → Pr' b → s.Pr b) :
    Step B0 s ⟨s.lay, s.H, Pr', w'⟩ := by
  have hk : Keeps s ⟨s.lay, s.H, Pr', w'⟩ := ⟨h1, fun b hb => hbel.block b (hs.old b hb), fun l g h => ⟨g, Nat.le_refl _, h, fun _ => ⟨rfl, fun b p hl => by simp only [bsize, hbel.block b (hs.lay l b p hl).2]⟩⟩, fun l es h => ⟨⟨es, h⟩, rfl⟩⟩
  have hsz := hbel.size
  refine ⟨hk, ⟨fun l o hl => ?_, hs.inj, h2, fun l b p hl => ?_⟩, hbel.mono hB, fun b hb hp => h3 b (by omega) hp⟩
  · obtain ⟨b, p, a1, a2⟩ := hs.obj l o hl
    have := (hs.lay l b p a1).2
    exact ⟨b, p, a1, a2.move hk (hbel.block b this) ⟨h3 b this, h1 b⟩⟩
  · have := hs.lay l b p hl
    exact ⟨this.1, by simp only; omega⟩
/-- A block that was handed over becomes an object. -/
theorem step_adopt (hs : Sim B0 s) {slot : Option Nat} {cs : List AV} {k l b p : Nat} {H' : Hp} {cur : Array Value} {e : TypeId} (hn : newAt slot (.cells cs k 0 true false) s.H = some (l, H')) (hb : B0 ≤ b) (hcur : s.w.heap[b]? = some (.cells cur e (0, 0))) (hnp : ¬ s.Pr b)
    (hnew : ∀ l' p', s.lay l' ≠ some (b, p')) (hl : p + cs.length ≤ cur.size) (hv : ∀ (j : Nat) (x : AV), cs[j]? = some x → ∃ u, cur[p + j]? = some u ∧ VR s x u) :
    ∃ t, t.H = H' ∧ t.w = s.w ∧ t.Pr = s.Pr ∧ Step B0 s t ∧ t.lay l = some (b, p) ∧ (∀ l', l' ≠ l → t.lay l' = s.lay l') ∧ H'[l]? = some (some (.cells cs k 0 true false)) := by
  obtain ⟨n1, n2, n3, n4, n5⟩ := newAt_spec hn
  let t : Stt := ⟨fun i => if i = l then some (b, p) else s.lay i, H', s.Pr, s.w⟩
  have hat : ∀ i g, atGen s.H i g → i ≠ l := by
    rintro i g ⟨cs, k, r, f, hi⟩ rfl
    exact n3 _ hi
  have hlt : b < s.w.heap.size := (Array.getElem?_eq_some_iff.1 hcur).1
  have hk : Keeps s t := by
    refine ⟨fun _ h => h, fun b hb => rfl, fun i g hg => ⟨g, Nat.le_refl _, ?_, fun _ => ⟨by simp [t, hat i g hg], fun b p hl => rfl⟩⟩, fun i es he => ?_⟩
    · have := hat i g hg
      obtain ⟨cs, k, r, f, hi⟩ := hg
      exact ⟨cs, k, r, f, (n2 i this _).2 hi⟩
    · have hne : i ≠ l := by rintro rfl; exact n3 _ he
      exact ⟨⟨es, (n2 i hne _).2 he⟩, by simp [t, hne]⟩
  refine ⟨t, rfl, rfl, rfl, ⟨hk, ⟨fun i q hi => ?_, fun i i' b1 p1 p2 hi hi' => ?_, hs.old, fun i b1 p1 hi => ?_⟩, Below.refl _ _, fun _ _ h => h⟩, by simp [t], fun l' hl' => by simp [t, hl'], n1⟩
  · by_cases hne : i = l
    · subst hne
      have : some (some (LObj.cells cs k 0 true false)) = some (some q) := n1.symm.trans hi
      simp only [Option.some.injEq] at this
      subst this
      exact ⟨b, p, by simp [t], hb, ⟨cur, e, hcur, hl, fun j x hx => let ⟨u, hu, hv⟩ := hv j x hx; ⟨u, hu, hv.move hk⟩⟩, fun h => by simp at h, fun _ => hnp⟩
    · obtain ⟨b1, p1, h1, h2⟩ := hs.obj i q ((n2 i hne q).1 hi)
      exact ⟨b1, p1, by simp [t, hne, h1], h2.move hk rfl Iff.rfl⟩
  · simp only [t] at hi hi'
    split at hi <;> split at hi'
    · rename_i e1 e2; rw [e1, e2]
    · injection hi with hi; injection hi with h1 h2; subst h1
      exact absurd hi' (hnew _ _)
    · injection hi' with hi'; injection hi' with h1 h2; subst h1
      exact absurd hi (hnew _ _)
    · exact hs.inj i i' b1 p1 p2 hi hi'
  · simp only [t] at hi ⊢
    split at hi
    · injection hi with hi; injection hi with h1 h2
      subst h1
      rename_i e1; subst e1
      exact ⟨n5, hlt⟩
    · have := hs.lay i b1 p1 hi
      exact ⟨by omega, this.2⟩
/-- All that was handed over is taken in. -/
theorem takeIn_ok {slot : Option Nat} {B : Nat} (hB : B0 ≤ B) : ∀ (rs : List AV) (us : List Value) (blk : Nat → Nat) (s : Stt) (vs : List AV) (H' : Hp), Sim B0 s → rs.length = us.length →
    (∀ (i : Nat) (v : AV) (u : Value), rs[i]? = some v → us[i]? = some u → RetR s.Pr s.w B (blk i) v u) →
    (∀ (i j : Nat) (v v' : AV), rs[i]? = some v → rs[j]? = some v' → isOwn v = true → isOwn v' = true → blk i = blk j → i = j) →
    (∀ (i : Nat) (v : AV), rs[i]? = some v → isOwn v = true → ∀ l' p', s.lay l' ≠ some (blk i, p')) → takeIn slot s.H rs = some (vs, H') →
    ∃ t, t.H = H' ∧ t.w = s.w ∧ Step B0 s t ∧ vs.length = us.length ∧ ∀ (i : Nat) (x : AV) (u : Value), vs[i]? = some x → us[i]? = some u → VR t x u
  | [], us, blk, s, vs, H', hs, hl, hr, hi, hn, h => by
    simp only [takeIn, Option.some.injEq, Prod.mk.injEq] at h
    obtain ⟨rfl, rfl⟩ := h
    exact ⟨s, rfl, rfl, .refl hs, hl, fun i x u hx => by simp at hx⟩
  | v :: r, [], blk, s, vs, H', hs, hl, hr, hi, hn, h => by simp at hl
  | v :: r, u :: us, blk, s, vs, H', hs, hl, hr, hi, hn, h => by
    by_cases hv : isOwn v = true
    · cases v <;> simp only [isOwn, Bool.false_eq_true] at hv
      rename_i k es
      simp only [takeIn] at h
      obtain ⟨⟨l, H1⟩, hnew, h⟩ := Option.bind_eq_some_iff.1 h
      simp only [Option.map_eq_some_iff, Prod.mk.injEq] at h
      obtain ⟨⟨vs', H2⟩, hT, rfl, rfl⟩ := h
      obtain ⟨A, c, p, cur, e, rfl, o1, o2, o3, o4, o5, o6, o7, o8, o9, o10⟩ : OwnR s.Pr s.w B (blk 0) k es u := hr 0 _ u rfl rfl
      obtain ⟨t, t1, t2, t3, t4, t5, t6, t7⟩ := step_adopt hs hnew (by omega) o5 o7 (hn 0 _ rfl rfl) o9 (fun j x hx => let ⟨u, hu, hv⟩ := o10 j x hx; ⟨u, hu, .pure hv⟩)
      obtain ⟨t', e1, e2, e3, e4, e5⟩ := takeIn_ok hB r us (fun i => blk (i + 1)) t vs' H2 t4.sim (by simpa using hl) (fun i v u hv hu => by rw [t2, t3]; exact hr (i + 1) v u (by simpa using hv) (by simpa using hu))
        (fun i j v v' a b c d e => by have := hi (i + 1) (j + 1) v v' (by simpa using a) (by simpa using b) c d e; omega)
        (fun i v a b l' p' hlay => by
          by_cases hl' : l' = l
          · subst hl'
            rw [t5] at hlay
            injection hlay with hlay; injection hlay with hlay _
            have := hi 0 (i + 1) _ v rfl (by simpa using a) rfl b hlay
            omega
          · rw [t6 l' hl'] at hlay
            exact hn (i + 1) v (by simpa using a) b l' p' hlay) (by rw [t1]; exact hT)
      refine ⟨t', e1, e2.trans t2, t4.trans e3, by simp [e4], fun i x u hx hu => ?_⟩
      cases i with
      | zero =>
        simp at hx hu
        subst hx hu
        have hat : atGen t.H l 0 := ⟨es.flatten, k, true, false, by rw [t1]; exact t7⟩
        refine VR.move e3.keeps (.ref l 0 es.length 0 k A c ⟨0, Nat.le_refl _, hat⟩ o1 o2 fun _ b' p' hlay => ?_)
        rw [t5] at hlay
        simp only [Option.some.injEq, Prod.mk.injEq] at hlay
        obtain ⟨rfl, rfl⟩ := hlay
        refine ⟨o3, ?_⟩
        rw [t2]
        simp only [bsize, o5, Nat.add_zero]
        exact o4
      | succ i => exact e5 i x u (by simpa using hx) (by simpa using hu)
    · have heq : takeIn slot s.H (v :: r) = (takeIn slot s.H r).map fun q => (v :: q.1, q.2) := by
        cases v <;> first | rfl | (simp [isOwn] at hv)
      rw [heq] at h
      simp only [Option.map_eq_some_iff, Prod.mk.injEq] at h
      obtain ⟨⟨vs', H2⟩, hT, rfl, rfl⟩ := h
      obtain ⟨t', e1, e2, e3, e4, e5⟩ := takeIn_ok hB r us (fun i => blk (i + 1)) s vs' H2 hs (by simpa using hl) (fun i v u hv hu => hr (i + 1) v u (by simpa using hv) (by simpa using hu))
        (fun i j v v' a b c d e => by have := hi (i + 1) (j + 1) v v' (by simpa using a) (by simpa using b) c d e; omega)
        (fun i v a b => hn (i + 1) v (by simpa using a) b) hT
      refine ⟨t', e1, e2, e3, by simp [e4], fun i x u hx hu => ?_⟩
      cases i with
      | zero =>
        simp at hx hu
        subst hx hu
        have := hr 0 v u rfl rfl
        have hp : PR s.Pr s.w v u := by
          unfold RetR at this
          split at this
          · simp [isOwn] at hv
          · exact this
        exact VR.move e3.keeps (.pure hp)
      | succ i => exact e5 i x u (by simpa using hx) (by simpa using hu)
theorem flat1_PR {Pr Pr' : Nat → Prop} {w w' : World} {x : AV} {u : Value} (h : PR Pr w x u) (hf : flat1 x = true) : PR Pr' w' x u := by
  cases h <;> simp [flat1] at hf <;> constructor
theorem flatV_PR {Pr Pr' : Nat → Prop} {w w' : World} {x : AV} {u : Value} (h : PR Pr w x u) (hf : flatV x = true) : PR Pr' w' x u := by
  cases h with
  | agg cs vs hl h =>
    simp only [flatV, List.all_eq_true] at hf
    exact .agg cs vs hl fun i x u hx hu => flat1_PR (h i x u hx hu) (hf x (List.mem_of_getElem? hx))
  | int => constructor
  | bool => constructor
  | str => constructor
  | nilptr => constructor
  | nilfn => constructor
  | nilmap => constructor
  | nilsl => constructor
  | mtn => constructor
  | mt => constructor
  | _ => simp [flatV, flat1] at hf
theorem flat_RetR {Pr Pr' : Nat → Prop} {w : World} {B b : Nat} {x : AV} {u : Value} (h : RetR Pr w B b x u) (hf : flatV x = true) (hp : ¬ Pr' b) : RetR Pr' w B b x u := by
  unfold RetR at h ⊢
  split at h
  · rename_i k es
    obtain ⟨A, c, p, cur, e, rfl, o1, o2, o3, o4, o5, o6, o7, o8, o9, o10⟩ := h
    simp only [flatV, List.all_eq_true] at hf
    refine ⟨A, c, p, cur, e, rfl, o1, o2, o3, o4, o5, o6, hp, o8, o9, fun j x hx => ?_⟩
    obtain ⟨u, hu, hv⟩ := o10 j x hx
    obtain ⟨e', he', hx'⟩ := List.mem_flatten.1 (List.mem_of_getElem? hx)
    exact ⟨u, hu, flat1_PR hv (hf e' he' x hx')⟩
  · exact flatV_PR h hf
set_option maxHeartbeats 400000 in
theorem doCall_ok {hd : Hands} (hh : HandsOk P hd) (hs : Sim B0 s) (hB : B0 ≤ s.w.heap.size) {slot : Option Nat} {f : Nat} {args : List AV} {vs : Array Value} {v : AV} {H' : Hp} (ha : VArgs s args vs) (h : doCall hd slot f args s.H = some (v, H')) :
    Enters P f ∧ Calls P f vs s.w fun e w' => ∃ u t, e = .returned u ∧ t.w = w' ∧ t.H = H' ∧ VR t v u ∧ Step B0 s t := by
  unfold doCall at h
  split at h
  · rename_i hsh
    simp only [Option.map_eq_some_iff, Prod.mk.injEq] at h
    obtain ⟨⟨rs, H1⟩, h, rfl, rfl⟩ := h
    obtain ⟨h1, h2⟩ := hh.sh f hsh ⟨_, _, _, h⟩
    refine ⟨h1, (h2 B0 s args vs rs H1 hs hB ha h).mono ?_⟩
    rintro e w' ⟨us, t, e1, e2, e3, e4, e5⟩
    exact ⟨_, t, e1, e2, e3, pack_VR e5, e4⟩
  rename_i hsh
  split at h
  · rename_i hfr
    obtain ⟨⟨as, Ha⟩, hfz, h⟩ := Option.bind_eq_some_iff.1 h
    simp only [Option.map_eq_some_iff, Prod.mk.injEq] at h
    obtain ⟨rs, hrs, rfl, rfl⟩ := h
    obtain ⟨h1, h2⟩ := hh.fr f hfr ⟨_, _, hrs⟩
    obtain ⟨t, f1, f2, f3⟩ := listR_ok (B0 := B0) (d := depth) (fun u x => freezeV_ok depth u x) (fun j => vs.getD j undef) args s s.H Ha as hs (.refl _) (fun j x hx => by
      have : j < vs.size := by have := (List.getElem?_eq_some_iff.1 hx).1; have := ha.1; omega
      exact ha.2 j x _ hx (by simp [this])) hfz
    have hA : ArgsR t.Pr s.w as vs := ⟨f2.trans ha.1, fun i x u hx hu => by
      have := f3 i x hx
      rw [f1.world] at this
      simpa [Array.getD_eq_getD_getElem?, hu] using this⟩
    refine ⟨h1, (h2 t.Pr s.w as vs rs (fun b hb => by have := f1.step.sim.old b hb; rwa [f1.world] at this) hA hrs).mono ?_⟩
    rintro e w' ⟨us, rfl, hbel, Pr', p1, hlen, hpr⟩
    have hsz := hbel.size
    have hst := step_call hs hB hbel (Pr' := fun b => s.Pr b ∨ Pr' b) (fun _ h => .inl h) (fun b hb => hb.elim (fun h => by have := hs.old b h; omega) fun h => (p1 b h).2) (fun b hlt hb => hb.elim id fun h => by have := (p1 b h).1; omega)
    exact ⟨_, ⟨s.lay, s.H, fun b => s.Pr b ∨ Pr' b, w'⟩, rfl, rfl, rfl, pack_VR ⟨hlen, fun i x u hx hu => .pure ((hpr i x u hx hu).move (fun b h => .inr h) fun b _ => rfl)⟩, hst⟩
  · rename_i hfr
    obtain ⟨⟨as, Ha⟩, hfz, h⟩ := Option.bind_eq_some_iff.1 h
    obtain ⟨rs, hrs, h⟩ := Option.bind_eq_some_iff.1 h
    simp only [Option.map_eq_some_iff, Prod.mk.injEq] at h
    obtain ⟨⟨ws, H1⟩, hT, rfl, rfl⟩ := h
    obtain ⟨h1, h2⟩ := hh.iso f hsh hfr ⟨_, _, hrs⟩
    obtain ⟨t, f1, f2, f3⟩ := listR_ok (B0 := B0) (d := depth) (fun u x => freezeV_ok depth u x) (fun j => vs.getD j undef) args s s.H Ha as hs (.refl _) (fun j x hx => by
      have : j < vs.size := by have := (List.getElem?_eq_some_iff.1 hx).1; have := ha.1; omega
      exact ha.2 j x _ hx (by simp [this])) hfz
    have hA : ArgsR t.Pr s.w as vs := ⟨f2.trans ha.1, fun i x u hx hu => by
      have := f3 i x hx
      rw [f1.world] at this
      simpa [Array.getD_eq_getD_getElem?, hu] using this⟩
    refine ⟨h1, (h2 t.Pr s.w as vs rs (fun b hb => by have := f1.step.sim.old b hb; rwa [f1.world] at this) hA hrs).mono ?_⟩
    rintro e w' ⟨us, rfl, Pr', p1, p2, p3, hbel, hlen, blk, hret, hinj⟩
    have hsz := hbel.size
    split at hT
    · rename_i hflat
      have hst := step_call hs hB hbel (Pr' := s.Pr) (fun _ h => h) (fun b hb => by have := hs.old b hb; omega) (fun _ _ h => h)
      have hb : ∀ (i : Nat) (v : AV) (u : Value), rs[i]? = some v → us[i]? = some u → isOwn v = true → s.w.heap.size ≤ blk i := fun i v u hv hu ho => by
        have := hret i v u hv hu
        cases v <;> simp only [isOwn, Bool.false_eq_true] at ho
        obtain ⟨_, _, _, _, _, _, _, _, _, _, _, h, _⟩ := this
        exact h
      obtain ⟨t2, e1, e2, e3, e4, e5⟩ := takeIn_ok (slot := slot) (B := s.w.heap.size) hB rs us.toList blk ⟨s.lay, s.H, s.Pr, w'⟩ ws H1 hst.sim (by simpa using hlen)
        (fun i v u hv hu => by
          have hu' : us[i]? = some u := by simpa using hu
          have hr := hret i v u hv hu'
          by_cases ho : isOwn v = true
          · exact flat_RetR hr (List.all_eq_true.1 hflat v (List.mem_of_getElem? hv)) fun hp => by have := hs.old _ hp; have := hb i v u hv hu' ho; omega
          · have h5 : PR Pr' w' v u := by
              unfold RetR at hr
              split at hr
              · simp [isOwn] at ho
              · exact hr
            have h6 : PR s.Pr w' v u := flatV_PR h5 (List.all_eq_true.1 hflat v (List.mem_of_getElem? hv))
            unfold RetR
            split
            · simp [isOwn] at ho
            · exact h6) hinj
        (fun i v hv ho l' p' hlay => by
          have hi : i < us.size := by rw [← hlen]; exact (List.getElem?_eq_some_iff.1 hv).1
          have := hb i v _ hv (Array.getElem?_eq_getElem hi) ho
          have := (hs.lay l' _ p' hlay).2
          omega) hT
      exact ⟨_, t2, rfl, e2, e1, pack_VR ⟨by simpa using e4, fun i x u hx hu => e5 i x u hx (by simpa using hu)⟩, hst.trans e3⟩
    · have hHa : t.H = Ha := f1.eq rfl
      have hwt := f1.world
      have hst := step_call f1.step.sim (by rw [hwt]; exact hB) (w' := w') (Pr' := Pr') (by rw [hwt]; exact hbel) p1 p2 (by rw [hwt]; exact p3)
      obtain ⟨t2, e1, e2, e3, e4, e5⟩ := takeIn_ok (slot := slot) (B := s.w.heap.size) hB rs us.toList blk ⟨t.lay, t.H, Pr', w'⟩ ws H1 hst.sim (by simpa using hlen)
        (fun i v u hv hu => hret i v u hv (by simpa using hu)) hinj
        (fun i v hv ho l' p' hlay => by
          have hi : i < us.size := by rw [← hlen]; exact (List.getElem?_eq_some_iff.1 hv).1
          have h5 := hret i v _ hv (Array.getElem?_eq_getElem hi)
          cases v <;> simp only [isOwn, Bool.false_eq_true] at ho
          obtain ⟨_, _, _, _, _, _, _, _, _, _, _, h6, _⟩ := h5
          have := (f1.step.sim.lay l' _ p' hlay).2
          rw [hwt] at this
          omega) (by simpa [hHa] using hT)
      exact ⟨_, t2, rfl, e2, e1, pack_VR ⟨by simpa using e4, fun i x u hx hu => e5 i x u hx (by simpa using hu)⟩, (f1.step.trans hst).trans e3⟩
end
end Go.Ai
