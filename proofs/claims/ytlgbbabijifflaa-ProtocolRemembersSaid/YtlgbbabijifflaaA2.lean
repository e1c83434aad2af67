/- What an abstract value says of a value of the model, in a world; how such facts are carried from a world to a later one. -/
import Derived.Test.YtlgbbabijifflaaA1
import Derived.Below
import Derived.WalkKit
set_option linter.unusedVariables false
namespace Go.Ai
open Go.RowKit

/-- Pure values: 'Pr' holds of the blocks that are written no more. -/
inductive PR (Pr : Nat → Prop) (w : World) : AV → Value → Prop
  | int (k : IntKind) (n : Int) : PR Pr w (.int k n) (.int k n)
  | bool (b : Bool) : PR Pr w (.bool b) (.bool b)
  | str (s : ByteArray) : PR Pr w (.str s) (.string s)
  | nilptr : PR Pr w .nilptr (.pointer none)
  | nilfn : PR Pr w .nilfn .nilFunc
  | nilmap : PR Pr w .nilmap (.map none)
  | nilsl : PR Pr w .nilsl (.slice none 0 0)
  | mtn (a : Addr) : PR Pr w .mtn (.slice (some a) 0 0)
  | mt (A : Option Addr) : PR Pr w .mt (.slice A 0 0)
  | emp (a : Addr) (c : Nat) : PR Pr w .emp (.slice (some a) 0 c)
  | agg (cs : List AV) (vs : Array Value) (hl : cs.length = vs.size) (h : ∀ (i : Nat) (x : AV) (u : Value), cs[i]? = some x → vs[i]? = some u → PR Pr w x u) : PR Pr w (.agg cs) (.agg vs)
  | tup (cs : List AV) (vs : Array Value) (hl : cs.length = vs.size) (h : ∀ (i : Nat) (x : AV) (u : Value), cs[i]? = some x → vs[i]? = some u → PR Pr w x u) : PR Pr w (.tup cs) (.tuple vs)
  | func (f : Nat) (cs : List AV) (vs : Array Value) (hl : cs.length = vs.size) (h : ∀ (i : Nat) (x : AV) (u : Value), cs[i]? = some x → vs[i]? = some u → PR Pr w x u) : PR Pr w (.func f cs) (.func (.func f) #[] vs)
  | list0 (A : Option Addr) (c : Nat) (h : A = none → c = 0) : PR Pr w (.list []) (.slice A 0 c)
  | list (b o k c : Nat) (es : List (List AV)) (U : Nat → Nat → Value) (hb : Pr b) (hc : es.length ≤ c) (hk : ∀ e ∈ es, e.length = k)
      (hw : ∀ (i : Nat) (e : List AV) (j : Nat) (x : AV), es[i]? = some e → e[j]? = some x → w.cell? ⟨b, o + i * k + j, none⟩ = some (U i j))
      (h : ∀ (i : Nat) (e : List AV) (j : Nat) (x : AV), es[i]? = some e → e[j]? = some x → PR Pr w x (U i j)) : PR Pr w (.list es) (.slice (some ⟨b, o, none⟩) es.length c)
  | fptr (b o k i j : Nat) (es : List (List AV)) (U : Nat → Nat → Value) (hb : Pr b) (hk : ∀ e ∈ es, e.length = k)
      (hw : ∀ (i : Nat) (e : List AV) (j : Nat) (x : AV), es[i]? = some e → e[j]? = some x → w.cell? ⟨b, o + i * k + j, none⟩ = some (U i j))
      (h : ∀ (i : Nat) (e : List AV) (j : Nat) (x : AV), es[i]? = some e → e[j]? = some x → PR Pr w x (U i j)) : PR Pr w (.fptr es i j) (.pointer (some ⟨b, o + i * k + j, none⟩))

theorem PR.move {Pr Pr' : Nat → Prop} {w w' : World} (hp : ∀ b, Pr b → Pr' b) (hw : ∀ b, Pr b → w'.heap[b]? = w.heap[b]?) {x : AV} {u : Value} (h : PR Pr w x u) : PR Pr' w' x u := by
  induction h with
  | int => constructor
  | bool => constructor
  | str => constructor
  | nilptr => constructor
  | nilfn => constructor
  | nilmap => constructor
  | nilsl => constructor
  | mtn => constructor
  | mt => constructor
  | emp => constructor
  | agg cs vs hl h ih => exact .agg cs vs hl ih
  | tup cs vs hl h ih => exact .tup cs vs hl ih
  | func f cs vs hl h ih => exact .func f cs vs hl ih
  | list0 A c h => exact .list0 A c h
  | list b o k c es U hb hc hk hcell h ih =>
    exact .list b o k c es U (hp _ hb) hc hk (fun i e j x he hx => (World.cell?_of_block (w := w) (hw b hb)).trans (hcell i e j x he hx)) ih
  | fptr b o k i j es U hb hk hcell h ih =>
    exact .fptr b o k i j es U (hp _ hb) hk (fun i e j x he hx => (World.cell?_of_block (w := w) (hw b hb)).trans (hcell i e j x he hx)) ih

/-- How local memory lies: for each object its block, and where in the block it begins. -/
abbrev Lay := Nat → Option (Nat × Nat)
def bsize (w : World) (b : Nat) : Nat := match w.heap[b]? with
  | some (.cells c _ _) => c.size
  | _ => 0
def atGen (H : Hp) (l g : Nat) : Prop := ∃ cs k r f, H[l]? = some (some (.cells cs k g r f))

structure Stt where
  lay : Lay
  H : Hp
  Pr : Nat → Prop
  w : World

inductive VR (s : Stt) : AV → Value → Prop
  | pure {x : AV} {u : Value} (h : PR s.Pr s.w x u) : VR s x u
  | undef : VR s .undef Go.undef
  | agg (cs : List AV) (vs : Array Value) (hl : cs.length = vs.size) (h : ∀ (i : Nat) (x : AV) (u : Value), cs[i]? = some x → vs[i]? = some u → VR s x u) : VR s (.agg cs) (.agg vs)
  | tup (cs : List AV) (vs : Array Value) (hl : cs.length = vs.size) (h : ∀ (i : Nat) (x : AV) (u : Value), cs[i]? = some x → vs[i]? = some u → VR s x u) : VR s (.tup cs) (.tuple vs)
  | func (f : Nat) (cs : List AV) (vs : Array Value) (hl : cs.length = vs.size) (h : ∀ (i : Nat) (x : AV) (u : Value), cs[i]? = some x → vs[i]? = some u → VR s x u) : VR s (.func f cs) (.func (.func f) #[] vs)
  | ptr (l o g : Nat) (a : Addr) (ha : ∃ g', g ≤ g' ∧ atGen s.H l g') (h : atGen s.H l g → ∀ b p, s.lay l = some (b, p) → a = ⟨b, p + o, none⟩) : VR s (.ptr l o g) (.pointer (some a))
  | ref (l o n g k : Nat) (A : Option Addr) (c : Nat) (ha : ∃ g', g ≤ g' ∧ atGen s.H l g') (hn : n ≤ c) (hA : 0 < n → ∃ a, A = some a)
      (h : atGen s.H l g → ∀ b p, s.lay l = some (b, p) → (c = 0 ∨ A = some ⟨b, p + o, none⟩) ∧ p + o + c * k ≤ bsize s.w b) : VR s (.ref l o n g k) (.slice A n c)
  | map (l b : Nat) (ha : ∃ es, s.H[l]? = some (some (.mp es))) (h : s.lay l = some (b, 0)) : VR s (.map l) (.map (some b))
  | tmpl (b o k : Nat) (es : List (List AV)) (U : Nat → Nat → Value) (hb : s.Pr b) (hk : ∀ e ∈ es, e.length = k)
      (hw : ∀ (i : Nat) (e : List AV) (j : Nat) (x : AV), es[i]? = some e → e[j]? = some x → s.w.cell? ⟨b, o + i * k + j, none⟩ = some (U i j))
      (h : ∀ (i : Nat) (e : List AV) (j : Nat) (x : AV), es[i]? = some e → e[j]? = some x → VR s x (U i j)) : VR s (.tmpl es) (.slice (some ⟨b, o, none⟩) es.length es.length)
  | tptr (b o k i j : Nat) (es : List (List AV)) (U : Nat → Nat → Value) (hb : s.Pr b) (hk : ∀ e ∈ es, e.length = k)
      (hw : ∀ (i : Nat) (e : List AV) (j : Nat) (x : AV), es[i]? = some e → e[j]? = some x → s.w.cell? ⟨b, o + i * k + j, none⟩ = some (U i j))
      (h : ∀ (i : Nat) (e : List AV) (j : Nat) (x : AV), es[i]? = some e → e[j]? = some x → VR s x (U i j)) : VR s (.tptr es i j) (.pointer (some ⟨b, o + i * k + j, none⟩))

/-- What must be kept, so that values are kept: frozen blocks as they were; each object in its place, or at a later generation. -/
structure Keeps (s t : Stt) : Prop where
  pr : ∀ b, s.Pr b → t.Pr b
  fr : ∀ b, s.Pr b → t.w.heap[b]? = s.w.heap[b]?
  ge : ∀ l g, atGen s.H l g → ∃ g', g ≤ g' ∧ atGen t.H l g' ∧ (g' = g → t.lay l = s.lay l ∧ ∀ b p, s.lay l = some (b, p) → bsize t.w b = bsize s.w b)
  mp : ∀ l es, s.H[l]? = some (some (.mp es)) → (∃ es', t.H[l]? = some (some (.mp es'))) ∧ t.lay l = s.lay l

theorem Keeps.refl (s : Stt) : Keeps s s := ⟨fun _ h => h, fun _ _ => rfl, fun l g h => ⟨g, Nat.le_refl _, h, fun _ => ⟨rfl, fun _ _ _ => rfl⟩⟩, fun l es h => ⟨⟨es, h⟩, rfl⟩⟩
theorem atGen_inj {H : Hp} {l g g' : Nat} (h : atGen H l g) (h' : atGen H l g') : g = g' := by
  obtain ⟨cs, k, r, f, h⟩ := h
  obtain ⟨cs', k', r', f', h'⟩ := h'
  rw [h] at h'
  simp at h'
  exact h'.2.2.1
theorem Keeps.trans {s t u : Stt} (h : Keeps s t) (k : Keeps t u) : Keeps s u where
  pr b hb := k.pr b (h.pr b hb)
  fr b hb := (k.fr b (h.pr b hb)).trans (h.fr b hb)
  ge l g hg := by
    obtain ⟨g1, h1, h2, h3⟩ := h.ge l g hg
    obtain ⟨g2, k1, k2, k3⟩ := k.ge l g1 h2
    refine ⟨g2, by omega, k2, fun e => ?_⟩
    obtain ⟨a1, a2⟩ := h3 (by omega)
    obtain ⟨b1, b2⟩ := k3 (by omega)
    exact ⟨b1.trans a1, fun b p hl => (b2 b p (a1.trans hl)).trans (a2 b p hl)⟩
  mp l es he := by
    obtain ⟨⟨es', h1⟩, h2⟩ := h.mp l es he
    obtain ⟨h3, h4⟩ := k.mp l es' h1
    exact ⟨h3, h4.trans h2⟩

theorem VR.move {s t : Stt} (hk : Keeps s t) {x : AV} {u : Value} (h : VR s x u) : VR t x u := by
  have hcell : ∀ (b : Nat) (hb : s.Pr b) (o : Nat), t.w.cell? ⟨b, o, none⟩ = s.w.cell? ⟨b, o, none⟩ := fun b hb o => World.cell?_of_block (w := s.w) (hk.fr b hb)
  induction h with
  | pure h => exact .pure (h.move hk.pr hk.fr)
  | undef => exact .undef
  | agg cs vs hl h ih => exact .agg cs vs hl ih
  | tup cs vs hl h ih => exact .tup cs vs hl ih
  | func f cs vs hl h ih => exact .func f cs vs hl ih
  | ptr l o g a ha h =>
    obtain ⟨g0, h1, h2⟩ := ha
    obtain ⟨g1, h3, h4, h5⟩ := hk.ge l g0 h2
    refine .ptr l o g a ⟨g1, by omega, h4⟩ fun hg b p hl => ?_
    have e1 := atGen_inj hg h4
    obtain rfl : g = g0 := by omega
    exact h h2 b p (by rw [← (h5 e1.symm).1]; exact hl)
  | ref l o n g k A c ha hn hA h =>
    obtain ⟨g0, h1, h2⟩ := ha
    obtain ⟨g1, h3, h4, h5⟩ := hk.ge l g0 h2
    refine .ref l o n g k A c ⟨g1, by omega, h4⟩ hn hA fun hg b p hl => ?_
    have e1 := atGen_inj hg h4
    obtain rfl : g = g0 := by omega
    obtain ⟨h6, h7⟩ := h5 e1.symm
    rw [h6] at hl
    obtain ⟨h8, h9⟩ := h h2 b p hl
    exact ⟨h8, by rw [h7 b p hl]; exact h9⟩
  | map l b ha h =>
    obtain ⟨es, he⟩ := ha
    obtain ⟨h1, h2⟩ := hk.mp l es he
    exact .map l b h1 (h2.trans h)
  | tmpl b o k es U hb hk' hw h ih => exact .tmpl b o k es U (hk.pr b hb) hk' (fun i e j x he hx => (hcell b hb _).trans (hw i e j x he hx)) ih
  | tptr b o k i j es U hb hk' hw h ih => exact .tptr b o k i j es U (hk.pr b hb) hk' (fun i e j x he hx => (hcell b hb _).trans (hw i e j x he hx)) ih

/-! ### Local memory -/
/-- What an object says of its block. B0: where the activation's own blocks begin. -/
def ObjR (s : Stt) (B0 : Nat) (b p : Nat) : LObj → Prop
  | .cells cs k g row frz => B0 ≤ b ∧ (∃ cur e, s.w.heap[b]? = some (.cells cur e (0, 0)) ∧ p + cs.length ≤ cur.size ∧ ∀ (j : Nat) (x : AV), cs[j]? = some x → ∃ u, cur[p + j]? = some u ∧ VR s x u) ∧
      (frz = true → s.Pr b) ∧ (frz = false → ¬ s.Pr b)
  | .mp es => B0 ≤ b ∧ ¬ s.Pr b ∧ p = 0 ∧ ∃ (ents : Array MapEntry) (clock : Nat), s.w.heap[b]? = some (.map ents clock) ∧ ents.size = es.length ∧
      ∀ (j : Nat) (e : AV × AV) (m : MapEntry), es[j]? = some e → ents[j]? = some m → VR s e.1 m.key ∧ VR s e.2 m.val
structure Sim (B0 : Nat) (s : Stt) : Prop where
  obj : ∀ l o, s.H[l]? = some (some o) → ∃ b p, s.lay l = some (b, p) ∧ ObjR s B0 b p o
  inj : ∀ l l' b p p', s.lay l = some (b, p) → s.lay l' = some (b, p') → l = l'
  old : ∀ b, s.Pr b → b < s.w.heap.size
  lay : ∀ l b p, s.lay l = some (b, p) → l < s.H.length ∧ b < s.w.heap.size
/-- The temporaries. -/
def EnvR (s : Stt) (env : List AV) (tmps : Array Value) : Prop :=
  env.length = tmps.size ∧ ∀ (i : Nat) (x : AV) (u : Value), env[i]? = some x → tmps[i]? = some u → VR s x u
theorem EnvR.move {s t : Stt} (hk : Keeps s t) {env : List AV} {tmps : Array Value} (h : EnvR s env tmps) : EnvR t env tmps :=
  ⟨h.1, fun i x u hx hu => (h.2 i x u hx hu).move hk⟩
theorem EnvR.get {s : Stt} {env : List AV} {tmps : Array Value} (h : EnvR s env tmps) (i : Nat) : VR s (getL env i) (tmps.getD i undef) := by
  unfold getL
  rcases Nat.lt_or_ge i env.length with hi | hi
  · have hi' : i < tmps.size := by have := h.1; omega
    have h1 : env[i]? = some env[i] := List.getElem?_eq_getElem hi
    have h2 : tmps[i]? = some tmps[i] := Array.getElem?_eq_getElem hi'
    have := h.2 i _ _ h1 h2
    simpa [List.getD_eq_getElem?_getD, h1, Array.getD_eq_getD_getElem?, h2] using this
  · have h1 : env[i]? = none := List.getElem?_eq_none hi
    have h2 : tmps[i]? = none := Array.getElem?_eq_none (by have := h.1; omega)
    rw [List.getD_eq_getElem?_getD, h1, Array.getD_eq_getD_getElem?, h2]
    exact .undef
theorem EnvR.put {s : Stt} {env : List AV} {a : Act} (h : EnvR s env a.tmps) (d : Option Nat) {x : AV} {u : Value} (hx : VR s x u) :
    EnvR s (putD env d x id) (a.put d u).tmps := by
  cases d with
  | none => exact h
  | some d =>
    simp only [putD, fSet_eq, Act.put, id]
    refine ⟨by simp [h.1], fun i y v hy hv => ?_⟩
    rw [List.getElem?_set] at hy
    rw [Array.getElem?_setIfInBounds] at hv
    by_cases e : d = i
    · subst e
      simp only [if_true] at hy hv
      split at hy
      · split at hv
        · injection hy with hy
          injection hv with hv
          subst hy hv
          exact hx
        · cases hv
      · cases hy
    · rw [if_neg e] at hy hv
      exact h.2 i y v hy hv
theorem avOf_VR {P : Program} {s : Stt} {v : Value} {x : AV} (h : avOf v = some x) : PR s.Pr s.w x v := by
  unfold avOf at h
  split at h <;> (try (injection h with h; subst h)) <;> (try constructor) <;> (try (cases h; done))
  · split at h
    · rename_i f a b hab
      injection h with h
      subst h
      simp only [Bool.and_eq_true, Array.isEmpty_iff] at hab
      obtain ⟨rfl, rfl⟩ := hab
      exact .func f [] #[] rfl (fun i x u hx => by simp at hx)
    · cases h
  · split at h
    · rename_i vs hv
      injection h with h
      subst h
      simp only [Array.isEmpty_iff] at hv
      subst hv
      exact .tup [] #[] rfl (fun i x u hx => by simp at hx)
    · cases h
theorem ex_VR {s : Stt} {env : List AV} {a : Act} (h : EnvR s env a.tmps) {o : Operand} {x : Ex} (hx : ex o = some x) : VR s (x.ev env) (a.eval o) := by
  cases o with
  | tmp t => simp [ex] at hx; subst hx; exact h.get t
  | const v =>
    simp [ex] at hx
    obtain ⟨y, hy, rfl⟩ := hx
    exact .pure (avOf_VR (P := default) hy)
  | func f =>
    simp [ex] at hx
    subst hx
    exact .pure (.func f [] #[] rfl (fun i x u hx => by simp at hx))
  | global g => simp [ex] at hx
end Go.Ai
