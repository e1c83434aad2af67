/- Maps: lookup, update. -/
import Derived.Test.YtlgbbabijifflaaA10
set_option linter.unusedVariables false
set_option linter.unusedSimpArgs false
namespace Go.Ai
open Go.RowKit
section
variable {P : Program} {s : Stt} {B0 : Nat}
theorem findK_spec {ks : Option (List Nat)} {x : AV} : ∀ (es : List (AV × AV)) (r : Option AV), findK ks x es = some r →
    (r = none ∧ ∀ (j : Nat) (e : AV × AV), es[j]? = some e → eqKey ks x e.1 = some false) ∨
    (∃ j e, r = some e.2 ∧ es[j]? = some e ∧ eqKey ks x e.1 = some true ∧ ∀ (j' : Nat) (e' : AV × AV), j' < j → es[j']? = some e' → eqKey ks x e'.1 = some false)
  | [], r, h => by simp [findK] at h; exact .inl ⟨h.symm, fun j e he => by simp at he⟩
  | (k, v) :: es, r, h => by
    simp only [findK] at h
    split at h
    · rename_i hc
      injection h with h
      exact .inr ⟨0, (k, v), h.symm, rfl, hc, fun j' e' hj => by omega⟩
    · rename_i hc
      rcases findK_spec es r h with ⟨h1, h2⟩ | ⟨j, e, h1, h2, h3, h4⟩
      · refine .inl ⟨h1, fun j e he => ?_⟩
        cases j with
        | zero => simp at he; subst he; exact hc
        | succ j => exact h2 j e (by simpa using he)
      · refine .inr ⟨j + 1, e, h1, by simpa using h2, h3, fun j' e' hj he => ?_⟩
        cases j' with
        | zero => simp at he; subst he; exact hc
        | succ j' => exact h4 j' e' (by omega) (by simpa using he)
    · cases h
theorem putK_spec {ks : Option (List Nat)} {x v : AV} : ∀ (es es' : List (AV × AV)), putK ks x v es = some es' →
    (es' = es ++ [(x, v)] ∧ ∀ (j : Nat) (e : AV × AV), es[j]? = some e → eqKey ks x e.1 = some false) ∨
    (∃ j e, es' = es.set j (x, v) ∧ es[j]? = some e ∧ eqKey ks x e.1 = some true ∧ ∀ (j' : Nat) (e' : AV × AV), j' < j → es[j']? = some e' → eqKey ks x e'.1 = some false)
  | [], es', h => by simp [putK] at h; exact .inl ⟨h.symm, fun j e he => by simp at he⟩
  | (k, u) :: es, es', h => by
    simp only [putK] at h
    split at h
    · rename_i hc
      injection h with h
      exact .inr ⟨0, (k, u), h.symm, rfl, hc, fun j' e' hj => by omega⟩
    · rename_i hc
      split at h
      · rename_i r' hr
        injection h with h
        subst h
        rcases putK_spec es r' hr with ⟨h1, h2⟩ | ⟨j, e, h1, h2, h3, h4⟩
        · refine .inl ⟨by rw [h1]; rfl, fun j e he => ?_⟩
          cases j with
          | zero => simp at he; subst he; exact hc
          | succ j => exact h2 j e (by simpa using he)
        · refine .inr ⟨j + 1, e, by rw [h1]; rfl, by simpa using h2, h3, fun j' e' hj he => ?_⟩
          cases j' with
          | zero => simp at he; subst he; exact hc
          | succ j' => exact h4 j' e' (by omega) (by simpa using he)
      · cases h
    · cases h
def KeysR (s : Stt) (es : List (AV × AV)) (ms : List MapEntry) : Prop := es.length = ms.length ∧ ∀ (j : Nat) (e : AV × AV) (m : MapEntry), es[j]? = some e → ms[j]? = some m → VR s e.1 m.key
theorem KeysR.tail {e : AV × AV} {es : List (AV × AV)} {m : MapEntry} {ms : List MapEntry} (h : KeysR s (e :: es) (m :: ms)) : KeysR s es ms :=
  ⟨by simpa using h.1, fun j e m he hm => h.2 (j + 1) e m (by simpa using he) (by simpa using hm)⟩
theorem eqKey_int {k : IntKind} {x y : AV} {u v : Value} {b : Bool} (hx : VR s x u) (hy : VR s y v) (h : eqKey none x y = some b) : Instr.sameNow (.int k) u v = some b := by
  simp only [eqKey] at h
  cases x <;> simp only [eqK1, reduceCtorEq] at h
  cases y <;> simp only [reduceCtorEq] at h
  obtain rfl := vr_int hx
  obtain rfl := vr_int hy
  split at h
  · rename_i e
    subst e
    injection h with h
    subst h
    simp [Instr.sameNow]
  · cases h
theorem eqKey_struct {ks : List Nat} {kt : TypeId} {x y : AV} {u v : Value} {b : Bool} (hk : flatK P kt = some ks) (hx : VR s x u) (hy : VR s y v) (h : eqKey (some ks) x y = some b) (w : World) :
    (Op.equal kt u v).run P w = .ok b w ∧ ∀ fs, Instr.sameNow (.struct fs) u v = none := by
  simp only [eqKey] at h
  split at h
  · obtain ⟨h1, ax, ay, rfl, rfl⟩ := g_eqStruct (P := P) hk hx hy h w
    exact ⟨h1, fun fs => rfl⟩
  · cases h
theorem findNow_int {k : IntKind} {x : AV} {u : Value} (hx : VR s x u) : ∀ (es : List (AV × AV)) (ms : List MapEntry) (i : Nat), KeysR s es ms →
    ((∀ (j : Nat) (e : AV × AV), es[j]? = some e → eqKey none x e.1 = some false) → Instr.findNow (.int k) u ms i = some none) ∧
    (∀ j e m, es[j]? = some e → ms[j]? = some m → eqKey none x e.1 = some true → (∀ (j' : Nat) (e' : AV × AV), j' < j → es[j']? = some e' → eqKey none x e'.1 = some false) → Instr.findNow (.int k) u ms i = some (some (i + j, m.val)))
  | [], [], i, _ => ⟨fun _ => rfl, fun j e m he => by simp at he⟩
  | [], _ :: _, i, h => by have := h.1; simp at this
  | _ :: _, [], i, h => by have := h.1; simp at this
  | e :: es, m :: ms, i, h => by
    obtain ⟨ih1, ih2⟩ := findNow_int hx es ms (i + 1) h.tail
    have hkey := h.2 0 e m rfl rfl
    refine ⟨fun hall => ?_, fun j e' m' he hm ht hf => ?_⟩
    · have := eqKey_int (k := k) hx hkey (hall 0 e rfl)
      simp only [Instr.findNow, this]
      exact ih1 fun j e he => hall (j + 1) e (by simpa using he)
    · cases j with
      | zero =>
        simp at he hm
        subst he hm
        have := eqKey_int (k := k) hx hkey ht
        simp [Instr.findNow, this]
      | succ j =>
        have := eqKey_int (k := k) hx hkey (hf 0 e (by omega) rfl)
        simp only [Instr.findNow, this]
        rw [ih2 j e' m' (by simpa using he) (by simpa using hm) ht (fun j' e' hj he => hf (j' + 1) e' (by omega) (by simpa using he))]
        congr 3
        omega
theorem findAsking_struct {ks : List Nat} {kt : TypeId} {x : AV} {u : Value} (hk : flatK P kt = some ks) (hx : VR s x u) (w : World) : ∀ (es : List (AV × AV)) (ms : List MapEntry) (i : Nat), KeysR s es ms →
    ((∀ (j : Nat) (e : AV × AV), es[j]? = some e → eqKey (some ks) x e.1 = some false) → (Instr.findAsking kt u ms i).run P w = .ok none w) ∧
    (∀ j e m, es[j]? = some e → ms[j]? = some m → eqKey (some ks) x e.1 = some true → (∀ (j' : Nat) (e' : AV × AV), j' < j → es[j']? = some e' → eqKey (some ks) x e'.1 = some false) → (Instr.findAsking kt u ms i).run P w = .ok (some (i + j, m.val)) w)
  | [], [], i, _ => ⟨fun _ => by simp [Instr.findAsking], fun j e m he => by simp at he⟩
  | [], _ :: _, i, h => by have := h.1; simp at this
  | _ :: _, [], i, h => by have := h.1; simp at this
  | e :: es, m :: ms, i, h => by
    obtain ⟨ih1, ih2⟩ := findAsking_struct hk hx w es ms (i + 1) h.tail
    have hkey := h.2 0 e m rfl rfl
    refine ⟨fun hall => ?_, fun j e' m' he hm ht hf => ?_⟩
    · have := (eqKey_struct (P := P) hk hx hkey (hall 0 e rfl) w).1
      simp only [Instr.findAsking, Sem.run_bind, this, Result.andThen_ok, Bool.false_eq_true, if_false]
      exact ih1 fun j e he => hall (j + 1) e (by simpa using he)
    · cases j with
      | zero =>
        simp at he hm
        subst he hm
        have := (eqKey_struct (P := P) hk hx hkey ht w).1
        simp [Instr.findAsking, this]
      | succ j =>
        have := (eqKey_struct (P := P) hk hx hkey (hf 0 e (by omega) rfl) w).1
        simp only [Instr.findAsking, Sem.run_bind, this, Result.andThen_ok, Bool.false_eq_true, if_false]
        rw [ih2 j e' m' (by simpa using he) (by simpa using hm) ht (fun j' e' hj he => hf (j' + 1) e' (by omega) (by simpa using he))]
        congr 3
        omega
/-- The key is sought. -/
theorem run_find {ks : Option (List Nat)} {kt : TypeId} {x : AV} {u : Value} (hk : KeyT P kt ks) (hx : VR s x u) {es : List (AV × AV)} {ms : List MapEntry} (h : KeysR s es ms) (w : World) :
    ((∀ (j : Nat) (e : AV × AV), es[j]? = some e → eqKey ks x e.1 = some false) → (Instr.findKey kt u ms).run P w = .ok none w) ∧
    (∀ j e m, es[j]? = some e → ms[j]? = some m → eqKey ks x e.1 = some true → (∀ (j' : Nat) (e' : AV × AV), j' < j → es[j']? = some e' → eqKey ks x e'.1 = some false) → (Instr.findKey kt u ms).run P w = .ok (some (j, m.val)) w) := by
  cases ks with
  | none =>
    obtain ⟨k, hk⟩ := hk
    obtain ⟨h1, h2⟩ := findNow_int (k := k) hx es ms 0 h
    refine ⟨fun hall => ?_, fun j e m he hm ht hf => ?_⟩
    · simp [Instr.findKey, run_underlying hk, h1 hall]
    · have := h2 j e m he hm ht hf
      simp only [Nat.zero_add] at this
      simp [Instr.findKey, run_underlying hk, this]
  | some ks =>
    obtain ⟨h1, h2⟩ := findAsking_struct (P := P) hk hx w es ms 0 h
    have hu := (flatK_spec hk).1
    cases es with
    | nil =>
      have : ms = [] := List.eq_nil_of_length_eq_zero h.1.symm
      subst this
      exact ⟨fun _ => by simp [Instr.findKey, run_underlying hu, Instr.findNow], fun j e m he => by simp at he⟩
    | cons e0 es =>
      cases ms with
      | nil => have := h.1; simp at this
      | cons m0 ms =>
        have hkey := h.2 0 e0 m0 rfl rfl
        have fin : ∀ b, eqKey (some ks) x e0.1 = some b → Instr.findNow (.struct (P.fieldsOf kt)) u (m0 :: ms) 0 = none := fun b hb => by
          have := (eqKey_struct (P := P) hk hx hkey hb w).2 (P.fieldsOf kt)
          simp only [Instr.findNow, this]
        refine ⟨fun hall => ?_, fun j e m he hm ht hf => ?_⟩
        · simp [Instr.findKey, run_underlying hu, fin _ (hall 0 e0 rfl), h1 hall]
        · have h3 := h2 j e m he hm ht hf
          simp only [Nat.zero_add] at h3
          have h4 : Instr.findNow (.struct (P.fieldsOf kt)) u (m0 :: ms) 0 = none := by
            cases j with
            | zero => simp at he; subst he; exact fin _ ht
            | succ j => exact fin _ (hf 0 e0 (by omega) rfl)
          simp [Instr.findKey, run_underlying hu, h4, h3]
theorem zeroAV_VR {v : Value} {z : AV} (h : zeroAV v = some z) : VR s z v := by
  unfold zeroAV at h
  split at h
  · rename_i cs
    simp only [Option.map_eq_some_iff] at h
    obtain ⟨l, hl, rfl⟩ := h
    obtain ⟨h1, h2⟩ := mapM_avOf (s := s) _ _ hl
    exact .agg _ _ (by simpa using h1) (fun i x u hx hu => h2 i x u hx (by simpa using hu))
  · exact .pure (avOf_VR (P := default) h)
theorem vr_map {l : Nat} {u : Value} (h : VR s (.map l) u) : ∃ b, u = .map (some b) ∧ (∃ es, s.H[l]? = some (some (.mp es))) ∧ s.lay l = some (b, 0) := by
  cases h with
  | pure h => cases h
  | map l b h1 h2 => exact ⟨b, rfl, h1, h2⟩
/-- A map's entries, from within. -/
theorem obj_map (hs : Sim B0 s) {l : Nat} {es : List (AV × AV)} {b : Nat} (hl : s.H[l]? = some (some (.mp es))) (hlay : s.lay l = some (b, 0)) :
    B0 ≤ b ∧ ∃ ents clock, s.w.heap[b]? = some (.map ents clock) ∧ ents.size = es.length ∧ ∀ (j : Nat) (e : AV × AV) (m : MapEntry), es[j]? = some e → ents[j]? = some m → VR s e.1 m.key ∧ VR s e.2 m.val := by
  obtain ⟨b', p, h1, h2, _, _, ents, clock, h3, h4, h5⟩ := hs.obj l _ hl
  rw [hlay] at h1
  simp only [Option.some.injEq, Prod.mk.injEq] at h1
  obtain ⟨rfl, rfl⟩ := h1
  exact ⟨h2, ents, clock, h3, h4, h5⟩
theorem h_lookup {t kt et : TypeId} {z : AV} {ok : Bool} {ks : Option (List Nat)} {m x v : AV} {vm vx : Value} {i : TypeInfo} {H' : Hp} (hs : Sim B0 s) (ht : P.underlying t = some (.map kt et)) (hk : keyK P kt = some ks)
    (hz : ((P.info? et).bind fun i => i.zero.bind zeroAV) = some z) (hm : VR s m vm) (hx : VR s x vx) (h : hLookup s.H z ok ks m x = some (v, H')) :
    ∃ u, (Instr.lookup t vm vx ok).run P s.w = .ok u s.w ∧ VR s v u ∧ H' = s.H := by
  unfold hLookup at h
  split at h
  · rename_i l
    split at h
    · rename_i es hl
      split at h
      · cases h
      · rename_i hok
        simp only [Bool.not_eq_false] at hok
        simp only [Option.map_eq_some_iff, Prod.mk.injEq] at h
        obtain ⟨r, hr, rfl, rfl⟩ := h
        obtain ⟨b, rfl, _, hlay⟩ := vr_map hm
        obtain ⟨_, ents, clock, h1, h2, h3⟩ := obj_map hs hl hlay
        have hget : (getObj b).run P s.w = .ok (.map ents clock) s.w := by simp [getObj, Sem.run, h1]
        have hset : ∀ o, (setObj b o).run P s.w = .ok () { s.w with heap := s.w.heap.setIfInBounds b o } := fun o => by simp [setObj, Sem.run, h1]
        have hK := keyK_spec hk
        have hKR : KeysR s es ents.toList := ⟨by simp [h2], fun j e m he hm => (h3 j e m he (by simpa using hm)).1⟩
        obtain ⟨f1, f2⟩ := run_find (P := P) hK hx hKR s.w
        have hck := run_okKey (P := P) hK hx hok (ents.isEmpty) s.w
        obtain ⟨i, hi, hz⟩ := Option.bind_eq_some_iff.1 hz
        obtain ⟨zv, hzv, hz⟩ := Option.bind_eq_some_iff.1 hz
        rcases findK_spec es r hr with ⟨rfl, hall⟩ | ⟨j, e, rfl, he, ht', hf⟩
        · have hrun := f1 hall
          refine ⟨if ok then .tuple #[zv, .bool false] else zv, ?_, ?_, rfl⟩
          · simp [Instr.lookup, run_underlying ht, hget, hck, hrun, zeroValue, typeInfo, hi, hzv]
          · cases ok
            · exact zeroAV_VR hz
            · refine .tup _ _ rfl fun i x u hx hu => ?_
              match i, hx, hu with
              | 0, hx, hu => simp at hx hu; subst hx hu; exact zeroAV_VR hz
              | 1, hx, hu => simp at hx hu; subst hx hu; exact .pure (.bool false)
              | i + 2, hx, hu => simp at hx
        · have hj : j < ents.size := by rw [h2]; exact (List.getElem?_eq_some_iff.1 he).1
          have hrun := f2 j e ents[j] he (by simp) ht' hf
          have hv := (h3 j e ents[j] he (Array.getElem?_eq_getElem hj)).2
          refine ⟨if ok then .tuple #[ents[j].val, .bool true] else ents[j].val, ?_, ?_, rfl⟩
          · simp [Instr.lookup, run_underlying ht, hget, hck, hrun]
          · cases ok
            · exact hv
            · refine .tup _ _ rfl fun i x u hx hu => ?_
              match i, hx, hu with
              | 0, hx, hu => simp at hx hu; subst hx hu; exact hv
              | 1, hx, hu => simp at hx hu; subst hx hu; exact .pure (.bool true)
              | i + 2, hx, hu => simp at hx
    · cases h
  · cases h
theorem h_mmap {t : TypeId} {slot : Option Nat} {v : AV} {H' : Hp} (hs : Sim B0 s) (hB : B0 ≤ s.w.heap.size) (h : hMmap slot s.H = some (v, H')) :
    ∃ u s', (Instr.makeMap t none).run P s.w = .ok u s'.w ∧ VR s' v u ∧ s'.H = H' ∧ Step B0 s s' := by
  simp only [hMmap, Option.map_eq_some_iff, Prod.mk.injEq] at h
  obtain ⟨⟨l, H1⟩, hn, rfl, rfl⟩ := h
  obtain ⟨t1, e1, e2, e3, e4, e5, e6⟩ := step_new hs hB hn (w' := s.w.alloc (.map #[] 0)) (blk := .map #[] 0) rfl (Below.alloc (.refl _ _) hB _) ⟨rfl, 0, rfl⟩
  exact ⟨.map (some s.w.heap.size), t1, by rw [e2]; simp [Instr.makeMap], .map l _ ⟨[], by rw [e1]; exact e6⟩ e5, e1, e4⟩
theorem setIf_other {w : World} {b i : Nat} {o : Obj} (h : i ≠ b) : ({ w with heap := w.heap.setIfInBounds b o } : World).heap[i]? = w.heap[i]? := by
  simp [Array.getElem?_setIfInBounds_ne (Ne.symm h)]
theorem h_mupd {t kt et : TypeId} {ks : Option (List Nat)} {m x y v : AV} {vm vx vy : Value} {H' : Hp} (hs : Sim B0 s) (ht : P.underlying t = some (.map kt et)) (hk : keyK P kt = some ks)
    (hm : VR s m vm) (hx : VR s x vx) (hy : VR s y vy) (h : hMupd s.H ks m x y = some (v, H')) :
    ∃ s', (Instr.mapUpdate t vm vx vy).run P s.w = .ok () s'.w ∧ s'.H = H' ∧ v = .undef ∧ Step B0 s s' := by
  unfold hMupd at h
  split at h
  · rename_i l
    split at h
    · rename_i es hl
      split at h
      · cases h
      · rename_i hok
        simp only [Bool.not_eq_false] at hok
        obtain ⟨es', hp, h⟩ := Option.bind_eq_some_iff.1 h
        simp only [setH, fO_eq, fSet_eq, Option.some.injEq, Prod.mk.injEq] at h
        obtain ⟨rfl, rfl⟩ := h
        obtain ⟨b, rfl, _, hlay⟩ := vr_map hm
        obtain ⟨hB, ents, clock, h1, h2, h3⟩ := obj_map hs hl hlay
        have hget : (getObj b).run P s.w = .ok (.map ents clock) s.w := by simp [getObj, Sem.run, h1]
        have hset : ∀ o, (setObj b o).run P s.w = .ok () { s.w with heap := s.w.heap.setIfInBounds b o } := fun o => by simp [setObj, Sem.run, h1]
        have hK := keyK_spec hk
        have hKR : KeysR s es ents.toList := ⟨by simp [h2], fun j e m he hm => (h3 j e m he (by simpa using hm)).1⟩
        obtain ⟨f1, f2⟩ := run_find (P := P) hK hx hKR s.w
        have hck := run_okKey (P := P) hK hx hok false s.w
        have hlt : b < s.w.heap.size := (Array.getElem?_eq_some_iff.1 h1).1
        have go : ∀ (ents' : Array MapEntry) (clock' : Nat), ents'.size = es'.length → (∀ (j : Nat) (e : AV × AV) (m : MapEntry), es'[j]? = some e → ents'[j]? = some m → VR s e.1 m.key ∧ VR s e.2 m.val) →
            ∃ s', s'.w = { s.w with heap := s.w.heap.setIfInBounds b (.map ents' clock') } ∧ s'.H = s.H.set l (some (.mp es')) ∧ Step B0 s s' := by
          intro ents' clock' hl' hv'
          obtain ⟨t1, e1, e2, e3, e4, e5⟩ := step_map hs (w' := { s.w with heap := s.w.heap.setIfInBounds b (.map ents' clock') }) (ents := ents') (clock := clock') hl hlay (by simp [hlt]) (fun i hi => setIf_other hi)
            ⟨rfl, rfl, rfl, by simp, fun i hi => setIf_other (by omega)⟩ hl' hv'
          exact ⟨t1, e2, e1, e5⟩
        rcases putK_spec es es' hp with ⟨rfl, hall⟩ | ⟨j, e, rfl, he, ht', hf⟩
        · have hrun := f1 hall
          obtain ⟨s', e1, e2, e3⟩ := go (ents.push { key := vx, val := vy, born := clock }) (clock + 1) (by simp [h2]) (fun j e m he hm => by
            by_cases hj : j < es.length
            · rw [List.getElem?_append_left hj] at he
              rw [Array.getElem?_push, if_neg (by omega)] at hm
              exact h3 j e m he hm
            · rw [List.getElem?_append_right (by omega)] at he
              have hj0 : j - es.length = 0 := by have := (List.getElem?_eq_some_iff.1 he).1; simp at this; omega
              rw [hj0] at he
              have : j = ents.size := by omega
              subst this
              simp at he hm
              subst he hm
              exact ⟨hx, hy⟩)
          exact ⟨s', by rw [e1]; simp [Instr.mapUpdate, run_underlying ht, hget, hck, hrun, hset], e2, rfl, e3⟩
        · have hj : j < ents.size := by rw [h2]; exact (List.getElem?_eq_some_iff.1 he).1
          have hrun := f2 j e ents[j] he (by simp) ht' hf
          have hkey := (h3 j e ents[j] he (Array.getElem?_eq_getElem hj)).1
          have hsame := key_same hx hkey hok ht'
          obtain ⟨s', e1, e2, e3⟩ := go (ents.modify j fun e => { e with key := vx, val := vy }) clock (by simp [h2]) (fun i e' m he' hm => by
            rw [List.getElem?_set] at he'
            rw [Array.getElem?_modify] at hm
            by_cases hij : j = i
            · subst hij
              simp only [if_true] at he' hm
              split at he'
              · injection he' with he'
                subst he'
                simp [hj] at hm
                subst hm
                exact ⟨hx, hy⟩
              · cases he'
            · rw [if_neg hij] at he' hm
              exact h3 i e' m he' hm)
          refine ⟨s', ?_, e2, rfl, e3⟩
          rw [e1]
          simp [Instr.mapUpdate, run_underlying ht, hget, hck, hrun, Instr.keyThatStays, hj, hsame, hset]
    · cases h
  · cases h
end
end Go.Ai
