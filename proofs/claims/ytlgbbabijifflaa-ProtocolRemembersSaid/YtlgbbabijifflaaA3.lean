/- Operations that hang on the temporaries alone: what the interpreter says of them, the model does. -/
import Derived.Test.YtlgbbabijifflaaA2
import Derived.Laws.StructEq
set_option linter.unusedVariables false
set_option linter.unusedSimpArgs false
namespace Go.Ai
open Go.RowKit

/-! ### What a value's relation says, turned round -/
section
variable {s : Stt} {u : Value}
theorem vr_int {k : IntKind} {n : Int} (h : VR s (.int k n) u) : u = .int k n := by
  cases h with
  | pure h => cases h; rfl
theorem vr_bool {b : Bool} (h : VR s (.bool b) u) : u = .bool b := by
  cases h with
  | pure h => cases h; rfl
theorem vr_str {b : ByteArray} (h : VR s (.str b) u) : u = .string b := by
  cases h with
  | pure h => cases h; rfl
theorem vr_agg {cs : List AV} (h : VR s (.agg cs) u) : ∃ vs : Array Value, u = .agg vs ∧ cs.length = vs.size ∧ ∀ (i : Nat) (x : AV) (v : Value), cs[i]? = some x → vs[i]? = some v → VR s x v := by
  cases h with
  | pure h => cases h with
    | agg _ vs hl h => exact ⟨vs, rfl, hl, fun i x v hx hv => .pure (h i x v hx hv)⟩
  | agg _ vs hl h => exact ⟨vs, rfl, hl, h⟩
theorem vr_tup {cs : List AV} (h : VR s (.tup cs) u) : ∃ vs : Array Value, u = .tuple vs ∧ cs.length = vs.size ∧ ∀ (i : Nat) (x : AV) (v : Value), cs[i]? = some x → vs[i]? = some v → VR s x v := by
  cases h with
  | pure h => cases h with
    | tup _ vs hl h => exact ⟨vs, rfl, hl, fun i x v hx hv => .pure (h i x v hx hv)⟩
  | tup _ vs hl h => exact ⟨vs, rfl, hl, h⟩
theorem vr_func {f : Nat} {cs : List AV} (h : VR s (.func f cs) u) : ∃ vs : Array Value, u = .func (.func f) #[] vs ∧ cs.length = vs.size ∧ ∀ (i : Nat) (x : AV) (v : Value), cs[i]? = some x → vs[i]? = some v → VR s x v := by
  cases h with
  | pure h => cases h with
    | func _ _ vs hl h => exact ⟨vs, rfl, hl, fun i x v hx hv => .pure (h i x v hx hv)⟩
  | func _ _ vs hl h => exact ⟨vs, rfl, hl, h⟩
end
section
variable {P : Program} {w : World}
theorem run_tag {t : TypeId} {b : Bool} (h : tag P t = some b) : (isAgg t).run P w = .ok b w := by
  unfold tag at h
  cases hd : P.underlying t with
  | none => simp [hd] at h
  | some d =>
    simp only [isAgg, Sem.run_bind, run_underlying hd, Result.andThen_ok]
    rw [hd] at h
    cases d <;> simp at h <;> subst h <;> rfl
theorem run_tsize {t : TypeId} {n : Nat} (h : tsize P t = some n) : (sizeOf t).run P w = .ok n w := by
  unfold tsize at h
  cases hi : P.info? t with
  | none => simp [hi] at h
  | some i => simp [hi] at h; subst h; simp [sizeOf, typeInfo, hi]
theorem run_tzero {t : TypeId} {z : List AV} (h : tzero P t = some z) : ∃ v, (zeroValue t).run P w = .ok v w ∧ cellsOf v = some z := by
  unfold tzero at h
  cases hi : P.info? t with
  | none => simp [hi] at h
  | some i =>
    cases hz : i.zero with
    | none => simp [hi, hz] at h
    | some v => simp [hi, hz] at h; exact ⟨v, by simp [zeroValue, typeInfo, hi, hz], h⟩
end
theorem cut_some {cs c : List AV} {off n : Nat} (h : cut cs off n = some c) : off + n ≤ cs.length ∧ c = (cs.drop off).take n := by
  unfold cut at h
  split at h
  · injection h with h; exact ⟨by assumption, h.symm⟩
  · cases h
theorem mkv_one {cs : List AV} {v : AV} (h : mkv false cs = some v) : cs = [v] := by
  unfold mkv at h
  simp only [Bool.false_eq_true, if_false] at h
  split at h
  · injection h with h; subst h; rfl
  · cases h
/-- Cells cut out of cells. -/
theorem cells_cut {s : Stt} {cs c : List AV} {vs : Array Value} {off n : Nat} (hl : cs.length = vs.size) (h : ∀ (i : Nat) (x : AV) (v : Value), cs[i]? = some x → vs[i]? = some v → VR s x v)
    (hc : cut cs off n = some c) : VR s (.agg c) (.agg (vs.extract off (off + n))) ∧ (∀ v, c = [v] → n = 1 ∧ ∃ u, vs[off]? = some u ∧ VR s v u) := by
  obtain ⟨h1, rfl⟩ := cut_some hc
  constructor
  · refine .agg _ _ (by simp; omega) fun i x v hx hv => ?_
    rw [List.getElem?_take] at hx
    rw [Array.getElem?_extract] at hv
    split at hx
    · rw [List.getElem?_drop] at hx
      split at hv
      · exact h (off + i) x v hx hv
      · cases hv
    · cases hx
  · intro v hv
    have hlen : ((cs.drop off).take n).length = 1 := by rw [hv]; rfl
    have hn : n = 1 := by simp at hlen; omega
    refine ⟨hn, vs[off]'(by omega), Array.getElem?_eq_getElem (by omega), ?_⟩
    refine h off v _ ?_ (Array.getElem?_eq_getElem (by omega))
    have h0 : ((cs.drop off).take n)[0]? = some v := by rw [hv]; rfl
    rw [List.getElem?_take, if_pos (by omega), List.getElem?_drop] at h0
    simpa using h0

section
variable {P : Program} {s : Stt} {a : Act} {o : Oper} {ops : Array Oper}
/-- What an operation that only looks comes to. -/
def Gives (P : Program) (s : Stt) (a : Act) (o : Oper) (v : AV) : Prop := ∃ u, (execOp a.eval o).run P s.w = .ok (.value u) s.w ∧ VR s v u

theorem g_part {t : TypeId} {cs c : List AV} {vs : Array Value} {off n : Nat} {ag : Bool} {v : AV} (hs : tsize P t = some n) (hg : tag P t = some ag) (hl : cs.length = vs.size)
    (h : ∀ (i : Nat) (x : AV) (v : Value), cs[i]? = some x → vs[i]? = some v → VR s x v) (hc : cut cs off n = some c) (hm : mkv ag c = some v) :
    ∃ u, (part t vs off).run P s.w = .ok u s.w ∧ VR s v u := by
  obtain ⟨h1, h2⟩ := cells_cut hl h hc
  cases ag with
  | true =>
    simp [mkv] at hm
    subst hm
    exact ⟨_, by simp [part, run_tag hg, run_tsize hs], h1⟩
  | false =>
    have hcv := mkv_one hm
    obtain ⟨rfl, u, hu, hv⟩ := h2 v hcv
    exact ⟨u, by simp [part, run_tag hg, hu], hv⟩
theorem g_pick {c x y : AV} {vc vx vy : Value} {v : AV} (hc : VR s c vc) (hx : VR s x vx) (hy : VR s y vy) (h : pPick c x y = some v) :
    ∃ u, (do pure (Next.value (if ← asBool vc then vx else vy)) : Sem Next).run P s.w = .ok (.value u) s.w ∧ VR s v u := by
  unfold pPick at h
  split at h
  · rename_i t
    injection h with h
    subst h
    obtain rfl := vr_bool hc
    cases t
    · exact ⟨vy, by simp [asBool], hy⟩
    · exact ⟨vx, by simp [asBool], hx⟩
  · cases h
theorem g_field {t : TypeId} {fs : Array Field} {f : Field} {i n : Nat} {ag : Bool} {x v : AV} {vx : Value} (ht : P.underlying t = some (.struct fs)) (hf : fs[i]? = some f) (hs : tsize P f.type = some n) (hg : tag P f.type = some ag)
    (hx : VR s x vx) (h : pField f.offset n ag x = some v) : ∃ u, (Instr.field t vx i).run P s.w = .ok u s.w ∧ VR s v u := by
  unfold pField at h
  split at h
  · rename_i cs
    obtain ⟨vs, rfl, hl, hv⟩ := vr_agg hx
    obtain ⟨c, hc, hm⟩ := Option.bind_eq_some_iff.1 h
    obtain ⟨u, hu, hr⟩ := g_part hs hg hl hv hc hm
    exact ⟨u, by simp [Instr.field, run_underlying ht, hf, asAgg, hu], hr⟩
  · cases h
theorem vr_ptr {l o g : Nat} {u : Value} (h : VR s (.ptr l o g) u) : ∃ a, u = .pointer (some a) ∧ (∃ g', g ≤ g' ∧ atGen s.H l g') ∧ (atGen s.H l g → ∀ b p, s.lay l = some (b, p) → a = ⟨b, p + o, none⟩) := by
  cases h with
  | pure h => cases h
  | ptr _ _ _ a ha h => exact ⟨a, rfl, ha, h⟩
theorem vr_ptr_add {l o g n : Nat} {a : Addr} (h : VR s (.ptr l o g) (.pointer (some a))) : VR s (.ptr l (o + n) g) (.pointer (some (a.add n))) := by
  obtain ⟨a', e, ha, h⟩ := vr_ptr h
  injection e with e
  injection e with e
  subst e
  exact .ptr l _ g _ ha fun hg b p hl => by rw [h hg b p hl, Addr.add_lit, Nat.add_assoc]
theorem vr_fptr_add {es : List (List AV)} {i j n : Nat} {u : Value} (h : VR s (.fptr es i j) u) : ∃ a, u = .pointer (some a) ∧ VR s (.fptr es i (j + n)) (.pointer (some (a.add n))) := by
  cases h with
  | pure h => cases h with
    | fptr b o k _ _ _ U hb hk hw hh =>
      refine ⟨_, rfl, ?_⟩
      rw [Addr.add_lit, Nat.add_assoc]
      exact .pure (.fptr b o k i (j + n) es U hb hk hw hh)
theorem vr_tptr_add {es : List (List AV)} {i j n : Nat} {u : Value} (h : VR s (.tptr es i j) u) : ∃ a, u = .pointer (some a) ∧ VR s (.tptr es i (j + n)) (.pointer (some (a.add n))) := by
  cases h with
  | pure h => cases h
  | tptr b o k _ _ _ U hb hk hw hh =>
    refine ⟨_, rfl, ?_⟩
    rw [Addr.add_lit, Nat.add_assoc]
    exact .tptr b o k i (j + n) es U hb hk hw hh
theorem g_faddr {t : TypeId} {fs : Array Field} {f : Field} {i n : Nat} {x v : AV} {vx : Value} (ht : P.underlying t = some (.struct fs)) (hf : fs[i]? = some f) (hs : tsize P f.type = some n) (hn : n ≠ 0)
    (hx : VR s x vx) (h : pFaddr f.offset x = some v) : ∃ u, (Instr.fieldAt t vx i).run P s.w = .ok u s.w ∧ VR s v u := by
  have key : ∀ (a : Addr), (Instr.fieldAt t (.pointer (some a)) i).run P s.w = .ok (.pointer (some (a.add f.offset))) s.w := by
    intro a
    simp [Instr.fieldAt, run_underlying ht, hf, Instr.sureAddr, fieldPlace, run_tsize hs, hn]
  unfold pFaddr at h
  split at h
  · injection h with h
    subst h
    obtain ⟨a, rfl, _⟩ := vr_ptr hx
    exact ⟨_, key a, vr_ptr_add hx⟩
  · injection h with h
    subst h
    obtain ⟨a, rfl, hr⟩ := vr_fptr_add (n := f.offset) hx
    exact ⟨_, key a, hr⟩
  · injection h with h
    subst h
    obtain ⟨a, rfl, hr⟩ := vr_tptr_add (n := f.offset) hx
    exact ⟨_, key a, hr⟩
  · cases h
theorem vr_ref {l o n g k : Nat} {u : Value} (h : VR s (.ref l o n g k) u) : ∃ A c, u = .slice A n c ∧ (∃ g', g ≤ g' ∧ atGen s.H l g') ∧ n ≤ c ∧ (0 < n → ∃ a, A = some a) ∧
    (atGen s.H l g → ∀ b p, s.lay l = some (b, p) → (c = 0 ∨ A = some ⟨b, p + o, none⟩) ∧ p + o + c * k ≤ bsize s.w b) := by
  cases h with
  | pure h => cases h
  | ref _ _ _ _ _ A c ha hn hA h => exact ⟨A, c, rfl, ha, hn, hA, h⟩
theorem lenIs_spec {k k' : Nat} {es : List (List AV)} (h : lenIs k es = true) (hk : ∀ e ∈ es, e.length = k') (hne : es ≠ []) : k = k' := by
  cases es with
  | nil => exact absurd rfl hne
  | cons e r =>
    simp [lenIs] at h
    have := hk e (by simp)
    omega
theorem g_iaddr {t e : TypeId} {k : Nat} {x i v : AV} {vx vi : Value} (ht : P.underlying t = some (.slice e)) (hs : tsize P e = some k) (hx : VR s x vx) (hi : VR s i vi) (h : pIaddr k x i = some v) :
    ∃ u, (Instr.indexAt t vx vi).run P s.w = .ok u s.w ∧ VR s v u := by
  unfold pIaddr at h
  split at h
  case h_2 => cases h
  rename_i kd n
  obtain rfl := vr_int hi
  have key : ∀ (a : Addr) (len cap : Nat), 0 ≤ n → n < len → (Instr.indexAt t (.slice (some a) len cap) (.int kd n)).run P s.w = .ok (.pointer (some (a.add (n.toNat * k)))) s.w := by
    intro a len cap h0 h1
    simp [Instr.indexAt, asIntOf, run_underlying ht, h0, h1, run_tsize hs]
  split at h
  · rename_i es
    split at h
    · rename_i hc
      injection h with h
      subst h
      obtain ⟨h0, h1, h2⟩ := hc
      cases hx with
      | pure hx => cases hx with
        | list0 => simp at h1; omega
        | list b o k' c _ U hb hcc hk hw hh =>
          have hne : es ≠ [] := by rintro rfl; simp at h1; omega
          obtain rfl := lenIs_spec h2 hk hne
          refine ⟨_, key _ _ _ h0 (by exact_mod_cast h1), ?_⟩
          rw [Addr.add_lit]
          exact .pure (.fptr b o k n.toNat 0 es U hb hk hw hh)
    · cases h
  · rename_i es
    split at h
    · rename_i hc
      injection h with h
      subst h
      obtain ⟨h0, h1, h2⟩ := hc
      cases hx with
      | pure hx => cases hx
      | tmpl b o k' _ U hb hk hw hh =>
        have hne : es ≠ [] := by rintro rfl; simp at h1; omega
        obtain rfl := lenIs_spec h2 hk hne
        refine ⟨_, key _ _ _ h0 (by exact_mod_cast h1), ?_⟩
        rw [Addr.add_lit]
        exact .tptr b o k n.toNat 0 es U hb hk hw hh
    · cases h
  · rename_i l o m g k'
    split at h
    · rename_i hc
      injection h with h
      subst h
      obtain ⟨h0, h1, rfl⟩ := hc
      obtain ⟨A, c, rfl, ha, hn, hA, hh⟩ := vr_ref hx
      obtain ⟨a, rfl⟩ := hA (by omega)
      refine ⟨_, key _ _ _ h0 (by exact_mod_cast h1), .ptr l _ g _ ha fun hg b p hl => ?_⟩
      obtain ⟨h2, _⟩ := hh hg b p hl
      rcases h2 with h2 | h2
      · omega
      · injection h2 with h2
        subst h2
        rw [Addr.add_lit, Nat.add_assoc]
    · cases h
  · cases h
theorem g_iarr {t e : TypeId} {m k : Nat} {x i v : AV} {vx vi : Value} (ht : P.underlying t = some (.array m e)) (hs : tsize P e = some k) (hx : VR s x vx) (hi : VR s i vi) (h : pIarr m k x i = some v) :
    ∃ u, (Instr.indexAt t vx vi).run P s.w = .ok u s.w ∧ VR s v u := by
  unfold pIarr at h
  split at h
  case h_2 => cases h
  rename_i kd n
  obtain rfl := vr_int hi
  have key : ∀ (a : Addr), 0 ≤ n → n < m → (Instr.indexAt t (.pointer (some a)) (.int kd n)).run P s.w = .ok (.pointer (some (a.add (n.toNat * k)))) s.w := by
    intro a h0 h1
    simp [Instr.indexAt, asIntOf, run_underlying ht, h0, h1, run_tsize hs, Instr.sureAddr]
  split at h
  · split at h
    · rename_i hc
      injection h with h
      subst h
      obtain ⟨a, rfl, _⟩ := vr_ptr hx
      exact ⟨_, key a hc.1 hc.2, vr_ptr_add hx⟩
    · cases h
  · split at h
    · rename_i hc
      injection h with h
      subst h
      obtain ⟨a, rfl, hr⟩ := vr_fptr_add (n := n.toNat * k) hx
      exact ⟨_, key a hc.1 hc.2, hr⟩
    · cases h
  · cases h
theorem g_idxs {t : TypeId} {x i v : AV} {vx vi : Value} (ht : P.underlying t = some .string) (hx : VR s x vx) (hi : VR s i vi) (h : pIdxs x i = some v) :
    ∃ u, (Instr.index t vx vi).run P s.w = .ok u s.w ∧ VR s v u := by
  unfold pIdxs at h
  split at h
  case h_2 => cases h
  rename_i kd n
  obtain rfl := vr_int hi
  split at h
  · rename_i b
    obtain rfl := vr_str hx
    split at h
    · rename_i h0
      obtain ⟨c, hc, rfl⟩ := Option.map_eq_some_iff.1 h
      refine ⟨.int .u8 c.toNat, ?_, .pure (.int _ _)⟩
      simp [Instr.index, asIntOf, run_underlying ht, h0, hc]
    · cases h
  · cases h
theorem g_idxa {t e : TypeId} {m k : Nat} {ag : Bool} {x i v : AV} {vx vi : Value} (ht : P.underlying t = some (.array m e)) (hs : tsize P e = some k) (hg : tag P e = some ag) (hx : VR s x vx) (hi : VR s i vi) (h : pIdxa m k ag x i = some v) :
    ∃ u, (Instr.index t vx vi).run P s.w = .ok u s.w ∧ VR s v u := by
  unfold pIdxa at h
  split at h
  case h_2 => cases h
  rename_i kd n
  obtain rfl := vr_int hi
  split at h
  · rename_i cs
    split at h
    · rename_i hc
      obtain ⟨vs, rfl, hl, hv⟩ := vr_agg hx
      obtain ⟨c, hcc, hm⟩ := Option.bind_eq_some_iff.1 h
      obtain ⟨u, hu, hr⟩ := g_part hs hg hl hv hcc hm
      exact ⟨u, by simp [Instr.index, asIntOf, run_underlying ht, hc.1, hc.2, run_tsize hs, hu], hr⟩
    · cases h
  · cases h
theorem g_conv {src dst : TypeId} {k ks : IntKind} {x v : AV} {vx : Value} (hs : P.underlying src = some (.int ks)) (hd : P.underlying dst = some (.int k)) (hx : VR s x vx) (h : pConv k x = some v) :
    ∃ u, (convert src dst vx).run P s.w = .ok u s.w ∧ VR s v u := by
  unfold pConv at h
  split at h
  · rename_i kd n
    injection h with h
    subst h
    obtain rfl := vr_int hx
    refine ⟨_, ?_, .pure (.int _ _)⟩
    simp [convert, run_underlying hs, run_underlying hd, Conv.intToInt, wrapI_eq]
  · cases h
theorem g_extract {x v : AV} {vx : Value} {i : Nat} (hx : VR s x vx) (h : pExtract x i = some v) : ∃ u, (Instr.extract vx i).run P s.w = .ok u s.w ∧ VR s v u := by
  unfold pExtract at h
  split at h
  · rename_i cs
    obtain ⟨vs, rfl, hl, hv⟩ := vr_tup hx
    have hi : i < vs.size := by rw [← hl]; exact (List.getElem?_eq_some_iff.1 h).1
    refine ⟨vs[i], ?_, hv i v _ h (Array.getElem?_eq_getElem hi)⟩
    simp [Instr.extract, Array.getElem?_eq_getElem hi]
  · cases h
theorem g_un {op : UnOp} {x v : AV} {vx : Value} (hx : VR s x vx) (h : un op x = some v) : ∃ u, (Op.unary op vx).run P s.w = .ok u s.w ∧ VR s v u := by
  unfold un at h
  split at h
  · injection h with h
    subst h
    obtain rfl := vr_bool hx
    exact ⟨_, by simp [Op.unary], .pure (.bool _)⟩
  · injection h with h
    subst h
    obtain rfl := vr_int hx
    rename_i k n
    exact ⟨.int k (k.wrap (0 - n)), rfl, by rw [wrapN, wrapI_eq]; exact .pure (.int _ _)⟩
  · injection h with h
    subst h
    obtain rfl := vr_int hx
    rename_i k n
    exact ⟨.int k (k.wrap ((BitVec.ofInt k.bits (if k.signed then -1 else k.max) ^^^ BitVec.ofInt k.bits n).toNat : Int)), rfl, by rw [wrapN, wrapI_eq]; exact .pure (.int _ _)⟩
  · cases h
theorem topN_le (k : IntKind) : topN k ≤ 2 ^ k.bits := by cases k <;> simp [topN, modN, IntKind.bits]
theorem topN_le_mod (k : IntKind) : topN k ≤ modN k := by cases k <;> simp [topN, modN]
theorem wrap_top {k : IntKind} {n : Int} (h0 : 0 ≤ n) (h1 : n < topN k) : k.wrap n = n := by
  rw [← wrapI_eq]
  unfold wrapI
  have h2 : n % modN k = n := Int.emod_eq_of_lt h0 (Int.lt_of_lt_of_le h1 (topN_le_mod k))
  rw [h2, if_neg (by omega)]
theorem ofInt_top {k : IntKind} {n : Int} (h0 : 0 ≤ n) (h1 : n < topN k) : (BitVec.ofInt k.bits n).toNat = n.toNat := by
  obtain ⟨m, rfl⟩ := Int.eq_ofNat_of_zero_le h0
  have h2 : (m : Int) < 2 ^ k.bits := Int.lt_of_lt_of_le h1 (topN_le k)
  rw [BitVec.ofInt_natCast, BitVec.toNat_ofNat, Int.toNat_natCast]
  exact Nat.mod_eq_of_lt (by exact_mod_cast h2)
theorem topN_pow (k : IntKind) : ∃ j, topN k = ((2 ^ j : Nat) : Int) := by
  cases k
  · exact ⟨7, rfl⟩
  · exact ⟨15, rfl⟩
  · exact ⟨31, rfl⟩
  · exact ⟨63, rfl⟩
  · exact ⟨8, rfl⟩
  · exact ⟨16, rfl⟩
  · exact ⟨32, rfl⟩
  · exact ⟨64, rfl⟩
theorem nat_and_not (a b n : Nat) (ha : a < 2 ^ n) (hb : b < 2 ^ n) : a &&& (2 ^ n - 1 - b) = a &&& (a ^^^ b) := by
  apply Nat.eq_of_testBit_eq
  intro i
  rw [Nat.testBit_and, Nat.testBit_and, Nat.testBit_xor]
  have h := Nat.testBit_two_pow_sub_succ hb i
  rw [show 2 ^ n - (b + 1) = 2 ^ n - 1 - b from by omega] at h
  rw [h]
  cases h1 : a.testBit i
  · simp
  · have : i < n := by
      rcases Nat.lt_or_ge i n with h2 | h2
      · exact h2
      · rw [Nat.testBit_lt_two_pow (Nat.lt_of_lt_of_le ha (Nat.pow_le_pow_right (by omega) h2))] at h1
        cases h1
    cases b.testBit i <;> simp [this]
theorem bits_eq (op : BinOp) (k : IntKind) (x y : Int) : arith.bits op k x y = k.wrap ((match op with
      | .and => BitVec.ofInt k.bits x &&& BitVec.ofInt k.bits y
      | .or => BitVec.ofInt k.bits x ||| BitVec.ofInt k.bits y
      | .xor => BitVec.ofInt k.bits x ^^^ BitVec.ofInt k.bits y
      | _ => BitVec.ofInt k.bits x &&& ~~~BitVec.ofInt k.bits y).toNat : Int) := by
  unfold arith.bits
  split
  · rename_i hc
    obtain ⟨h0, h1, h2, h3⟩ := hc
    have ex := ofInt_top h0 h1
    have ey := ofInt_top h2 h3
    obtain ⟨j, hj⟩ := topN_pow k
    have hx : x.toNat < 2 ^ j := by rw [hj] at h1; omega
    have hy : y.toNat < 2 ^ j := by rw [hj] at h3; omega
    have hb : 2 ^ j ≤ 2 ^ k.bits := by have := topN_le k; rw [hj] at this; exact_mod_cast this
    have hw : ∀ m : Nat, m < 2 ^ j → k.wrap (m : Int) = m := fun m hm => wrap_top (by omega) (by rw [hj]; exact_mod_cast hm)
    have hnot : (BitVec.ofInt k.bits x &&& ~~~BitVec.ofInt k.bits y).toNat = x.toNat &&& (x.toNat ^^^ y.toNat) := by
      rw [BitVec.toNat_and, BitVec.toNat_not, ex, ey]
      exact nat_and_not _ _ _ (by omega) (by omega)
    have hlt : x.toNat &&& (x.toNat ^^^ y.toNat) < 2 ^ j := Nat.and_lt_two_pow _ (Nat.xor_lt_two_pow hx hy)
    have hA : k.wrap ((BitVec.ofInt k.bits x &&& BitVec.ofInt k.bits y).toNat : Int) = ((x.toNat &&& y.toNat : Nat) : Int) := by
      rw [BitVec.toNat_and, ex, ey]; exact hw _ (Nat.and_lt_two_pow _ hy)
    have hO : k.wrap ((BitVec.ofInt k.bits x ||| BitVec.ofInt k.bits y).toNat : Int) = ((x.toNat ||| y.toNat : Nat) : Int) := by
      rw [BitVec.toNat_or, ex, ey]; exact hw _ (Nat.or_lt_two_pow hx hy)
    have hX : k.wrap ((BitVec.ofInt k.bits x ^^^ BitVec.ofInt k.bits y).toNat : Int) = ((x.toNat ^^^ y.toNat : Nat) : Int) := by
      rw [BitVec.toNat_xor, ex, ey]; exact hw _ (Nat.xor_lt_two_pow hx hy)
    have hN : k.wrap ((BitVec.ofInt k.bits x &&& ~~~BitVec.ofInt k.bits y).toNat : Int) = ((x.toNat &&& (x.toNat ^^^ y.toNat) : Nat) : Int) := by
      rw [hnot]; exact hw _ hlt
    cases op <;> first | exact hA.symm | exact hO.symm | exact hX.symm | exact hN.symm
  · rfl
theorem g_arith {op : BinOp} {t : TypeId} {k : IntKind} {x y : Int} {v : AV} (hop : op ≠ .shl ∧ op ≠ .shr) (h : arith op k x y = some v) :
    ∃ u, (binOp op t (.int k x) (.int k y)).run P s.w = .ok u s.w ∧ VR s v u := by
  cases op <;> simp only [arith] at h
  case add => injection h with h; subst h; exact ⟨.int k (k.wrap (x + y)), by simp [binOp, Op.intArith], by rw [wrapN, wrapI_eq]; exact .pure (.int _ _)⟩
  case sub => injection h with h; subst h; exact ⟨.int k (k.wrap (x - y)), by simp [binOp, Op.intArith], by rw [wrapN, wrapI_eq]; exact .pure (.int _ _)⟩
  case mul => injection h with h; subst h; exact ⟨.int k (k.wrap (x * y)), by simp [binOp, Op.intArith], by rw [wrapN, wrapI_eq]; exact .pure (.int _ _)⟩
  case quo =>
    split at h
    · cases h
    · rename_i h0
      injection h with h; subst h; exact ⟨.int k (k.wrap (x.tdiv y)), by simp [binOp, Op.intDiv, h0], by rw [wrapN, wrapI_eq]; exact .pure (.int _ _)⟩
  case rem =>
    split at h
    · cases h
    · rename_i h0
      injection h with h; subst h; exact ⟨_, by simp only [binOp, Op.intDiv, h0, if_false, ne_eq, not_true]; rfl, .pure (.int _ _)⟩
  case shl => exact absurd rfl hop.1
  case shr => exact absurd rfl hop.2
  case eql => injection h with h; subst h; exact ⟨.bool _, by simp only [binOp, Op.intCmp, ne_eq, not_true, if_false]; rfl, .pure (.bool _)⟩
  case neq => injection h with h; subst h; exact ⟨.bool _, by simp only [binOp, Op.intCmp, ne_eq, not_true, if_false]; rfl, .pure (.bool _)⟩
  case lss => injection h with h; subst h; exact ⟨.bool _, by simp only [binOp, Op.intCmp, ne_eq, not_true, if_false]; rfl, .pure (.bool _)⟩
  case leq => injection h with h; subst h; exact ⟨.bool _, by simp only [binOp, Op.intCmp, ne_eq, not_true, if_false]; rfl, .pure (.bool _)⟩
  case gtr => injection h with h; subst h; exact ⟨.bool _, by simp only [binOp, Op.intCmp, ne_eq, not_true, if_false]; rfl, .pure (.bool _)⟩
  case geq => injection h with h; subst h; exact ⟨.bool _, by simp only [binOp, Op.intCmp, ne_eq, not_true, if_false]; rfl, .pure (.bool _)⟩
  case and => injection h with h; subst h; exact ⟨_, by simp only [binOp, Op.intBits, ne_eq, not_true, if_false]; rfl, by rw [bits_eq]; exact .pure (.int _ _)⟩
  case or => injection h with h; subst h; exact ⟨_, by simp only [binOp, Op.intBits, ne_eq, not_true, if_false]; rfl, by rw [bits_eq]; exact .pure (.int _ _)⟩
  case xor => injection h with h; subst h; exact ⟨_, by simp only [binOp, Op.intBits, ne_eq, not_true, if_false]; rfl, by rw [bits_eq]; exact .pure (.int _ _)⟩
  case andNot => injection h with h; subst h; exact ⟨_, by simp only [binOp, Op.intBits, ne_eq, not_true, if_false]; rfl, by rw [bits_eq]; exact .pure (.int _ _)⟩
theorem pow_cast (n : Nat) : ((2 ^ n : Nat) : Int) = (2 : Int) ^ n := by simp
theorem shrI_eq (x : Int) (n : Nat) : shrI x n = x.fdiv (2 ^ n) := by
  unfold shrI
  split
  · rename_i m
    rw [Int.fdiv_eq_ediv_of_nonneg _ (by rw [← pow_cast]; exact Int.natCast_nonneg _), ← pow_cast]
    rfl
  · rw [pow_cast]
theorem g_bin {op : BinOp} {t : TypeId} {x y v : AV} {vx vy : Value} (hx : VR s x vx) (hy : VR s y vy) (h : bin op x y = some v) :
    ∃ u, (binOp op t vx vy).run P s.w = .ok u s.w ∧ VR s v u ∧ ∀ e f, eqGuard op t e f vx vy = pure () := by
  unfold bin at h
  split at h
  · rename_i k a yk b
    obtain rfl := vr_int hx
    obtain rfl := vr_int hy
    have shl : shiftN .shl k a b = some v → ∃ u, (binOp .shl t (.int k a) (.int yk b)).run P s.w = .ok u s.w ∧ VR s v u := by
      intro h
      unfold shiftN at h
      split at h
      · cases h
      · rename_i hb
        injection h with h
        subst h
        refine ⟨.int k (k.wrap (a * 2 ^ (min b.toNat k.bits))), by simp [binOp, Op.shift, hb], ?_⟩
        rw [wrapN, wrapI_eq, shlI, pow_cast]
        exact .pure (.int _ _)
    have shr : shiftN .shr k a b = some v → ∃ u, (binOp .shr t (.int k a) (.int yk b)).run P s.w = .ok u s.w ∧ VR s v u := by
      intro h
      unfold shiftN at h
      split at h
      · cases h
      · rename_i hb
        injection h with h
        subst h
        refine ⟨.int k (a.fdiv (2 ^ (min b.toNat k.bits))), by simp [binOp, Op.shift, hb], ?_⟩
        rw [shrI_eq]
        exact .pure (.int _ _)
    have other : op ≠ .shl ∧ op ≠ .shr → (if k = yk then arith op k a b else none) = some v → ∃ u, (binOp op t (.int k a) (.int yk b)).run P s.w = .ok u s.w ∧ VR s v u := by
      intro hop h'
      by_cases hk : k = yk
      · subst hk
        rw [if_pos rfl] at h'
        exact g_arith hop h'
      · rw [if_neg hk] at h'
        cases h'
    have := fun e f => eqGuard_at_int (op := op) (t := t) (x := e) (y := f) (v := .int yk b) k a
    cases op <;> first
      | (obtain ⟨u, h1, h2⟩ := shl h; exact ⟨u, h1, h2, this⟩)
      | (obtain ⟨u, h1, h2⟩ := shr h; exact ⟨u, h1, h2, this⟩)
      | (obtain ⟨u, h1, h2⟩ := other (by simp) h; exact ⟨u, h1, h2, this⟩)
  · rename_i a b
    obtain rfl := vr_str hx
    obtain rfl := vr_str hy
    have := fun e f => eqGuard_at_string (op := op) (t := t) (x := e) (y := f) (v := .string b) a
    unfold strOp at h
    cases op <;> simp only at h <;> (try (cases h; done))
    · split at h
      · rename_i hs
        injection h with h
        subst h
        refine ⟨.string (a ++ b), ?_, .pure (.str _), this⟩
        have : ¬ (((a.size + b.size : Nat) : Int) > IntKind.i64.max) := by simp [IntKind.max, IntKind.signed, IntKind.bits]; omega
        simp only [binOp, Op.stringOp, this, if_false]
        rfl
      · cases h
    · injection h with h
      subst h
      exact ⟨.bool _, rfl, .pure (.bool _), this⟩
    · injection h with h
      subst h
      exact ⟨.bool _, rfl, .pure (.bool _), this⟩
  · cases h
theorem g_eqb {neg : Bool} {t : TypeId} {x y v : AV} {vx vy : Value} (ht : P.underlying t = some .bool) (hx : VR s x vx) (hy : VR s y vy) (h : pEqb neg x y = some v) :
    ∃ u, (binOp (if neg then .neq else .eql) t vx vy).run P s.w = .ok u s.w ∧ VR s v u ∧ ∀ op e f, eqGuard op t e f vx vy = pure () := by
  unfold pEqb at h
  split at h
  · rename_i a b
    obtain rfl := vr_bool hx
    obtain rfl := vr_bool hy
    injection h with h
    subst h
    refine ⟨_, ?_, .pure (.bool _), fun op e f => eqGuard_at_bool (op := op) (t := t) (x := e) (y := f) (v := .bool b) a⟩
    cases neg
    · simp [run_eql_bool _ t a b ht]
    · simp [run_neq_bool _ t a b ht]
  · cases h
/-- A slice's value, of whatever kind. -/
theorem vr_slice {x : AV} {n : Nat} {u : Value} (hx : VR s x u) (h : slen x = some n) : ∃ A c, u = .slice A n c := by
  cases x <;> simp [slen] at h
  case list es =>
    subst h
    cases hx with
    | pure hx => cases hx with
      | list0 A c _ => exact ⟨A, c, rfl⟩
      | list b o k c _ U hb hc hk hw hh => exact ⟨_, c, rfl⟩
  case tmpl es =>
    subst h
    cases hx with
    | pure hx => cases hx
    | tmpl b o k _ U hb hk hw hh => exact ⟨_, _, rfl⟩
  case nilsl => subst h; cases hx with | pure hx => cases hx; exact ⟨_, _, rfl⟩
  case mtn => subst h; cases hx with | pure hx => cases hx; exact ⟨_, _, rfl⟩
  case mt => subst h; cases hx with | pure hx => cases hx; exact ⟨_, _, rfl⟩
  case emp => subst h; cases hx with | pure hx => cases hx; exact ⟨_, _, rfl⟩
  case ref l o m g k => subst h; obtain ⟨A, c, rfl, _⟩ := vr_ref hx; exact ⟨A, c, rfl⟩
theorem g_len {t e ty : TypeId} {ts : Array TypeId} {vs : Array Value} {x v : AV} {vx : Value} (h1 : ts[0]? = some t) (h2 : vs[0]? = some vx) (ht : P.underlying t = some (.slice e)) (hx : VR s x vx) (h : pLen x = some v) :
    ∃ u, (Builtin.len_ ts ty vs).run P s.w = .ok u s.w ∧ VR s v u := by
  unfold pLen at h
  split at h
  · rename_i n hn
    injection h with h
    subst h
    obtain ⟨A, c, rfl⟩ := vr_slice hx hn
    exact ⟨.int .i64 n, by simp [Builtin.len_, h1, h2, run_underlying ht, goInt], .pure (.int _ _)⟩
  · cases h
theorem g_lens {t ty : TypeId} {ts : Array TypeId} {vs : Array Value} {x v : AV} {vx : Value} (h1 : ts[0]? = some t) (h2 : vs[0]? = some vx) (ht : P.underlying t = some .string) (hx : VR s x vx) (h : pLens x = some v) :
    ∃ u, (Builtin.len_ ts ty vs).run P s.w = .ok u s.w ∧ VR s v u := by
  unfold pLens at h
  split at h
  · rename_i b
    injection h with h
    subst h
    obtain rfl := vr_str hx
    exact ⟨.int .i64 b.size, by simp [Builtin.len_, h1, h2, run_underlying ht, goInt], .pure (.int _ _)⟩
  · cases h
theorem g_nilck {x v : AV} {vx : Value} {o' : Oper} {e : Operand} (ho : o'.op = .nilCheck e) (ha : a.eval e = vx) (hx : VR s x vx) (h : pNilck x = some v) :
    ∃ u, (execOp a.eval o').run P s.w = .ok (.value u) s.w ∧ VR s v u := by
  unfold pNilck at h
  split at h
  · injection h with h
    subst h
    obtain ⟨ad, rfl, _⟩ := vr_ptr hx
    exact ⟨_, by simp [execOp, ho, ha], hx⟩
  · injection h with h
    subst h
    obtain ⟨ad, rfl, _⟩ := vr_fptr_add (n := 0) hx
    exact ⟨_, by simp [execOp, ho, ha], hx⟩
  · injection h with h
    subst h
    obtain ⟨ad, rfl, _⟩ := vr_tptr_add (n := 0) hx
    exact ⟨_, by simp [execOp, ho, ha], hx⟩
  · injection h with h
    subst h
    obtain ⟨vs, rfl, _⟩ := vr_func hx
    exact ⟨_, by simp [execOp, ho, ha], hx⟩
  · cases h
/-- The kind of type at which a comparison with nil stands. -/
def nilKind (P : Program) (t : TypeId) : Nat → Prop
  | 0 => ∃ e, P.underlying t = some (.slice e)
  | 1 => ∃ e, P.underlying t = some (.pointer e)
  | 2 => ∃ k e, P.underlying t = some (.map k e)
  | 3 => ∃ p r b, P.underlying t = some (.func p r b)
  | _ => False
def nilVal : Nat → Value
  | 0 => .slice none 0 0
  | 1 => .pointer none
  | 2 => .map none
  | _ => .nilFunc
theorem g_eqn {kd : Nat} {neg : Bool} {t : TypeId} {x v : AV} {vx : Value} (ht : nilKind P t kd) (hx : VR s x vx) (h : pEqn kd neg x = some v) :
    ∃ u, (binOp (if neg then .neq else .eql) t vx (nilVal kd)).run P s.w = .ok u s.w ∧ VR s v u ∧ ∀ op e f, eqGuard op t e f vx (nilVal kd) = pure () := by
  obtain ⟨b, hb, rfl⟩ := Option.map_eq_some_iff.1 h
  have fin : ∀ (hrun0 : ∀ d : Nat, (Op.equalIn (d + 1) t vx (nilVal kd)).run P s.w = .ok b s.w) (hshape : (∃ A n c, vx = .slice A n c) ∨ (∃ A, vx = .pointer A ∧ kd = 1) ∨ (∃ A, vx = .map A) ∨ (∃ f p q, vx = .func f p q) ∨ vx = .nilFunc),
      ∃ u, (binOp (if neg then .neq else .eql) t vx (nilVal kd)).run P s.w = .ok u s.w ∧ VR s (.bool (if neg then !b else b)) u ∧ ∀ op e f, eqGuard op t e f vx (nilVal kd) = pure () := by
    intro hrun0 hshape
    have hrun : (Op.equal t vx (nilVal kd)).run P s.w = .ok b s.w := hrun0 9999
    clear hrun0
    refine ⟨.bool (if neg then !b else b), ?_, .pure (.bool _), fun op e f => ?_⟩
    · have h1 : (do pure (Value.bool (← Op.equal t vx (nilVal kd))) : Sem Value).run P s.w = .ok (.bool b) s.w := by simp [hrun]
      have h2 : (do pure (Value.bool (!(← Op.equal t vx (nilVal kd)))) : Sem Value).run P s.w = .ok (.bool (!b)) s.w := by simp [hrun]
      rcases hshape with ⟨A, n, c, rfl⟩ | ⟨A, rfl, rfl⟩ | ⟨A, rfl⟩ | ⟨f, p, q, rfl⟩ | rfl <;> cases neg <;> (first | exact h1 | exact h2)
    · rcases hshape with ⟨A, n, c, rfl⟩ | ⟨A, rfl, rfl⟩ | ⟨A, rfl⟩ | ⟨f, p, q, rfl⟩ | rfl <;> cases op <;> rfl
  unfold isNil at hb
  split at hb <;> (try (cases hb; done))
  · injection hb with hb; subst hb; obtain ⟨e, ht⟩ := ht
    cases hx with | pure hx => cases hx; exact fin (fun d => by simp [Op.equalIn, run_underlying ht, nilVal]) (.inl ⟨_, _, _, rfl⟩)
  · injection hb with hb; subst hb; obtain ⟨e, ht⟩ := ht
    cases hx with | pure hx => cases hx; exact fin (fun d => by simp [Op.equalIn, run_underlying ht, nilVal]) (.inl ⟨_, _, _, rfl⟩)
  · injection hb with hb; subst hb; obtain ⟨e, ht⟩ := ht
    cases hx with | pure hx => cases hx; exact fin (fun d => by simp [Op.equalIn, run_underlying ht, nilVal]) (.inl ⟨_, _, _, rfl⟩)
  · rename_i es
    split at hb
    · cases hb
    · rename_i hes
      injection hb with hb; subst hb; obtain ⟨e, ht⟩ := ht
      cases hx with
      | pure hx => cases hx with
        | list0 => simp at hes
        | list b o k c _ U hbb hc hk hw hh => exact fin (fun d => by simp [Op.equalIn, run_underlying ht, nilVal]) (.inl ⟨_, _, _, rfl⟩)
  · injection hb with hb; subst hb; obtain ⟨e, ht⟩ := ht
    cases hx with
    | pure hx => cases hx
    | tmpl b o k _ U hbb hk hw hh => exact fin (fun d => by simp [Op.equalIn, run_underlying ht, nilVal]) (.inl ⟨_, _, _, rfl⟩)
  · rename_i l o n g k
    split at hb
    · cases hb
    · rename_i hn
      injection hb with hb; subst hb; obtain ⟨e, ht⟩ := ht
      obtain ⟨A, c, rfl, _, _, hA, _⟩ := vr_ref hx
      obtain ⟨ad, rfl⟩ := hA (by omega)
      exact fin (fun d => by simp [Op.equalIn, run_underlying ht, nilVal]) (.inl ⟨_, _, _, rfl⟩)
  · injection hb with hb; subst hb; obtain ⟨e, ht⟩ := ht
    cases hx with | pure hx => cases hx; exact fin (fun d => by simp [Op.equalIn, run_underlying ht, nilVal]) (.inr (.inl ⟨_, rfl, rfl⟩))
  · injection hb with hb; subst hb; obtain ⟨e, ht⟩ := ht
    obtain ⟨ad, rfl, _⟩ := vr_ptr hx
    exact fin (fun d => by simp [Op.equalIn, run_underlying ht, nilVal]) (.inr (.inl ⟨_, rfl, rfl⟩))
  · injection hb with hb; subst hb; obtain ⟨e, ht⟩ := ht
    obtain ⟨ad, rfl, _⟩ := vr_fptr_add (n := 0) hx
    exact fin (fun d => by simp [Op.equalIn, run_underlying ht, nilVal]) (.inr (.inl ⟨_, rfl, rfl⟩))
  · injection hb with hb; subst hb; obtain ⟨e, ht⟩ := ht
    obtain ⟨ad, rfl, _⟩ := vr_tptr_add (n := 0) hx
    exact fin (fun d => by simp [Op.equalIn, run_underlying ht, nilVal]) (.inr (.inl ⟨_, rfl, rfl⟩))
  · injection hb with hb; subst hb; obtain ⟨k, e, ht⟩ := ht
    cases hx with | pure hx => cases hx; exact fin (fun d => by simp [Op.equalIn, run_underlying ht, nilVal]) (.inr (.inr (.inl ⟨_, rfl⟩)))
  · injection hb with hb; subst hb; obtain ⟨k, e, ht⟩ := ht
    cases hx with
    | pure hx => cases hx
    | map l b ha h => exact fin (fun d => by simp [Op.equalIn, run_underlying ht, nilVal]) (.inr (.inr (.inl ⟨_, rfl⟩)))
  · injection hb with hb; subst hb; obtain ⟨p, r, bb, ht⟩ := ht
    cases hx with | pure hx => cases hx; exact fin (fun d => by simp [Op.equalIn, run_underlying ht, nilVal]) (.inr (.inr (.inr (.inr rfl))))
  · injection hb with hb; subst hb; obtain ⟨p, r, bb, ht⟩ := ht
    obtain ⟨vs, rfl, _⟩ := vr_func hx
    exact fin (fun d => by simp [Op.equalIn, run_underlying ht, nilVal]) (.inr (.inr (.inr (.inl ⟨_, _, _, rfl⟩))))
theorem oneK_spec {t : TypeId} {d : Nat} (h : oneK P t = some d) : (d = 0 ∧ ∃ k, P.underlying t = some (.int k)) ∨ (d = 1 ∧ P.underlying t = some .bool) ∨ (d = 2 ∧ P.underlying t = some .string) := by
  unfold oneK at h
  split at h
  · rename_i k hk; injection h with h; exact .inl ⟨h.symm, k, hk⟩
  · rename_i hk; injection h with h; exact .inr (.inl ⟨h.symm, hk⟩)
  · rename_i hk; injection h with h; exact .inr (.inr ⟨h.symm, hk⟩)
  · cases h
theorem g_eqK1 {t : TypeId} {d : Nat} {x y : AV} {vx vy : Value} {b : Bool} (ht : oneK P t = some d) (hx : VR s x vx) (hy : VR s y vy) (h : eqK1 d x y = some b) (w : World) (m : Nat) :
    (Op.equalIn (m + 1) t vx vy).run P w = .ok b w := by
  rcases oneK_spec ht with ⟨rfl, k, hk⟩ | ⟨rfl, hk⟩ | ⟨rfl, hk⟩
  · cases x <;> simp [eqK1] at h
    cases y <;> simp at h
    obtain ⟨rfl, rfl⟩ := h
    obtain rfl := vr_int hx
    obtain rfl := vr_int hy
    exact run_equalIn_int w m t _ k _ _ hk
  · cases x <;> simp [eqK1] at h
    cases y <;> simp at h
    subst h
    obtain rfl := vr_bool hx
    obtain rfl := vr_bool hy
    exact run_equalIn_bool' w m t _ _ hk
  · cases x <;> simp [eqK1] at h
    cases y <;> simp at h
    subst h
    obtain rfl := vr_str hx
    obtain rfl := vr_str hy
    exact run_equalIn_string w m t _ _ hk
theorem oneK_part {t : TypeId} {d : Nat} (ht : oneK P t = some d) {vs : Array Value} {i : Nat} {u : Value} (hu : vs[i]? = some u) (w : World) : (part t vs i).run P w = .ok u w := by
  have hg : tag P t = some false := by
    unfold tag
    rcases oneK_spec ht with ⟨rfl, k, hk⟩ | ⟨rfl, hk⟩ | ⟨rfl, hk⟩ <;> simp [hk]
  simp [part, run_tag hg, hu]
theorem g_eqFields {vx vy : Array Value} {m : Nat} (w : World) : ∀ (fs : List Field) (i : Nat) (ks : List Nat) (xs ys : List AV) (b : Bool), fieldKs P i fs = some ks →
    (∀ (j : Nat) (x : AV), xs[j]? = some x → ∃ u, vx[i + j]? = some u ∧ VR s x u) → (∀ (j : Nat) (y : AV), ys[j]? = some y → ∃ u, vy[i + j]? = some u ∧ VR s y u) →
    eqL ks xs ys = some b → (Op.eqFields (m + 1) vx vy fs).run P w = .ok b w
  | [], i, ks, xs, ys, b, hf, hx, hy, h => by
    simp [fieldKs] at hf
    subst hf
    cases xs <;> cases ys <;> simp [eqL] at h
    subst h
    simp [Op.eqFields]
  | f :: fs, i, ks, xs, ys, b, hf, hx, hy, h => by
    unfold fieldKs at hf
    split at hf
    case isFalse => cases hf
    rename_i hc
    obtain ⟨hn, rfl⟩ := hc
    split at hf
    case h_2 => cases hf
    rename_i d ds hd hds
    injection hf with hf
    subst hf
    cases xs with
    | nil => simp [eqL] at h
    | cons x xs =>
    cases ys with
    | nil => simp [eqL] at h
    | cons y ys =>
    obtain ⟨ux, hux, hrx⟩ := hx 0 x rfl
    obtain ⟨uy, huy, hry⟩ := hy 0 y rfl
    simp only [Nat.add_zero] at hux huy
    simp only [eqL] at h
    have step : ∀ c, eqK1 d x y = some c → (Op.eqFields (m + 1) vx vy (f :: fs)).run P w = if (!c) = true then .ok false w else (Op.eqFields (m + 1) vx vy fs).run P w := by
      intro c hc
      simp only [Op.eqFields, hn, ne_eq, not_false_eq_true, if_true, Sem.run_bind, oneK_part hd hux, oneK_part hd huy, Result.andThen_ok, g_eqK1 hd hrx hry hc, Sem.run_ite, Sem.run_pure]
    split at h
    · rename_i hc
      rw [step true hc]
      simp only [Bool.not_true, Bool.false_eq_true, if_false]
      refine g_eqFields w fs (f.offset + 1) ds xs ys b hds (fun j x hj => ?_) (fun j y hj => ?_) h
      · obtain ⟨u, h1, h2⟩ := hx (j + 1) x (by simpa using hj)
        exact ⟨u, by rw [Nat.add_assoc, Nat.add_comm 1 j]; exact h1, h2⟩
      · obtain ⟨u, h1, h2⟩ := hy (j + 1) y (by simpa using hj)
        exact ⟨u, by rw [Nat.add_assoc, Nat.add_comm 1 j]; exact h1, h2⟩
    · rename_i hc
      injection h with h
      subst h
      rw [step false hc]
      rfl
    · cases h
theorem flatK_spec {t : TypeId} {ks : List Nat} (h : flatK P t = some ks) : P.underlying t = some (.struct (P.fieldsOf t)) ∧ P.stoodInHeld t = false ∧ P.eqGuardType P.depth t = false ∧ fieldKs P 0 (P.fieldsOf t).toList = some ks := by
  unfold flatK at h
  split at h
  · rename_i fs hfs
    have he : P.fieldsOf t = fs := by simp [Program.fieldsOf, hfs]
    split at h
    · rename_i hc
      exact ⟨by rw [he]; exact hfs, hc.1, hc.2, by rw [he]; exact h⟩
    · cases h
  · cases h
theorem g_eqStruct {t : TypeId} {ks : List Nat} {xs ys : List AV} {vx vy : Value} {b : Bool} (ht : flatK P t = some ks) (hx : VR s (.agg xs) vx) (hy : VR s (.agg ys) vy) (h : eqL ks xs ys = some b) (w : World) :
    (Op.equalIn 10000 t vx vy).run P w = .ok b w ∧ ∃ ax ay, vx = .agg ax ∧ vy = .agg ay := by
  obtain ⟨h1, h2, h3, h4⟩ := flatK_spec ht
  obtain ⟨ax, rfl, hlx, hax⟩ := vr_agg hx
  obtain ⟨ay, rfl, hly, hay⟩ := vr_agg hy
  refine ⟨?_, ax, ay, rfl, rfl⟩
  rw [show (10000 : Nat) = 9999 + 1 from rfl, run_equalIn_agg w 9999 t ax ay h1 h2]
  refine g_eqFields (s := s) (m := 9998) w _ 0 ks xs ys b h4 (fun j x hj => ?_) (fun j y hj => ?_) h
  · have hlt : j < ax.size := by rw [← hlx]; exact (List.getElem?_eq_some_iff.1 hj).1
    exact ⟨ax[j], by rw [Nat.zero_add]; exact Array.getElem?_eq_getElem hlt, hax j x _ hj (Array.getElem?_eq_getElem hlt)⟩
  · have hlt : j < ay.size := by rw [← hly]; exact (List.getElem?_eq_some_iff.1 hj).1
    exact ⟨ay[j], by rw [Nat.zero_add]; exact Array.getElem?_eq_getElem hlt, hay j y _ hj (Array.getElem?_eq_getElem hlt)⟩
theorem g_eqs {neg : Bool} {t : TypeId} {ks : List Nat} {x y v : AV} {vx vy : Value} (ht : flatK P t = some ks) (hx : VR s x vx) (hy : VR s y vy) (h : pEqs neg ks x y = some v) :
    ∃ u, (binOp (if neg then .neq else .eql) t vx vy).run P s.w = .ok u s.w ∧ VR s v u ∧ ∀ op e f, (eqGuard op t e f vx vy).run P s.w = .ok () s.w := by
  unfold pEqs at h
  split at h
  case h_2 => cases h
  rename_i xs ys
  split at h
  case h_2 => cases h
  rename_i b hb
  injection h with h
  subst h
  obtain ⟨h1, ax, ay, rfl, rfl⟩ := g_eqStruct ht hx hy hb s.w
  refine ⟨.bool (if neg then !b else b), ?_, .pure (.bool _), fun op e f => run_eqGuard_agg s.w op t e f ax ay (flatK_spec ht).2.2.1⟩
  cases neg
  · simp only [Bool.false_eq_true, if_false]
    rw [run_eql_struct, h1]
    rfl
  · simp only [if_true]
    rw [run_neq_struct, h1]
    rfl
theorem g_foldI {f : Int → Int → Int} {m2 : Value → Value → Sem Value} (hm : ∀ (k : IntKind) (x y : Int), m2 (.int k x) (.int k y) = pure (.int k (f x y))) {k : IntKind} (w : World) :
    ∀ (xs : List AV) (vs : List Value) (n : Int) (v : AV), xs.length = vs.length → (∀ (i : Nat) (x : AV) (u : Value), xs[i]? = some x → vs[i]? = some u → VR s x u) → foldI f k n xs = some v →
      ∃ u, (vs.foldlM m2 (.int k n)).run P w = .ok u w ∧ VR s v u
  | [], vs, n, v, hl, hv, h => by
    simp [foldI] at h
    subst h
    have : vs = [] := List.eq_nil_of_length_eq_zero hl.symm
    subst this
    exact ⟨_, rfl, .pure (.int _ _)⟩
  | x :: xs, [], n, v, hl, hv, h => by simp at hl
  | x :: xs, vx :: vs, n, v, hl, hv, h => by
    cases x <;> simp [foldI] at h
    rename_i k' m
    obtain ⟨rfl, h⟩ := h
    obtain rfl := vr_int (hv 0 _ _ rfl rfl)
    simp only [List.foldlM_cons, hm, pure_bind]
    exact g_foldI hm w xs vs (f n m) v (by simpa using hl) (fun i x u hx hu => hv (i + 1) x u (by simpa using hx) (by simpa using hu)) h
theorem g_foldA {f : Int → Int → Int} {m2 : Value → Value → Sem Value} (hm : ∀ (k : IntKind) (x y : Int), m2 (.int k x) (.int k y) = pure (.int k (f x y))) (w : World)
    {xs : List AV} {vs : List Value} {v : AV} (hl : xs.length = vs.length) (hv : ∀ (i : Nat) (x : AV) (u : Value), xs[i]? = some x → vs[i]? = some u → VR s x u) (h : foldA f xs = some v) :
    ∃ x0 r, vs = x0 :: r ∧ ∃ u, (r.foldlM m2 x0).run P w = .ok u w ∧ VR s v u := by
  cases xs with
  | nil => simp [foldA] at h
  | cons x xs =>
    cases vs with
    | nil => simp at hl
    | cons vx vs =>
      cases x <;> simp [foldA] at h
      obtain rfl := vr_int (hv 0 _ _ rfl rfl)
      exact ⟨_, vs, rfl, g_foldI hm w xs vs _ v (by simpa using hl) (fun i x u hx hu => hv (i + 1) x u (by simpa using hx) (by simpa using hu)) h⟩
theorem g_max {ts : Array TypeId} {ty : TypeId} {xs : List AV} {vs : Array Value} {v : AV} (hl : xs.length = vs.size) (hv : ∀ (i : Nat) (x : AV) (u : Value), xs[i]? = some x → vs[i]? = some u → VR s x u) (h : pMax xs = some v) :
    ∃ u, (Builtin.max_ ts ty vs).run P s.w = .ok u s.w ∧ VR s v u := by
  obtain ⟨x0, r, e, u, h1, h2⟩ := g_foldA (P := P) (m2 := Builtin.max2) (fun k x y => rfl) s.w (vs := vs.toList) (by simpa using hl) (fun i x u hx hu => hv i x u hx (by simpa using hu)) h
  exact ⟨u, by simp only [Builtin.max_, e]; exact h1, h2⟩
theorem g_min {ts : Array TypeId} {ty : TypeId} {xs : List AV} {vs : Array Value} {v : AV} (hl : xs.length = vs.size) (hv : ∀ (i : Nat) (x : AV) (u : Value), xs[i]? = some x → vs[i]? = some u → VR s x u) (h : pMin xs = some v) :
    ∃ u, (Builtin.min_ ts ty vs).run P s.w = .ok u s.w ∧ VR s v u := by
  obtain ⟨x0, r, e, u, h1, h2⟩ := g_foldA (P := P) (m2 := Builtin.min2) (fun k x y => rfl) s.w (vs := vs.toList) (by simpa using hl) (fun i x u hx hu => hv i x u hx (by simpa using hu)) h
  exact ⟨u, by simp only [Builtin.min_, e]; exact h1, h2⟩

/-! ### Cuts -/
theorem g_bound {hi d n : Nat} {x : Option AV} {vx : Option Value} (hx : (x = none ∧ vx = none) ∨ ∃ y vy, x = some y ∧ vx = some vy ∧ VR s y vy) (h : asN hi d x = some n) :
    (x = none ∧ vx = none ∧ n = d) ∨ (∃ k m, vx = some (.int k m) ∧ 0 ≤ m ∧ m ≤ hi ∧ n = m.toNat) := by
  rcases hx with ⟨rfl, rfl⟩ | ⟨y, vy, rfl, rfl, hr⟩
  · simp [asN] at h
    exact .inl ⟨rfl, rfl, h.symm⟩
  · cases y <;> simp [asN] at h
    obtain rfl := vr_int hr
    exact .inr ⟨_, _, rfl, h.1.1, h.1.2, h.2.symm⟩
/-- Both bounds of a cut, run. -/
theorem g_bounds {isS : Bool} {len cap hi lo : Nat} {xl xh : Option AV} {vl vh : Option Value} (hcap : len ≤ cap) (hl : (xl = none ∧ vl = none) ∨ ∃ y vy, xl = some y ∧ vl = some vy ∧ VR s y vy) (hh : (xh = none ∧ vh = none) ∨ ∃ y vy, xh = some y ∧ vh = some vy ∧ VR s y vy)
    (h1 : asN len len xh = some hi) (h2 : asN hi 0 xl = some lo) (w : World) : (Instr.sliceBounds isS len cap vl vh none).run P w = .ok (lo, hi, cap) w ∧ lo ≤ hi ∧ hi ≤ len := by
  have e1 := g_bound hh h1
  have e2 := g_bound hl h2
  rcases e1 with ⟨rfl, rfl, rfl⟩ | ⟨k, m, rfl, h3, h4, rfl⟩ <;> rcases e2 with ⟨rfl, rfl, rfl⟩ | ⟨k2, m2, rfl, h5, h6, rfl⟩
  · exact ⟨by simp [Instr.sliceBounds], by omega, by omega⟩
  · exact ⟨by simp [Instr.sliceBounds, run_sliceBound w k2 m2 hi _ h5 h6], by omega, by omega⟩
  · have h7 : (m : Int) ≤ (cap : Nat) := by omega
    exact ⟨by simp [Instr.sliceBounds, run_sliceBound w k m cap _ h3 h7], by omega, by omega⟩
  · have h7 : (m : Int) ≤ (cap : Nat) := by omega
    exact ⟨by simp [Instr.sliceBounds, run_sliceBound w k m cap _ h3 h7, run_sliceBound w k2 m2 m.toNat _ h5 h6], by omega, by omega⟩
theorem pr_list_cut {Pr : Nat → Prop} {w : World} {b o k c : Nat} {es : List (List AV)} {U : Nat → Nat → Value} (hb : Pr b) (hk : ∀ e ∈ es, e.length = k)
    (hw : ∀ (i : Nat) (e : List AV) (j : Nat) (x : AV), es[i]? = some e → e[j]? = some x → w.cell? ⟨b, o + i * k + j, none⟩ = some (U i j))
    (hh : ∀ (i : Nat) (e : List AV) (j : Nat) (x : AV), es[i]? = some e → e[j]? = some x → PR Pr w x (U i j)) {lo hi : Nat} (h1 : lo ≤ hi) (h2 : hi ≤ es.length) (h3 : hi ≤ c) :
    PR Pr w (.list ((es.take hi).drop lo)) (.slice (some ⟨b, o + lo * k, none⟩) (hi - lo) (c - lo)) := by
  have hlen : ((es.take hi).drop lo).length = hi - lo := by simp; omega
  have hget : ∀ (i : Nat) (e : List AV), ((es.take hi).drop lo)[i]? = some e → es[lo + i]? = some e := by
    intro i e he
    rw [List.getElem?_drop, List.getElem?_take] at he
    split at he
    · exact he
    · cases he
  rw [← hlen]
  refine .list b (o + lo * k) k (c - lo) _ (fun i j => U (lo + i) j) hb (by omega) (fun e he => hk e (List.mem_of_mem_take (List.mem_of_mem_drop he))) (fun i e j x he hx => ?_) (fun i e j x he hx => hh (lo + i) e j x (hget i e he) hx)
  have := hw (lo + i) e j x (hget i e he) hx
  rwa [Nat.add_mul, ← Nat.add_assoc] at this
theorem g_slice {t e : TypeId} {k : Nat} {x v : AV} {vx : Value} {xl xh : Option AV} {vl vh : Option Value} (ht : P.underlying t = some (.slice e)) (hs : tsize P e = some k) (hx : VR s x vx)
    (hl : (xl = none ∧ vl = none) ∨ ∃ y vy, xl = some y ∧ vl = some vy ∧ VR s y vy) (hh : (xh = none ∧ vh = none) ∨ ∃ y vy, xh = some y ∧ vh = some vy ∧ VR s y vy) (h : pSlice k x xl xh = some v) :
    ∃ u, (Instr.sliceAt t vx vl vh none).run P s.w = .ok u s.w ∧ VR s v u := by
  have key : ∀ (A : Option Addr) (n c hi lo : Nat), (Instr.sliceBounds true n c vl vh none).run P s.w = .ok (lo, hi, c) s.w →
      (Instr.sliceAt t (.slice A n c) vl vh none).run P s.w = .ok (.slice (if c = lo then A else A.map (·.add (lo * k))) (hi - lo) (c - lo)) s.w := by
    intro A n c hi lo hb
    simp [Instr.sliceAt, run_underlying ht, Instr.slice, hb, run_tsize hs]
  unfold pSlice at h
  split at h
  · obtain ⟨hi, h1, h⟩ := Option.bind_eq_some_iff.1 h
    obtain ⟨lo, h2, rfl⟩ := Option.map_eq_some_iff.1 h
    obtain rfl : vx = .slice none 0 0 := by
      cases hx with
      | pure hx => cases hx; rfl
    obtain ⟨h3, h4, h5⟩ := g_bounds (isS := true) (P := P) (Nat.le_refl 0) hl hh h1 h2 s.w
    obtain rfl : hi = 0 := by omega
    obtain rfl : lo = 0 := by omega
    exact ⟨_, key _ _ _ _ _ h3, by simp; exact .pure .nilsl⟩
  · rename_i es
    obtain ⟨hi, h1, h⟩ := Option.bind_eq_some_iff.1 h
    obtain ⟨lo, h2, h⟩ := Option.bind_eq_some_iff.1 h
    split at h
    case isFalse => cases h
    rename_i hlen
    injection h with h
    subst h
    cases hx with
    | pure hx => cases hx with
      | list0 A c h0 =>
        obtain ⟨h3, h4, h5⟩ := g_bounds (isS := true) (P := P) (Nat.zero_le c) hl hh h1 h2 s.w
        simp at h5
        obtain rfl : hi = 0 := by omega
        obtain rfl : lo = 0 := by omega
        exact ⟨_, key _ _ _ _ _ h3, by simp; exact .pure (.list0 _ _ fun e => by by_cases hc0 : c = 0 <;> simp [hc0] at e ⊢; exact hc0 (h0 e))⟩
      | list b o k' c _ U hb hc hk hw hh' =>
        obtain ⟨h3, h4, h5⟩ := g_bounds (isS := true) (P := P) hc hl hh h1 h2 s.w
        refine ⟨_, key _ _ _ _ _ h3, ?_⟩
        by_cases hne : es = []
        · subst hne
          simp at h5
          obtain rfl : hi = 0 := by omega
          obtain rfl : lo = 0 := by omega
          simp
          exact .pure (.list0 _ _ fun e => by by_cases hc0 : c = 0 <;> simp [hc0] at e ⊢)
        · obtain rfl := lenIs_spec hlen hk hne
          by_cases hcl : c = lo
          · have : (es.take hi).drop lo = [] := by apply List.drop_eq_nil_of_le; simp; omega
            rw [this, show hi - lo = 0 from by omega]
            exact .pure (.list0 _ _ fun _ => by omega)
          · rw [if_neg hcl, Option.map_some, Addr.add_lit]
            exact .pure (pr_list_cut hb hk hw hh' h4 h5 (by omega))
  · rename_i es
    obtain ⟨hi, h1, h⟩ := Option.bind_eq_some_iff.1 h
    obtain ⟨lo, h2, h⟩ := Option.bind_eq_some_iff.1 h
    split at h
    case isFalse => cases h
    rename_i hcond
    obtain ⟨hhi, hlen⟩ := hcond
    injection h with h
    subst h
    cases hx with
    | pure hx => cases hx
    | tmpl b o k' _ U hb hk hw hh' =>
      obtain ⟨h3, h4, h5⟩ := g_bounds (isS := true) (P := P) (Nat.le_refl _) hl hh h1 h2 s.w
      subst hhi
      refine ⟨_, key _ _ _ _ _ h3, ?_⟩
      have hd : (es.drop lo).length = es.length - lo := List.length_drop
      by_cases hne : es.length = lo
      · have : es.drop lo = [] := List.drop_eq_nil_of_le (by omega)
        rw [if_pos hne, ← hd, this]
        exact .tmpl b o 0 [] (fun _ _ => undef) hb (fun e he => by cases he) (fun i e j x he => by simp at he) (fun i e j x he => by simp at he)
      · have hne' : es ≠ [] := by rintro rfl; simp at h4; simp at hne; omega
        obtain rfl := lenIs_spec hlen hk hne'
        rw [if_neg hne, Option.map_some, Addr.add_lit, ← hd]
        refine .tmpl b (o + lo * k) k _ (fun i j => U (lo + i) j) hb (fun e he => hk e (List.mem_of_mem_drop he)) (fun i e j x he hx => ?_) (fun i e j x he hx => hh' (lo + i) e j x (by rwa [List.getElem?_drop] at he) hx)
        have := hw (lo + i) e j x (by rwa [List.getElem?_drop] at he) hx
        rwa [Nat.add_mul, ← Nat.add_assoc] at this
  · rename_i l o m g k'
    split at h
    case isFalse => cases h
    rename_i hkk
    subst hkk
    obtain ⟨hi, h1, h⟩ := Option.bind_eq_some_iff.1 h
    obtain ⟨lo, h2, rfl⟩ := Option.map_eq_some_iff.1 h
    obtain ⟨A, c, rfl, ha, hn, hA, hh'⟩ := vr_ref hx
    obtain ⟨h3, h4, h5⟩ := g_bounds (isS := true) (P := P) hn hl hh h1 h2 s.w
    refine ⟨_, key _ _ _ _ _ h3, .ref l _ _ g k _ _ ha (by omega) (fun hp => ?_) fun hg b p hlay => ?_⟩
    · obtain ⟨ad, rfl⟩ := hA (by omega)
      by_cases hcl : c = lo
      · rw [if_pos hcl]; exact ⟨_, rfl⟩
      · rw [if_neg hcl]; exact ⟨_, rfl⟩
    · obtain ⟨h6, h7⟩ := hh' hg b p hlay
      have hmul : (c - lo) * k + lo * k = c * k := by rw [← Nat.add_mul]; congr 1; omega
      refine ⟨?_, by omega⟩
      by_cases hcl : c = lo
      · exact .inl (by omega)
      · rw [if_neg hcl]
        rcases h6 with h6 | rfl
        · omega
        · exact .inr (by rw [Option.map_some, Addr.add_lit, Nat.add_assoc])
  · cases h
theorem g_slstr {t : TypeId} {x v : AV} {vx : Value} {xl xh : Option AV} {vl vh : Option Value} (ht : P.underlying t = some .string) (hx : VR s x vx)
    (hl : (xl = none ∧ vl = none) ∨ ∃ y vy, xl = some y ∧ vl = some vy ∧ VR s y vy) (hh : (xh = none ∧ vh = none) ∨ ∃ y vy, xh = some y ∧ vh = some vy ∧ VR s y vy) (h : pSlstr x xl xh = some v) :
    ∃ u, (Instr.sliceAt t vx vl vh none).run P s.w = .ok u s.w ∧ VR s v u := by
  unfold pSlstr at h
  split at h
  · rename_i b
    obtain ⟨hi, h1, h⟩ := Option.bind_eq_some_iff.1 h
    obtain ⟨lo, h2, rfl⟩ := Option.map_eq_some_iff.1 h
    obtain rfl := vr_str hx
    obtain ⟨h3, h4, h5⟩ := g_bounds (isS := false) (P := P) (Nat.le_refl _) hl hh h1 h2 s.w
    exact ⟨.string (b.extract lo hi), by simp [Instr.sliceAt, run_underlying ht, Instr.slice, h3], .pure (.str _)⟩
  · cases h
theorem parts_VR {x : AV} {u : Value} {cs : List AV} (hx : VR s x u) (h : x.parts = some cs) : cs.length = u.cells.size ∧ ∀ (i : Nat) (y : AV) (v : Value), cs[i]? = some y → u.cells[i]? = some v → VR s y v := by
  have one : ∀ (hc : u.cells = #[u]) (hcs : cs = [x]), cs.length = u.cells.size ∧ ∀ (i : Nat) (y : AV) (v : Value), cs[i]? = some y → u.cells[i]? = some v → VR s y v := by
    intro hc hcs
    subst hcs
    rw [hc]
    refine ⟨rfl, fun i y v hy hv => ?_⟩
    cases i with
    | zero => simp at hy hv; subst hy hv; exact hx
    | succ i => simp at hy
  cases x <;> simp only [AV.parts, Option.some.injEq, reduceCtorEq] at h
  case agg cs' =>
    subst h
    obtain ⟨vs, rfl, hl, hv⟩ := vr_agg hx
    exact ⟨hl, hv⟩
  all_goals
    refine one ?_ h.symm
    cases hx with
    | pure hx => cases hx <;> rfl
    | _ => rfl
theorem setCells_length (ys : List AV) : ∀ (cs : List AV) (off : Nat), (setCells cs off ys).length = cs.length := by
  induction ys with
  | nil => intro cs off; rfl
  | cons y ys ih => intro cs off; simp [setCells, ih]
theorem setCells_VR {s : Stt} : ∀ (ys : List AV) (cs : List AV) (vs : Array Value) (us : List Value) (off k : Nat), ys.length = us.length → cs.length = vs.size →
    (∀ (i : Nat) (x : AV) (u : Value), cs[i]? = some x → vs[i]? = some u → VR s x u) → (∀ (i : Nat) (x : AV) (u : Value), ys[i]? = some x → us[i]? = some u → VR s x u) →
    (setCells cs (off + k) ys).length = ((us.zipIdx k).foldl (fun cs (c, j) => cs.setIfInBounds (off + j) c) vs).size ∧
    ∀ (i : Nat) (x : AV) (u : Value), (setCells cs (off + k) ys)[i]? = some x → ((us.zipIdx k).foldl (fun cs (c, j) => cs.setIfInBounds (off + j) c) vs)[i]? = some u → VR s x u
  | [], cs, vs, [], off, k, _, hl, hv, hy => ⟨hl, hv⟩
  | [], cs, vs, u :: us, off, k, h, hl, hv, hy => by simp at h
  | y :: ys, cs, vs, [], off, k, h, hl, hv, hy => by simp at h
  | y :: ys, cs, vs, u :: us, off, k, h, hl, hv, hy => by
    simp only [setCells, List.zipIdx_cons, List.foldl_cons]
    have := setCells_VR ys (cs.set (off + k) y) (vs.setIfInBounds (off + k) u) us off (k + 1) (by simpa using h) (by simpa using hl) (fun i x v hx hv' => ?_) (fun i x v hx hv' => hy (i + 1) x v (by simpa using hx) (by simpa using hv'))
    · rwa [← Nat.add_assoc] at this
    · rw [List.getElem?_set] at hx
      rw [Array.getElem?_setIfInBounds] at hv'
      by_cases e : off + k = i
      · rw [if_pos e] at hx hv'
        split at hx
        · split at hv'
          · injection hx with hx
            injection hv' with hv'
            subst hx hv'
            exact hy 0 _ _ rfl rfl
          · cases hv'
        · cases hx
      · rw [if_neg e] at hx hv'
        exact hv i x v hx hv'
theorem g_fill {env : List AV} {place : Nat → Option (Nat × Nat)} (hev : ∀ (o : Operand) (x : Ex), ex o = some x → VR s (x.ev env) (a.eval o)) :
    ∀ (parts : List (Nat × Operand)) (ps : List (Nat × Nat × Ex)) (cs cs' : List AV) (vs : Array Value), cparts place parts = some ps → cs.length = vs.size →
      (∀ (i : Nat) (x : AV) (u : Value), cs[i]? = some x → vs[i]? = some u → VR s x u) → fillP env cs ps = some cs' →
      ∃ vs', Instr.fill place vs (parts.map fun (i, x) => (i, a.eval x)) = some vs' ∧ cs'.length = vs'.size ∧ ∀ (i : Nat) (x : AV) (u : Value), cs'[i]? = some x → vs'[i]? = some u → VR s x u
  | [], ps, cs, cs', vs, hp, hl, hv, h => by
    simp [cparts] at hp
    subst hp
    simp [fillP] at h
    subst h
    exact ⟨vs, rfl, hl, hv⟩
  | (i, o) :: r, ps, cs, cs', vs, hp, hl, hv, h => by
    unfold cparts at hp
    split at hp
    case h_2 => cases hp
    rename_i off n e rest h1 h2 h3
    injection hp with hp
    subst hp
    unfold fillP at h
    split at h
    case h_2 => cases h
    rename_i ys hys
    split at h
    case isFalse => cases h
    rename_i hc
    obtain ⟨hc1, hc2⟩ := hc
    obtain ⟨h4, h5⟩ := parts_VR (hev o e h2) hys
    have h6 := setCells_VR (s := s) ys cs vs (a.eval o).cells.toList off 0 (by simpa using h4) hl hv (fun i x u hx hu => h5 i x u hx (by simpa using hu))
    obtain ⟨h7, h8⟩ := h6
    obtain ⟨vs', h9, h10, h11⟩ := g_fill hev r rest _ cs' _ h3 h7 h8 (by simpa using h)
    refine ⟨vs', ?_, h10, h11⟩
    simp only [List.map_cons, Instr.fill, h1]
    rw [if_neg (by simp; omega)]
    rw [← h9]
    congr 1
    rw [← Array.foldl_toList]
    simp
theorem g_slarr {t e : TypeId} {n k : Nat} {x v : AV} {vx : Value} {xl xh : Option AV} {vl vh : Option Value} (ht : P.underlying t = some (.array n e)) (hs : tsize P e = some k) (hx : VR s x vx)
    (hsz : ∀ l o g b p, x = .ptr l o g → atGen s.H l g → s.lay l = some (b, p) → p + o + n * k ≤ bsize s.w b)
    (hl : (xl = none ∧ vl = none) ∨ ∃ y vy, xl = some y ∧ vl = some vy ∧ VR s y vy) (hh : (xh = none ∧ vh = none) ∨ ∃ y vy, xh = some y ∧ vh = some vy ∧ VR s y vy) (h : pSlarr n k x xl xh = some v) :
    ∃ u, (Instr.sliceAt t vx vl vh none).run P s.w = .ok u s.w ∧ VR s v u := by
  unfold pSlarr at h
  split at h
  · rename_i l o g
    obtain ⟨hi, h1, h⟩ := Option.bind_eq_some_iff.1 h
    obtain ⟨lo, h2, rfl⟩ := Option.map_eq_some_iff.1 h
    obtain ⟨ad, rfl, ha, hh'⟩ := vr_ptr hx
    obtain ⟨h3, h4, h5⟩ := g_bounds (isS := false) (P := P) (Nat.le_refl _) hl hh h1 h2 s.w
    refine ⟨.slice (some (if n = lo then ad else ad.add (lo * k))) (hi - lo) (n - lo), by simp [Instr.sliceAt, run_underlying ht, Instr.sureAddr, h3, run_tsize hs], ?_⟩
    refine .ref l _ _ g k _ _ ha (by omega) (fun _ => ⟨_, rfl⟩) fun hg b p hlay => ?_
    have h6 := hh' hg b p hlay
    have h7 := hsz l o g b p rfl hg hlay
    have hmul : (n - lo) * k + lo * k = n * k := by rw [← Nat.add_mul]; congr 1; omega
    refine ⟨?_, by omega⟩
    by_cases hcl : n = lo
    · exact .inl (by omega)
    · rw [if_neg hcl, h6, Addr.add_lit, Nat.add_assoc]
      exact .inr rfl
  · cases h
theorem run_mapM_list {α β : Type} {g : α → Sem β} {h : α → β} {w : World} : ∀ (l : List α), (∀ x ∈ l, (g x).run P w = .ok (h x) w) → (l.mapM g).run P w = .ok (l.map h) w
  | [], _ => rfl
  | x :: l, hx => by
    simp only [List.mapM_cons, Sem.run_bind, hx x (by simp), Result.andThen_ok, run_mapM_list l (fun y hy => hx y (by simp [hy])), Sem.run_pure, List.map_cons]
theorem run_mapM_array {α β : Type} {g : α → Sem β} {h : α → β} {w : World} (xs : Array α) (hx : ∀ x ∈ xs.toList, (g x).run P w = .ok (h x) w) : (xs.mapM g).run P w = .ok (xs.map h) w := by
  obtain ⟨l⟩ := xs
  rw [List.mapM_toArray]
  simp only [Sem.run_map, run_mapM_list l hx, Result.andThen_ok]
  simp
theorem mapM_avOf {s : Stt} : ∀ (l : List Value) (z : List AV), l.mapM avOf = some z → z.length = l.length ∧ ∀ (i : Nat) (x : AV) (u : Value), z[i]? = some x → l[i]? = some u → VR s x u
  | [], z, h => by simp at h; subst h; exact ⟨rfl, fun i x u hx => by simp at hx⟩
  | v :: l, z, h => by
    simp only [List.mapM_cons] at h
    obtain ⟨y, h1, h⟩ := Option.bind_eq_some_iff.1 h
    obtain ⟨r, h2, h⟩ := Option.bind_eq_some_iff.1 h
    injection h with h
    subst h
    obtain ⟨h3, h4⟩ := mapM_avOf (s := s) l r h2
    refine ⟨by simp [h3], fun i x u hx hu => ?_⟩
    cases i with
    | zero => simp at hx hu; subst hx hu; exact .pure (avOf_VR (P := default) h1)
    | succ i => exact h4 i x u (by simpa using hx) (by simpa using hu)
theorem cellsOf_VR {s : Stt} {v : Value} {z : List AV} (h : cellsOf v = some z) : z.length = v.cells.size ∧ ∀ (i : Nat) (x : AV) (u : Value), z[i]? = some x → v.cells[i]? = some u → VR s x u := by
  obtain ⟨h1, h2⟩ := mapM_avOf (s := s) v.cells.toList z h
  exact ⟨by simpa using h1, fun i x u hx hu => h2 i x u hx (by simpa using hu)⟩
theorem g_build_struct {t : TypeId} {fs : Array Field} {z : List AV} {env : List AV} {parts : Array (Nat × Operand)} {ps : List (Nat × Nat × Ex)} {v : AV} (ht : P.underlying t = some (.struct fs)) (hz : tzero P t = some z)
    (hp : cparts (fun i => ((fs[i]?).map fun f => (f.offset, ((P.info? f.type).map (·.size)).getD 0))) parts.toList = some ps) (hall : ∀ f ∈ fs.toList, (tsize P f.type).isSome = true)
    (hev : ∀ (o : Operand) (x : Ex), ex o = some x → VR s (x.ev env) (a.eval o)) (h : (fillP env z ps).map AV.agg = some v) :
    ∃ u, (Instr.build t (parts.map fun (i, x) => (i, a.eval x))).run P s.w = .ok u s.w ∧ VR s v u := by
  obtain ⟨zv, hz1, hz2⟩ := run_tzero (w := s.w) hz
  obtain ⟨cs', h1, rfl⟩ := Option.map_eq_some_iff.1 h
  obtain ⟨h2, h3⟩ := cellsOf_VR (s := s) hz2
  have hmap : (fs.mapM (fun (f : Field) => (do pure (f.offset, ← sizeOf f.type) : Sem (Nat × Nat)))).run P s.w = .ok (fs.map fun f => (f.offset, ((P.info? f.type).map (·.size)).getD 0)) s.w := by
    refine run_mapM_array fs fun f hf => ?_
    obtain ⟨n, hn⟩ := Option.isSome_iff_exists.1 (hall f hf)
    have hn' := hn
    unfold tsize at hn'
    simp [run_tsize hn, hn']
  have hplace : (fun (i : Nat) => ((fs.map fun (f : Field) => (f.offset, ((P.info? f.type).map (·.size)).getD 0)))[i]?) = fun i => ((fs[i]?).map fun f => (f.offset, ((P.info? f.type).map (·.size)).getD 0)) := by
    funext i; simp
  obtain ⟨vs', h4, h5, h6⟩ := g_fill hev parts.toList ps z cs' zv.cells hp h2 h3 h1
  refine ⟨.agg vs', ?_, .agg _ _ h5 h6⟩
  simp only [Instr.build, Sem.run_bind, hz1, Result.andThen_ok, run_underlying ht, hmap]
  rw [hplace]
  simp only [Array.toList_map]
  rw [h4]
  rfl
theorem g_build_array {t e : TypeId} {n k : Nat} {z : List AV} {env : List AV} {parts : Array (Nat × Operand)} {ps : List (Nat × Nat × Ex)} {v : AV} (ht : P.underlying t = some (.array n e)) (hk : tsize P e = some k) (hz : tzero P t = some z)
    (hp : cparts (fun i => some (i * k, k)) parts.toList = some ps)
    (hev : ∀ (o : Operand) (x : Ex), ex o = some x → VR s (x.ev env) (a.eval o)) (h : (fillP env z ps).map AV.agg = some v) :
    ∃ u, (Instr.build t (parts.map fun (i, x) => (i, a.eval x))).run P s.w = .ok u s.w ∧ VR s v u := by
  obtain ⟨zv, hz1, hz2⟩ := run_tzero (w := s.w) hz
  obtain ⟨cs', h1, rfl⟩ := Option.map_eq_some_iff.1 h
  obtain ⟨h2, h3⟩ := cellsOf_VR (s := s) hz2
  obtain ⟨vs', h4, h5, h6⟩ := g_fill hev parts.toList ps z cs' zv.cells hp h2 h3 h1
  refine ⟨.agg vs', ?_, .agg _ _ h5 h6⟩
  simp only [Instr.build, Sem.run_bind, hz1, Result.andThen_ok, run_underlying ht, run_tsize hk]
  simp only [Array.toList_map]
  rw [h4]
  rfl
end
end Go.Ai
