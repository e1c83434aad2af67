/- Regions that draw their order: the code's walk. -/
import Derived.Test.YtlgbbabijifflaaA18
set_option linter.unusedVariables false
set_option linter.unusedSimpArgs false
namespace Go.Ai
open Go.RowKit
section
variable {P : Program} {B0 : Nat}
/-- What holds of two operations of a region, the first before the second in the order that was run. -/
structure Ahead (ops : Array Oper) (is : List IOper) (m : List Nat) (x y : Nat × Acc) : Prop where
  ne : x.1 ≠ y.1
  edge : y.1 ∉ edgesOf ops x.1
  swap : (m.getD y.1 0).testBit x.1 = true ∨ Swap is x y
structure Stays (ops : Array Oper) (m : List Nat) (y : Nat × Acc) : Prop where
  lt : y.1 < ops.size
  self : y.1 ∉ edgesOf ops y.1
  mask : m.getD y.1 0 = maskOf m (edgesOf ops y.1)
theorem mask_bit {m : List Nat} {k : Nat} : ∀ (es : List Nat) (s : Nat), (es.foldl (fun s e => s ||| 2 ^ e ||| m.getD e 0) s).testBit k = true → s.testBit k = true ∨ ∃ e ∈ es, e = k ∨ (m.getD e 0).testBit k = true
  | [], s, h => .inl h
  | e :: es, s, h => by
    rw [List.foldl_cons] at h
    rcases mask_bit es _ h with h | ⟨e', h1, h2⟩
    · simp only [Nat.testBit_or, Bool.or_eq_true, Nat.testBit_two_pow, decide_eq_true_eq] at h
      rcases h with (h | h) | h
      · exact .inl h
      · exact .inr ⟨e, by simp, .inl h⟩
      · exact .inr ⟨e, by simp, .inr h⟩
    · exact .inr ⟨e', by simp [h1], h2⟩
theorem mem_edges {ops : Array Oper} {j e : Nat} {o : Oper} (ho : ops[j]? = some o) : e ∈ edgesOf ops j ↔ ∃ g ∈ o.after, Region.binds .any g = true ∧ g.on = e := by
  simp only [edgesOf, ho, List.mem_map, List.mem_filter, Array.mem_toList_iff]
  constructor
  · rintro ⟨g, ⟨h1, h2⟩, h3⟩; exact ⟨g, h1, h2, h3⟩
  · rintro ⟨g, h1, h2, h3⟩; exact ⟨g, ⟨h1, h2⟩, h3⟩
theorem draw_walk {ops : Array Oper} {is : List IOper} {m : List Nat} {base : Nat} {hd : Hands} {Q : Exit → Act → World → Prop} (hh : HandsOk P hd) (hO : OpsR P ops is) : ∀ (n : Nat) (rem : List (Nat × Acc)) (listed : Array Bool) (s : Stt) (a : Act) (st st' : St),
    rem.length = n → rem.Pairwise (Ahead ops is m) → (∀ y ∈ rem, Stays ops m y) → (∀ k, k < ops.size → (listed.getD k true = true ↔ k ∉ rem.map Prod.fst)) → listed.size = ops.size →
    (∀ y ∈ rem, ∀ e ∈ edgesOf ops y.1, e < ops.size) →
    (∀ k e, k < ops.size → k ∉ rem.map Prod.fst → (m.getD k 0).testBit e = true → e ∉ rem.map Prod.fst) →
    Runs hd is base rem st st' → EnvR s st.env a.tmps → s.H = st.H → Sim B0 s → B0 ≤ s.w.heap.size →
    (∀ t a', EnvR t st'.env a'.tmps → a'.defers = a.defers → t.H = st'.H → Step B0 s t → Q .normal a' t.w) → wpAny P .any ops Q n listed a s.w
  | 0, rem, listed, s, a, st, st', hn, hp, hst, hl, hsz, hE, hc, hr, he, hH, hs, hB, hK => by
    obtain rfl := List.eq_nil_of_length_eq_zero hn
    cases hr
    refine ⟨List.eq_nil_iff_forall_not_mem.2 fun j hj => ?_, hK s a he rfl hH (.refl hs)⟩
    obtain ⟨h1, o, ho, _⟩ := mem_ready.1 hj
    have hlt : j < ops.size := (Array.getElem?_eq_some_iff.1 ho).1
    have := (hl j hlt).2 (by simp)
    rw [h1] at this
    cases this
  | n + 1, rem, listed, s, a, st, st', hn, hp, hst, hl, hsz, hE, hc, hr, he, hH, hs, hB, hK => by
    have hlist : ∀ k, k < ops.size → k ∉ rem.map Prod.fst → listed.getD k false = true := fun k hk h => by
      have := (hl k hk).2 h
      have hk' : k < listed.size := by omega
      simpa [hk'] using this
    have hlist' : ∀ k, listed.getD k false = true → k ∉ rem.map Prod.fst := fun k h => by
      have hk' : k < listed.size := by
        rcases Nat.lt_or_ge k listed.size with h' | h'
        · exact h'
        · simp [Array.getElem?_eq_none h'] at h
      refine (hl k (by omega)).1 ?_
      simpa [hk'] using h
    refine ⟨fun hnil => ?_, fun i hi => ?_⟩
    · cases rem with
      | nil => simp at hn
      | cons y rest =>
        exfalso
        have hy := hst y (by simp)
        have ho : ops[y.1]? = some (ops[y.1]'hy.lt) := Array.getElem?_eq_getElem hy.lt
        have : y.1 ∈ Region.ready .any ops listed := mem_ready.2 ⟨by
          have := mt (hl y.1 hy.lt).1 (by simp)
          simpa using this, _, ho, fun g hg hb => by
          have hm : g.on ∈ edgesOf ops y.1 := (mem_edges ho).2 ⟨g, hg, hb, rfl⟩
          refine hlist _ (hE y (by simp) _ hm) fun hmem => ?_
          simp only [List.map_cons, List.mem_cons, List.mem_map] at hmem
          rcases hmem with h | ⟨z, hz, h⟩
          · exact hy.self (h ▸ hm)
          · have := (List.pairwise_cons.1 hp).1 z hz
            exact this.edge (h ▸ hm)⟩
        rw [hnil] at this
        cases this
    · obtain ⟨h1, o, ho, hafter⟩ := mem_ready.1 hi
      have hlt : i < ops.size := (Array.getElem?_eq_some_iff.1 ho).1
      have hmem : i ∈ rem.map Prod.fst := Classical.byContradiction fun h => by
        have := (hl i hlt).2 h
        rw [h1] at this; cases this
      obtain ⟨y, hy, rfl⟩ := List.mem_map.1 hmem
      obtain ⟨l1, l2, rfl⟩ := List.append_of_mem hy
      have hys := hst y hy
      have hclosed : ∀ e, (m.getD y.1 0).testBit e = true → e ∉ (l1 ++ y :: l2).map Prod.fst := fun e hb => by
        rw [hys.mask] at hb
        rcases mask_bit _ _ hb with h | ⟨e', h2, h3⟩
        · simp at h
        · obtain ⟨g, g1, g2, rfl⟩ := (mem_edges ho).1 h2
          have hnot := hlist' _ (hafter g g1 g2)
          rcases h3 with rfl | h3
          · exact hnot
          · exact hc _ _ (hE y hy _ h2) hnot h3
      have hsw : ∀ x ∈ l1, Swap is x y := fun x hx => by
        have hpw := (List.pairwise_append.1 hp).2.2 x hx y (by simp)
        rcases hpw.swap with h | h
        · exact absurd (List.mem_map.2 ⟨x, by simp [hx], rfl⟩) (hclosed _ h)
        · exact h
      have hr' := front_run l1 hsw hr
      cases hr' with
      | cons i A io _ _ s1 _ hio hrun hA hrest =>
        refine opr_wp hh hO ho hio he hH hs hB hrun fun t a' he' hd' hH' hst' => ?_
        have hsub : (l1 ++ l2).Sublist (l1 ++ (i, A) :: l2) := List.Sublist.append (List.Sublist.refl _) (List.sublist_cons_self _ _)
        have hp' := hp.sublist hsub
        have hne : ∀ z ∈ l1 ++ l2, z.1 ≠ i := fun z hz => by
          rcases List.mem_append.1 hz with h | h
          · exact ((List.pairwise_append.1 hp).2.2 z h (i, A) (by simp)).ne
          · exact Ne.symm (((List.pairwise_cons.1 (List.pairwise_append.1 hp).2.1).1 z h).ne)
        have hni : i ∉ (l1 ++ l2).map Prod.fst := fun h => by
          obtain ⟨z, hz, e⟩ := List.mem_map.1 h
          exact hne z hz e
        have hiff : ∀ k, k ≠ i → (k ∈ (l1 ++ (i, A) :: l2).map Prod.fst ↔ k ∈ (l1 ++ l2).map Prod.fst) := fun k hk => by
          simp only [List.map_append, List.map_cons, List.mem_append, List.mem_cons, hk, false_or]
        refine draw_walk hh hO n (l1 ++ l2) _ t a' s1 st' (by simp at hn ⊢; omega) hp' (fun z hz => hst z (hsub.subset hz)) (fun k hk => ?_) (by simpa using hsz) (fun z hz => hE z (hsub.subset hz)) (fun k e hk h1 h2 => ?_) hrest he' hH' hst'.sim (hst'.size hB)
          fun t' a'' e1 e2 e3 e4 => hK t' a'' e1 (e2.trans hd') e3 (hst'.trans e4)
        · by_cases hki : k = i
          · subst hki
            have : k < listed.size := by omega
            simp [this] at hni ⊢
            simpa using hni
          · rw [getD_set_ne true (Ne.symm hki), hl k hk, hiff k hki]
        · by_cases hki : k = i
          · subst hki
            have h3 := hclosed e h2
            intro h4
            exact h3 ((List.Sublist.map Prod.fst hsub).subset h4)
          · have h3 := hc k e hk (fun h => h1 ((hiff k hki).1 h)) h2
            exact fun h4 => h3 ((List.Sublist.map Prod.fst hsub).subset h4)
/-- Reserved places for what a region makes. -/
theorem step_reserve {s : Stt} (hs : Sim B0 s) (n : Nat) : Step B0 s ⟨s.lay, s.H ++ List.replicate n none, s.Pr, s.w.drew⟩ := by
  have hget : ∀ (l : Nat) (o : LObj), (s.H ++ List.replicate n none)[l]? = some (some o) ↔ s.H[l]? = some (some o) := fun l o => by
    rcases Nat.lt_or_ge l s.H.length with h | h
    · rw [List.getElem?_append_left h]
    · rw [List.getElem?_append_right h, List.getElem?_eq_none h]
      simp only [List.getElem?_replicate]
      split <;> simp
  have hat : ∀ l g, atGen s.H l g → atGen (s.H ++ List.replicate n none) l g := by
    rintro l g ⟨cs, k, r, f, h⟩
    exact ⟨cs, k, r, f, (hget l _).2 h⟩
  have hk : Keeps s ⟨s.lay, s.H ++ List.replicate n none, s.Pr, s.w.drew⟩ := ⟨fun _ h => h, fun _ _ => rfl, fun l g h => ⟨g, Nat.le_refl _, hat l g h, fun _ => ⟨rfl, fun _ _ _ => rfl⟩⟩, fun l es h => ⟨⟨es, (hget l _).2 h⟩, rfl⟩⟩
  refine ⟨hk, ⟨fun l o h => ?_, hs.inj, hs.old, fun l b p h => ?_⟩, (Below.refl _ _).drew, fun _ _ h => h⟩
  · obtain ⟨b, p, h1, h2⟩ := hs.obj l o ((hget l o).1 h)
    exact ⟨b, p, h1, h2.move hk rfl Iff.rfl⟩
  · have := hs.lay l b p h
    exact ⟨by simp; omega, this.2⟩
theorem draw_ok {id : Nat} {ops : Array Oper} {is : List IOper} {ord : List Nat} {hd : Hands} {Q : Exit → Act → World → Prop} {m : List Nat} (hm : P.follows .mixedOrders = true) (hh : HandsOk P hd) (hO : OpsR P ops is) (hdr : drawOk ops is m ord = true)
    {s : Stt} {a : Act} {st st' : St} {as : List Acc} (he : EnvR s st.env a.tmps) (hH : s.H = st.H) (hs : Sim B0 s) (hB : B0 ≤ s.w.heap.size)
    (h : runDraw hd is st.H.length ord ⟨st.env, st.H ++ List.replicate is.length none⟩ [] = some (st', as)) (hps : (pairsOf is m ord).all (fun p => (as.getD p.1 default).free (as.getD p.2 default)) = true)
    (hK : ∀ t a', EnvR t st'.env a'.tmps → a'.defers = a.defers → t.H = st'.H → Step B0 s t → Q .normal a' t.w) : (Code.region id ops true).wp P Q a s.w := by
  refine wp_region_any hm ?_
  obtain ⟨bs, hbs, hlen, hrun⟩ := runDraw_runs ord _ _ _ _ h
  simp only [List.nil_append] at hbs
  subst hbs
  simp only [drawOk, Bool.and_eq_true, beq_iff_eq, List.all_eq_true, List.mem_range] at hdr
  obtain ⟨hsz, hall⟩ := hdr
  have hq : ∀ q (hq : q < ord.length), (q ∈ ord ∧ ord[q] < ops.size ∧ m.getD ord[q] 0 = maskOf m (edgesOf ops ord[q]) ∧ ∀ e ∈ edgesOf ops ord[q], e ∈ ord.take q) ∧ ∀ i ∈ ord.take q, i ≠ ord[q] ∧ ((m.getD ord[q] 0).testBit i = true ∨ apartI is (is.getD i default) (is.getD ord[q] default) = true) := fun q hq => by
    obtain ⟨⟨⟨⟨h1, h2⟩, h3⟩, h4⟩, h5⟩ := hall q hq
    have hg : ord.getD q 0 = ord[q] := by simp [hq]
    rw [hg] at h2 h3 h4 h5
    refine ⟨⟨by simpa using h1, by simpa using h2, by simpa using h3, fun e he => by simpa using h4 e he⟩, fun i hi => ?_⟩
    have := h5 i hi
    simp only [bne_iff_ne, ne_eq, Bool.or_eq_true] at this
    simpa using this
  have hzl : (ord.zip as).length = ord.length := by simp [hlen]
  have hfst : (ord.zip as).map Prod.fst = ord := by rw [List.map_fst_zip]; omega
  have htake : ∀ p q (hp : p < ord.length), p < q → ord[p] ∈ ord.take q := fun p q hp hpq => List.mem_take_iff_getElem.2 ⟨p, by omega, rfl⟩
  have hislen := hO.len
  have hbit : ∀ p q, p < q → q < ord.length → (m.getD (ord.getD q 0) 0).testBit (ord.getD p 0) = false → (heapish (is.getD (ord.getD p 0) default).op + heapish (is.getD (ord.getD q 0) default).op ≥ 3 ∧ heapish (is.getD (ord.getD p 0) default).op ≥ 1 ∧ heapish (is.getD (ord.getD q 0) default).op ≥ 1) → (as.getD p default).free (as.getD q default) = true := fun p q hpq hqq hb hk => by
    refine List.all_eq_true.1 hps (p, q) ?_
    simp only [pairsOf, List.mem_flatMap, List.mem_range, List.mem_map, List.mem_filter, Prod.mk.injEq]
    have hks : ∀ k, k < is.length → (is.map fun o => heapish o.op).getD k 0 = heapish (is.getD k default).op := fun k hk => by simp [hk]
    have hlt : ∀ p, p < ord.length → ord.getD p 0 < is.length := fun p hp => by
      have := (hq p hp).1.2.1
      simp only [List.getD_eq_getElem?_getD, List.getElem?_eq_getElem hp, Option.getD_some]; omega
    refine ⟨q, hqq, p, ⟨hpq, ?_⟩, rfl, rfl⟩
    rw [hks _ (hlt p (by omega)), hks _ (hlt q hqq)]
    rw [hb]
    simp only [Bool.not_false, Bool.true_and, Bool.and_eq_true, decide_eq_true_eq]
    exact ⟨⟨hk.1, hk.2.1⟩, hk.2.2⟩
  have hpair : (ord.zip as).Pairwise (Ahead ops is m) := by
    rw [List.pairwise_iff_getElem]
    intro p q hp hq' hpq
    have hp1 : p < ord.length := by omega
    have hq1 : q < ord.length := by omega
    simp only [List.getElem_zip]
    obtain ⟨h1, h2⟩ := (hq q hq1).2 ord[p] (htake p q hp1 hpq)
    refine ⟨h1, fun hedge => ?_, ?_⟩
    · have h3 := (hq p hp1).1.2.2.2 _ hedge
      obtain ⟨r, hr, hr'⟩ := List.mem_take_iff_getElem.1 h3
      have h4 : ord[r] ≠ ord[q] := ((hq q hq1).2 ord[r] (htake r q (by omega) (by omega))).1
      exact h4 hr'
    · rcases h2 with h2 | h2
      · exact .inl h2
      · cases hb : (m.getD ord[q] 0).testBit ord[p] with
        | true => exact .inl rfl
        | false =>
          refine .inr fun o k ho hk => ?_
          simp only at ho hk
          have go : is.getD ord[p] default = o := by simp [List.getD_eq_getElem?_getD, ho]
          have gk : is.getD ord[q] default = k := by simp [List.getD_eq_getElem?_getD, hk]
          rw [go, gk] at h2
          refine ⟨h2, ?_⟩
          have hgp : ord.getD p 0 = ord[p] := by simp [hp1]
          have hgq : ord.getD q 0 = ord[q] := by simp [hq1]
          have h5 := hbit p q hpq hq1 (by rw [hgp, hgq]; exact hb)
          rw [hgp, hgq, go, gk] at h5
          have hbp : as.getD p default = as[p]'(by omega) := by
            have : p < as.length := by omega
            simp [this]
          have hbq : as.getD q default = as[q]'(by omega) := by
            have : q < as.length := by omega
            simp [this]
          rw [hbp, hbq] at h5
          unfold Com
          have hle : ∀ i : IOp, heapish i ≤ 2 := fun i => by cases i <;> simp [heapish]
          have l1 := hle o.op
          have l2 := hle k.op
          by_cases e1 : heapish o.op = 0
          · exact .inr (.inl e1)
          · by_cases e2 : heapish k.op = 0
            · exact .inr (.inr (.inl e2))
            · by_cases e3 : heapish o.op = 1 ∧ heapish k.op = 1
              · exact .inr (.inr (.inr e3))
              · exact .inl (h5 ⟨by omega, by omega, by omega⟩)
  have hmem : ∀ y ∈ ord.zip as, ∃ q, ∃ h : q < ord.length, y.1 = ord[q] := fun y hy => by
    obtain ⟨q, h1, h2⟩ := List.getElem_of_mem hy
    refine ⟨q, by omega, ?_⟩
    rw [← h2]; simp
  have hord : ∀ k, k < ops.size → k ∈ ord := fun k hk => (hq k (by omega)).1.1
  have hres := step_reserve hs is.length
  refine draw_walk (B0 := B0) hh hO ops.size (ord.zip as) _ _ a _ st' (by omega) hpair (fun y hy => ?_) (fun k hk => ?_) (by simp) (fun y hy e he => ?_) (fun k e hk hn => ?_) hrun (he.move hres.keeps) (by simp only [hH]) hres.sim (hres.size hB)
    (fun t a' e1 e2 e3 e4 => hK t a' e1 e2 e3 (hres.trans e4))
  · obtain ⟨q, h1, h2⟩ := hmem y hy
    refine ⟨by rw [h2]; exact (hq q h1).1.2.1, fun hs => ?_, by rw [h2]; exact (hq q h1).1.2.2.1⟩
    rw [h2] at hs
    have := (hq q h1).1.2.2.2 _ hs
    exact ((hq q h1).2 _ this).1 rfl
  · rw [hfst]
    have := hord k hk
    simp [hk, this]
  · obtain ⟨q, h1, h2⟩ := hmem y hy
    rw [h2] at he
    have := List.mem_of_mem_take ((hq q h1).1.2.2.2 _ he)
    obtain ⟨r, hr, hr'⟩ := List.getElem_of_mem this
    rw [← hr']
    exact (hq r hr).1.2.1
  · rw [hfst] at hn
    exact absurd (hord k hk) hn
end
end Go.Ai
