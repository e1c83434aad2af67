/- Part 5 of the proof: what the last text leans on. -/
import Derived.Test.YtlgbbabijifflaaProg
import Derived.KernelRfl
import Derived.Test.YtlgbbabijifflaaXM4
set_option linter.unusedVariables false
set_option linter.unusedSimpArgs false
namespace Go.Proofs.Ytlgbbabijifflaa.sys
attribute [local irreducible] Go.Ai.wrapI Go.Ai.arith.bits Go.Ai.shlI Go.Ai.shrI
open Go Go.Ai Go.Proofs.Ytlgbbabijifflaa.L1R
open runs (RunD SysD runC sysC intsC locsC facsC dSys dSys_C dSys_inv chkS chk_ok sysFine numP)
open mdl (ModD modC modK setC setsC mixed nilOk)
def U3 : Tab := [(76, ⟨.iso, g57⟩)]
theorem okU3 : HandsOk Try.prog (hands U3) := hands_ok (.cons c76 .nil)
theorem mask_no {f : Nat → Bool} {n : Nat} (h : f n = false) : maskN f (n + 1) = maskN f n := by simp [maskN, h]
set_option maxRecDepth 100000 in
set_option maxHeartbeats 1000000 in
theorem loop64_1 {hd : Hands} {n : Nat} {s : SysD} {l : List (Int × Int)} (h : ok62 (s, l)) (hn : 100 < n) {f l2 : Nat} (hf : (f : Int) < s.fa) {v4 v5 : AV} {env : List AV} (he : IEnv (fun g => (g 0 :: .list (l.map ptC) :: .ptr l2 0 0 :: g 3 :: v4 :: v5 :: .int .i64 (f : Int) :: .int .u64 0 :: .int .i64 0 :: g 9 :: g 10 :: g 11 :: g 12 :: g 13 :: g 14 :: g 15 :: g 16 :: g 17 :: g 18 :: g 19 :: g 20 :: g 21 :: g 22 :: g 23 :: g 24 :: g 25 :: g 26 :: g 27 :: g 28 :: g 29 :: g 30 :: g 31 :: g 32 :: g 33 :: g 34 :: g 35 :: g 36 :: g 37 :: g 38 :: g 39 :: g 40 :: g 41 :: g 42 :: g 43 :: g 44 :: g 45 :: g 46 :: g 47 :: g 48 :: g 49 :: g 50 :: g 51 :: g 52 :: g 53 :: g 54 :: g 55 :: g 56 :: g 57 :: g 58 :: g 59 :: g 60 :: g 61 :: g 62 :: g 63 :: g 64 :: g 65 :: g 66 :: g 67 :: g 68 :: g 69 :: g 70 :: g 71 :: g 72 :: g 73 :: g 74 :: g 75 :: g 76 :: g 77 :: g 78 :: g 79 :: g 80 :: g 81 :: g 82 :: g 83 :: g 84 :: g 85 :: g 86 :: g 87 :: g 88 :: g 89 :: g 90 :: g 91 :: g 92 :: g 93 :: g 94 :: g 95 :: g 96 :: g 97 :: g 98 :: g 99 :: g 100 :: g 101 :: g 102 :: g 103 :: g 104 :: g 105 :: g 106 :: g 107 :: [])) env)
    {Q : Out → List AV → Ah → Prop} (hQ : ∀ env, IEnv (fun g => (g 0 :: .list (l.map ptC) :: .ptr l2 0 0 :: g 3 :: v4 :: v5 :: .int .i64 (f : Int) :: .int .u64 ((valS s l f : Nat) : Int) :: g 8 :: g 9 :: g 10 :: g 11 :: g 12 :: g 13 :: g 14 :: g 15 :: g 16 :: g 17 :: g 18 :: g 19 :: g 20 :: g 21 :: g 22 :: g 23 :: g 24 :: g 25 :: g 26 :: g 27 :: g 28 :: g 29 :: g 30 :: g 31 :: g 32 :: g 33 :: g 34 :: g 35 :: g 36 :: g 37 :: g 38 :: g 39 :: g 40 :: g 41 :: g 42 :: g 43 :: g 44 :: g 45 :: g 46 :: g 47 :: g 48 :: g 49 :: g 50 :: g 51 :: g 52 :: g 53 :: g 54 :: g 55 :: g 56 :: g 57 :: g 58 :: g 59 :: g 60 :: g 61 :: g 62 :: g 63 :: g 64 :: g 65 :: g 66 :: g 67 :: g 68 :: g 69 :: g 70 :: g 71 :: g 72 :: g 73 :: g 74 :: g 75 :: g 76 :: g 77 :: g 78 :: g 79 :: g 80 :: g 81 :: g 82 :: g 83 :: g 84 :: g 85 :: g 86 :: g 87 :: g 88 :: g 89 :: g 90 :: g 91 :: g 92 :: g 93 :: g 94 :: g 95 :: g 96 :: g 97 :: g 98 :: g 99 :: g 100 :: g 101 :: g 102 :: g 103 :: g 104 :: g 105 :: g 106 :: g 107 :: [])) env → Q (.exit 2) env [(l2, some (.cells (sysC s) 0 0 false false))]) :
    aLoop hd n (loopAt ir64 1) n env [(l2, some (.cells (sysC s) 0 0 false false))] Q := by
  obtain ⟨g, rfl⟩ := he
  obtain ⟨hv, hl1, hl2, hlp⟩ := h
  simp only at hv hl1 hl2 hlp
  obtain ⟨q1, q2, q3, q4, q5, q6, q7, q8, q9⟩ := chk_ok hv.2
  refine aLoop_up (fun w env A => A = [(l2, some (.cells (sysC s) 0 0 false false))] ∧ IEnv (fun g => (g 0 :: .list (l.map ptC) :: .ptr l2 0 0 :: g 3 :: v4 :: v5 :: .int .i64 (f : Int) :: .int .u64 ((maskN (bitF s l f) w : Nat) : Int) :: .int .i64 (w : Int) :: g 9 :: g 10 :: g 11 :: g 12 :: g 13 :: g 14 :: g 15 :: g 16 :: g 17 :: g 18 :: g 19 :: g 20 :: g 21 :: g 22 :: g 23 :: g 24 :: g 25 :: g 26 :: g 27 :: g 28 :: g 29 :: g 30 :: g 31 :: g 32 :: g 33 :: g 34 :: g 35 :: g 36 :: g 37 :: g 38 :: g 39 :: g 40 :: g 41 :: g 42 :: g 43 :: g 44 :: g 45 :: g 46 :: g 47 :: g 48 :: g 49 :: g 50 :: g 51 :: g 52 :: g 53 :: g 54 :: g 55 :: g 56 :: g 57 :: g 58 :: g 59 :: g 60 :: g 61 :: g 62 :: g 63 :: g 64 :: g 65 :: g 66 :: g 67 :: g 68 :: g 69 :: g 70 :: g 71 :: g 72 :: g 73 :: g 74 :: g 75 :: g 76 :: g 77 :: g 78 :: g 79 :: g 80 :: g 81 :: g 82 :: g 83 :: g 84 :: g 85 :: g 86 :: g 87 :: g 88 :: g 89 :: g 90 :: g 91 :: g 92 :: g 93 :: g 94 :: g 95 :: g 96 :: g 97 :: g 98 :: g 99 :: g 100 :: g 101 :: g 102 :: g 103 :: g 104 :: g 105 :: g 106 :: g 107 :: [])) env) l.length (.refl _) ⟨rfl, .mk rfl⟩ (by omega) ?_
  rintro w env A hw ⟨rfl, ⟨g, rfl⟩⟩
  (repeat' ((conv => whnf); first | refine And.intro rfl ?_ | refine ldI (by repeat first | exact .hd | apply In.tl) ?_ | refine Exists.intro _ (And.intro (w64 (by omega) (by omega)) ?_) | refine Exists.intro _ (And.intro (wU (by omega) (by omega)) ?_) | refine And.intro ⟨rfl, leb rfl⟩ ?_ | refine stI (by repeat first | exact .hd | apply In.tl) ?_ | refine And.intro ⟨rfl, leb rfl, rfl⟩ ?_ | refine ⟨⟨by omega, by first | omega | exact ltm (by omega)⟩, lenm (by intro _; rfl), ?_⟩ | refine Exists.intro _ (And.intro (getm (by omega) (by first | omega | exact ltm_inv (by omega))) ?_) | refine And.intro (leb rfl) ?_ | refine And.intro (show (0 : Int) ≤ _ by omega) ?_ | refine slI (by repeat first | exact .hd | apply In.tl) ?_ | refine apI (by repeat first | exact .hd | apply In.tl) ?_ | refine mpI (by repeat first | exact .hd | apply In.tl) ?_ | refine And.intro ⟨by decide, by decide⟩ ?_ | refine And.intro (by decide) ?_ | refine .inr ⟨⟨leb rfl, leb rfl, rfl, rfl⟩, ?_⟩ | refine ⟨⟨by omega, by omega⟩, rfl, ?_⟩ | refine ⟨⟨rfl, by omega, rfl, by (show _ + 1 < 4294967296); omega, rfl⟩, .inr ⟨leb rfl, ?_⟩⟩ | refine Exists.intro _ (And.intro (find_C _ _) ?_) | refine Exists.intro _ (And.intro (put_C _ _ _) ?_) | fail)); refine ⟨fun hc => ?_, fun hc => ?_⟩
  · have h4 := ltm_inv hc
    have hw' : w < l.length := by omega
    have hp := hlp _ (nthD_mem (n := w) (by omega) h4)
    obtain ⟨f1, f2⟩ := in_fac hv hp
    obtain ⟨p1, p2, p3, p4⟩ := hp
    have hm := shr_mod f2 (show f < 64 by omega)
    intro b hb
    repeat' ((conv => whnf); first | refine And.intro rfl ?_ | refine ldI (by repeat first | exact .hd | apply In.tl) ?_ | refine And.intro (fun hc => ?_) (fun hc => ?_) | refine Exists.intro _ (And.intro (w64 (by omega) (by omega)) ?_) | refine Exists.intro _ (And.intro (wU (by omega) (by omega)) ?_) | refine And.intro ⟨rfl, leb rfl⟩ ?_ | refine stI (by repeat first | exact .hd | apply In.tl) ?_ | refine And.intro ⟨rfl, leb rfl, rfl⟩ ?_ | refine ⟨⟨by omega, by first | omega | exact ltm (by omega)⟩, lenm (by intro _; rfl), ?_⟩ | refine Exists.intro _ (And.intro (getm (by omega) (by first | omega | exact ltm_inv (by omega))) ?_) | refine And.intro (leb rfl) ?_ | refine And.intro (show (0 : Int) ≤ _ by omega) ?_ | refine slI (by repeat first | exact .hd | apply In.tl) ?_ | refine apI (by repeat first | exact .hd | apply In.tl) ?_ | refine mpI (by repeat first | exact .hd | apply In.tl) ?_ | refine And.intro ⟨by decide, by decide⟩ ?_ | refine And.intro (by decide) ?_ | refine .inr ⟨⟨leb rfl, leb rfl, rfl, rfl⟩, ?_⟩ | refine ⟨⟨by omega, by omega⟩, rfl, ?_⟩ | refine ⟨⟨rfl, by omega, rfl, by (show _ + 1 < 4294967296); omega, rfl⟩, .inr ⟨leb rfl, ?_⟩⟩ | refine Exists.intro _ (And.intro (find_C _ _) ?_) | refine Exists.intro _ (And.intro (put_C _ _ _) ?_) | fail)
    refine ⟨_, rfl, ?_⟩
    repeat' ((conv => whnf); first | refine And.intro rfl ?_ | refine ldI (by repeat first | exact .hd | apply In.tl) ?_ | refine And.intro (fun hc => ?_) (fun hc => ?_) | refine Exists.intro _ (And.intro (w64 (by omega) (by omega)) ?_) | refine Exists.intro _ (And.intro (wU (by omega) (by omega)) ?_) | refine And.intro ⟨rfl, leb rfl⟩ ?_ | refine stI (by repeat first | exact .hd | apply In.tl) ?_ | refine And.intro ⟨rfl, leb rfl, rfl⟩ ?_ | refine ⟨⟨by omega, by first | omega | exact ltm (by omega)⟩, lenm (by intro _; rfl), ?_⟩ | refine Exists.intro _ (And.intro (getm (by omega) (by first | omega | exact ltm_inv (by omega))) ?_) | refine And.intro (leb rfl) ?_ | refine And.intro (show (0 : Int) ≤ _ by omega) ?_ | refine slI (by repeat first | exact .hd | apply In.tl) ?_ | refine apI (by repeat first | exact .hd | apply In.tl) ?_ | refine mpI (by repeat first | exact .hd | apply In.tl) ?_ | refine And.intro ⟨by decide, by decide⟩ ?_ | refine And.intro (by decide) ?_ | refine .inr ⟨⟨leb rfl, leb rfl, rfl, rfl⟩, ?_⟩ | refine ⟨⟨by omega, by omega⟩, rfl, ?_⟩ | refine ⟨⟨rfl, by omega, rfl, by (show _ + 1 < 4294967296); omega, rfl⟩, .inr ⟨leb rfl, ?_⟩⟩ | refine Exists.intro _ (And.intro (find_C _ _) ?_) | refine Exists.intro _ (And.intro (put_C _ _ _) ?_) | fail)
    refine ⟨_, hm, ?_⟩
    cases hb : bitI (facD s (nthD l w)) f with
    | true =>
      repeat' ((conv => whnf); first | refine And.intro rfl ?_ | refine ldI (by repeat first | exact .hd | apply In.tl) ?_ | refine And.intro (fun hc => ?_) (fun hc => ?_) | refine Exists.intro _ (And.intro (w64 (by omega) (by omega)) ?_) | refine Exists.intro _ (And.intro (wU (by omega) (by omega)) ?_) | refine And.intro ⟨rfl, leb rfl⟩ ?_ | refine stI (by repeat first | exact .hd | apply In.tl) ?_ | refine And.intro ⟨rfl, leb rfl, rfl⟩ ?_ | refine ⟨⟨by omega, by first | omega | exact ltm (by omega)⟩, lenm (by intro _; rfl), ?_⟩ | refine Exists.intro _ (And.intro (getm (by omega) (by first | omega | exact ltm_inv (by omega))) ?_) | refine And.intro (leb rfl) ?_ | refine And.intro (show (0 : Int) ≤ _ by omega) ?_ | refine slI (by repeat first | exact .hd | apply In.tl) ?_ | refine apI (by repeat first | exact .hd | apply In.tl) ?_ | refine mpI (by repeat first | exact .hd | apply In.tl) ?_ | refine And.intro ⟨by decide, by decide⟩ ?_ | refine And.intro (by decide) ?_ | refine .inr ⟨⟨leb rfl, leb rfl, rfl, rfl⟩, ?_⟩ | refine ⟨⟨by omega, by omega⟩, rfl, ?_⟩ | refine ⟨⟨rfl, by omega, rfl, by (show _ + 1 < 4294967296); omega, rfl⟩, .inr ⟨leb rfl, ?_⟩⟩ | refine Exists.intro _ (And.intro (find_C _ _) ?_) | refine Exists.intro _ (And.intro (put_C _ _ _) ?_) | fail)
      · refine ⟨_, shl_one (by omega), ?_⟩
        repeat' ((conv => whnf); first | refine And.intro rfl ?_ | refine ldI (by repeat first | exact .hd | apply In.tl) ?_ | refine And.intro (fun hc => ?_) (fun hc => ?_) | refine Exists.intro _ (And.intro (w64 (by omega) (by omega)) ?_) | refine Exists.intro _ (And.intro (wU (by omega) (by omega)) ?_) | refine And.intro ⟨rfl, leb rfl⟩ ?_ | refine stI (by repeat first | exact .hd | apply In.tl) ?_ | refine And.intro ⟨rfl, leb rfl, rfl⟩ ?_ | refine ⟨⟨by omega, by first | omega | exact ltm (by omega)⟩, lenm (by intro _; rfl), ?_⟩ | refine Exists.intro _ (And.intro (getm (by omega) (by first | omega | exact ltm_inv (by omega))) ?_) | refine And.intro (leb rfl) ?_ | refine And.intro (show (0 : Int) ≤ _ by omega) ?_ | refine slI (by repeat first | exact .hd | apply In.tl) ?_ | refine apI (by repeat first | exact .hd | apply In.tl) ?_ | refine mpI (by repeat first | exact .hd | apply In.tl) ?_ | refine And.intro ⟨by decide, by decide⟩ ?_ | refine And.intro (by decide) ?_ | refine .inr ⟨⟨leb rfl, leb rfl, rfl, rfl⟩, ?_⟩ | refine ⟨⟨by omega, by omega⟩, rfl, ?_⟩ | refine ⟨⟨rfl, by omega, rfl, by (show _ + 1 < 4294967296); omega, rfl⟩, .inr ⟨leb rfl, ?_⟩⟩ | refine Exists.intro _ (And.intro (find_C _ _) ?_) | refine Exists.intro _ (And.intro (put_C _ _ _) ?_) | fail)
        refine ⟨_, or_in (f := bitF s l f) (by omega) hb, ?_⟩
        repeat' ((conv => whnf); first | refine And.intro rfl ?_ | refine ldI (by repeat first | exact .hd | apply In.tl) ?_ | refine And.intro (fun hc => ?_) (fun hc => ?_) | refine Exists.intro _ (And.intro (w64 (by omega) (by omega)) ?_) | refine Exists.intro _ (And.intro (wU (by omega) (by omega)) ?_) | refine And.intro ⟨rfl, leb rfl⟩ ?_ | refine stI (by repeat first | exact .hd | apply In.tl) ?_ | refine And.intro ⟨rfl, leb rfl, rfl⟩ ?_ | refine ⟨⟨by omega, by first | omega | exact ltm (by omega)⟩, lenm (by intro _; rfl), ?_⟩ | refine Exists.intro _ (And.intro (getm (by omega) (by first | omega | exact ltm_inv (by omega))) ?_) | refine And.intro (leb rfl) ?_ | refine And.intro (show (0 : Int) ≤ _ by omega) ?_ | refine slI (by repeat first | exact .hd | apply In.tl) ?_ | refine apI (by repeat first | exact .hd | apply In.tl) ?_ | refine mpI (by repeat first | exact .hd | apply In.tl) ?_ | refine And.intro ⟨by decide, by decide⟩ ?_ | refine And.intro (by decide) ?_ | refine .inr ⟨⟨leb rfl, leb rfl, rfl, rfl⟩, ?_⟩ | refine ⟨⟨by omega, by omega⟩, rfl, ?_⟩ | refine ⟨⟨rfl, by omega, rfl, by (show _ + 1 < 4294967296); omega, rfl⟩, .inr ⟨leb rfl, ?_⟩⟩ | refine Exists.intro _ (And.intro (find_C _ _) ?_) | refine Exists.intro _ (And.intro (put_C _ _ _) ?_) | fail)
        (conv => whnf)
        exact ⟨_, hw', .refl _, rfl, .mk rfl⟩
      · exact absurd rfl hc
    | false =>
      repeat' ((conv => whnf); first | refine And.intro rfl ?_ | refine ldI (by repeat first | exact .hd | apply In.tl) ?_ | refine And.intro (fun hc => ?_) (fun hc => ?_) | refine Exists.intro _ (And.intro (w64 (by omega) (by omega)) ?_) | refine Exists.intro _ (And.intro (wU (by omega) (by omega)) ?_) | refine And.intro ⟨rfl, leb rfl⟩ ?_ | refine stI (by repeat first | exact .hd | apply In.tl) ?_ | refine And.intro ⟨rfl, leb rfl, rfl⟩ ?_ | refine ⟨⟨by omega, by first | omega | exact ltm (by omega)⟩, lenm (by intro _; rfl), ?_⟩ | refine Exists.intro _ (And.intro (getm (by omega) (by first | omega | exact ltm_inv (by omega))) ?_) | refine And.intro (leb rfl) ?_ | refine And.intro (show (0 : Int) ≤ _ by omega) ?_ | refine slI (by repeat first | exact .hd | apply In.tl) ?_ | refine apI (by repeat first | exact .hd | apply In.tl) ?_ | refine mpI (by repeat first | exact .hd | apply In.tl) ?_ | refine And.intro ⟨by decide, by decide⟩ ?_ | refine And.intro (by decide) ?_ | refine .inr ⟨⟨leb rfl, leb rfl, rfl, rfl⟩, ?_⟩ | refine ⟨⟨by omega, by omega⟩, rfl, ?_⟩ | refine ⟨⟨rfl, by omega, rfl, by (show _ + 1 < 4294967296); omega, rfl⟩, .inr ⟨leb rfl, ?_⟩⟩ | refine Exists.intro _ (And.intro (find_C _ _) ?_) | refine Exists.intro _ (And.intro (put_C _ _ _) ?_) | fail)
      · exact absurd hc (by decide)
      · (conv => whnf)
        exact ⟨_, hw', .refl _, rfl, .mk (by rw [mask_no (f := bitF s l f) hb]; rfl)⟩
  · have h4 := ltm_not hc
    obtain rfl : w = l.length := by omega
    exact hQ _ (.mk rfl)
set_option maxRecDepth 100000 in
set_option maxHeartbeats 1000000 in
theorem loop64_4 {n : Nat} {s : SysD} {l : List (Int × Int)} (h : ok62 (s, l)) (hn : 100 < n) {a i l2 : Nat} (ha : (a : Int) < s.ag) (hi : i < l.length) {v4 v5 v10 : AV} {env : List AV} (he : IEnv (fun g => (g 0 :: .list (l.map ptC) :: .ptr l2 0 0 :: g 3 :: v4 :: v5 :: g 6 :: g 7 :: g 8 :: .int .i64 (a : Int) :: v10 :: .int .i64 (i : Int) :: .int .u64 0 :: .int .i64 0 :: g 14 :: g 15 :: g 16 :: g 17 :: g 18 :: g 19 :: g 20 :: g 21 :: g 22 :: g 23 :: g 24 :: g 25 :: g 26 :: g 27 :: g 28 :: g 29 :: g 30 :: g 31 :: g 32 :: g 33 :: g 34 :: g 35 :: g 36 :: g 37 :: g 38 :: g 39 :: g 40 :: g 41 :: g 42 :: g 43 :: g 44 :: g 45 :: g 46 :: g 47 :: g 48 :: g 49 :: g 50 :: g 51 :: g 52 :: g 53 :: g 54 :: g 55 :: g 56 :: g 57 :: g 58 :: g 59 :: g 60 :: g 61 :: g 62 :: g 63 :: g 64 :: g 65 :: g 66 :: g 67 :: g 68 :: g 69 :: g 70 :: g 71 :: g 72 :: g 73 :: g 74 :: g 75 :: g 76 :: g 77 :: g 78 :: g 79 :: g 80 :: g 81 :: g 82 :: g 83 :: g 84 :: g 85 :: g 86 :: g 87 :: g 88 :: g 89 :: g 90 :: g 91 :: g 92 :: g 93 :: g 94 :: g 95 :: g 96 :: g 97 :: g 98 :: g 99 :: g 100 :: g 101 :: g 102 :: g 103 :: g 104 :: g 105 :: g 106 :: g 107 :: [])) env)
    {Q : Out → List AV → Ah → Prop} (hQ : ∀ env, IEnv (fun g => (g 0 :: .list (l.map ptC) :: .ptr l2 0 0 :: g 3 :: v4 :: v5 :: g 6 :: g 7 :: g 8 :: .int .i64 (a : Int) :: v10 :: .int .i64 (i : Int) :: .int .u64 ((relS s l a i : Nat) : Int) :: g 13 :: g 14 :: g 15 :: g 16 :: g 17 :: g 18 :: g 19 :: g 20 :: g 21 :: g 22 :: g 23 :: g 24 :: g 25 :: g 26 :: g 27 :: g 28 :: g 29 :: g 30 :: g 31 :: g 32 :: g 33 :: g 34 :: g 35 :: g 36 :: g 37 :: g 38 :: g 39 :: g 40 :: g 41 :: g 42 :: g 43 :: g 44 :: g 45 :: g 46 :: g 47 :: g 48 :: g 49 :: g 50 :: g 51 :: g 52 :: g 53 :: g 54 :: g 55 :: g 56 :: g 57 :: g 58 :: g 59 :: g 60 :: g 61 :: g 62 :: g 63 :: g 64 :: g 65 :: g 66 :: g 67 :: g 68 :: g 69 :: g 70 :: g 71 :: g 72 :: g 73 :: g 74 :: g 75 :: g 76 :: g 77 :: g 78 :: g 79 :: g 80 :: g 81 :: g 82 :: g 83 :: g 84 :: g 85 :: g 86 :: g 87 :: g 88 :: g 89 :: g 90 :: g 91 :: g 92 :: g 93 :: g 94 :: g 95 :: g 96 :: g 97 :: g 98 :: g 99 :: g 100 :: g 101 :: g 102 :: g 103 :: g 104 :: g 105 :: g 106 :: g 107 :: [])) env → Q (.exit 8) env [(l2, some (.cells (sysC s) 0 0 false false))]) :
    aLoop (hands U3) n (loopAt ir64 4) n env [(l2, some (.cells (sysC s) 0 0 false false))] Q := by
  obtain ⟨g, rfl⟩ := he
  obtain ⟨hv, hl1, hl2, hlp⟩ := h
  simp only at hv hl1 hl2 hlp
  have hi0 : (i : Int) < l.length := by omega
  have hloc0 := in_loc hv (hlp _ (nthD_mem (n := i) (by omega) hi0)) ha
  refine aLoop_up (fun w env A => A = [(l2, some (.cells (sysC s) 0 0 false false))] ∧ IEnv (fun g => (g 0 :: .list (l.map ptC) :: .ptr l2 0 0 :: g 3 :: v4 :: v5 :: g 6 :: g 7 :: g 8 :: .int .i64 (a : Int) :: v10 :: .int .i64 (i : Int) :: .int .u64 ((maskN (eqF s l a (locD s a (nthD l i))) w : Nat) : Int) :: .int .i64 (w : Int) :: g 14 :: g 15 :: g 16 :: g 17 :: g 18 :: g 19 :: g 20 :: g 21 :: g 22 :: g 23 :: g 24 :: g 25 :: g 26 :: g 27 :: g 28 :: g 29 :: g 30 :: g 31 :: g 32 :: g 33 :: g 34 :: g 35 :: g 36 :: g 37 :: g 38 :: g 39 :: g 40 :: g 41 :: g 42 :: g 43 :: g 44 :: g 45 :: g 46 :: g 47 :: g 48 :: g 49 :: g 50 :: g 51 :: g 52 :: g 53 :: g 54 :: g 55 :: g 56 :: g 57 :: g 58 :: g 59 :: g 60 :: g 61 :: g 62 :: g 63 :: g 64 :: g 65 :: g 66 :: g 67 :: g 68 :: g 69 :: g 70 :: g 71 :: g 72 :: g 73 :: g 74 :: g 75 :: g 76 :: g 77 :: g 78 :: g 79 :: g 80 :: g 81 :: g 82 :: g 83 :: g 84 :: g 85 :: g 86 :: g 87 :: g 88 :: g 89 :: g 90 :: g 91 :: g 92 :: g 93 :: g 94 :: g 95 :: g 96 :: g 97 :: g 98 :: g 99 :: g 100 :: g 101 :: g 102 :: g 103 :: g 104 :: g 105 :: g 106 :: g 107 :: [])) env) l.length (.refl _) ⟨rfl, .mk rfl⟩ (by omega) ?_
  rintro w env A hw ⟨rfl, ⟨g, rfl⟩⟩
  (repeat' ((conv => whnf); first | refine And.intro rfl ?_ | refine ldI (by repeat first | exact .hd | apply In.tl) ?_ | refine Exists.intro _ (And.intro (w64 (by omega) (by omega)) ?_) | refine Exists.intro _ (And.intro (wU (by omega) (by omega)) ?_) | refine And.intro ⟨rfl, leb rfl⟩ ?_ | refine stI (by repeat first | exact .hd | apply In.tl) ?_ | refine And.intro ⟨rfl, leb rfl, rfl⟩ ?_ | refine ⟨⟨by omega, by first | omega | exact ltm (by omega)⟩, lenm (by intro _; rfl), ?_⟩ | refine Exists.intro _ (And.intro (getm (by omega) (by first | omega | exact ltm_inv (by omega))) ?_) | refine And.intro (leb rfl) ?_ | refine And.intro (show (0 : Int) ≤ _ by omega) ?_ | refine slI (by repeat first | exact .hd | apply In.tl) ?_ | refine apI (by repeat first | exact .hd | apply In.tl) ?_ | refine mpI (by repeat first | exact .hd | apply In.tl) ?_ | refine And.intro ⟨by decide, by decide⟩ ?_ | refine And.intro (by decide) ?_ | refine .inr ⟨⟨leb rfl, leb rfl, rfl, rfl⟩, ?_⟩ | refine ⟨⟨by omega, by omega⟩, rfl, ?_⟩ | refine ⟨⟨rfl, by omega, rfl, by (show _ + 1 < 4294967296); omega, rfl⟩, .inr ⟨leb rfl, ?_⟩⟩ | refine Exists.intro _ (And.intro (find_C _ _) ?_) | refine Exists.intro _ (And.intro (put_C _ _ _) ?_) | fail)); refine ⟨fun hc => ?_, fun hc => ?_⟩
  · have h4 := ltm_inv hc
    have hw' : w < l.length := by omega
    have hloc := in_loc hv (hlp _ (nthD_mem (n := w) (by omega) h4)) ha
    intro b hb
    have hb2 : l2 < b := hb (l2, _) (List.mem_of_getElem? (i := 0) rfl)
    repeat' ((conv => whnf); first | refine And.intro rfl ?_ | refine ldI (by repeat first | exact .hd | apply In.tl) ?_ | refine And.intro (fun hc => ?_) (fun hc => ?_) | refine Exists.intro _ (And.intro (w64 (by omega) (by omega)) ?_) | refine Exists.intro _ (And.intro (wU (by omega) (by omega)) ?_) | refine And.intro ⟨rfl, leb rfl⟩ ?_ | refine stI (by repeat first | exact .hd | apply In.tl) ?_ | refine And.intro ⟨rfl, leb rfl, rfl⟩ ?_ | refine ⟨⟨by omega, by first | omega | exact ltm (by omega)⟩, lenm (by intro _; rfl), ?_⟩ | refine Exists.intro _ (And.intro (getm (by omega) (by first | omega | exact ltm_inv (by omega))) ?_) | refine And.intro (leb rfl) ?_ | refine And.intro (show (0 : Int) ≤ _ by omega) ?_ | refine slI (by repeat first | exact .hd | apply In.tl) ?_ | refine apI (by repeat first | exact .hd | apply In.tl) ?_ | refine mpI (by repeat first | exact .hd | apply In.tl) ?_ | refine And.intro ⟨by decide, by decide⟩ ?_ | refine And.intro (by decide) ?_ | refine .inr ⟨⟨leb rfl, leb rfl, rfl, rfl⟩, ?_⟩ | refine ⟨⟨by omega, by omega⟩, rfl, ?_⟩ | refine ⟨⟨rfl, by omega, rfl, by (show _ + 1 < 4294967296); omega, rfl⟩, .inr ⟨leb rfl, ?_⟩⟩ | refine Exists.intro _ (And.intro (find_C _ _) ?_) | refine Exists.intro _ (And.intro (put_C _ _ _) ?_) | fail)
    refine ⟨_, fun H hR => acc_call (by decide) rfl (r := []) rfl, ?_⟩
    repeat' ((conv => whnf); first | refine And.intro rfl ?_ | refine ldI (by repeat first | exact .hd | apply In.tl) ?_ | refine And.intro (fun hc => ?_) (fun hc => ?_) | refine Exists.intro _ (And.intro (w64 (by omega) (by omega)) ?_) | refine Exists.intro _ (And.intro (wU (by omega) (by omega)) ?_) | refine And.intro ⟨rfl, leb rfl⟩ ?_ | refine stI (by repeat first | exact .hd | apply In.tl) ?_ | refine And.intro ⟨rfl, leb rfl, rfl⟩ ?_ | refine ⟨⟨by omega, by first | omega | exact ltm (by omega)⟩, lenm (by intro _; rfl), ?_⟩ | refine Exists.intro _ (And.intro (getm (by omega) (by first | omega | exact ltm_inv (by omega))) ?_) | refine And.intro (leb rfl) ?_ | refine And.intro (show (0 : Int) ≤ _ by omega) ?_ | refine slI (by repeat first | exact .hd | apply In.tl) ?_ | refine apI (by repeat first | exact .hd | apply In.tl) ?_ | refine mpI (by repeat first | exact .hd | apply In.tl) ?_ | refine And.intro ⟨by decide, by decide⟩ ?_ | refine And.intro (by decide) ?_ | refine .inr ⟨⟨leb rfl, leb rfl, rfl, rfl⟩, ?_⟩ | refine ⟨⟨by omega, by omega⟩, rfl, ?_⟩ | refine ⟨⟨rfl, by omega, rfl, by (show _ + 1 < 4294967296); omega, rfl⟩, .inr ⟨leb rfl, ?_⟩⟩ | refine Exists.intro _ (And.intro (find_C _ _) ?_) | refine Exists.intro _ (And.intro (put_C _ _ _) ?_) | refine ⟨_, _, _, true, fun _ H hR => ⟨H, rfl, hR⟩, k76 rfl hloc0, rfl, ?_⟩ | refine ⟨_, _, _, false, fun _ H hR => ⟨H, rfl, hR⟩, k76 rfl hloc0, rfl, ?_⟩ | fail)
    refine ⟨_, fun H hR => acc_load rfl, ?_⟩
    repeat' ((conv => whnf); first | refine And.intro rfl ?_ | refine ldI (by repeat first | exact .hd | apply In.tl) ?_ | refine And.intro (fun hc => ?_) (fun hc => ?_) | refine Exists.intro _ (And.intro (w64 (by omega) (by omega)) ?_) | refine Exists.intro _ (And.intro (wU (by omega) (by omega)) ?_) | refine And.intro ⟨rfl, leb rfl⟩ ?_ | refine stI (by repeat first | exact .hd | apply In.tl) ?_ | refine And.intro ⟨rfl, leb rfl, rfl⟩ ?_ | refine ⟨⟨by omega, by first | omega | exact ltm (by omega)⟩, lenm (by intro _; rfl), ?_⟩ | refine Exists.intro _ (And.intro (getm (by omega) (by first | omega | exact ltm_inv (by omega))) ?_) | refine And.intro (leb rfl) ?_ | refine And.intro (show (0 : Int) ≤ _ by omega) ?_ | refine slI (by repeat first | exact .hd | apply In.tl) ?_ | refine apI (by repeat first | exact .hd | apply In.tl) ?_ | refine mpI (by repeat first | exact .hd | apply In.tl) ?_ | refine And.intro ⟨by decide, by decide⟩ ?_ | refine And.intro (by decide) ?_ | refine .inr ⟨⟨leb rfl, leb rfl, rfl, rfl⟩, ?_⟩ | refine ⟨⟨by omega, by omega⟩, rfl, ?_⟩ | refine ⟨⟨rfl, by omega, rfl, by (show _ + 1 < 4294967296); omega, rfl⟩, .inr ⟨leb rfl, ?_⟩⟩ | refine Exists.intro _ (And.intro (find_C _ _) ?_) | refine Exists.intro _ (And.intro (put_C _ _ _) ?_) | fail)
    refine ⟨⟨[], [], false⟩, fun H hR => rfl, ?_⟩
    repeat' ((conv => whnf); first | refine And.intro rfl ?_ | refine ldI (by repeat first | exact .hd | apply In.tl) ?_ | refine And.intro (fun hc => ?_) (fun hc => ?_) | refine Exists.intro _ (And.intro (w64 (by omega) (by omega)) ?_) | refine Exists.intro _ (And.intro (wU (by omega) (by omega)) ?_) | refine And.intro ⟨rfl, leb rfl⟩ ?_ | refine stI (by repeat first | exact .hd | apply In.tl) ?_ | refine And.intro ⟨rfl, leb rfl, rfl⟩ ?_ | refine ⟨⟨by omega, by first | omega | exact ltm (by omega)⟩, lenm (by intro _; rfl), ?_⟩ | refine Exists.intro _ (And.intro (getm (by omega) (by first | omega | exact ltm_inv (by omega))) ?_) | refine And.intro (leb rfl) ?_ | refine And.intro (show (0 : Int) ≤ _ by omega) ?_ | refine slI (by repeat first | exact .hd | apply In.tl) ?_ | refine apI (by repeat first | exact .hd | apply In.tl) ?_ | refine mpI (by repeat first | exact .hd | apply In.tl) ?_ | refine And.intro ⟨by decide, by decide⟩ ?_ | refine And.intro (by decide) ?_ | refine .inr ⟨⟨leb rfl, leb rfl, rfl, rfl⟩, ?_⟩ | refine ⟨⟨by omega, by omega⟩, rfl, ?_⟩ | refine ⟨⟨rfl, by omega, rfl, by (show _ + 1 < 4294967296); omega, rfl⟩, .inr ⟨leb rfl, ?_⟩⟩ | refine Exists.intro _ (And.intro (find_C _ _) ?_) | refine Exists.intro _ (And.intro (put_C _ _ _) ?_) | refine ⟨_, _, _, true, fun _ H hR => ⟨H, rfl, hR⟩, k76 rfl hloc, rfl, ?_⟩ | refine ⟨_, _, _, false, fun _ H hR => ⟨H, rfl, hR⟩, k76 rfl hloc, rfl, ?_⟩ | fail)
    · refine ⟨Bool.and_eq_true_iff.2 ⟨free_of rfl rfl (fun l h => ?_) (fun l h => nomatch h), Bool.and_eq_true_iff.2 ⟨free_of rfl rfl (fun l h => ⟨nofun, nofun⟩) (fun l h => nomatch h), rfl⟩⟩, ?_⟩
      · simp at h ⊢; omega
      repeat' ((conv => whnf); first | refine And.intro rfl ?_ | refine ldI (by repeat first | exact .hd | apply In.tl) ?_ | refine And.intro (fun hc => ?_) (fun hc => ?_) | refine Exists.intro _ (And.intro (w64 (by omega) (by omega)) ?_) | refine Exists.intro _ (And.intro (wU (by omega) (by omega)) ?_) | refine And.intro ⟨rfl, leb rfl⟩ ?_ | refine stI (by repeat first | exact .hd | apply In.tl) ?_ | refine And.intro ⟨rfl, leb rfl, rfl⟩ ?_ | refine ⟨⟨by omega, by first | omega | exact ltm (by omega)⟩, lenm (by intro _; rfl), ?_⟩ | refine Exists.intro _ (And.intro (getm (by omega) (by first | omega | exact ltm_inv (by omega))) ?_) | refine And.intro (leb rfl) ?_ | refine And.intro (show (0 : Int) ≤ _ by omega) ?_ | refine slI (by repeat first | exact .hd | apply In.tl) ?_ | refine apI (by repeat first | exact .hd | apply In.tl) ?_ | refine mpI (by repeat first | exact .hd | apply In.tl) ?_ | refine And.intro ⟨by decide, by decide⟩ ?_ | refine And.intro (by decide) ?_ | refine .inr ⟨⟨leb rfl, leb rfl, rfl, rfl⟩, ?_⟩ | refine ⟨⟨by omega, by omega⟩, rfl, ?_⟩ | refine ⟨⟨rfl, by omega, rfl, by (show _ + 1 < 4294967296); omega, rfl⟩, .inr ⟨leb rfl, ?_⟩⟩ | refine Exists.intro _ (And.intro (find_C _ _) ?_) | refine Exists.intro _ (And.intro (put_C _ _ _) ?_) | fail)
      refine ⟨_, shl_one (by omega), ?_⟩
      repeat' ((conv => whnf); first | refine And.intro rfl ?_ | refine ldI (by repeat first | exact .hd | apply In.tl) ?_ | refine And.intro (fun hc => ?_) (fun hc => ?_) | refine Exists.intro _ (And.intro (w64 (by omega) (by omega)) ?_) | refine Exists.intro _ (And.intro (wU (by omega) (by omega)) ?_) | refine And.intro ⟨rfl, leb rfl⟩ ?_ | refine stI (by repeat first | exact .hd | apply In.tl) ?_ | refine And.intro ⟨rfl, leb rfl, rfl⟩ ?_ | refine ⟨⟨by omega, by first | omega | exact ltm (by omega)⟩, lenm (by intro _; rfl), ?_⟩ | refine Exists.intro _ (And.intro (getm (by omega) (by first | omega | exact ltm_inv (by omega))) ?_) | refine And.intro (leb rfl) ?_ | refine And.intro (show (0 : Int) ≤ _ by omega) ?_ | refine slI (by repeat first | exact .hd | apply In.tl) ?_ | refine apI (by repeat first | exact .hd | apply In.tl) ?_ | refine mpI (by repeat first | exact .hd | apply In.tl) ?_ | refine And.intro ⟨by decide, by decide⟩ ?_ | refine And.intro (by decide) ?_ | refine .inr ⟨⟨leb rfl, leb rfl, rfl, rfl⟩, ?_⟩ | refine ⟨⟨by omega, by omega⟩, rfl, ?_⟩ | refine ⟨⟨rfl, by omega, rfl, by (show _ + 1 < 4294967296); omega, rfl⟩, .inr ⟨leb rfl, ?_⟩⟩ | refine Exists.intro _ (And.intro (find_C _ _) ?_) | refine Exists.intro _ (And.intro (put_C _ _ _) ?_) | fail)
      refine ⟨_, or_in (f := eqF s l a (locD s a (nthD l i))) (by omega) (decide_eq_true hc.symm), ?_⟩
      repeat' ((conv => whnf); first | refine And.intro rfl ?_ | refine ldI (by repeat first | exact .hd | apply In.tl) ?_ | refine And.intro (fun hc => ?_) (fun hc => ?_) | refine Exists.intro _ (And.intro (w64 (by omega) (by omega)) ?_) | refine Exists.intro _ (And.intro (wU (by omega) (by omega)) ?_) | refine And.intro ⟨rfl, leb rfl⟩ ?_ | refine stI (by repeat first | exact .hd | apply In.tl) ?_ | refine And.intro ⟨rfl, leb rfl, rfl⟩ ?_ | refine ⟨⟨by omega, by first | omega | exact ltm (by omega)⟩, lenm (by intro _; rfl), ?_⟩ | refine Exists.intro _ (And.intro (getm (by omega) (by first | omega | exact ltm_inv (by omega))) ?_) | refine And.intro (leb rfl) ?_ | refine And.intro (show (0 : Int) ≤ _ by omega) ?_ | refine slI (by repeat first | exact .hd | apply In.tl) ?_ | refine apI (by repeat first | exact .hd | apply In.tl) ?_ | refine mpI (by repeat first | exact .hd | apply In.tl) ?_ | refine And.intro ⟨by decide, by decide⟩ ?_ | refine And.intro (by decide) ?_ | refine .inr ⟨⟨leb rfl, leb rfl, rfl, rfl⟩, ?_⟩ | refine ⟨⟨by omega, by omega⟩, rfl, ?_⟩ | refine ⟨⟨rfl, by omega, rfl, by (show _ + 1 < 4294967296); omega, rfl⟩, .inr ⟨leb rfl, ?_⟩⟩ | refine Exists.intro _ (And.intro (find_C _ _) ?_) | refine Exists.intro _ (And.intro (put_C _ _ _) ?_) | fail)
      (conv => whnf)
      exact ⟨_, hw', Sub.take 1, rfl, .mk rfl⟩
    · refine ⟨Bool.and_eq_true_iff.2 ⟨free_of rfl rfl (fun l h => ?_) (fun l h => nomatch h), Bool.and_eq_true_iff.2 ⟨free_of rfl rfl (fun l h => ⟨nofun, nofun⟩) (fun l h => nomatch h), rfl⟩⟩, ?_⟩
      · simp at h ⊢; omega
      repeat' ((conv => whnf); first | refine And.intro rfl ?_ | refine ldI (by repeat first | exact .hd | apply In.tl) ?_ | refine And.intro (fun hc => ?_) (fun hc => ?_) | refine Exists.intro _ (And.intro (w64 (by omega) (by omega)) ?_) | refine Exists.intro _ (And.intro (wU (by omega) (by omega)) ?_) | refine And.intro ⟨rfl, leb rfl⟩ ?_ | refine stI (by repeat first | exact .hd | apply In.tl) ?_ | refine And.intro ⟨rfl, leb rfl, rfl⟩ ?_ | refine ⟨⟨by omega, by first | omega | exact ltm (by omega)⟩, lenm (by intro _; rfl), ?_⟩ | refine Exists.intro _ (And.intro (getm (by omega) (by first | omega | exact ltm_inv (by omega))) ?_) | refine And.intro (leb rfl) ?_ | refine And.intro (show (0 : Int) ≤ _ by omega) ?_ | refine slI (by repeat first | exact .hd | apply In.tl) ?_ | refine apI (by repeat first | exact .hd | apply In.tl) ?_ | refine mpI (by repeat first | exact .hd | apply In.tl) ?_ | refine And.intro ⟨by decide, by decide⟩ ?_ | refine And.intro (by decide) ?_ | refine .inr ⟨⟨leb rfl, leb rfl, rfl, rfl⟩, ?_⟩ | refine ⟨⟨by omega, by omega⟩, rfl, ?_⟩ | refine ⟨⟨rfl, by omega, rfl, by (show _ + 1 < 4294967296); omega, rfl⟩, .inr ⟨leb rfl, ?_⟩⟩ | refine Exists.intro _ (And.intro (find_C _ _) ?_) | refine Exists.intro _ (And.intro (put_C _ _ _) ?_) | fail)
      (conv => whnf)
      exact ⟨_, hw', Sub.take 1, rfl, .mk (by rw [mask_no (f := eqF s l a (locD s a (nthD l i))) (decide_eq_false fun e => hc e.symm)]; rfl)⟩
  · have h4 := ltm_not hc
    obtain rfl : w = l.length := by omega
    exact hQ _ (.mk rfl)
set_option maxRecDepth 100000 in
set_option maxHeartbeats 1000000 in
theorem loop64_3 {n : Nat} {s : SysD} {l : List (Int × Int)} (h : ok62 (s, l)) (hn : 100 < n) {a l2 : Nat} (ha : (a : Int) < s.ag) {v4 v5 : AV} {env : List AV} (he : IEnv (fun g => (g 0 :: .list (l.map ptC) :: .ptr l2 0 0 :: g 3 :: v4 :: v5 :: g 6 :: g 7 :: g 8 :: .int .i64 (a : Int) :: .nilsl :: .int .i64 0 :: g 12 :: g 13 :: g 14 :: g 15 :: g 16 :: g 17 :: g 18 :: g 19 :: g 20 :: g 21 :: g 22 :: g 23 :: g 24 :: g 25 :: g 26 :: g 27 :: g 28 :: g 29 :: g 30 :: g 31 :: g 32 :: g 33 :: g 34 :: g 35 :: g 36 :: g 37 :: g 38 :: g 39 :: g 40 :: g 41 :: g 42 :: g 43 :: g 44 :: g 45 :: g 46 :: g 47 :: g 48 :: g 49 :: g 50 :: g 51 :: g 52 :: g 53 :: g 54 :: g 55 :: g 56 :: g 57 :: g 58 :: g 59 :: g 60 :: g 61 :: g 62 :: g 63 :: g 64 :: g 65 :: g 66 :: g 67 :: g 68 :: g 69 :: g 70 :: g 71 :: g 72 :: g 73 :: g 74 :: g 75 :: g 76 :: g 77 :: g 78 :: g 79 :: g 80 :: g 81 :: g 82 :: g 83 :: g 84 :: g 85 :: g 86 :: g 87 :: g 88 :: g 89 :: g 90 :: g 91 :: g 92 :: g 93 :: g 94 :: g 95 :: g 96 :: g 97 :: g 98 :: g 99 :: g 100 :: g 101 :: g 102 :: g 103 :: g 104 :: g 105 :: g 106 :: g 107 :: [])) env)
    {Q : Out → List AV → Ah → Prop} (hQ : ∀ lq env, IEnv (fun g => (g 0 :: .list (l.map ptC) :: .ptr l2 0 0 :: g 3 :: v4 :: v5 :: g 6 :: g 7 :: g 8 :: .int .i64 (a : Int) :: .ref lq 0 l.length l.length 1 :: g 11 :: g 12 :: g 13 :: g 14 :: g 15 :: g 16 :: g 17 :: g 18 :: g 19 :: g 20 :: g 21 :: g 22 :: g 23 :: g 24 :: g 25 :: g 26 :: g 27 :: g 28 :: g 29 :: g 30 :: g 31 :: g 32 :: g 33 :: g 34 :: g 35 :: g 36 :: g 37 :: g 38 :: g 39 :: g 40 :: g 41 :: g 42 :: g 43 :: g 44 :: g 45 :: g 46 :: g 47 :: g 48 :: g 49 :: g 50 :: g 51 :: g 52 :: g 53 :: g 54 :: g 55 :: g 56 :: g 57 :: g 58 :: g 59 :: g 60 :: g 61 :: g 62 :: g 63 :: g 64 :: g 65 :: g 66 :: g 67 :: g 68 :: g 69 :: g 70 :: g 71 :: g 72 :: g 73 :: g 74 :: g 75 :: g 76 :: g 77 :: g 78 :: g 79 :: g 80 :: g 81 :: g 82 :: g 83 :: g 84 :: g 85 :: g 86 :: g 87 :: g 88 :: g 89 :: g 90 :: g 91 :: g 92 :: g 93 :: g 94 :: g 95 :: g 96 :: g 97 :: g 98 :: g 99 :: g 100 :: g 101 :: g 102 :: g 103 :: g 104 :: g 105 :: g 106 :: g 107 :: [])) env → Q (.exit 6) env [(l2, some (.cells (sysC s) 0 0 false false)), (lq, some (.cells (relF s l a l.length) 1 l.length true false))]) :
    aLoop (hands U3) n (loopAt ir64 3) n env [(l2, some (.cells (sysC s) 0 0 false false))] Q := by
  obtain ⟨g, rfl⟩ := he
  have h' := h
  obtain ⟨hv, hl1, hl2, hlp⟩ := h
  simp only at hv hl1 hl2 hlp
  refine aLoop_up (fun w env A => ∃ lq, A = [(l2, some (.cells (sysC s) 0 0 false false))] ++ rowA lq 1 (relF s l a w) w ∧ IEnv (fun g => (g 0 :: .list (l.map ptC) :: .ptr l2 0 0 :: g 3 :: v4 :: v5 :: g 6 :: g 7 :: g 8 :: .int .i64 (a : Int) :: rowV lq 1 w :: .int .i64 (w : Int) :: g 12 :: g 13 :: g 14 :: g 15 :: g 16 :: g 17 :: g 18 :: g 19 :: g 20 :: g 21 :: g 22 :: g 23 :: g 24 :: g 25 :: g 26 :: g 27 :: g 28 :: g 29 :: g 30 :: g 31 :: g 32 :: g 33 :: g 34 :: g 35 :: g 36 :: g 37 :: g 38 :: g 39 :: g 40 :: g 41 :: g 42 :: g 43 :: g 44 :: g 45 :: g 46 :: g 47 :: g 48 :: g 49 :: g 50 :: g 51 :: g 52 :: g 53 :: g 54 :: g 55 :: g 56 :: g 57 :: g 58 :: g 59 :: g 60 :: g 61 :: g 62 :: g 63 :: g 64 :: g 65 :: g 66 :: g 67 :: g 68 :: g 69 :: g 70 :: g 71 :: g 72 :: g 73 :: g 74 :: g 75 :: g 76 :: g 77 :: g 78 :: g 79 :: g 80 :: g 81 :: g 82 :: g 83 :: g 84 :: g 85 :: g 86 :: g 87 :: g 88 :: g 89 :: g 90 :: g 91 :: g 92 :: g 93 :: g 94 :: g 95 :: g 96 :: g 97 :: g 98 :: g 99 :: g 100 :: g 101 :: g 102 :: g 103 :: g 104 :: g 105 :: g 106 :: g 107 :: [])) env) l.length (.refl _) ⟨0, rfl, .mk rfl⟩ (by omega) ?_
  rintro w env A hw ⟨lq, rfl, ⟨g, rfl⟩⟩
  (repeat' ((conv => whnf); first | refine And.intro rfl ?_ | refine ldI (by repeat first | exact .hd | apply In.tl) ?_ | refine Exists.intro _ (And.intro (w64 (by omega) (by omega)) ?_) | refine Exists.intro _ (And.intro (wU (by omega) (by omega)) ?_) | refine And.intro ⟨rfl, leb rfl⟩ ?_ | refine stI (by repeat first | exact .hd | apply In.tl) ?_ | refine And.intro ⟨rfl, leb rfl, rfl⟩ ?_ | refine ⟨⟨by omega, by first | omega | exact ltm (by omega)⟩, lenm (by intro _; rfl), ?_⟩ | refine Exists.intro _ (And.intro (getm (by omega) (by first | omega | exact ltm_inv (by omega))) ?_) | refine And.intro (leb rfl) ?_ | refine And.intro (show (0 : Int) ≤ _ by omega) ?_ | refine slI (by repeat first | exact .hd | apply In.tl) ?_ | refine apI (by repeat first | exact .hd | apply In.tl) ?_ | refine mpI (by repeat first | exact .hd | apply In.tl) ?_ | refine And.intro ⟨by decide, by decide⟩ ?_ | refine And.intro (by decide) ?_ | refine .inr ⟨⟨leb rfl, leb rfl, rfl, rfl⟩, ?_⟩ | refine ⟨⟨by omega, by omega⟩, rfl, ?_⟩ | refine ⟨⟨rfl, by omega, rfl, by (show _ + 1 < 4294967296); omega, rfl⟩, .inr ⟨leb rfl, ?_⟩⟩ | refine Exists.intro _ (And.intro (find_C _ _) ?_) | refine Exists.intro _ (And.intro (put_C _ _ _) ?_) | fail)); refine ⟨fun hc => ?_, fun hc => ?_⟩
  · have h4 := ltm_inv hc
    have hw' : w < l.length := by omega
    have hlen := relF_len s l a w
    have hsucc := relF_succ s l a w
    repeat' ((conv => whnf); first | refine And.intro rfl ?_ | refine ldI (by repeat first | exact .hd | apply In.tl) ?_ | refine And.intro (fun hc => ?_) (fun hc => ?_) | refine Exists.intro _ (And.intro (w64 (by omega) (by omega)) ?_) | refine Exists.intro _ (And.intro (wU (by omega) (by omega)) ?_) | refine And.intro ⟨rfl, leb rfl⟩ ?_ | refine stI (by repeat first | exact .hd | apply In.tl) ?_ | refine And.intro ⟨rfl, leb rfl, rfl⟩ ?_ | refine ⟨⟨by omega, by first | omega | exact ltm (by omega)⟩, lenm (by intro _; rfl), ?_⟩ | refine Exists.intro _ (And.intro (getm (by omega) (by first | omega | exact ltm_inv (by omega))) ?_) | refine And.intro (leb rfl) ?_ | refine And.intro (show (0 : Int) ≤ _ by omega) ?_ | refine slI (by repeat first | exact .hd | apply In.tl) ?_ | refine apI (by repeat first | exact .hd | apply In.tl) ?_ | refine mpI (by repeat first | exact .hd | apply In.tl) ?_ | refine And.intro ⟨by decide, by decide⟩ ?_ | refine And.intro (by decide) ?_ | refine .inr ⟨⟨leb rfl, leb rfl, rfl, rfl⟩, ?_⟩ | refine ⟨⟨by omega, by omega⟩, rfl, ?_⟩ | refine ⟨⟨rfl, by omega, rfl, by (show _ + 1 < 4294967296); omega, rfl⟩, .inr ⟨leb rfl, ?_⟩⟩ | refine Exists.intro _ (And.intro (find_C _ _) ?_) | refine Exists.intro _ (And.intro (put_C _ _ _) ?_) | fail)
    refine aLoop_frame (A := [(l2, some (.cells (sysC s) 0 0 false false))]) (loop64_4 h' hn ha hw' (.mk rfl) ?_)
    rintro env ⟨g, rfl⟩
    cases w with
    | zero =>
      repeat' ((conv => whnf); first | refine And.intro rfl ?_ | refine ldI (by repeat first | exact .hd | apply In.tl) ?_ | refine And.intro (fun hc => ?_) (fun hc => ?_) | refine Exists.intro _ (And.intro (w64 (by omega) (by omega)) ?_) | refine Exists.intro _ (And.intro (wU (by omega) (by omega)) ?_) | refine And.intro ⟨rfl, leb rfl⟩ ?_ | refine stI (by repeat first | exact .hd | apply In.tl) ?_ | refine And.intro ⟨rfl, leb rfl, rfl⟩ ?_ | refine ⟨⟨by omega, by first | omega | exact ltm (by omega)⟩, lenm (by intro _; rfl), ?_⟩ | refine Exists.intro _ (And.intro (getm (by omega) (by first | omega | exact ltm_inv (by omega))) ?_) | refine And.intro (leb rfl) ?_ | refine And.intro (show (0 : Int) ≤ _ by omega) ?_ | refine slI (by repeat first | exact .hd | apply In.tl) ?_ | refine apI (by repeat first | exact .hd | apply In.tl) ?_ | refine mpI (by repeat first | exact .hd | apply In.tl) ?_ | refine And.intro ⟨by decide, by decide⟩ ?_ | refine And.intro (by decide) ?_ | refine .inr ⟨⟨leb rfl, leb rfl, rfl, rfl⟩, ?_⟩ | refine ⟨⟨by omega, by omega⟩, rfl, ?_⟩ | refine ⟨⟨rfl, by omega, rfl, by (show _ + 1 < 4294967296); omega, rfl⟩, .inr ⟨leb rfl, ?_⟩⟩ | refine Exists.intro _ (And.intro (find_C _ _) ?_) | refine Exists.intro _ (And.intro (put_C _ _ _) ?_) | fail)
      intro lq hlq
      repeat' ((conv => whnf); first | refine And.intro rfl ?_ | refine ldI (by repeat first | exact .hd | apply In.tl) ?_ | refine And.intro (fun hc => ?_) (fun hc => ?_) | refine Exists.intro _ (And.intro (w64 (by omega) (by omega)) ?_) | refine Exists.intro _ (And.intro (wU (by omega) (by omega)) ?_) | refine And.intro ⟨rfl, leb rfl⟩ ?_ | refine stI (by repeat first | exact .hd | apply In.tl) ?_ | refine And.intro ⟨rfl, leb rfl, rfl⟩ ?_ | refine ⟨⟨by omega, by first | omega | exact ltm (by omega)⟩, lenm (by intro _; rfl), ?_⟩ | refine Exists.intro _ (And.intro (getm (by omega) (by first | omega | exact ltm_inv (by omega))) ?_) | refine And.intro (leb rfl) ?_ | refine And.intro (show (0 : Int) ≤ _ by omega) ?_ | refine slI (by repeat first | exact .hd | apply In.tl) ?_ | refine apI (by repeat first | exact .hd | apply In.tl) ?_ | refine mpI (by repeat first | exact .hd | apply In.tl) ?_ | refine And.intro ⟨by decide, by decide⟩ ?_ | refine And.intro (by decide) ?_ | refine .inr ⟨⟨leb rfl, leb rfl, rfl, rfl⟩, ?_⟩ | refine ⟨⟨by omega, by omega⟩, rfl, ?_⟩ | refine ⟨⟨rfl, by omega, rfl, by (show _ + 1 < 4294967296); omega, rfl⟩, .inr ⟨leb rfl, ?_⟩⟩ | refine Exists.intro _ (And.intro (find_C _ _) ?_) | refine Exists.intro _ (And.intro (put_C _ _ _) ?_) | fail)
      (conv => whnf)
      exact ⟨_, hw', .refl _, lq, by rw [hsucc]; rfl, .mk rfl⟩
    | succ j =>
      repeat' ((conv => whnf); first | refine And.intro rfl ?_ | refine ldI (by repeat first | exact .hd | apply In.tl) ?_ | refine And.intro (fun hc => ?_) (fun hc => ?_) | refine Exists.intro _ (And.intro (w64 (by omega) (by omega)) ?_) | refine Exists.intro _ (And.intro (wU (by omega) (by omega)) ?_) | refine And.intro ⟨rfl, leb rfl⟩ ?_ | refine stI (by repeat first | exact .hd | apply In.tl) ?_ | refine And.intro ⟨rfl, leb rfl, rfl⟩ ?_ | refine ⟨⟨by omega, by first | omega | exact ltm (by omega)⟩, lenm (by intro _; rfl), ?_⟩ | refine Exists.intro _ (And.intro (getm (by omega) (by first | omega | exact ltm_inv (by omega))) ?_) | refine And.intro (leb rfl) ?_ | refine And.intro (show (0 : Int) ≤ _ by omega) ?_ | refine slI (by repeat first | exact .hd | apply In.tl) ?_ | refine apI (by repeat first | exact .hd | apply In.tl) ?_ | refine mpI (by repeat first | exact .hd | apply In.tl) ?_ | refine And.intro ⟨by decide, by decide⟩ ?_ | refine And.intro (by decide) ?_ | refine .inr ⟨⟨leb rfl, leb rfl, rfl, rfl⟩, ?_⟩ | refine ⟨⟨by omega, by omega⟩, rfl, ?_⟩ | refine ⟨⟨rfl, by omega, rfl, by (show _ + 1 < 4294967296); omega, rfl⟩, .inr ⟨leb rfl, ?_⟩⟩ | refine Exists.intro _ (And.intro (find_C _ _) ?_) | refine Exists.intro _ (And.intro (put_C _ _ _) ?_) | fail)
      (conv => whnf)
      exact ⟨_, hw', .refl _, lq, by rw [hsucc]; rfl, .mk rfl⟩
  · have h4 := ltm_not hc
    obtain rfl : w = l.length := by omega
    obtain ⟨j, hj⟩ : ∃ j, l.length = j + 1 := ⟨l.length - 1, by omega⟩
    have := hQ lq
    rw [hj] at this ⊢
    exact this _ (.mk rfl)
end Go.Proofs.Ytlgbbabijifflaa.sys
set_option linter.unusedVariables false
set_option linter.unusedSimpArgs false
namespace Go.Proofs.Ytlgbbabijifflaa.sys
attribute [local irreducible] Go.Ai.wrapI Go.Ai.arith.bits Go.Ai.shlI Go.Ai.shrI
open Go Go.Ai Go.Proofs.Ytlgbbabijifflaa.L1R
open runs (RunD SysD runC sysC intsC locsC facsC dSys dSys_C dSys_inv chkS chk_ok sysFine numP)
open mdl (ModD modC modK setC setsC mixed nilOk)
def valsF (s : SysD) (l : List (Int × Int)) (f : Nat) : List AV := (List.range f).map fun f => .int .u64 ((valS s l f : Nat) : Int)
theorem valsF_succ (s : SysD) (l : List (Int × Int)) (f : Nat) : valsF s l (f + 1) = valsF s l f ++ [.int .u64 ((valS s l f : Nat) : Int)] := by simp [valsF, List.range_succ]
theorem valsF_len (s : SysD) (l : List (Int × Int)) (f : Nat) : (valsF s l f).length = f := by simp [valsF]
theorem valsF_row (s : SysD) (l : List (Int × Int)) (n : Nat) : valsF s l n = flatC (fun x => [AV.int .u64 x]) ((List.range n).map fun f => ((valS s l f : Nat) : Int)) := by
  rw [flatC_one, List.map_map]; rfl
set_option maxRecDepth 100000 in
set_option maxHeartbeats 4000000 in
theorem run64 {n : Nat} {s : SysD} {l : List (Int × Int)} (h : ok62 (s, l)) (hn : 100 < n) {K : List AV → Ah → Prop} (hK : ∀ rs' A, Fin .iso A rs' [.agg (modC (modelS s l))] → K rs' A) : aB (hands U3) n ir64 (.agg (sysC s) :: .list (l.map ptC) :: .undef :: .undef :: .undef :: .undef :: .undef :: .undef :: .undef :: .undef :: .undef :: .undef :: .undef :: .undef :: .undef :: .undef :: .undef :: .undef :: .undef :: .undef :: .undef :: .undef :: .undef :: .undef :: .undef :: .undef :: .undef :: .undef :: .undef :: .undef :: .undef :: .undef :: .undef :: .undef :: .undef :: .undef :: .undef :: .undef :: .undef :: .undef :: .undef :: .undef :: .undef :: .undef :: .undef :: .undef :: .undef :: .undef :: .undef :: .undef :: .undef :: .undef :: .undef :: .undef :: .undef :: .undef :: .undef :: .undef :: .undef :: .undef :: .undef :: .undef :: .undef :: .undef :: .undef :: .undef :: .undef :: .undef :: .undef :: .undef :: .undef :: .undef :: .undef :: .undef :: .undef :: .undef :: .undef :: .undef :: .undef :: .undef :: .undef :: .undef :: .undef :: .undef :: .undef :: .undef :: .undef :: .undef :: .undef :: .undef :: .undef :: .undef :: .undef :: .undef :: .undef :: .undef :: .undef :: .undef :: .undef :: .undef :: .undef :: .undef :: .undef :: .undef :: .undef :: .undef :: .undef :: .undef :: []) [] K := by
  have h' := h
  obtain ⟨hv, hl1, hl2, hlp⟩ := h
  simp only at hv hl1 hl2 hlp
  obtain ⟨q1, q2, q3, q4, q5, q6, q7, q8, q9⟩ := chk_ok hv.2
  refine ⟨rfl, ?_⟩
  intro l2 hl2' l4 hl4
  repeat' ((conv => whnf); first | refine ⟨rfl, fun hc => ?_, fun hc => ?_⟩ | refine ⟨fun hc => ?_, fun hc => ?_⟩ | refine ⟨rfl, _, w64 (by omega) (by omega), ?_⟩ | refine ⟨_, w64 (by omega) (by omega), ?_⟩ | refine ⟨_, wU (by omega) (by omega), ?_⟩ | refine ⟨rfl, rfl, ?_⟩ | refine And.intro (show (0 : Int) ≤ _ by omega) ?_ | refine ldI (by repeat first | exact .hd | apply In.tl) ?_ | refine stI (by repeat first | exact .hd | apply In.tl) ?_ | refine slI (by repeat first | exact .hd | apply In.tl) ?_ | refine apI (by repeat first | exact .hd | apply In.tl) ?_ | refine mpI (by repeat first | exact .hd | apply In.tl) ?_ | refine ⟨⟨rfl, leb rfl, rfl⟩, ?_⟩ | refine ⟨⟨rfl, leb rfl⟩, ?_⟩ | refine ⟨⟨by decide, by decide⟩, ?_⟩ | refine ⟨rfl, ?_⟩ | refine ⟨leb rfl, ?_⟩ | refine ⟨by decide, ?_⟩ | refine .inr ⟨⟨leb rfl, leb rfl, rfl, rfl⟩, ?_⟩ | refine ⟨⟨by omega, by first | omega | exact ltm (by omega)⟩, lenm (by intro _; rfl), ?_⟩ | refine ⟨_, getm (by omega) (by first | omega | exact ltm_inv (by omega)), ?_⟩ | refine ⟨⟨by omega, by omega⟩, rfl, ?_⟩ | refine ⟨⟨rfl, by omega, rfl, by (show _ + 1 < 4294967296); omega, rfl⟩, .inr ⟨leb rfl, ?_⟩⟩ | refine ⟨_, find_C _ _, ?_⟩ | refine ⟨_, put_C _ _ _, ?_⟩ | fail)
  intro l5 hl5
  repeat' ((conv => whnf); first | refine ⟨rfl, fun hc => ?_, fun hc => ?_⟩ | refine ⟨fun hc => ?_, fun hc => ?_⟩ | refine ⟨rfl, _, w64 (by omega) (by omega), ?_⟩ | refine ⟨_, w64 (by omega) (by omega), ?_⟩ | refine ⟨_, wU (by omega) (by omega), ?_⟩ | refine ⟨rfl, rfl, ?_⟩ | refine And.intro (show (0 : Int) ≤ _ by omega) ?_ | refine ldI (by repeat first | exact .hd | apply In.tl) ?_ | refine stI (by repeat first | exact .hd | apply In.tl) ?_ | refine slI (by repeat first | exact .hd | apply In.tl) ?_ | refine apI (by repeat first | exact .hd | apply In.tl) ?_ | refine mpI (by repeat first | exact .hd | apply In.tl) ?_ | refine ⟨⟨rfl, leb rfl, rfl⟩, ?_⟩ | refine ⟨⟨rfl, leb rfl⟩, ?_⟩ | refine ⟨⟨by decide, by decide⟩, ?_⟩ | refine ⟨rfl, ?_⟩ | refine ⟨leb rfl, ?_⟩ | refine ⟨by decide, ?_⟩ | refine .inr ⟨⟨leb rfl, leb rfl, rfl, rfl⟩, ?_⟩ | refine ⟨⟨by omega, by first | omega | exact ltm (by omega)⟩, lenm (by intro _; rfl), ?_⟩ | refine ⟨_, getm (by omega) (by first | omega | exact ltm_inv (by omega)), ?_⟩ | refine ⟨⟨by omega, by omega⟩, rfl, ?_⟩ | refine ⟨⟨rfl, by omega, rfl, by (show _ + 1 < 4294967296); omega, rfl⟩, .inr ⟨leb rfl, ?_⟩⟩ | refine ⟨_, find_C _ _, ?_⟩ | refine ⟨_, put_C _ _ _, ?_⟩ | fail)
  refine aLoop_up (fun f env A => ∃ lv, A = [(l2, some (.cells (sysC s) 0 0 false false)), (l4, some (.cells z3 0 0 false false)), (l5, some (.cells [.int .i64 (l.map ptC).length, rowV lv 1 f, .nilsl] 0 0 false false))] ++ rowA lv 1 (valsF s l f) f ∧ IEnv (fun g => (g 0 :: .list (l.map ptC) :: .ptr l2 0 0 :: g 3 :: .ptr l4 0 0 :: .ptr l5 0 0 :: .int .i64 (f : Int) :: g 7 :: g 8 :: g 9 :: g 10 :: g 11 :: g 12 :: g 13 :: g 14 :: g 15 :: g 16 :: g 17 :: g 18 :: g 19 :: g 20 :: g 21 :: g 22 :: g 23 :: g 24 :: g 25 :: g 26 :: g 27 :: g 28 :: g 29 :: g 30 :: g 31 :: g 32 :: g 33 :: g 34 :: g 35 :: g 36 :: g 37 :: g 38 :: g 39 :: g 40 :: g 41 :: g 42 :: g 43 :: g 44 :: g 45 :: g 46 :: g 47 :: g 48 :: g 49 :: g 50 :: g 51 :: g 52 :: g 53 :: g 54 :: g 55 :: g 56 :: g 57 :: g 58 :: g 59 :: g 60 :: g 61 :: g 62 :: g 63 :: g 64 :: g 65 :: g 66 :: g 67 :: g 68 :: g 69 :: g 70 :: g 71 :: g 72 :: g 73 :: g 74 :: g 75 :: g 76 :: g 77 :: g 78 :: g 79 :: g 80 :: g 81 :: g 82 :: g 83 :: g 84 :: g 85 :: g 86 :: g 87 :: g 88 :: g 89 :: g 90 :: g 91 :: g 92 :: g 93 :: g 94 :: g 95 :: g 96 :: g 97 :: g 98 :: g 99 :: g 100 :: g 101 :: g 102 :: g 103 :: g 104 :: g 105 :: g 106 :: g 107 :: [])) env) s.fa.toNat (.refl _) ⟨0, rfl, .mk rfl⟩ (by omega) ?_
  rintro f env A hf ⟨lv, rfl, ⟨g, rfl⟩⟩
  (repeat' ((conv => whnf); first | refine ⟨rfl, _, w64 (by omega) (by omega), ?_⟩ | refine ⟨_, w64 (by omega) (by omega), ?_⟩ | refine ⟨_, wU (by omega) (by omega), ?_⟩ | refine ⟨rfl, rfl, ?_⟩ | refine And.intro (show (0 : Int) ≤ _ by omega) ?_ | refine ldI (by repeat first | exact .hd | apply In.tl) ?_ | refine stI (by repeat first | exact .hd | apply In.tl) ?_ | refine slI (by repeat first | exact .hd | apply In.tl) ?_ | refine apI (by repeat first | exact .hd | apply In.tl) ?_ | refine mpI (by repeat first | exact .hd | apply In.tl) ?_ | refine ⟨⟨rfl, leb rfl, rfl⟩, ?_⟩ | refine ⟨⟨rfl, leb rfl⟩, ?_⟩ | refine ⟨⟨by decide, by decide⟩, ?_⟩ | refine ⟨rfl, ?_⟩ | refine ⟨leb rfl, ?_⟩ | refine ⟨by decide, ?_⟩ | refine .inr ⟨⟨leb rfl, leb rfl, rfl, rfl⟩, ?_⟩ | refine ⟨⟨by omega, by first | omega | exact ltm (by omega)⟩, lenm (by intro _; rfl), ?_⟩ | refine ⟨_, getm (by omega) (by first | omega | exact ltm_inv (by omega)), ?_⟩ | refine ⟨⟨by omega, by omega⟩, rfl, ?_⟩ | refine ⟨⟨rfl, by omega, rfl, by (show _ + 1 < 4294967296); omega, rfl⟩, .inr ⟨leb rfl, ?_⟩⟩ | refine ⟨_, find_C _ _, ?_⟩ | refine ⟨_, put_C _ _ _, ?_⟩ | fail)); refine ⟨fun hc => ?_, fun hc => ?_⟩
  · have hf' : f < s.fa.toNat := by omega
    have hlen := valsF_len s l f
    have hsucc := valsF_succ s l f
    repeat' ((conv => whnf); first | refine ⟨rfl, fun hc => ?_, fun hc => ?_⟩ | refine ⟨fun hc => ?_, fun hc => ?_⟩ | refine ⟨rfl, _, w64 (by omega) (by omega), ?_⟩ | refine ⟨_, w64 (by omega) (by omega), ?_⟩ | refine ⟨_, wU (by omega) (by omega), ?_⟩ | refine ⟨rfl, rfl, ?_⟩ | refine And.intro (show (0 : Int) ≤ _ by omega) ?_ | refine ldI (by repeat first | exact .hd | apply In.tl) ?_ | refine stI (by repeat first | exact .hd | apply In.tl) ?_ | refine slI (by repeat first | exact .hd | apply In.tl) ?_ | refine apI (by repeat first | exact .hd | apply In.tl) ?_ | refine mpI (by repeat first | exact .hd | apply In.tl) ?_ | refine ⟨⟨rfl, leb rfl, rfl⟩, ?_⟩ | refine ⟨⟨rfl, leb rfl⟩, ?_⟩ | refine ⟨⟨by decide, by decide⟩, ?_⟩ | refine ⟨rfl, ?_⟩ | refine ⟨leb rfl, ?_⟩ | refine ⟨by decide, ?_⟩ | refine .inr ⟨⟨leb rfl, leb rfl, rfl, rfl⟩, ?_⟩ | refine ⟨⟨by omega, by first | omega | exact ltm (by omega)⟩, lenm (by intro _; rfl), ?_⟩ | refine ⟨_, getm (by omega) (by first | omega | exact ltm_inv (by omega)), ?_⟩ | refine ⟨⟨by omega, by omega⟩, rfl, ?_⟩ | refine ⟨⟨rfl, by omega, rfl, by (show _ + 1 < 4294967296); omega, rfl⟩, .inr ⟨leb rfl, ?_⟩⟩ | refine ⟨_, find_C _ _, ?_⟩ | refine ⟨_, put_C _ _ _, ?_⟩ | fail)
    refine aLoop_frame (A := [(l2, some (.cells (sysC s) 0 0 false false))]) (loop64_1 h' hn hc (.mk rfl) ?_)
    rintro env ⟨g, rfl⟩
    cases f with
    | zero =>
      repeat' ((conv => whnf); first | refine ⟨rfl, fun hc => ?_, fun hc => ?_⟩ | refine ⟨fun hc => ?_, fun hc => ?_⟩ | refine ⟨rfl, _, w64 (by omega) (by omega), ?_⟩ | refine ⟨_, w64 (by omega) (by omega), ?_⟩ | refine ⟨_, wU (by omega) (by omega), ?_⟩ | refine ⟨rfl, rfl, ?_⟩ | refine And.intro (show (0 : Int) ≤ _ by omega) ?_ | refine ldI (by repeat first | exact .hd | apply In.tl) ?_ | refine stI (by repeat first | exact .hd | apply In.tl) ?_ | refine slI (by repeat first | exact .hd | apply In.tl) ?_ | refine apI (by repeat first | exact .hd | apply In.tl) ?_ | refine mpI (by repeat first | exact .hd | apply In.tl) ?_ | refine ⟨⟨rfl, leb rfl, rfl⟩, ?_⟩ | refine ⟨⟨rfl, leb rfl⟩, ?_⟩ | refine ⟨⟨by decide, by decide⟩, ?_⟩ | refine ⟨rfl, ?_⟩ | refine ⟨leb rfl, ?_⟩ | refine ⟨by decide, ?_⟩ | refine .inr ⟨⟨leb rfl, leb rfl, rfl, rfl⟩, ?_⟩ | refine ⟨⟨by omega, by first | omega | exact ltm (by omega)⟩, lenm (by intro _; rfl), ?_⟩ | refine ⟨_, getm (by omega) (by first | omega | exact ltm_inv (by omega)), ?_⟩ | refine ⟨⟨by omega, by omega⟩, rfl, ?_⟩ | refine ⟨⟨rfl, by omega, rfl, by (show _ + 1 < 4294967296); omega, rfl⟩, .inr ⟨leb rfl, ?_⟩⟩ | refine ⟨_, find_C _ _, ?_⟩ | refine ⟨_, put_C _ _ _, ?_⟩ | fail)
      intro lq hlq
      repeat' ((conv => whnf); first | refine ⟨rfl, fun hc => ?_, fun hc => ?_⟩ | refine ⟨fun hc => ?_, fun hc => ?_⟩ | refine ⟨rfl, _, w64 (by omega) (by omega), ?_⟩ | refine ⟨_, w64 (by omega) (by omega), ?_⟩ | refine ⟨_, wU (by omega) (by omega), ?_⟩ | refine ⟨rfl, rfl, ?_⟩ | refine And.intro (show (0 : Int) ≤ _ by omega) ?_ | refine ldI (by repeat first | exact .hd | apply In.tl) ?_ | refine stI (by repeat first | exact .hd | apply In.tl) ?_ | refine slI (by repeat first | exact .hd | apply In.tl) ?_ | refine apI (by repeat first | exact .hd | apply In.tl) ?_ | refine mpI (by repeat first | exact .hd | apply In.tl) ?_ | refine ⟨⟨rfl, leb rfl, rfl⟩, ?_⟩ | refine ⟨⟨rfl, leb rfl⟩, ?_⟩ | refine ⟨⟨by decide, by decide⟩, ?_⟩ | refine ⟨rfl, ?_⟩ | refine ⟨leb rfl, ?_⟩ | refine ⟨by decide, ?_⟩ | refine .inr ⟨⟨leb rfl, leb rfl, rfl, rfl⟩, ?_⟩ | refine ⟨⟨by omega, by first | omega | exact ltm (by omega)⟩, lenm (by intro _; rfl), ?_⟩ | refine ⟨_, getm (by omega) (by first | omega | exact ltm_inv (by omega)), ?_⟩ | refine ⟨⟨by omega, by omega⟩, rfl, ?_⟩ | refine ⟨⟨rfl, by omega, rfl, by (show _ + 1 < 4294967296); omega, rfl⟩, .inr ⟨leb rfl, ?_⟩⟩ | refine ⟨_, find_C _ _, ?_⟩ | refine ⟨_, put_C _ _ _, ?_⟩ | fail)
      (conv => whnf)
      exact ⟨_, hf', .refl _, lq, by rw [hsucc]; rfl, .mk rfl⟩
    | succ j =>
      repeat' ((conv => whnf); first | refine ⟨rfl, fun hc => ?_, fun hc => ?_⟩ | refine ⟨fun hc => ?_, fun hc => ?_⟩ | refine ⟨rfl, _, w64 (by omega) (by omega), ?_⟩ | refine ⟨_, w64 (by omega) (by omega), ?_⟩ | refine ⟨_, wU (by omega) (by omega), ?_⟩ | refine ⟨rfl, rfl, ?_⟩ | refine And.intro (show (0 : Int) ≤ _ by omega) ?_ | refine ldI (by repeat first | exact .hd | apply In.tl) ?_ | refine stI (by repeat first | exact .hd | apply In.tl) ?_ | refine slI (by repeat first | exact .hd | apply In.tl) ?_ | refine apI (by repeat first | exact .hd | apply In.tl) ?_ | refine mpI (by repeat first | exact .hd | apply In.tl) ?_ | refine ⟨⟨rfl, leb rfl, rfl⟩, ?_⟩ | refine ⟨⟨rfl, leb rfl⟩, ?_⟩ | refine ⟨⟨by decide, by decide⟩, ?_⟩ | refine ⟨rfl, ?_⟩ | refine ⟨leb rfl, ?_⟩ | refine ⟨by decide, ?_⟩ | refine .inr ⟨⟨leb rfl, leb rfl, rfl, rfl⟩, ?_⟩ | refine ⟨⟨by omega, by first | omega | exact ltm (by omega)⟩, lenm (by intro _; rfl), ?_⟩ | refine ⟨_, getm (by omega) (by first | omega | exact ltm_inv (by omega)), ?_⟩ | refine ⟨⟨by omega, by omega⟩, rfl, ?_⟩ | refine ⟨⟨rfl, by omega, rfl, by (show _ + 1 < 4294967296); omega, rfl⟩, .inr ⟨leb rfl, ?_⟩⟩ | refine ⟨_, find_C _ _, ?_⟩ | refine ⟨_, put_C _ _ _, ?_⟩ | fail)
      (conv => whnf)
      exact ⟨_, hf', .refl _, lv, by rw [hsucc]; rfl, .mk rfl⟩
  · obtain rfl : f = s.fa.toNat := by omega
    repeat' ((conv => whnf); first | refine ⟨rfl, fun hc => ?_, fun hc => ?_⟩ | refine ⟨fun hc => ?_, fun hc => ?_⟩ | refine ⟨rfl, _, w64 (by omega) (by omega), ?_⟩ | refine ⟨_, w64 (by omega) (by omega), ?_⟩ | refine ⟨_, wU (by omega) (by omega), ?_⟩ | refine ⟨rfl, rfl, ?_⟩ | refine And.intro (show (0 : Int) ≤ _ by omega) ?_ | refine ldI (by repeat first | exact .hd | apply In.tl) ?_ | refine stI (by repeat first | exact .hd | apply In.tl) ?_ | refine slI (by repeat first | exact .hd | apply In.tl) ?_ | refine apI (by repeat first | exact .hd | apply In.tl) ?_ | refine mpI (by repeat first | exact .hd | apply In.tl) ?_ | refine ⟨⟨rfl, leb rfl, rfl⟩, ?_⟩ | refine ⟨⟨rfl, leb rfl⟩, ?_⟩ | refine ⟨⟨by decide, by decide⟩, ?_⟩ | refine ⟨rfl, ?_⟩ | refine ⟨leb rfl, ?_⟩ | refine ⟨by decide, ?_⟩ | refine .inr ⟨⟨leb rfl, leb rfl, rfl, rfl⟩, ?_⟩ | refine ⟨⟨by omega, by first | omega | exact ltm (by omega)⟩, lenm (by intro _; rfl), ?_⟩ | refine ⟨_, getm (by omega) (by first | omega | exact ltm_inv (by omega)), ?_⟩ | refine ⟨⟨by omega, by omega⟩, rfl, ?_⟩ | refine ⟨⟨rfl, by omega, rfl, by (show _ + 1 < 4294967296); omega, rfl⟩, .inr ⟨leb rfl, ?_⟩⟩ | refine ⟨_, find_C _ _, ?_⟩ | refine ⟨_, put_C _ _ _, ?_⟩ | fail)
    refine aLoop_upR (fun a env A R => ∃ (lr : Nat) (rs : List Nat), A = [(l2, some (.cells (sysC s) 0 0 false false)), (l4, some (.cells z3 0 0 false false)), (l5, some (.cells [.int .i64 (l.map ptC).length, rowV lv 1 s.fa.toNat, rowV lr 1 a] 0 0 false false))] ++ rowA lr 1 (refsC l.length rs) a ∧ rs.length = a ∧ (∀ i (h : i < rs.length), (rs[i], some (LObj.cells (relF s l i l.length) 1 l.length true false)) ∈ R) ∧ (∀ p ∈ rowA lv 1 (valsF s l s.fa.toNat) s.fa.toNat, p ∈ R) ∧ IEnv (fun g => (g 0 :: .list (l.map ptC) :: .ptr l2 0 0 :: g 3 :: .ptr l4 0 0 :: .ptr l5 0 0 :: g 6 :: g 7 :: g 8 :: .int .i64 (a : Int) :: g 10 :: g 11 :: g 12 :: g 13 :: g 14 :: g 15 :: g 16 :: g 17 :: g 18 :: g 19 :: g 20 :: g 21 :: g 22 :: g 23 :: g 24 :: g 25 :: g 26 :: g 27 :: g 28 :: g 29 :: g 30 :: g 31 :: g 32 :: g 33 :: g 34 :: g 35 :: g 36 :: g 37 :: g 38 :: g 39 :: g 40 :: g 41 :: g 42 :: g 43 :: g 44 :: g 45 :: g 46 :: g 47 :: g 48 :: g 49 :: g 50 :: g 51 :: g 52 :: g 53 :: g 54 :: g 55 :: g 56 :: g 57 :: g 58 :: g 59 :: g 60 :: g 61 :: g 62 :: g 63 :: g 64 :: g 65 :: g 66 :: g 67 :: g 68 :: g 69 :: g 70 :: g 71 :: g 72 :: g 73 :: g 74 :: g 75 :: g 76 :: g 77 :: g 78 :: g 79 :: g 80 :: g 81 :: g 82 :: g 83 :: g 84 :: g 85 :: g 86 :: g 87 :: g 88 :: g 89 :: g 90 :: g 91 :: g 92 :: g 93 :: g 94 :: g 95 :: g 96 :: g 97 :: g 98 :: g 99 :: g 100 :: g 101 :: g 102 :: g 103 :: g 104 :: g 105 :: g 106 :: g 107 :: [])) env) s.ag.toNat (A0 := [(l2, some (.cells (sysC s) 0 0 false false)), (l4, some (.cells z3 0 0 false false)), (l5, some (.cells [.int .i64 (l.map ptC).length, rowV lv 1 s.fa.toNat, rowV 0 1 0] 0 0 false false))] ++ rowA 0 1 (refsC l.length []) 0) (R0 := rowA lv 1 (valsF s l s.fa.toNat) s.fa.toNat) (.refl _) ⟨0, [], rfl, rfl, fun i h => by simp at h, fun p hp => hp, .mk rfl⟩ (by omega) ?_
    rintro a env A R ha ⟨lr, rs, rfl, hrs, hR, hV, ⟨g, rfl⟩⟩
    (repeat' ((conv => whnf); first | refine ⟨rfl, _, w64 (by omega) (by omega), ?_⟩ | refine ⟨_, w64 (by omega) (by omega), ?_⟩ | refine ⟨_, wU (by omega) (by omega), ?_⟩ | refine ⟨rfl, rfl, ?_⟩ | refine And.intro (show (0 : Int) ≤ _ by omega) ?_ | refine ldI (by repeat first | exact .hd | apply In.tl) ?_ | refine stI (by repeat first | exact .hd | apply In.tl) ?_ | refine slI (by repeat first | exact .hd | apply In.tl) ?_ | refine apI (by repeat first | exact .hd | apply In.tl) ?_ | refine mpI (by repeat first | exact .hd | apply In.tl) ?_ | refine ⟨⟨rfl, leb rfl, rfl⟩, ?_⟩ | refine ⟨⟨rfl, leb rfl⟩, ?_⟩ | refine ⟨⟨by decide, by decide⟩, ?_⟩ | refine ⟨rfl, ?_⟩ | refine ⟨leb rfl, ?_⟩ | refine ⟨by decide, ?_⟩ | refine .inr ⟨⟨leb rfl, leb rfl, rfl, rfl⟩, ?_⟩ | refine ⟨⟨by omega, by first | omega | exact ltm (by omega)⟩, lenm (by intro _; rfl), ?_⟩ | refine ⟨_, getm (by omega) (by first | omega | exact ltm_inv (by omega)), ?_⟩ | refine ⟨⟨by omega, by omega⟩, rfl, ?_⟩ | refine ⟨⟨rfl, by omega, rfl, by (show _ + 1 < 4294967296); omega, rfl⟩, .inr ⟨leb rfl, ?_⟩⟩ | refine ⟨_, find_C _ _, ?_⟩ | refine ⟨_, put_C _ _ _, ?_⟩ | fail)); refine ⟨fun hc => ?_, fun hc => ?_⟩
    · have hlen : (refsC l.length rs).length = a := by simp [refsC, hrs]
      have hnext : ∀ lq, refsC l.length (rs ++ [lq]) = refsC l.length rs ++ [.ref lq 0 l.length l.length 1] := fun lq => by simp [refsC]
      have hR' : ∀ (lq i : Nat) (h : i < (rs ++ [lq]).length), ((rs ++ [lq])[i], some (LObj.cells (relF s l i l.length) 1 l.length true false)) ∈ R ++ [(lq, some (.cells (relF s l a l.length) 1 l.length true false))] := fun lq i h => by
        rw [List.length_append, List.length_singleton] at h
        by_cases hi : i < rs.length
        · rw [List.getElem_append_left hi]; exact List.mem_append_left _ (hR i hi)
        · obtain rfl : i = a := by omega
          rw [List.getElem_append_right (by omega)]
          simp
      have hV' : ∀ lq : Nat, ∀ p ∈ rowA lv 1 (valsF s l s.fa.toNat) s.fa.toNat, p ∈ R ++ [(lq, some (LObj.cells (relF s l a l.length) 1 l.length true false))] := fun lq p hp => List.mem_append_left _ (hV p hp)
      repeat' ((conv => whnf); first | refine ⟨rfl, fun hc => ?_, fun hc => ?_⟩ | refine ⟨fun hc => ?_, fun hc => ?_⟩ | refine ⟨rfl, _, w64 (by omega) (by omega), ?_⟩ | refine ⟨_, w64 (by omega) (by omega), ?_⟩ | refine ⟨_, wU (by omega) (by omega), ?_⟩ | refine ⟨rfl, rfl, ?_⟩ | refine And.intro (show (0 : Int) ≤ _ by omega) ?_ | refine ldI (by repeat first | exact .hd | apply In.tl) ?_ | refine stI (by repeat first | exact .hd | apply In.tl) ?_ | refine slI (by repeat first | exact .hd | apply In.tl) ?_ | refine apI (by repeat first | exact .hd | apply In.tl) ?_ | refine mpI (by repeat first | exact .hd | apply In.tl) ?_ | refine ⟨⟨rfl, leb rfl, rfl⟩, ?_⟩ | refine ⟨⟨rfl, leb rfl⟩, ?_⟩ | refine ⟨⟨by decide, by decide⟩, ?_⟩ | refine ⟨rfl, ?_⟩ | refine ⟨leb rfl, ?_⟩ | refine ⟨by decide, ?_⟩ | refine .inr ⟨⟨leb rfl, leb rfl, rfl, rfl⟩, ?_⟩ | refine ⟨⟨by omega, by first | omega | exact ltm (by omega)⟩, lenm (by intro _; rfl), ?_⟩ | refine ⟨_, getm (by omega) (by first | omega | exact ltm_inv (by omega)), ?_⟩ | refine ⟨⟨by omega, by omega⟩, rfl, ?_⟩ | refine ⟨⟨rfl, by omega, rfl, by (show _ + 1 < 4294967296); omega, rfl⟩, .inr ⟨leb rfl, ?_⟩⟩ | refine ⟨_, find_C _ _, ?_⟩ | refine ⟨_, put_C _ _ _, ?_⟩ | fail)
      refine aLoop_frame (A := [(l2, some (.cells (sysC s) 0 0 false false))]) (loop64_3 h' hn hc (.mk rfl) ?_)
      rintro lq env ⟨g, rfl⟩
      cases a with
      | zero =>
        repeat' ((conv => whnf); first | refine ⟨rfl, fun hc => ?_, fun hc => ?_⟩ | refine ⟨fun hc => ?_, fun hc => ?_⟩ | refine ⟨rfl, _, w64 (by omega) (by omega), ?_⟩ | refine ⟨_, w64 (by omega) (by omega), ?_⟩ | refine ⟨_, wU (by omega) (by omega), ?_⟩ | refine ⟨rfl, rfl, ?_⟩ | refine And.intro (show (0 : Int) ≤ _ by omega) ?_ | refine ldI (by repeat first | exact .hd | apply In.tl) ?_ | refine stI (by repeat first | exact .hd | apply In.tl) ?_ | refine slI (by repeat first | exact .hd | apply In.tl) ?_ | refine apI (by repeat first | exact .hd | apply In.tl) ?_ | refine mpI (by repeat first | exact .hd | apply In.tl) ?_ | refine ⟨⟨rfl, leb rfl, rfl⟩, ?_⟩ | refine ⟨⟨rfl, leb rfl⟩, ?_⟩ | refine ⟨⟨by decide, by decide⟩, ?_⟩ | refine ⟨rfl, ?_⟩ | refine ⟨leb rfl, ?_⟩ | refine ⟨by decide, ?_⟩ | refine .inr ⟨⟨leb rfl, leb rfl, rfl, rfl⟩, ?_⟩ | refine ⟨⟨by omega, by first | omega | exact ltm (by omega)⟩, lenm (by intro _; rfl), ?_⟩ | refine ⟨_, getm (by omega) (by first | omega | exact ltm_inv (by omega)), ?_⟩ | refine ⟨⟨by omega, by omega⟩, rfl, ?_⟩ | refine ⟨⟨rfl, by omega, rfl, by (show _ + 1 < 4294967296); omega, rfl⟩, .inr ⟨leb rfl, ?_⟩⟩ | refine ⟨_, find_C _ _, ?_⟩ | refine ⟨_, put_C _ _ _, ?_⟩ | fail)
        intro lr' hlr'
        repeat' ((conv => whnf); first | refine ⟨rfl, fun hc => ?_, fun hc => ?_⟩ | refine ⟨fun hc => ?_, fun hc => ?_⟩ | refine ⟨rfl, _, w64 (by omega) (by omega), ?_⟩ | refine ⟨_, w64 (by omega) (by omega), ?_⟩ | refine ⟨_, wU (by omega) (by omega), ?_⟩ | refine ⟨rfl, rfl, ?_⟩ | refine And.intro (show (0 : Int) ≤ _ by omega) ?_ | refine ldI (by repeat first | exact .hd | apply In.tl) ?_ | refine stI (by repeat first | exact .hd | apply In.tl) ?_ | refine slI (by repeat first | exact .hd | apply In.tl) ?_ | refine apI (by repeat first | exact .hd | apply In.tl) ?_ | refine mpI (by repeat first | exact .hd | apply In.tl) ?_ | refine ⟨⟨rfl, leb rfl, rfl⟩, ?_⟩ | refine ⟨⟨rfl, leb rfl⟩, ?_⟩ | refine ⟨⟨by decide, by decide⟩, ?_⟩ | refine ⟨rfl, ?_⟩ | refine ⟨leb rfl, ?_⟩ | refine ⟨by decide, ?_⟩ | refine .inr ⟨⟨leb rfl, leb rfl, rfl, rfl⟩, ?_⟩ | refine ⟨⟨by omega, by first | omega | exact ltm (by omega)⟩, lenm (by intro _; rfl), ?_⟩ | refine ⟨_, getm (by omega) (by first | omega | exact ltm_inv (by omega)), ?_⟩ | refine ⟨⟨by omega, by omega⟩, rfl, ?_⟩ | refine ⟨⟨rfl, by omega, rfl, by (show _ + 1 < 4294967296); omega, rfl⟩, .inr ⟨leb rfl, ?_⟩⟩ | refine ⟨_, find_C _ _, ?_⟩ | refine ⟨_, put_C _ _ _, ?_⟩ | fail)
        (conv => whnf)
        refine ⟨_, _, by omega, Sub.keepR [0, 2, 3, 4] [1] rfl, lr', rs ++ [lq], ?_, by simp [hrs], hR' lq, hV' lq, .mk rfl⟩
        rw [hnext, show rs = [] from List.length_eq_zero_iff.1 hrs]; rfl
      | succ j =>
        repeat' ((conv => whnf); first | refine ⟨rfl, fun hc => ?_, fun hc => ?_⟩ | refine ⟨fun hc => ?_, fun hc => ?_⟩ | refine ⟨rfl, _, w64 (by omega) (by omega), ?_⟩ | refine ⟨_, w64 (by omega) (by omega), ?_⟩ | refine ⟨_, wU (by omega) (by omega), ?_⟩ | refine ⟨rfl, rfl, ?_⟩ | refine And.intro (show (0 : Int) ≤ _ by omega) ?_ | refine ldI (by repeat first | exact .hd | apply In.tl) ?_ | refine stI (by repeat first | exact .hd | apply In.tl) ?_ | refine slI (by repeat first | exact .hd | apply In.tl) ?_ | refine apI (by repeat first | exact .hd | apply In.tl) ?_ | refine mpI (by repeat first | exact .hd | apply In.tl) ?_ | refine ⟨⟨rfl, leb rfl, rfl⟩, ?_⟩ | refine ⟨⟨rfl, leb rfl⟩, ?_⟩ | refine ⟨⟨by decide, by decide⟩, ?_⟩ | refine ⟨rfl, ?_⟩ | refine ⟨leb rfl, ?_⟩ | refine ⟨by decide, ?_⟩ | refine .inr ⟨⟨leb rfl, leb rfl, rfl, rfl⟩, ?_⟩ | refine ⟨⟨by omega, by first | omega | exact ltm (by omega)⟩, lenm (by intro _; rfl), ?_⟩ | refine ⟨_, getm (by omega) (by first | omega | exact ltm_inv (by omega)), ?_⟩ | refine ⟨⟨by omega, by omega⟩, rfl, ?_⟩ | refine ⟨⟨rfl, by omega, rfl, by (show _ + 1 < 4294967296); omega, rfl⟩, .inr ⟨leb rfl, ?_⟩⟩ | refine ⟨_, find_C _ _, ?_⟩ | refine ⟨_, put_C _ _ _, ?_⟩ | fail)
        (conv => whnf)
        refine ⟨_, _, by omega, Sub.keepR [0, 2, 3, 4] [1] rfl, lr, rs ++ [lq], ?_, by simp [hrs], hR' lq, hV' lq, .mk rfl⟩
        rw [hnext]; rfl
    · obtain rfl : a = s.ag.toNat := by omega
      have hmod : modC (modelS s l) = [.int .i64 (l.map ptC).length, .list (((List.range s.fa.toNat).map fun f => ((valS s l f : Nat) : Int)).map fun x => [.int .u64 x]), .list ((List.range s.ag.toNat).map fun a => setsC ((List.range l.length).map fun w => ((relS s l a w : Nat) : Int)))] := by
        simp only [modC, modelS, List.length_map, List.map_map]
        rfl
      rw [hmod] at hK
      repeat' ((conv => whnf); first | refine ⟨rfl, fun hc => ?_, fun hc => ?_⟩ | refine ⟨fun hc => ?_, fun hc => ?_⟩ | refine ⟨rfl, _, w64 (by omega) (by omega), ?_⟩ | refine ⟨_, w64 (by omega) (by omega), ?_⟩ | refine ⟨_, wU (by omega) (by omega), ?_⟩ | refine ⟨rfl, rfl, ?_⟩ | refine And.intro (show (0 : Int) ≤ _ by omega) ?_ | refine ldI (by repeat first | exact .hd | apply In.tl) ?_ | refine stI (by repeat first | exact .hd | apply In.tl) ?_ | refine slI (by repeat first | exact .hd | apply In.tl) ?_ | refine apI (by repeat first | exact .hd | apply In.tl) ?_ | refine mpI (by repeat first | exact .hd | apply In.tl) ?_ | refine ⟨⟨rfl, leb rfl, rfl⟩, ?_⟩ | refine ⟨⟨rfl, leb rfl⟩, ?_⟩ | refine ⟨⟨by decide, by decide⟩, ?_⟩ | refine ⟨rfl, ?_⟩ | refine ⟨leb rfl, ?_⟩ | refine ⟨by decide, ?_⟩ | refine .inr ⟨⟨leb rfl, leb rfl, rfl, rfl⟩, ?_⟩ | refine ⟨⟨by omega, by first | omega | exact ltm (by omega)⟩, lenm (by intro _; rfl), ?_⟩ | refine ⟨_, getm (by omega) (by first | omega | exact ltm_inv (by omega)), ?_⟩ | refine ⟨⟨by omega, by omega⟩, rfl, ?_⟩ | refine ⟨⟨rfl, by omega, rfl, by (show _ + 1 < 4294967296); omega, rfl⟩, .inr ⟨leb rfl, ?_⟩⟩ | refine ⟨_, find_C _ _, ?_⟩ | refine ⟨_, put_C _ _ _, ?_⟩ | fail)
      refine ⟨⟨rfl, leb rfl, (show ((rowV lv 1 s.fa.toNat).one && ((rowV lr 1 s.ag.toNat).one && true)) = true by rw [rowV_one, rowV_one]; rfl)⟩, ?_⟩
      repeat' ((conv => whnf); first | refine ⟨rfl, fun hc => ?_, fun hc => ?_⟩ | refine ⟨fun hc => ?_, fun hc => ?_⟩ | refine ⟨rfl, _, w64 (by omega) (by omega), ?_⟩ | refine ⟨_, w64 (by omega) (by omega), ?_⟩ | refine ⟨_, wU (by omega) (by omega), ?_⟩ | refine ⟨rfl, rfl, ?_⟩ | refine And.intro (show (0 : Int) ≤ _ by omega) ?_ | refine ldI (by repeat first | exact .hd | apply In.tl) ?_ | refine stI (by repeat first | exact .hd | apply In.tl) ?_ | refine slI (by repeat first | exact .hd | apply In.tl) ?_ | refine apI (by repeat first | exact .hd | apply In.tl) ?_ | refine mpI (by repeat first | exact .hd | apply In.tl) ?_ | refine ⟨⟨rfl, leb rfl, rfl⟩, ?_⟩ | refine ⟨⟨rfl, leb rfl⟩, ?_⟩ | refine ⟨⟨by decide, by decide⟩, ?_⟩ | refine ⟨rfl, ?_⟩ | refine ⟨leb rfl, ?_⟩ | refine ⟨by decide, ?_⟩ | refine .inr ⟨⟨leb rfl, leb rfl, rfl, rfl⟩, ?_⟩ | refine ⟨⟨by omega, by first | omega | exact ltm (by omega)⟩, lenm (by intro _; rfl), ?_⟩ | refine ⟨_, getm (by omega) (by first | omega | exact ltm_inv (by omega)), ?_⟩ | refine ⟨⟨by omega, by omega⟩, rfl, ?_⟩ | refine ⟨⟨rfl, by omega, rfl, by (show _ + 1 < 4294967296); omega, rfl⟩, .inr ⟨leb rfl, ?_⟩⟩ | refine ⟨_, find_C _ _, ?_⟩ | refine ⟨_, put_C _ _ _, ?_⟩ | fail)
      have hfl : ((List.range s.fa.toNat).map fun f => ((valS s l f : Nat) : Int)).length = s.fa.toNat := by simp
      refine hK _ _ (FzUL.fin (.cons (.agg (d := 11) (.cons (.self rfl) (.cons (y := .list (((List.range s.fa.toNat).map fun f => ((valS s l f : Nat) : Int)).map fun x => [.int .u64 x])) ?_ (.cons ?_ .nil)))) .nil))
      · have hg := fun (A : Ah) hm => FzU.grown (d := 9) (A := A) (f := fun x => [AV.int .u64 x]) (k := 1) (xs := (List.range s.fa.toNat).map fun f => ((valS s l f : Nat) : Int)) (lp := lv) (fun _ => rfl) (fun _ => rfl) hm
        rw [hfl, ← valsF_row] at hg
        refine hg _ fun p hp => ?_
        have := hV p hp
        simp [this]
      · rw [← hrs]
        refine fz_rel (fun p hp => ?_) fun i h => ?_
        · simp [hp]
        · have := hR i h
          simp [this]
def g62 : List AV → Option (List AV) := con (.cons (.agg sysK) (.one (.list ptK))) ok62 fun x => [.agg (modC (modelS x.1 x.2))]
theorem c64 : IsoOk Try.prog 64 g62 := iso_con mixed okU3 Try.func64 cir64 fun x hx => ⟨101, _, rfl, run64 hx (by decide) fun rs' A h => h⟩
theorem k62 {T : Tab} (hT : Go.Ai.look T 62 = some ⟨.iso, g62⟩) {s : SysD} {l : List (Int × Int)} (h : ok62 (s, l)) {r : AV} (hr : .agg (modC (modelS s l)) = r) : (hands T).iso 62 [.agg (sysC s), .list (l.map ptC)] = some [r] := hat hT (con_at (x := (s, l)) h rfl (by rw [hr]))
theorem k64 {T : Tab} (hT : Go.Ai.look T 64 = some ⟨.iso, g62⟩) {s : SysD} {l : List (Int × Int)} (h : ok62 (s, l)) {r : AV} (hr : .agg (modC (modelS s l)) = r) : (hands T).iso 64 [.agg (sysC s), .list (l.map ptC)] = some [r] := hat hT (con_at (x := (s, l)) h rfl (by rw [hr]))
end Go.Proofs.Ytlgbbabijifflaa.sys
set_option linter.unusedVariables false
set_option linter.unusedSimpArgs false
namespace Go.Proofs.Ytlgbbabijifflaa.sys
attribute [local irreducible] Go.Ai.wrapI Go.Ai.arith.bits Go.Ai.shlI Go.Ai.shrI
open Go Go.Ai Go.Proofs.Ytlgbbabijifflaa.L1R
open runs (RunD SysD runC sysC intsC locsC facsC dSys dSys_C dSys_inv chkS chk_ok sysFine numP)
open mdl (ModD modC modK setC setsC mixed nilOk)
theorem frz_sub {A B A1 : Ah} {vs ys : List AV} (hs : Sub A B) (h : Frz B vs ys A1) : Frz A vs ys A1 := fun F H hR => h F H (hs F H hR)
def noM : ModD := ⟨0, [], []⟩
inductive ResM where
  | bad (c : Int)
  | ok (m : ModD) (l : List (Int × Int))
def modelR (s : SysD) : ModD × List (Int × Int) × Int := if chkS s ≠ 0 then (noM, [], chkS s) else if (ptsOf s).length > 64 then (noM, [], 8) else (modelS s (ptsOf s), ptsOf s, 0)
def outM (r : ModD × List (Int × Int) × Int) : List AV := [.agg (modC r.1), .list (r.2.1.map ptC), .int .i64 r.2.2]
theorem pts_in {s : SysD} (h : Valid s) : ∀ p ∈ ptsOf s, inPt s p := by
  obtain ⟨q1, q2, q3, q4, q5, q6, q7, q8, q9⟩ := chk_ok h.2
  intro p hp
  simp only [ptsOf, pl, List.mem_map, List.mem_range] at hp
  obtain ⟨i, hi, rfl⟩ := hp
  have hL : 0 < s.len.toNat := by omega
  have h1 : i / s.len.toNat < s.runs.length := (Nat.div_lt_iff_lt_mul hL).2 hi
  have h2 := Nat.mod_lt i hL
  exact ⟨Int.natCast_nonneg _, Int.ofNat_lt.2 h1, Int.natCast_nonneg _, by simp only; omega⟩
theorem pts_pos {s : SysD} (h : Valid s) : 1 ≤ (ptsOf s).length := by
  obtain ⟨q1, q2, q3, q4, q5, q6, q7, q8, q9⟩ := chk_ok h.2
  rw [ptsOf, pl_len]
  exact Nat.mul_pos q8 (by omega)
theorem fin_no {A : Ah} {c : Int} : Fin .iso A [.agg [.int .i64 0, .nilsl, .nilsl], .nilsl, .int .i64 c] (outM (noM, [], c)) :=
  FzUL.fin (.cons (.agg (d := 11) (.cons (.self rfl) (.cons .nilsl (.cons .nilsl .nil)))) (.cons .nilsl (.cons (.self rfl) .nil)))
theorem fin_yes {A : Ah} {m : ModD} {l : List (Int × Int)} {c : Int} : Fin .iso A [.agg (modC m), .list (l.map ptC), .int .i64 c] (outM (m, l, c)) :=
  FzUL.fin (.cons (.agg (d := 11) (.selfs rfl)) (.cons (.self rfl) (.cons (.self rfl) .nil)))
def U4 : Tab := [(13, ⟨.iso, g13⟩), (56, ⟨.iso, g56⟩), (62, ⟨.iso, g62⟩)]
theorem okU4 : HandsOk Try.prog (hands U4) := hands_ok (.cons c13 (.cons c56 (.cons c62 .nil)))
def U5 : Tab := [(32, ⟨.iso, g32⟩), (63, ⟨.iso, g56⟩), (64, ⟨.iso, g62⟩)]
theorem okU5 : HandsOk Try.prog (hands U5) := hands_ok (.cons c32 (.cons c63 (.cons c64 .nil)))
set_option maxRecDepth 100000 in
set_option maxHeartbeats 1000000 in
theorem run19 {n : Nat} {s : SysD} (hs : Small s) {K : List AV → Ah → Prop} (hK : ∀ rs' A, Fin .iso A rs' (outM (modelR s)) → K rs' A) : aB (hands U4) n ir19 (.agg (sysC s) :: .undef :: .undef :: .undef :: .undef :: .undef :: .undef :: .undef :: .undef :: .undef :: .undef :: .undef :: .undef :: .undef :: .undef :: .undef :: .undef :: .undef :: .undef :: .undef :: .undef :: .undef :: .undef :: []) [] K := by
  refine ⟨rfl, ?_⟩
  intro l1 hl1 l2 hl2
  by_cases h0 : chkS s = 0
  · have hv : Valid s := ⟨hs, h0⟩
    repeat' ((conv => whnf); first | refine ⟨rfl, fun hc => ?_, fun hc => ?_⟩ | refine ⟨fun hc => ?_, fun hc => ?_⟩ | refine ⟨rfl, _, w64 (by omega) (by omega), ?_⟩ | refine ⟨_, w64 (by omega) (by omega), ?_⟩ | refine ⟨_, wU (by omega) (by omega), ?_⟩ | refine ⟨rfl, rfl, ?_⟩ | refine And.intro (show (0 : Int) ≤ _ by omega) ?_ | refine ldI (by repeat first | exact .hd | apply In.tl) ?_ | refine stI (by repeat first | exact .hd | apply In.tl) ?_ | refine slI (by repeat first | exact .hd | apply In.tl) ?_ | refine apI (by repeat first | exact .hd | apply In.tl) ?_ | refine mpI (by repeat first | exact .hd | apply In.tl) ?_ | refine ⟨⟨rfl, leb rfl, rfl⟩, ?_⟩ | refine ⟨⟨rfl, leb rfl⟩, ?_⟩ | refine ⟨⟨by decide, by decide⟩, ?_⟩ | refine ⟨rfl, ?_⟩ | refine ⟨leb rfl, ?_⟩ | refine ⟨by decide, ?_⟩ | refine .inr ⟨⟨leb rfl, leb rfl, rfl, rfl⟩, ?_⟩ | refine ⟨⟨by omega, by first | omega | exact ltm (by omega)⟩, lenm (by intro _; rfl), ?_⟩ | refine ⟨_, getm (by omega) (by first | omega | exact ltm_inv (by omega)), ?_⟩ | refine ⟨⟨by omega, by omega⟩, rfl, ?_⟩ | refine ⟨⟨rfl, by omega, rfl, by (show _ + 1 < 4294967296); omega, rfl⟩, .inr ⟨leb rfl, ?_⟩⟩ | refine ⟨_, find_C _ _, ?_⟩ | refine ⟨_, put_C _ _ _, ?_⟩ | refine ⟨_, _, _, true, fun _ H hR => ⟨H, rfl, hR⟩, k13 rfl hs h0, rfl, ?_⟩ | refine ⟨_, _, _, false, fun _ H hR => ⟨H, rfl, hR⟩, k13 rfl hs h0, rfl, ?_⟩ | fail)
    · exact absurd rfl hc
    repeat' ((conv => whnf); first | refine ⟨rfl, fun hc => ?_, fun hc => ?_⟩ | refine ⟨fun hc => ?_, fun hc => ?_⟩ | refine ⟨rfl, _, w64 (by omega) (by omega), ?_⟩ | refine ⟨_, w64 (by omega) (by omega), ?_⟩ | refine ⟨_, wU (by omega) (by omega), ?_⟩ | refine ⟨rfl, rfl, ?_⟩ | refine And.intro (show (0 : Int) ≤ _ by omega) ?_ | refine ldI (by repeat first | exact .hd | apply In.tl) ?_ | refine stI (by repeat first | exact .hd | apply In.tl) ?_ | refine slI (by repeat first | exact .hd | apply In.tl) ?_ | refine apI (by repeat first | exact .hd | apply In.tl) ?_ | refine mpI (by repeat first | exact .hd | apply In.tl) ?_ | refine ⟨⟨rfl, leb rfl, rfl⟩, ?_⟩ | refine ⟨⟨rfl, leb rfl⟩, ?_⟩ | refine ⟨⟨by decide, by decide⟩, ?_⟩ | refine ⟨rfl, ?_⟩ | refine ⟨leb rfl, ?_⟩ | refine ⟨by decide, ?_⟩ | refine .inr ⟨⟨leb rfl, leb rfl, rfl, rfl⟩, ?_⟩ | refine ⟨⟨by omega, by first | omega | exact ltm (by omega)⟩, lenm (by intro _; rfl), ?_⟩ | refine ⟨_, getm (by omega) (by first | omega | exact ltm_inv (by omega)), ?_⟩ | refine ⟨⟨by omega, by omega⟩, rfl, ?_⟩ | refine ⟨⟨rfl, by omega, rfl, by (show _ + 1 < 4294967296); omega, rfl⟩, .inr ⟨leb rfl, ?_⟩⟩ | refine ⟨_, find_C _ _, ?_⟩ | refine ⟨_, put_C _ _ _, ?_⟩ | refine ⟨_, _, _, true, fun _ H hR => ⟨H, rfl, hR⟩, k56 rfl hv, rfl, ?_⟩ | refine ⟨_, _, _, false, fun _ H hR => ⟨H, rfl, hR⟩, k56 rfl hv, rfl, ?_⟩ | fail)
    · simp only [List.length_map] at hc
      rw [modelR, if_neg (by simp [h0]), if_pos (by omega)] at hK
      exact hK _ _ fin_no
    · simp only [List.length_map] at hc
      rw [modelR, if_neg (by simp [h0]), if_neg (by omega)] at hK
      have hok : ok62 (s, ptsOf s) := ⟨hv, pts_pos hv, by simp only; omega, pts_in hv⟩
      repeat' ((conv => whnf); first | refine ⟨rfl, fun hc => ?_, fun hc => ?_⟩ | refine ⟨fun hc => ?_, fun hc => ?_⟩ | refine ⟨rfl, _, w64 (by omega) (by omega), ?_⟩ | refine ⟨_, w64 (by omega) (by omega), ?_⟩ | refine ⟨_, wU (by omega) (by omega), ?_⟩ | refine ⟨rfl, rfl, ?_⟩ | refine And.intro (show (0 : Int) ≤ _ by omega) ?_ | refine ldI (by repeat first | exact .hd | apply In.tl) ?_ | refine stI (by repeat first | exact .hd | apply In.tl) ?_ | refine slI (by repeat first | exact .hd | apply In.tl) ?_ | refine apI (by repeat first | exact .hd | apply In.tl) ?_ | refine mpI (by repeat first | exact .hd | apply In.tl) ?_ | refine ⟨⟨rfl, leb rfl, rfl⟩, ?_⟩ | refine ⟨⟨rfl, leb rfl⟩, ?_⟩ | refine ⟨⟨by decide, by decide⟩, ?_⟩ | refine ⟨rfl, ?_⟩ | refine ⟨leb rfl, ?_⟩ | refine ⟨by decide, ?_⟩ | refine .inr ⟨⟨leb rfl, leb rfl, rfl, rfl⟩, ?_⟩ | refine ⟨⟨by omega, by first | omega | exact ltm (by omega)⟩, lenm (by intro _; rfl), ?_⟩ | refine ⟨_, getm (by omega) (by first | omega | exact ltm_inv (by omega)), ?_⟩ | refine ⟨⟨by omega, by omega⟩, rfl, ?_⟩ | refine ⟨⟨rfl, by omega, rfl, by (show _ + 1 < 4294967296); omega, rfl⟩, .inr ⟨leb rfl, ?_⟩⟩ | refine ⟨_, find_C _ _, ?_⟩ | refine ⟨_, put_C _ _ _, ?_⟩ | refine ⟨_, _, _, true, fun _ H hR => ⟨H, rfl, hR⟩, k62 rfl hok rfl, rfl, ?_⟩ | refine ⟨_, _, _, false, fun _ H hR => ⟨H, rfl, hR⟩, k62 rfl hok rfl, rfl, ?_⟩ | fail)
      exact hK _ _ fin_yes
  · repeat' ((conv => whnf); first | refine ⟨rfl, fun hc => ?_, fun hc => ?_⟩ | refine ⟨fun hc => ?_, fun hc => ?_⟩ | refine ⟨rfl, _, w64 (by omega) (by omega), ?_⟩ | refine ⟨_, w64 (by omega) (by omega), ?_⟩ | refine ⟨_, wU (by omega) (by omega), ?_⟩ | refine ⟨rfl, rfl, ?_⟩ | refine And.intro (show (0 : Int) ≤ _ by omega) ?_ | refine ldI (by repeat first | exact .hd | apply In.tl) ?_ | refine stI (by repeat first | exact .hd | apply In.tl) ?_ | refine slI (by repeat first | exact .hd | apply In.tl) ?_ | refine apI (by repeat first | exact .hd | apply In.tl) ?_ | refine mpI (by repeat first | exact .hd | apply In.tl) ?_ | refine ⟨⟨rfl, leb rfl, rfl⟩, ?_⟩ | refine ⟨⟨rfl, leb rfl⟩, ?_⟩ | refine ⟨⟨by decide, by decide⟩, ?_⟩ | refine ⟨rfl, ?_⟩ | refine ⟨leb rfl, ?_⟩ | refine ⟨by decide, ?_⟩ | refine .inr ⟨⟨leb rfl, leb rfl, rfl, rfl⟩, ?_⟩ | refine ⟨⟨by omega, by first | omega | exact ltm (by omega)⟩, lenm (by intro _; rfl), ?_⟩ | refine ⟨_, getm (by omega) (by first | omega | exact ltm_inv (by omega)), ?_⟩ | refine ⟨⟨by omega, by omega⟩, rfl, ?_⟩ | refine ⟨⟨rfl, by omega, rfl, by (show _ + 1 < 4294967296); omega, rfl⟩, .inr ⟨leb rfl, ?_⟩⟩ | refine ⟨_, find_C _ _, ?_⟩ | refine ⟨_, put_C _ _ _, ?_⟩ | refine ⟨_, _, _, true, fun _ H hR => ⟨H, rfl, hR⟩, k13 rfl hs rfl, rfl, ?_⟩ | refine ⟨_, _, _, false, fun _ H hR => ⟨H, rfl, hR⟩, k13 rfl hs rfl, rfl, ?_⟩ | fail)
    · rw [modelR, if_pos h0] at hK
      exact hK _ _ fin_no
    · exact absurd (Decidable.not_not.1 hc) h0
set_option maxRecDepth 100000 in
set_option maxHeartbeats 1000000 in
theorem run20 {n : Nat} {s : SysD} (hs : Small s) {K : List AV → Ah → Prop} (hK : ∀ rs' A, Fin .iso A rs' (outM (modelR s)) → K rs' A) : aB (hands U5) n ir20 (.agg (sysC s) :: .undef :: .undef :: .undef :: .undef :: .undef :: .undef :: .undef :: .undef :: .undef :: .undef :: .undef :: .undef :: .undef :: .undef :: .undef :: .undef :: .undef :: .undef :: .undef :: .undef :: .undef :: .undef :: []) [] K := by
  refine ⟨rfl, ?_⟩
  intro l1 hl1 l2 hl2
  by_cases h0 : chkS s = 0
  · have hv : Valid s := ⟨hs, h0⟩
    repeat' ((conv => whnf); first | refine ⟨rfl, fun hc => ?_, fun hc => ?_⟩ | refine ⟨fun hc => ?_, fun hc => ?_⟩ | refine ⟨rfl, _, w64 (by omega) (by omega), ?_⟩ | refine ⟨_, w64 (by omega) (by omega), ?_⟩ | refine ⟨_, wU (by omega) (by omega), ?_⟩ | refine ⟨rfl, rfl, ?_⟩ | refine And.intro (show (0 : Int) ≤ _ by omega) ?_ | refine ldI (by repeat first | exact .hd | apply In.tl) ?_ | refine stI (by repeat first | exact .hd | apply In.tl) ?_ | refine slI (by repeat first | exact .hd | apply In.tl) ?_ | refine apI (by repeat first | exact .hd | apply In.tl) ?_ | refine mpI (by repeat first | exact .hd | apply In.tl) ?_ | refine ⟨⟨rfl, leb rfl, rfl⟩, ?_⟩ | refine ⟨⟨rfl, leb rfl⟩, ?_⟩ | refine ⟨⟨by decide, by decide⟩, ?_⟩ | refine ⟨rfl, ?_⟩ | refine ⟨leb rfl, ?_⟩ | refine ⟨by decide, ?_⟩ | refine .inr ⟨⟨leb rfl, leb rfl, rfl, rfl⟩, ?_⟩ | refine ⟨⟨by omega, by first | omega | exact ltm (by omega)⟩, lenm (by intro _; rfl), ?_⟩ | refine ⟨_, getm (by omega) (by first | omega | exact ltm_inv (by omega)), ?_⟩ | refine ⟨⟨by omega, by omega⟩, rfl, ?_⟩ | refine ⟨⟨rfl, by omega, rfl, by (show _ + 1 < 4294967296); omega, rfl⟩, .inr ⟨leb rfl, ?_⟩⟩ | refine ⟨_, find_C _ _, ?_⟩ | refine ⟨_, put_C _ _ _, ?_⟩ | refine ⟨_, _, _, true, fun _ H hR => ⟨H, rfl, hR⟩, k32 rfl hs h0, rfl, ?_⟩ | refine ⟨_, _, _, false, fun _ H hR => ⟨H, rfl, hR⟩, k32 rfl hs h0, rfl, ?_⟩ | fail)
    · exact absurd rfl hc
    repeat' ((conv => whnf); first | refine ⟨rfl, fun hc => ?_, fun hc => ?_⟩ | refine ⟨fun hc => ?_, fun hc => ?_⟩ | refine ⟨rfl, _, w64 (by omega) (by omega), ?_⟩ | refine ⟨_, w64 (by omega) (by omega), ?_⟩ | refine ⟨_, wU (by omega) (by omega), ?_⟩ | refine ⟨rfl, rfl, ?_⟩ | refine And.intro (show (0 : Int) ≤ _ by omega) ?_ | refine ldI (by repeat first | exact .hd | apply In.tl) ?_ | refine stI (by repeat first | exact .hd | apply In.tl) ?_ | refine slI (by repeat first | exact .hd | apply In.tl) ?_ | refine apI (by repeat first | exact .hd | apply In.tl) ?_ | refine mpI (by repeat first | exact .hd | apply In.tl) ?_ | refine ⟨⟨rfl, leb rfl, rfl⟩, ?_⟩ | refine ⟨⟨rfl, leb rfl⟩, ?_⟩ | refine ⟨⟨by decide, by decide⟩, ?_⟩ | refine ⟨rfl, ?_⟩ | refine ⟨leb rfl, ?_⟩ | refine ⟨by decide, ?_⟩ | refine .inr ⟨⟨leb rfl, leb rfl, rfl, rfl⟩, ?_⟩ | refine ⟨⟨by omega, by first | omega | exact ltm (by omega)⟩, lenm (by intro _; rfl), ?_⟩ | refine ⟨_, getm (by omega) (by first | omega | exact ltm_inv (by omega)), ?_⟩ | refine ⟨⟨by omega, by omega⟩, rfl, ?_⟩ | refine ⟨⟨rfl, by omega, rfl, by (show _ + 1 < 4294967296); omega, rfl⟩, .inr ⟨leb rfl, ?_⟩⟩ | refine ⟨_, find_C _ _, ?_⟩ | refine ⟨_, put_C _ _ _, ?_⟩ | refine ⟨_, _, _, true, fun _ H hR => ⟨H, rfl, hR⟩, k63 rfl hv, rfl, ?_⟩ | refine ⟨_, _, _, false, fun _ H hR => ⟨H, rfl, hR⟩, k63 rfl hv, rfl, ?_⟩ | fail)
    · simp only [List.length_map] at hc
      rw [modelR, if_neg (by simp [h0]), if_pos (by omega)] at hK
      exact hK _ _ fin_no
    · simp only [List.length_map] at hc
      rw [modelR, if_neg (by simp [h0]), if_neg (by omega)] at hK
      have hok : ok62 (s, ptsOf s) := ⟨hv, pts_pos hv, by simp only; omega, pts_in hv⟩
      repeat' ((conv => whnf); first | refine ⟨rfl, fun hc => ?_, fun hc => ?_⟩ | refine ⟨fun hc => ?_, fun hc => ?_⟩ | refine ⟨rfl, _, w64 (by omega) (by omega), ?_⟩ | refine ⟨_, w64 (by omega) (by omega), ?_⟩ | refine ⟨_, wU (by omega) (by omega), ?_⟩ | refine ⟨rfl, rfl, ?_⟩ | refine And.intro (show (0 : Int) ≤ _ by omega) ?_ | refine ldI (by repeat first | exact .hd | apply In.tl) ?_ | refine stI (by repeat first | exact .hd | apply In.tl) ?_ | refine slI (by repeat first | exact .hd | apply In.tl) ?_ | refine apI (by repeat first | exact .hd | apply In.tl) ?_ | refine mpI (by repeat first | exact .hd | apply In.tl) ?_ | refine ⟨⟨rfl, leb rfl, rfl⟩, ?_⟩ | refine ⟨⟨rfl, leb rfl⟩, ?_⟩ | refine ⟨⟨by decide, by decide⟩, ?_⟩ | refine ⟨rfl, ?_⟩ | refine ⟨leb rfl, ?_⟩ | refine ⟨by decide, ?_⟩ | refine .inr ⟨⟨leb rfl, leb rfl, rfl, rfl⟩, ?_⟩ | refine ⟨⟨by omega, by first | omega | exact ltm (by omega)⟩, lenm (by intro _; rfl), ?_⟩ | refine ⟨_, getm (by omega) (by first | omega | exact ltm_inv (by omega)), ?_⟩ | refine ⟨⟨by omega, by omega⟩, rfl, ?_⟩ | refine ⟨⟨rfl, by omega, rfl, by (show _ + 1 < 4294967296); omega, rfl⟩, .inr ⟨leb rfl, ?_⟩⟩ | refine ⟨_, find_C _ _, ?_⟩ | refine ⟨_, put_C _ _ _, ?_⟩ | refine ⟨_, _, _, true, fun _ H hR => ⟨H, rfl, hR⟩, k64 rfl hok rfl, rfl, ?_⟩ | refine ⟨_, _, _, false, fun _ H hR => ⟨H, rfl, hR⟩, k64 rfl hok rfl, rfl, ?_⟩ | fail)
      exact hK _ _ fin_yes
  · repeat' ((conv => whnf); first | refine ⟨rfl, fun hc => ?_, fun hc => ?_⟩ | refine ⟨fun hc => ?_, fun hc => ?_⟩ | refine ⟨rfl, _, w64 (by omega) (by omega), ?_⟩ | refine ⟨_, w64 (by omega) (by omega), ?_⟩ | refine ⟨_, wU (by omega) (by omega), ?_⟩ | refine ⟨rfl, rfl, ?_⟩ | refine And.intro (show (0 : Int) ≤ _ by omega) ?_ | refine ldI (by repeat first | exact .hd | apply In.tl) ?_ | refine stI (by repeat first | exact .hd | apply In.tl) ?_ | refine slI (by repeat first | exact .hd | apply In.tl) ?_ | refine apI (by repeat first | exact .hd | apply In.tl) ?_ | refine mpI (by repeat first | exact .hd | apply In.tl) ?_ | refine ⟨⟨rfl, leb rfl, rfl⟩, ?_⟩ | refine ⟨⟨rfl, leb rfl⟩, ?_⟩ | refine ⟨⟨by decide, by decide⟩, ?_⟩ | refine ⟨rfl, ?_⟩ | refine ⟨leb rfl, ?_⟩ | refine ⟨by decide, ?_⟩ | refine .inr ⟨⟨leb rfl, leb rfl, rfl, rfl⟩, ?_⟩ | refine ⟨⟨by omega, by first | omega | exact ltm (by omega)⟩, lenm (by intro _; rfl), ?_⟩ | refine ⟨_, getm (by omega) (by first | omega | exact ltm_inv (by omega)), ?_⟩ | refine ⟨⟨by omega, by omega⟩, rfl, ?_⟩ | refine ⟨⟨rfl, by omega, rfl, by (show _ + 1 < 4294967296); omega, rfl⟩, .inr ⟨leb rfl, ?_⟩⟩ | refine ⟨_, find_C _ _, ?_⟩ | refine ⟨_, put_C _ _ _, ?_⟩ | refine ⟨_, _, _, true, fun _ H hR => ⟨H, rfl, hR⟩, k32 rfl hs rfl, rfl, ?_⟩ | refine ⟨_, _, _, false, fun _ H hR => ⟨H, rfl, hR⟩, k32 rfl hs rfl, rfl, ?_⟩ | fail)
    · rw [modelR, if_pos h0] at hK
      exact hK _ _ fin_no
    · exact absurd (Decidable.not_not.1 hc) h0
def g19 : List AV → Option (List AV) := con (.one (.agg sysK)) Small fun s => outM (modelR s)
theorem c19 : IsoOk Try.prog 19 g19 := iso_con mixed okU4 Try.func19 cir19 fun s hs => ⟨0, _, rfl, run19 hs fun rs' A h => h⟩
theorem c20 : IsoOk Try.prog 20 g19 := iso_con mixed okU5 Try.func20 cir20 fun s hs => ⟨0, _, rfl, run20 hs fun rs' A h => h⟩
theorem model_chk {s : SysD} {l : List (Int × Int)} (h : ok62 (s, l)) : mdl.chkM (modelS s l) = 0 := by
  obtain ⟨hv, hl1, hl2, hlp⟩ := h
  simp only at hv hl1 hl2 hlp
  obtain ⟨q1, q2, q3, q4, q5, q6, q7, q8, q9⟩ := chk_ok hv.2
  have hout : ∀ f : Nat → Bool, mdl.outB (l.length : Int) ((maskN f l.length : Nat) : Int) = false := fun f => by
    refine decide_eq_false ?_
    rw [Decidable.not_not, Int.toNat_natCast]
    have := maskN_lt f l.length
    have e : ((2 : Int) ^ l.length) = ((2 ^ l.length : Nat) : Int) := (Int.natCast_pow 2 l.length).symm
    rw [e]
    exact Int.ofNat_lt.2 this
  have hr : ((modelS s l).rel.any fun r => decide (¬ (r.length : Int) = (modelS s l).w)) = false := mdl.any_false fun r hr => by
    obtain ⟨a, _, rfl⟩ := List.mem_map.1 hr
    exact decide_eq_false (by simp [modelS])
  have ho : ((modelS s l).val.any (mdl.outB (modelS s l).w) || (modelS s l).rel.any fun r => r.any (mdl.outB (modelS s l).w)) = false := by
    rw [Bool.or_eq_false_iff]
    refine ⟨mdl.any_false fun x hx => ?_, mdl.any_false fun r hr => mdl.any_false fun x hx => ?_⟩
    · obtain ⟨f, _, rfl⟩ := List.mem_map.1 hx
      exact hout _
    · obtain ⟨a, _, rfl⟩ := List.mem_map.1 hr
      obtain ⟨w, _, rfl⟩ := List.mem_map.1 hx
      exact hout _
  have hw : ¬ ((modelS s l).w < 1 ∨ (modelS s l).w > 64) := by
    show ¬ ((l.length : Int) < 1 ∨ (l.length : Int) > 64)
    omega
  have hl : ¬ ((modelS s l).rel.length > 4 ∨ (modelS s l).val.length > 8) := by
    simp only [modelS, List.length_map, List.length_range]
    omega
  unfold mdl.chkM
  rw [if_neg hw, if_neg hl, if_neg (by rw [hr]; decide), if_neg (by rw [ho]; decide)]
theorem model_ok {s : SysD} {l : List (Int × Int)} (h : l.length ≤ 64) : (modelS s l).Ok := by
  refine ⟨fun x hx => ?_, fun r hr x hx => ?_⟩
  · obtain ⟨f, _, rfl⟩ := List.mem_map.1 hx
    exact maskN_U _ h
  · obtain ⟨a, _, rfl⟩ := List.mem_map.1 hr
    obtain ⟨w, _, rfl⟩ := List.mem_map.1 hx
    exact maskN_U _ h
def slP (t : Int) (k : Nat) : List (Int × Int) := (List.range k).map fun r : Nat => ((r : Int), t)
theorem slP_succ (t : Int) (k : Nat) : slP t (k + 1) = slP t k ++ [((k : Int), t)] := by simp [slP, List.range_succ]
theorem slP_len (t : Int) (k : Nat) : (slP t k).length = k := by simp [slP]
def sliceR (s : SysD) (t : Int) : ModD × Int := if chkS s ≠ 0 then (noM, chkS s) else if t < 0 ∨ t ≥ s.len then (noM, 2) else (modelS s (slP t s.runs.length), 0)
def outS (r : ModD × Int) : List AV := [.agg (modC r.1), .int .i64 r.2]
theorem fin_no2 {A : Ah} {c : Int} : Fin .iso A [.agg [.int .i64 0, .nilsl, .nilsl], .int .i64 c] (outS (noM, c)) :=
  FzUL.fin (.cons (.agg (d := 11) (.cons (.self rfl) (.cons .nilsl (.cons .nilsl .nil)))) (.cons (.self rfl) .nil))
theorem fin_yes2 {A : Ah} {m : ModD} {c : Int} : Fin .iso A [.agg (modC m), .int .i64 c] (outS (m, c)) :=
  FzUL.fin (.cons (.agg (d := 11) (.selfs rfl)) (.cons (.self rfl) .nil))
theorem slice_ok {s : SysD} (hv : Valid s) {t : Int} (h1 : 0 ≤ t) (h2 : t < s.len) : ok62 (s, slP t s.runs.length) := by
  obtain ⟨q1, q2, q3, q4, q5, q6, q7, q8, q9⟩ := chk_ok hv.2
  refine ⟨hv, by simp only [slP_len]; omega, by simp only [slP_len]; omega, fun p hp => ?_⟩
  simp only [slP, List.mem_map, List.mem_range] at hp
  obtain ⟨r, hr, rfl⟩ := hp
  exact ⟨Int.natCast_nonneg _, Int.ofNat_lt.2 hr, h1, h2⟩
def U6 : Tab := [(13, ⟨.iso, g13⟩), (33, ⟨.iso, mdl.g33⟩), (62, ⟨.iso, g62⟩)]
theorem okU6 : HandsOk Try.prog (hands U6) := hands_ok (.cons c13 (.cons mdl.c33 (.cons c62 .nil)))
def U7 : Tab := [(32, ⟨.iso, g32⟩), (64, ⟨.iso, g62⟩)]
theorem okU7 : HandsOk Try.prog (hands U7) := hands_ok (.cons c32 (.cons c64 .nil))
theorem k33 {T : Tab} (hT : Go.Ai.look T 33 = some ⟨.iso, mdl.g33⟩) {m : ModD} (h : m.Ok) {c : Int} (hc : mdl.chkM m = c) : (hands T).iso 33 [.agg (modC m)] = some [.int .i64 c] := hat hT (con_at (x := m) h rfl (by rw [hc]))
theorem frz_sl {A : Ah} {s : SysD} {t : Int} {k j lp : Nat} (hj : k = j + 1) (is js : List Nat) (hn : nodupB (is ++ js) = true) (hp : (lp, some (LObj.cells (flatC ptC (slP t k)) 2 (j + 1) true false)) ∈ Go.Ai.pick A is) : Frz A [.agg (sysC s), .ref lp 0 (j + 1) (j + 1) 2] [.agg (sysC s), .list ((slP t k).map ptC)] (Go.Ai.pick A js) := by
  refine frz_sub (Sub.picks _ hn) ?_
  rw [pick_append]
  exact FzUL.frz (.cons (.agg (d := 11) (.selfs rfl)) (.cons (.row (d := 10) (f := ptC) (k := 2) (xs := slP t k) (fun _ => rfl) (fun _ => rfl) (by rw [slP_len, hj]) hp) .nil))
set_option maxRecDepth 100000 in
set_option maxHeartbeats 1000000 in
theorem run21 {n : Nat} {s : SysD} (hs : Small s) {t : Int} (hn : 100 < n) {K : List AV → Ah → Prop} (hK : ∀ rs' A, Fin .iso A rs' (outS (sliceR s t)) → K rs' A) : aB (hands U6) n ir21 (.agg (sysC s) :: .int .i64 t :: .undef :: .undef :: .undef :: .undef :: .undef :: .undef :: .undef :: .undef :: .undef :: .undef :: .undef :: .undef :: .undef :: .undef :: .undef :: .undef :: .undef :: .undef :: .undef :: .undef :: .undef :: .undef :: .undef :: .undef :: .undef :: .undef :: .undef :: .undef :: .undef :: .undef :: .undef :: .undef :: .undef :: .undef :: .undef :: .undef :: .undef :: .undef :: .undef :: .undef :: .undef :: .undef :: .undef :: .undef :: .undef :: .undef :: .undef :: []) [] K := by
  refine ⟨rfl, ?_⟩
  intro l2 hl2 l4 hl4
  by_cases h0 : chkS s = 0
  · have hv : Valid s := ⟨hs, h0⟩
    obtain ⟨q1, q2, q3, q4, q5, q6, q7, q8, q9⟩ := chk_ok hv.2
    repeat' ((conv => whnf); first | refine ⟨rfl, fun hc => ?_, fun hc => ?_⟩ | refine ⟨fun hc => ?_, fun hc => ?_⟩ | refine ⟨rfl, _, w64 (by omega) (by omega), ?_⟩ | refine ⟨_, w64 (by omega) (by omega), ?_⟩ | refine ⟨_, wU (by omega) (by omega), ?_⟩ | refine ⟨rfl, rfl, ?_⟩ | refine And.intro (show (0 : Int) ≤ _ by omega) ?_ | refine ldI (by repeat first | exact .hd | apply In.tl) ?_ | refine stI (by repeat first | exact .hd | apply In.tl) ?_ | refine slI (by repeat first | exact .hd | apply In.tl) ?_ | refine apI (by repeat first | exact .hd | apply In.tl) ?_ | refine mpI (by repeat first | exact .hd | apply In.tl) ?_ | refine ⟨⟨rfl, leb rfl, rfl⟩, ?_⟩ | refine ⟨⟨rfl, leb rfl⟩, ?_⟩ | refine ⟨⟨by decide, by decide⟩, ?_⟩ | refine ⟨rfl, ?_⟩ | refine ⟨leb rfl, ?_⟩ | refine ⟨by decide, ?_⟩ | refine .inr ⟨⟨leb rfl, leb rfl, rfl, rfl⟩, ?_⟩ | refine ⟨⟨by omega, by first | omega | exact ltm (by omega)⟩, lenm (by intro _; rfl), ?_⟩ | refine ⟨_, getm (by omega) (by first | omega | exact ltm_inv (by omega)), ?_⟩ | refine ⟨⟨by omega, by omega⟩, rfl, ?_⟩ | refine ⟨⟨rfl, by omega, rfl, by (show _ + 1 < 4294967296); omega, rfl⟩, .inr ⟨leb rfl, ?_⟩⟩ | refine ⟨_, find_C _ _, ?_⟩ | refine ⟨_, put_C _ _ _, ?_⟩ | refine ⟨_, _, _, true, fun _ H hR => ⟨H, rfl, hR⟩, k13 rfl hs h0, rfl, ?_⟩ | refine ⟨_, _, _, false, fun _ H hR => ⟨H, rfl, hR⟩, k13 rfl hs h0, rfl, ?_⟩ | fail)
    · exact absurd rfl hc
    · rw [sliceR, if_neg (by simp [h0]), if_pos (.inl hc)] at hK
      exact hK _ _ fin_no2
    · rw [sliceR, if_neg (by simp [h0]), if_pos (.inr hc)] at hK
      exact hK _ _ fin_no2
    rename_i c1
    rw [sliceR, if_neg (by simp [h0]), if_neg (by omega)] at hK
    have hok := slice_ok (s := s) (t := t) hv (by omega) (by omega)
    refine aLoop_up (fun k env A => ∃ lp, A = [(l2, some (.cells (sysC s) 0 0 false false)), (l4, some (.cells z3 0 0 false false))] ++ rowA lp 2 (flatC ptC (slP t k)) k ∧ IEnv (fun g => (g 0 :: .int .i64 t :: .ptr l2 0 0 :: g 3 :: .ptr l4 0 0 :: g 5 :: g 6 :: rowV lp 2 k :: g 8 :: g 9 :: g 10 :: g 11 :: g 12 :: g 13 :: g 14 :: g 15 :: g 16 :: g 17 :: g 18 :: g 19 :: g 20 :: g 21 :: g 22 :: g 23 :: g 24 :: g 25 :: g 26 :: g 27 :: .int .i64 (s.runs.map runC).length :: .int .i64 (k : Int) :: g 30 :: g 31 :: g 32 :: g 33 :: g 34 :: g 35 :: g 36 :: g 37 :: g 38 :: g 39 :: g 40 :: g 41 :: g 42 :: g 43 :: g 44 :: g 45 :: g 46 :: g 47 :: g 48 :: [])) env) s.runs.length (.refl _) ⟨0, rfl, .mk rfl⟩ (by omega) ?_
    rintro k env A hk ⟨lp, rfl, ⟨g, rfl⟩⟩
    refine ⟨rfl, fun h4 => ?_, fun h4 => ?_⟩
    · have hk' : k < s.runs.length := by have := ltm_inv h4; omega
      have hfl := flatC_len (f := ptC) (k := 2) (fun _ => rfl) (slP t k)
      have hsucc := slP_succ t k
      rw [slP_len] at hfl
      cases k with
      | zero =>
        repeat' ((conv => whnf); first | refine ⟨rfl, fun hc => ?_, fun hc => ?_⟩ | refine ⟨fun hc => ?_, fun hc => ?_⟩ | refine ⟨rfl, _, w64 (by omega) (by omega), ?_⟩ | refine ⟨_, w64 (by omega) (by omega), ?_⟩ | refine ⟨_, wU (by omega) (by omega), ?_⟩ | refine ⟨rfl, rfl, ?_⟩ | refine And.intro (show (0 : Int) ≤ _ by omega) ?_ | refine ldI (by repeat first | exact .hd | apply In.tl) ?_ | refine stI (by repeat first | exact .hd | apply In.tl) ?_ | refine slI (by repeat first | exact .hd | apply In.tl) ?_ | refine apI (by repeat first | exact .hd | apply In.tl) ?_ | refine mpI (by repeat first | exact .hd | apply In.tl) ?_ | refine ⟨⟨rfl, leb rfl, rfl⟩, ?_⟩ | refine ⟨⟨rfl, leb rfl⟩, ?_⟩ | refine ⟨⟨by decide, by decide⟩, ?_⟩ | refine ⟨rfl, ?_⟩ | refine ⟨leb rfl, ?_⟩ | refine ⟨by decide, ?_⟩ | refine .inr ⟨⟨leb rfl, leb rfl, rfl, rfl⟩, ?_⟩ | refine ⟨⟨by omega, by first | omega | exact ltm (by omega)⟩, lenm (by intro _; rfl), ?_⟩ | refine ⟨_, getm (by omega) (by first | omega | exact ltm_inv (by omega)), ?_⟩ | refine ⟨⟨by omega, by omega⟩, rfl, ?_⟩ | refine ⟨⟨rfl, by omega, rfl, by (show _ + 1 < 4294967296); omega, rfl⟩, .inr ⟨leb rfl, ?_⟩⟩ | refine ⟨_, find_C _ _, ?_⟩ | refine ⟨_, put_C _ _ _, ?_⟩ | fail)
        intro lq hlq
        repeat' ((conv => whnf); first | refine ⟨rfl, fun hc => ?_, fun hc => ?_⟩ | refine ⟨fun hc => ?_, fun hc => ?_⟩ | refine ⟨rfl, _, w64 (by omega) (by omega), ?_⟩ | refine ⟨_, w64 (by omega) (by omega), ?_⟩ | refine ⟨_, wU (by omega) (by omega), ?_⟩ | refine ⟨rfl, rfl, ?_⟩ | refine And.intro (show (0 : Int) ≤ _ by omega) ?_ | refine ldI (by repeat first | exact .hd | apply In.tl) ?_ | refine stI (by repeat first | exact .hd | apply In.tl) ?_ | refine slI (by repeat first | exact .hd | apply In.tl) ?_ | refine apI (by repeat first | exact .hd | apply In.tl) ?_ | refine mpI (by repeat first | exact .hd | apply In.tl) ?_ | refine ⟨⟨rfl, leb rfl, rfl⟩, ?_⟩ | refine ⟨⟨rfl, leb rfl⟩, ?_⟩ | refine ⟨⟨by decide, by decide⟩, ?_⟩ | refine ⟨rfl, ?_⟩ | refine ⟨leb rfl, ?_⟩ | refine ⟨by decide, ?_⟩ | refine .inr ⟨⟨leb rfl, leb rfl, rfl, rfl⟩, ?_⟩ | refine ⟨⟨by omega, by first | omega | exact ltm (by omega)⟩, lenm (by intro _; rfl), ?_⟩ | refine ⟨_, getm (by omega) (by first | omega | exact ltm_inv (by omega)), ?_⟩ | refine ⟨⟨by omega, by omega⟩, rfl, ?_⟩ | refine ⟨⟨rfl, by omega, rfl, by (show _ + 1 < 4294967296); omega, rfl⟩, .inr ⟨leb rfl, ?_⟩⟩ | refine ⟨_, find_C _ _, ?_⟩ | refine ⟨_, put_C _ _ _, ?_⟩ | fail)
        (conv => whnf)
        exact ⟨_, hk', .refl _, lq, by rw [hsucc, flatC_snoc]; rfl, .mk rfl⟩
      | succ j =>
        repeat' ((conv => whnf); first | refine ⟨rfl, fun hc => ?_, fun hc => ?_⟩ | refine ⟨fun hc => ?_, fun hc => ?_⟩ | refine ⟨rfl, _, w64 (by omega) (by omega), ?_⟩ | refine ⟨_, w64 (by omega) (by omega), ?_⟩ | refine ⟨_, wU (by omega) (by omega), ?_⟩ | refine ⟨rfl, rfl, ?_⟩ | refine And.intro (show (0 : Int) ≤ _ by omega) ?_ | refine ldI (by repeat first | exact .hd | apply In.tl) ?_ | refine stI (by repeat first | exact .hd | apply In.tl) ?_ | refine slI (by repeat first | exact .hd | apply In.tl) ?_ | refine apI (by repeat first | exact .hd | apply In.tl) ?_ | refine mpI (by repeat first | exact .hd | apply In.tl) ?_ | refine ⟨⟨rfl, leb rfl, rfl⟩, ?_⟩ | refine ⟨⟨rfl, leb rfl⟩, ?_⟩ | refine ⟨⟨by decide, by decide⟩, ?_⟩ | refine ⟨rfl, ?_⟩ | refine ⟨leb rfl, ?_⟩ | refine ⟨by decide, ?_⟩ | refine .inr ⟨⟨leb rfl, leb rfl, rfl, rfl⟩, ?_⟩ | refine ⟨⟨by omega, by first | omega | exact ltm (by omega)⟩, lenm (by intro _; rfl), ?_⟩ | refine ⟨_, getm (by omega) (by first | omega | exact ltm_inv (by omega)), ?_⟩ | refine ⟨⟨by omega, by omega⟩, rfl, ?_⟩ | refine ⟨⟨rfl, by omega, rfl, by (show _ + 1 < 4294967296); omega, rfl⟩, .inr ⟨leb rfl, ?_⟩⟩ | refine ⟨_, find_C _ _, ?_⟩ | refine ⟨_, put_C _ _ _, ?_⟩ | fail)
        (conv => whnf)
        exact ⟨_, hk', .refl _, lp, by rw [hsucc, flatC_snoc]; rfl, .mk rfl⟩
    · obtain rfl : k = s.runs.length := by have := ltm_not h4; omega
      obtain ⟨j, hj⟩ : ∃ j, s.runs.length = j + 1 := ⟨s.runs.length - 1, by omega⟩
      have hfz := fun (A : Ah) => frz_sl (A := A) (s := s) (t := t) (lp := lp) hj [2] [0, 1] rfl
      generalize hm : modelS s (slP t s.runs.length) = m at hK
      have hmo : m.Ok := hm ▸ model_ok (by rw [slP_len]; omega)
      have hmc : mdl.chkM m = 0 := hm ▸ model_chk hok
      have e1 : rowV lp 2 s.runs.length = .ref lp 0 (j + 1) (j + 1) 2 := by rw [hj]; rfl
      have e2 : rowA lp 2 (flatC ptC (slP t s.runs.length)) s.runs.length = [(lp, some (.cells (flatC ptC (slP t s.runs.length)) 2 (j + 1) true false))] := by
        generalize flatC ptC (slP t s.runs.length) = cs
        rw [hj]; rfl
      rw [e1, e2]
      repeat' ((conv => whnf); first | refine ⟨rfl, fun hc => ?_, fun hc => ?_⟩ | refine ⟨fun hc => ?_, fun hc => ?_⟩ | refine ⟨rfl, _, w64 (by omega) (by omega), ?_⟩ | refine ⟨_, w64 (by omega) (by omega), ?_⟩ | refine ⟨_, wU (by omega) (by omega), ?_⟩ | refine ⟨rfl, rfl, ?_⟩ | refine And.intro (show (0 : Int) ≤ _ by omega) ?_ | refine ldI (by repeat first | exact .hd | apply In.tl) ?_ | refine stI (by repeat first | exact .hd | apply In.tl) ?_ | refine slI (by repeat first | exact .hd | apply In.tl) ?_ | refine apI (by repeat first | exact .hd | apply In.tl) ?_ | refine mpI (by repeat first | exact .hd | apply In.tl) ?_ | refine ⟨⟨rfl, leb rfl, rfl⟩, ?_⟩ | refine ⟨⟨rfl, leb rfl⟩, ?_⟩ | refine ⟨⟨by decide, by decide⟩, ?_⟩ | refine ⟨rfl, ?_⟩ | refine ⟨leb rfl, ?_⟩ | refine ⟨by decide, ?_⟩ | refine .inr ⟨⟨leb rfl, leb rfl, rfl, rfl⟩, ?_⟩ | refine ⟨⟨by omega, by first | omega | exact ltm (by omega)⟩, lenm (by intro _; rfl), ?_⟩ | refine ⟨_, getm (by omega) (by first | omega | exact ltm_inv (by omega)), ?_⟩ | refine ⟨⟨by omega, by omega⟩, rfl, ?_⟩ | refine ⟨⟨rfl, by omega, rfl, by (show _ + 1 < 4294967296); omega, rfl⟩, .inr ⟨leb rfl, ?_⟩⟩ | refine ⟨_, find_C _ _, ?_⟩ | refine ⟨_, put_C _ _ _, ?_⟩ | fail)
      refine ⟨_, _, _, false, hfz _ (List.mem_singleton.2 rfl), k62 rfl hok (by rw [hm]), rfl, ?_⟩
      (conv => whnf)
      intro l9 hl9
      repeat' ((conv => whnf); first | refine ⟨rfl, fun hc => ?_, fun hc => ?_⟩ | refine ⟨fun hc => ?_, fun hc => ?_⟩ | refine ⟨rfl, _, w64 (by omega) (by omega), ?_⟩ | refine ⟨_, w64 (by omega) (by omega), ?_⟩ | refine ⟨_, wU (by omega) (by omega), ?_⟩ | refine ⟨rfl, rfl, ?_⟩ | refine And.intro (show (0 : Int) ≤ _ by omega) ?_ | refine ldI (by repeat first | exact .hd | apply In.tl) ?_ | refine stI (by repeat first | exact .hd | apply In.tl) ?_ | refine slI (by repeat first | exact .hd | apply In.tl) ?_ | refine apI (by repeat first | exact .hd | apply In.tl) ?_ | refine mpI (by repeat first | exact .hd | apply In.tl) ?_ | refine ⟨⟨rfl, leb rfl, rfl⟩, ?_⟩ | refine ⟨⟨rfl, leb rfl⟩, ?_⟩ | refine ⟨⟨by decide, by decide⟩, ?_⟩ | refine ⟨rfl, ?_⟩ | refine ⟨leb rfl, ?_⟩ | refine ⟨by decide, ?_⟩ | refine .inr ⟨⟨leb rfl, leb rfl, rfl, rfl⟩, ?_⟩ | refine ⟨⟨by omega, by first | omega | exact ltm (by omega)⟩, lenm (by intro _; rfl), ?_⟩ | refine ⟨_, getm (by omega) (by first | omega | exact ltm_inv (by omega)), ?_⟩ | refine ⟨⟨by omega, by omega⟩, rfl, ?_⟩ | refine ⟨⟨rfl, by omega, rfl, by (show _ + 1 < 4294967296); omega, rfl⟩, .inr ⟨leb rfl, ?_⟩⟩ | refine ⟨_, find_C _ _, ?_⟩ | refine ⟨_, put_C _ _ _, ?_⟩ | refine ⟨_, _, _, true, fun _ H hR => ⟨H, rfl, hR⟩, k33 rfl hmo hmc, rfl, ?_⟩ | refine ⟨_, _, _, false, fun _ H hR => ⟨H, rfl, hR⟩, k33 rfl hmo hmc, rfl, ?_⟩ | fail)
      · exact absurd rfl hc
      exact hK _ _ fin_yes2
  · repeat' ((conv => whnf); first | refine ⟨rfl, fun _ => ?_, fun hc => absurd h0 hc⟩ | refine ⟨rfl, fun hc => ?_, fun hc => ?_⟩ | refine ⟨fun hc => ?_, fun hc => ?_⟩ | refine ⟨rfl, _, w64 (by omega) (by omega), ?_⟩ | refine ⟨_, w64 (by omega) (by omega), ?_⟩ | refine ⟨_, wU (by omega) (by omega), ?_⟩ | refine ⟨rfl, rfl, ?_⟩ | refine And.intro (show (0 : Int) ≤ _ by omega) ?_ | refine ldI (by repeat first | exact .hd | apply In.tl) ?_ | refine stI (by repeat first | exact .hd | apply In.tl) ?_ | refine slI (by repeat first | exact .hd | apply In.tl) ?_ | refine apI (by repeat first | exact .hd | apply In.tl) ?_ | refine mpI (by repeat first | exact .hd | apply In.tl) ?_ | refine ⟨⟨rfl, leb rfl, rfl⟩, ?_⟩ | refine ⟨⟨rfl, leb rfl⟩, ?_⟩ | refine ⟨⟨by decide, by decide⟩, ?_⟩ | refine ⟨rfl, ?_⟩ | refine ⟨leb rfl, ?_⟩ | refine ⟨by decide, ?_⟩ | refine .inr ⟨⟨leb rfl, leb rfl, rfl, rfl⟩, ?_⟩ | refine ⟨⟨by omega, by first | omega | exact ltm (by omega)⟩, lenm (by intro _; rfl), ?_⟩ | refine ⟨_, getm (by omega) (by first | omega | exact ltm_inv (by omega)), ?_⟩ | refine ⟨⟨by omega, by omega⟩, rfl, ?_⟩ | refine ⟨⟨rfl, by omega, rfl, by (show _ + 1 < 4294967296); omega, rfl⟩, .inr ⟨leb rfl, ?_⟩⟩ | refine ⟨_, find_C _ _, ?_⟩ | refine ⟨_, put_C _ _ _, ?_⟩ | refine ⟨_, _, _, true, fun _ H hR => ⟨H, rfl, hR⟩, k13 rfl hs rfl, rfl, ?_⟩ | refine ⟨_, _, _, false, fun _ H hR => ⟨H, rfl, hR⟩, k13 rfl hs rfl, rfl, ?_⟩ | fail)
    rw [sliceR, if_pos h0] at hK
    exact hK _ _ fin_no2
end Go.Proofs.Ytlgbbabijifflaa.sys
set_option linter.unusedVariables false
set_option linter.unusedSimpArgs false
namespace Go.Proofs.Ytlgbbabijifflaa.sys
attribute [local irreducible] Go.Ai.wrapI Go.Ai.arith.bits Go.Ai.shlI Go.Ai.shrI
open Go Go.Ai Go.Proofs.Ytlgbbabijifflaa.L1R
open runs (RunD SysD runC sysC intsC locsC facsC dSys dSys_C dSys_inv chkS chk_ok sysFine numP)
open mdl (ModD modC modK setC setsC mixed nilOk)
def g21 : List AV → Option (List AV) := con (.cons (.agg sysK) (.one .i64)) (fun x => Small x.1) fun x => outS (sliceR x.1 x.2)
theorem c21 : IsoOk Try.prog 21 g21 := iso_con mixed okU6 Try.func21 cir21 fun x hx => ⟨101, _, rfl, run21 hx (by decide) fun rs' A h => h⟩
set_option maxRecDepth 100000 in
set_option maxHeartbeats 1000000 in
theorem run22 {n : Nat} {s : SysD} (hs : Small s) {t : Int} (hn : 100 < n) {K : List AV → Ah → Prop} (hK : ∀ rs' A, Fin .iso A rs' (outS (sliceR s t)) → K rs' A) : aB (hands U7) n ir22 (.agg (sysC s) :: .int .i64 t :: .undef :: .undef :: .undef :: .undef :: .undef :: .undef :: .undef :: .undef :: .undef :: .undef :: .undef :: .undef :: .undef :: .undef :: .undef :: .undef :: .undef :: .undef :: .undef :: .undef :: .undef :: .undef :: .undef :: .undef :: .undef :: .undef :: .undef :: .undef :: .undef :: .undef :: .undef :: .undef :: .undef :: .undef :: .undef :: .undef :: .undef :: .undef :: []) [] K := by
  refine ⟨rfl, ?_⟩
  intro l2 hl2 l4 hl4
  by_cases h0 : chkS s = 0
  · have hv : Valid s := ⟨hs, h0⟩
    obtain ⟨q1, q2, q3, q4, q5, q6, q7, q8, q9⟩ := chk_ok hv.2
    repeat' ((conv => whnf); first | refine ⟨rfl, fun hc => ?_, fun hc => ?_⟩ | refine ⟨fun hc => ?_, fun hc => ?_⟩ | refine ⟨rfl, _, w64 (by omega) (by omega), ?_⟩ | refine ⟨_, w64 (by omega) (by omega), ?_⟩ | refine ⟨_, wU (by omega) (by omega), ?_⟩ | refine ⟨rfl, rfl, ?_⟩ | refine And.intro (show (0 : Int) ≤ _ by omega) ?_ | refine ldI (by repeat first | exact .hd | apply In.tl) ?_ | refine stI (by repeat first | exact .hd | apply In.tl) ?_ | refine slI (by repeat first | exact .hd | apply In.tl) ?_ | refine apI (by repeat first | exact .hd | apply In.tl) ?_ | refine mpI (by repeat first | exact .hd | apply In.tl) ?_ | refine ⟨⟨rfl, leb rfl, rfl⟩, ?_⟩ | refine ⟨⟨rfl, leb rfl⟩, ?_⟩ | refine ⟨⟨by decide, by decide⟩, ?_⟩ | refine ⟨rfl, ?_⟩ | refine ⟨leb rfl, ?_⟩ | refine ⟨by decide, ?_⟩ | refine .inr ⟨⟨leb rfl, leb rfl, rfl, rfl⟩, ?_⟩ | refine ⟨⟨by omega, by first | omega | exact ltm (by omega)⟩, lenm (by intro _; rfl), ?_⟩ | refine ⟨_, getm (by omega) (by first | omega | exact ltm_inv (by omega)), ?_⟩ | refine ⟨⟨by omega, by omega⟩, rfl, ?_⟩ | refine ⟨⟨rfl, by omega, rfl, by (show _ + 1 < 4294967296); omega, rfl⟩, .inr ⟨leb rfl, ?_⟩⟩ | refine ⟨_, find_C _ _, ?_⟩ | refine ⟨_, put_C _ _ _, ?_⟩ | refine ⟨_, _, _, true, fun _ H hR => ⟨H, rfl, hR⟩, k32 rfl hs h0, rfl, ?_⟩ | refine ⟨_, _, _, false, fun _ H hR => ⟨H, rfl, hR⟩, k32 rfl hs h0, rfl, ?_⟩ | fail)
    · exact absurd rfl hc
    · rw [sliceR, if_neg (by simp [h0]), if_pos (.inl hc)] at hK
      exact hK _ _ fin_no2
    · rw [sliceR, if_neg (by simp [h0]), if_pos (.inr hc)] at hK
      exact hK _ _ fin_no2
    rename_i c1
    rw [sliceR, if_neg (by simp [h0]), if_neg (by omega)] at hK
    have hok := slice_ok (s := s) (t := t) hv (by omega) (by omega)
    refine aLoop_up (fun k env A => ∃ lp, A = [(l2, some (.cells (sysC s) 0 0 false false)), (l4, some (.cells z3 0 0 false false))] ++ rowA lp 2 (flatC ptC (slP t k)) k ∧ IEnv (fun g => (g 0 :: .int .i64 t :: .ptr l2 0 0 :: g 3 :: .ptr l4 0 0 :: g 5 :: g 6 :: rowV lp 2 k :: .int .i64 (k : Int) :: g 9 :: g 10 :: g 11 :: g 12 :: g 13 :: g 14 :: g 15 :: g 16 :: g 17 :: g 18 :: g 19 :: g 20 :: g 21 :: g 22 :: g 23 :: g 24 :: g 25 :: g 26 :: g 27 :: g 28 :: g 29 :: g 30 :: g 31 :: g 32 :: g 33 :: g 34 :: g 35 :: g 36 :: g 37 :: g 38 :: g 39 :: [])) env) s.runs.length (.refl _) ⟨0, rfl, .mk rfl⟩ (by omega) ?_
    rintro k env A hk ⟨lp, rfl, ⟨g, rfl⟩⟩
    (repeat' ((conv => whnf); first | refine ⟨rfl, _, w64 (by omega) (by omega), ?_⟩ | refine ⟨_, w64 (by omega) (by omega), ?_⟩ | refine ⟨_, wU (by omega) (by omega), ?_⟩ | refine ⟨rfl, rfl, ?_⟩ | refine And.intro (show (0 : Int) ≤ _ by omega) ?_ | refine ldI (by repeat first | exact .hd | apply In.tl) ?_ | refine stI (by repeat first | exact .hd | apply In.tl) ?_ | refine slI (by repeat first | exact .hd | apply In.tl) ?_ | refine apI (by repeat first | exact .hd | apply In.tl) ?_ | refine mpI (by repeat first | exact .hd | apply In.tl) ?_ | refine ⟨⟨rfl, leb rfl, rfl⟩, ?_⟩ | refine ⟨⟨rfl, leb rfl⟩, ?_⟩ | refine ⟨⟨by decide, by decide⟩, ?_⟩ | refine ⟨rfl, ?_⟩ | refine ⟨leb rfl, ?_⟩ | refine ⟨by decide, ?_⟩ | refine .inr ⟨⟨leb rfl, leb rfl, rfl, rfl⟩, ?_⟩ | refine ⟨⟨by omega, by first | omega | exact ltm (by omega)⟩, lenm (by intro _; rfl), ?_⟩ | refine ⟨_, getm (by omega) (by first | omega | exact ltm_inv (by omega)), ?_⟩ | refine ⟨⟨by omega, by omega⟩, rfl, ?_⟩ | refine ⟨⟨rfl, by omega, rfl, by (show _ + 1 < 4294967296); omega, rfl⟩, .inr ⟨leb rfl, ?_⟩⟩ | refine ⟨_, find_C _ _, ?_⟩ | refine ⟨_, put_C _ _ _, ?_⟩ | fail)); refine ⟨fun hc => ?_, fun hc => ?_⟩
    · have hk' : k < s.runs.length := by have := ltm_inv hc; omega
      have hfl := flatC_len (f := ptC) (k := 2) (fun _ => rfl) (slP t k)
      have hsucc := slP_succ t k
      rw [slP_len] at hfl
      cases k with
      | zero =>
        repeat' ((conv => whnf); first | refine ⟨rfl, fun hc => ?_, fun hc => ?_⟩ | refine ⟨fun hc => ?_, fun hc => ?_⟩ | refine ⟨rfl, _, w64 (by omega) (by omega), ?_⟩ | refine ⟨_, w64 (by omega) (by omega), ?_⟩ | refine ⟨_, wU (by omega) (by omega), ?_⟩ | refine ⟨rfl, rfl, ?_⟩ | refine And.intro (show (0 : Int) ≤ _ by omega) ?_ | refine ldI (by repeat first | exact .hd | apply In.tl) ?_ | refine stI (by repeat first | exact .hd | apply In.tl) ?_ | refine slI (by repeat first | exact .hd | apply In.tl) ?_ | refine apI (by repeat first | exact .hd | apply In.tl) ?_ | refine mpI (by repeat first | exact .hd | apply In.tl) ?_ | refine ⟨⟨rfl, leb rfl, rfl⟩, ?_⟩ | refine ⟨⟨rfl, leb rfl⟩, ?_⟩ | refine ⟨⟨by decide, by decide⟩, ?_⟩ | refine ⟨rfl, ?_⟩ | refine ⟨leb rfl, ?_⟩ | refine ⟨by decide, ?_⟩ | refine .inr ⟨⟨leb rfl, leb rfl, rfl, rfl⟩, ?_⟩ | refine ⟨⟨by omega, by first | omega | exact ltm (by omega)⟩, lenm (by intro _; rfl), ?_⟩ | refine ⟨_, getm (by omega) (by first | omega | exact ltm_inv (by omega)), ?_⟩ | refine ⟨⟨by omega, by omega⟩, rfl, ?_⟩ | refine ⟨⟨rfl, by omega, rfl, by (show _ + 1 < 4294967296); omega, rfl⟩, .inr ⟨leb rfl, ?_⟩⟩ | refine ⟨_, find_C _ _, ?_⟩ | refine ⟨_, put_C _ _ _, ?_⟩ | fail)
        intro lq hlq
        repeat' ((conv => whnf); first | refine ⟨rfl, fun hc => ?_, fun hc => ?_⟩ | refine ⟨fun hc => ?_, fun hc => ?_⟩ | refine ⟨rfl, _, w64 (by omega) (by omega), ?_⟩ | refine ⟨_, w64 (by omega) (by omega), ?_⟩ | refine ⟨_, wU (by omega) (by omega), ?_⟩ | refine ⟨rfl, rfl, ?_⟩ | refine And.intro (show (0 : Int) ≤ _ by omega) ?_ | refine ldI (by repeat first | exact .hd | apply In.tl) ?_ | refine stI (by repeat first | exact .hd | apply In.tl) ?_ | refine slI (by repeat first | exact .hd | apply In.tl) ?_ | refine apI (by repeat first | exact .hd | apply In.tl) ?_ | refine mpI (by repeat first | exact .hd | apply In.tl) ?_ | refine ⟨⟨rfl, leb rfl, rfl⟩, ?_⟩ | refine ⟨⟨rfl, leb rfl⟩, ?_⟩ | refine ⟨⟨by decide, by decide⟩, ?_⟩ | refine ⟨rfl, ?_⟩ | refine ⟨leb rfl, ?_⟩ | refine ⟨by decide, ?_⟩ | refine .inr ⟨⟨leb rfl, leb rfl, rfl, rfl⟩, ?_⟩ | refine ⟨⟨by omega, by first | omega | exact ltm (by omega)⟩, lenm (by intro _; rfl), ?_⟩ | refine ⟨_, getm (by omega) (by first | omega | exact ltm_inv (by omega)), ?_⟩ | refine ⟨⟨by omega, by omega⟩, rfl, ?_⟩ | refine ⟨⟨rfl, by omega, rfl, by (show _ + 1 < 4294967296); omega, rfl⟩, .inr ⟨leb rfl, ?_⟩⟩ | refine ⟨_, find_C _ _, ?_⟩ | refine ⟨_, put_C _ _ _, ?_⟩ | fail)
        (conv => whnf)
        exact ⟨_, hk', .refl _, lq, by rw [hsucc, flatC_snoc]; rfl, .mk rfl⟩
      | succ j =>
        repeat' ((conv => whnf); first | refine ⟨rfl, fun hc => ?_, fun hc => ?_⟩ | refine ⟨fun hc => ?_, fun hc => ?_⟩ | refine ⟨rfl, _, w64 (by omega) (by omega), ?_⟩ | refine ⟨_, w64 (by omega) (by omega), ?_⟩ | refine ⟨_, wU (by omega) (by omega), ?_⟩ | refine ⟨rfl, rfl, ?_⟩ | refine And.intro (show (0 : Int) ≤ _ by omega) ?_ | refine ldI (by repeat first | exact .hd | apply In.tl) ?_ | refine stI (by repeat first | exact .hd | apply In.tl) ?_ | refine slI (by repeat first | exact .hd | apply In.tl) ?_ | refine apI (by repeat first | exact .hd | apply In.tl) ?_ | refine mpI (by repeat first | exact .hd | apply In.tl) ?_ | refine ⟨⟨rfl, leb rfl, rfl⟩, ?_⟩ | refine ⟨⟨rfl, leb rfl⟩, ?_⟩ | refine ⟨⟨by decide, by decide⟩, ?_⟩ | refine ⟨rfl, ?_⟩ | refine ⟨leb rfl, ?_⟩ | refine ⟨by decide, ?_⟩ | refine .inr ⟨⟨leb rfl, leb rfl, rfl, rfl⟩, ?_⟩ | refine ⟨⟨by omega, by first | omega | exact ltm (by omega)⟩, lenm (by intro _; rfl), ?_⟩ | refine ⟨_, getm (by omega) (by first | omega | exact ltm_inv (by omega)), ?_⟩ | refine ⟨⟨by omega, by omega⟩, rfl, ?_⟩ | refine ⟨⟨rfl, by omega, rfl, by (show _ + 1 < 4294967296); omega, rfl⟩, .inr ⟨leb rfl, ?_⟩⟩ | refine ⟨_, find_C _ _, ?_⟩ | refine ⟨_, put_C _ _ _, ?_⟩ | fail)
        (conv => whnf)
        exact ⟨_, hk', .refl _, lp, by rw [hsucc, flatC_snoc]; rfl, .mk rfl⟩
    · obtain rfl : k = s.runs.length := by have := ltm_not hc; omega
      obtain ⟨j, hj⟩ : ∃ j, s.runs.length = j + 1 := ⟨s.runs.length - 1, by omega⟩
      have hfz := fun (A : Ah) => frz_sl (A := A) (s := s) (t := t) (lp := lp) hj [2] [0, 1] rfl
      generalize hm : modelS s (slP t s.runs.length) = m at hK
      have e1 : rowV lp 2 s.runs.length = .ref lp 0 (j + 1) (j + 1) 2 := by rw [hj]; rfl
      have e2 : rowA lp 2 (flatC ptC (slP t s.runs.length)) s.runs.length = [(lp, some (.cells (flatC ptC (slP t s.runs.length)) 2 (j + 1) true false))] := by
        generalize flatC ptC (slP t s.runs.length) = cs
        rw [hj]; rfl
      rw [e1, e2]
      repeat' ((conv => whnf); first | refine ⟨rfl, fun hc => ?_, fun hc => ?_⟩ | refine ⟨fun hc => ?_, fun hc => ?_⟩ | refine ⟨rfl, _, w64 (by omega) (by omega), ?_⟩ | refine ⟨_, w64 (by omega) (by omega), ?_⟩ | refine ⟨_, wU (by omega) (by omega), ?_⟩ | refine ⟨rfl, rfl, ?_⟩ | refine And.intro (show (0 : Int) ≤ _ by omega) ?_ | refine ldI (by repeat first | exact .hd | apply In.tl) ?_ | refine stI (by repeat first | exact .hd | apply In.tl) ?_ | refine slI (by repeat first | exact .hd | apply In.tl) ?_ | refine apI (by repeat first | exact .hd | apply In.tl) ?_ | refine mpI (by repeat first | exact .hd | apply In.tl) ?_ | refine ⟨⟨rfl, leb rfl, rfl⟩, ?_⟩ | refine ⟨⟨rfl, leb rfl⟩, ?_⟩ | refine ⟨⟨by decide, by decide⟩, ?_⟩ | refine ⟨rfl, ?_⟩ | refine ⟨leb rfl, ?_⟩ | refine ⟨by decide, ?_⟩ | refine .inr ⟨⟨leb rfl, leb rfl, rfl, rfl⟩, ?_⟩ | refine ⟨⟨by omega, by first | omega | exact ltm (by omega)⟩, lenm (by intro _; rfl), ?_⟩ | refine ⟨_, getm (by omega) (by first | omega | exact ltm_inv (by omega)), ?_⟩ | refine ⟨⟨by omega, by omega⟩, rfl, ?_⟩ | refine ⟨⟨rfl, by omega, rfl, by (show _ + 1 < 4294967296); omega, rfl⟩, .inr ⟨leb rfl, ?_⟩⟩ | refine ⟨_, find_C _ _, ?_⟩ | refine ⟨_, put_C _ _ _, ?_⟩ | fail)
      refine ⟨_, _, _, false, hfz _ (List.mem_singleton.2 rfl), k64 rfl hok (by rw [hm]), rfl, ?_⟩
      repeat' ((conv => whnf); first | refine ⟨rfl, fun hc => ?_, fun hc => ?_⟩ | refine ⟨fun hc => ?_, fun hc => ?_⟩ | refine ⟨rfl, _, w64 (by omega) (by omega), ?_⟩ | refine ⟨_, w64 (by omega) (by omega), ?_⟩ | refine ⟨_, wU (by omega) (by omega), ?_⟩ | refine ⟨rfl, rfl, ?_⟩ | refine And.intro (show (0 : Int) ≤ _ by omega) ?_ | refine ldI (by repeat first | exact .hd | apply In.tl) ?_ | refine stI (by repeat first | exact .hd | apply In.tl) ?_ | refine slI (by repeat first | exact .hd | apply In.tl) ?_ | refine apI (by repeat first | exact .hd | apply In.tl) ?_ | refine mpI (by repeat first | exact .hd | apply In.tl) ?_ | refine ⟨⟨rfl, leb rfl, rfl⟩, ?_⟩ | refine ⟨⟨rfl, leb rfl⟩, ?_⟩ | refine ⟨⟨by decide, by decide⟩, ?_⟩ | refine ⟨rfl, ?_⟩ | refine ⟨leb rfl, ?_⟩ | refine ⟨by decide, ?_⟩ | refine .inr ⟨⟨leb rfl, leb rfl, rfl, rfl⟩, ?_⟩ | refine ⟨⟨by omega, by first | omega | exact ltm (by omega)⟩, lenm (by intro _; rfl), ?_⟩ | refine ⟨_, getm (by omega) (by first | omega | exact ltm_inv (by omega)), ?_⟩ | refine ⟨⟨by omega, by omega⟩, rfl, ?_⟩ | refine ⟨⟨rfl, by omega, rfl, by (show _ + 1 < 4294967296); omega, rfl⟩, .inr ⟨leb rfl, ?_⟩⟩ | refine ⟨_, find_C _ _, ?_⟩ | refine ⟨_, put_C _ _ _, ?_⟩ | fail)
      exact hK _ _ fin_yes2
  · repeat' ((conv => whnf); first | refine ⟨rfl, fun _ => ?_, fun hc => absurd h0 hc⟩ | refine ⟨rfl, fun hc => ?_, fun hc => ?_⟩ | refine ⟨fun hc => ?_, fun hc => ?_⟩ | refine ⟨rfl, _, w64 (by omega) (by omega), ?_⟩ | refine ⟨_, w64 (by omega) (by omega), ?_⟩ | refine ⟨_, wU (by omega) (by omega), ?_⟩ | refine ⟨rfl, rfl, ?_⟩ | refine And.intro (show (0 : Int) ≤ _ by omega) ?_ | refine ldI (by repeat first | exact .hd | apply In.tl) ?_ | refine stI (by repeat first | exact .hd | apply In.tl) ?_ | refine slI (by repeat first | exact .hd | apply In.tl) ?_ | refine apI (by repeat first | exact .hd | apply In.tl) ?_ | refine mpI (by repeat first | exact .hd | apply In.tl) ?_ | refine ⟨⟨rfl, leb rfl, rfl⟩, ?_⟩ | refine ⟨⟨rfl, leb rfl⟩, ?_⟩ | refine ⟨⟨by decide, by decide⟩, ?_⟩ | refine ⟨rfl, ?_⟩ | refine ⟨leb rfl, ?_⟩ | refine ⟨by decide, ?_⟩ | refine .inr ⟨⟨leb rfl, leb rfl, rfl, rfl⟩, ?_⟩ | refine ⟨⟨by omega, by first | omega | exact ltm (by omega)⟩, lenm (by intro _; rfl), ?_⟩ | refine ⟨_, getm (by omega) (by first | omega | exact ltm_inv (by omega)), ?_⟩ | refine ⟨⟨by omega, by omega⟩, rfl, ?_⟩ | refine ⟨⟨rfl, by omega, rfl, by (show _ + 1 < 4294967296); omega, rfl⟩, .inr ⟨leb rfl, ?_⟩⟩ | refine ⟨_, find_C _ _, ?_⟩ | refine ⟨_, put_C _ _ _, ?_⟩ | refine ⟨_, _, _, true, fun _ H hR => ⟨H, rfl, hR⟩, k32 rfl hs rfl, rfl, ?_⟩ | refine ⟨_, _, _, false, fun _ H hR => ⟨H, rfl, hR⟩, k32 rfl hs rfl, rfl, ?_⟩ | fail)
    rw [sliceR, if_pos h0] at hK
    exact hK _ _ fin_no2
theorem c22 : IsoOk Try.prog 22 g21 := iso_con mixed okU7 Try.func22 cir22 fun x hx => ⟨101, _, rfl, run22 hx (by decide) fun rs' A h => h⟩
def g17 (args : List AV) : Option (List AV) := match args with
  | [] => some [.bool true]
  | _ => none
theorem k17 {T : Tab} (hT : Go.Ai.look T 17 = some ⟨.iso, g17⟩) : (hands T).iso 17 [] = some [.bool true] := hat hT rfl
theorem k19 {T : Tab} (hT : Go.Ai.look T 19 = some ⟨.iso, g19⟩) {s : SysD} (h : Small s) {r : List AV} (hr : outM (modelR s) = r) : (hands T).iso 19 [.agg (sysC s)] = some r := hat hT (con_at (x := s) h rfl hr)
theorem k20 {T : Tab} (hT : Go.Ai.look T 20 = some ⟨.iso, g19⟩) {s : SysD} (h : Small s) {r : List AV} (hr : outM (modelR s) = r) : (hands T).iso 20 [.agg (sysC s)] = some r := hat hT (con_at (x := s) h rfl hr)
theorem k21 {T : Tab} (hT : Go.Ai.look T 21 = some ⟨.iso, g21⟩) {s : SysD} (h : Small s) {t : Int} {r : List AV} (hr : outS (sliceR s t) = r) : (hands T).iso 21 [.agg (sysC s), .int .i64 t] = some r := hat hT (con_at (x := (s, t)) h rfl hr)
theorem k22 {T : Tab} (hT : Go.Ai.look T 22 = some ⟨.iso, g21⟩) {s : SysD} (h : Small s) {t : Int} {r : List AV} (hr : outS (sliceR s t) = r) : (hands T).iso 22 [.agg (sysC s), .int .i64 t] = some r := hat hT (con_at (x := (s, t)) h rfl hr)
theorem modelS_small {s : SysD} {l : List (Int × Int)} (hv : Valid s) (h : l.length ≤ 64) : mdl.ok24 (modelS s l, modelS s l) := by
  obtain ⟨q1, q2, q3, q4, q5, q6, q7, q8, q9⟩ := chk_ok hv.2
  refine ⟨?_, ?_, fun r hr => ?_⟩
  · simp only [modelS, List.length_map, List.length_range, most]; omega
  · simp only [modelS, List.length_map, List.length_range, most]; omega
  · obtain ⟨a, _, rfl⟩ := List.mem_map.1 hr
    simp only [List.length_map, List.length_range, most]; omega
theorem noM_small : mdl.ok24 (noM, noM) := ⟨by decide, by decide, fun r hr => by simp [noM] at hr⟩
theorem modelR_small {s : SysD} (hs : Small s) : mdl.ok24 ((modelR s).1, (modelR s).1) ∧ (modelR s).2.1.length < most := by
  unfold modelR
  split
  · exact ⟨noM_small, (by decide : ([] : List (Int × Int)).length < most)⟩
  · rename_i h0
    split
    · exact ⟨noM_small, (by decide : ([] : List (Int × Int)).length < most)⟩
    · rename_i h1
      exact ⟨modelS_small ⟨hs, Decidable.not_not.1 h0⟩ (by omega), by simp only [most]; omega⟩
theorem sliceR_small {s : SysD} (hs : Small s) (t : Int) : mdl.ok24 ((sliceR s t).1, (sliceR s t).1) := by
  unfold sliceR
  split
  · exact noM_small
  · rename_i h0
    split
    · exact noM_small
    · have hv : Valid s := ⟨hs, Decidable.not_not.1 h0⟩
      obtain ⟨q1, q2, q3, q4, q5, q6, q7, q8, q9⟩ := chk_ok hv.2
      exact modelS_small hv (by rw [slP_len]; omega)
def UL : Tab := [(17, ⟨.iso, g17⟩), (18, ⟨.iso, g18⟩), (19, ⟨.iso, g19⟩), (20, ⟨.iso, g19⟩), (21, ⟨.iso, g21⟩), (22, ⟨.iso, g21⟩), (23, ⟨.iso, g23⟩), (24, ⟨.iso, mdl.g24⟩)]
set_option maxRecDepth 100000 in
set_option maxHeartbeats 1000000 in
theorem run4 {n : Nat} {s : SysD} (hs : s.Ok) {t : Int} : aB (hands UL) n ir4 (.agg (sysC s) :: .int .i64 t :: .undef :: .undef :: .undef :: .undef :: .undef :: .undef :: .undef :: .undef :: .undef :: .undef :: .undef :: .undef :: .undef :: .undef :: .undef :: .undef :: .undef :: .undef :: .undef :: .undef :: .undef :: .undef :: .undef :: .undef :: .undef :: .undef :: .undef :: .undef :: .undef :: .undef :: .undef :: .undef :: .undef :: .undef :: .undef :: .undef :: .undef :: .undef :: .undef :: .undef :: .undef :: .undef :: .undef :: .undef :: .undef :: .undef :: .undef :: .undef :: .undef :: .undef :: .undef :: .undef :: .undef :: .undef :: .undef :: .undef :: .undef :: .undef :: .undef :: .undef :: .undef :: .undef :: .undef :: .undef :: .undef :: .undef :: .undef :: .undef :: []) [] fun rs' A => rs' = [.bool true] := by
  refine ⟨rfl, ?_⟩
  intro l2 hl2
  cases hf : fewS s with
  | false =>
    repeat' ((conv => whnf); first | refine ⟨rfl, fun hc => ?_, fun hc => ?_⟩ | refine ⟨fun hc => ?_, fun hc => ?_⟩ | refine ⟨rfl, _, w64 (by omega) (by omega), ?_⟩ | refine ⟨_, w64 (by omega) (by omega), ?_⟩ | refine ⟨_, wU (by omega) (by omega), ?_⟩ | refine ⟨rfl, rfl, ?_⟩ | refine And.intro (show (0 : Int) ≤ _ by omega) ?_ | refine ldI (by repeat first | exact .hd | apply In.tl) ?_ | refine stI (by repeat first | exact .hd | apply In.tl) ?_ | refine slI (by repeat first | exact .hd | apply In.tl) ?_ | refine apI (by repeat first | exact .hd | apply In.tl) ?_ | refine mpI (by repeat first | exact .hd | apply In.tl) ?_ | refine ⟨⟨rfl, leb rfl, rfl⟩, ?_⟩ | refine ⟨⟨rfl, leb rfl⟩, ?_⟩ | refine ⟨⟨by decide, by decide⟩, ?_⟩ | refine ⟨rfl, ?_⟩ | refine ⟨leb rfl, ?_⟩ | refine ⟨by decide, ?_⟩ | refine .inr ⟨⟨leb rfl, leb rfl, rfl, rfl⟩, ?_⟩ | refine ⟨⟨by omega, by first | omega | exact ltm (by omega)⟩, lenm (by intro _; rfl), ?_⟩ | refine ⟨_, getm (by omega) (by first | omega | exact ltm_inv (by omega)), ?_⟩ | refine ⟨⟨by omega, by omega⟩, rfl, ?_⟩ | refine ⟨⟨rfl, by omega, rfl, by (show _ + 1 < 4294967296); omega, rfl⟩, .inr ⟨leb rfl, ?_⟩⟩ | refine ⟨_, find_C _ _, ?_⟩ | refine ⟨_, put_C _ _ _, ?_⟩ | refine ⟨_, _, _, true, fun _ H hR => ⟨H, rfl, hR⟩, k17 rfl, rfl, ?_⟩ | refine ⟨_, _, _, false, fun _ H hR => ⟨H, rfl, hR⟩, k17 rfl, rfl, ?_⟩ | refine ⟨_, _, _, true, fun _ H hR => ⟨H, rfl, hR⟩, k18 rfl hf, rfl, ?_⟩ | refine ⟨_, _, _, false, fun _ H hR => ⟨H, rfl, hR⟩, k18 rfl hf, rfl, ?_⟩ | fail)
    rfl
  | true =>
    have hsm := few_small hs hf
    obtain ⟨m1, m2⟩ := modelR_small hsm
    have m3 := sliceR_small hsm t
    generalize hr : modelR s = r at m1 m2
    generalize hq : sliceR s t = q at m3
    obtain ⟨m, l, e⟩ := r
    obtain ⟨m', e'⟩ := q
    repeat' ((conv => whnf); first | refine ⟨rfl, fun hc => ?_, fun hc => ?_⟩ | refine ⟨fun hc => ?_, fun hc => ?_⟩ | refine ⟨rfl, _, w64 (by omega) (by omega), ?_⟩ | refine ⟨_, w64 (by omega) (by omega), ?_⟩ | refine ⟨_, wU (by omega) (by omega), ?_⟩ | refine ⟨rfl, rfl, ?_⟩ | refine And.intro (show (0 : Int) ≤ _ by omega) ?_ | refine ldI (by repeat first | exact .hd | apply In.tl) ?_ | refine stI (by repeat first | exact .hd | apply In.tl) ?_ | refine slI (by repeat first | exact .hd | apply In.tl) ?_ | refine apI (by repeat first | exact .hd | apply In.tl) ?_ | refine mpI (by repeat first | exact .hd | apply In.tl) ?_ | refine ⟨⟨rfl, leb rfl, rfl⟩, ?_⟩ | refine ⟨⟨rfl, leb rfl⟩, ?_⟩ | refine ⟨⟨by decide, by decide⟩, ?_⟩ | refine ⟨rfl, ?_⟩ | refine ⟨leb rfl, ?_⟩ | refine ⟨by decide, ?_⟩ | refine .inr ⟨⟨leb rfl, leb rfl, rfl, rfl⟩, ?_⟩ | refine ⟨⟨by omega, by first | omega | exact ltm (by omega)⟩, lenm (by intro _; rfl), ?_⟩ | refine ⟨_, getm (by omega) (by first | omega | exact ltm_inv (by omega)), ?_⟩ | refine ⟨⟨by omega, by omega⟩, rfl, ?_⟩ | refine ⟨⟨rfl, by omega, rfl, by (show _ + 1 < 4294967296); omega, rfl⟩, .inr ⟨leb rfl, ?_⟩⟩ | refine ⟨_, find_C _ _, ?_⟩ | refine ⟨_, put_C _ _ _, ?_⟩ | refine ⟨_, _, _, true, fun _ H hR => ⟨H, rfl, hR⟩, k17 rfl, rfl, ?_⟩ | refine ⟨_, _, _, false, fun _ H hR => ⟨H, rfl, hR⟩, k17 rfl, rfl, ?_⟩ | refine ⟨_, _, _, true, fun _ H hR => ⟨H, rfl, hR⟩, k18 rfl hf, rfl, ?_⟩ | refine ⟨_, _, _, false, fun _ H hR => ⟨H, rfl, hR⟩, k18 rfl hf, rfl, ?_⟩ | refine ⟨_, _, _, true, fun _ H hR => ⟨H, rfl, hR⟩, k19 rfl hsm (r := [.agg (modC m), .list (l.map ptC), .int .i64 e]) (by rw [hr]; rfl), rfl, ?_⟩ | refine ⟨_, _, _, false, fun _ H hR => ⟨H, rfl, hR⟩, k19 rfl hsm (r := [.agg (modC m), .list (l.map ptC), .int .i64 e]) (by rw [hr]; rfl), rfl, ?_⟩ | fail)
    intro l5 hl5
    repeat' ((conv => whnf); first | refine ⟨rfl, fun hc => ?_, fun hc => ?_⟩ | refine ⟨fun hc => ?_, fun hc => ?_⟩ | refine ⟨rfl, _, w64 (by omega) (by omega), ?_⟩ | refine ⟨_, w64 (by omega) (by omega), ?_⟩ | refine ⟨_, wU (by omega) (by omega), ?_⟩ | refine ⟨rfl, rfl, ?_⟩ | refine And.intro (show (0 : Int) ≤ _ by omega) ?_ | refine ldI (by repeat first | exact .hd | apply In.tl) ?_ | refine stI (by repeat first | exact .hd | apply In.tl) ?_ | refine slI (by repeat first | exact .hd | apply In.tl) ?_ | refine apI (by repeat first | exact .hd | apply In.tl) ?_ | refine mpI (by repeat first | exact .hd | apply In.tl) ?_ | refine ⟨⟨rfl, leb rfl, rfl⟩, ?_⟩ | refine ⟨⟨rfl, leb rfl⟩, ?_⟩ | refine ⟨⟨by decide, by decide⟩, ?_⟩ | refine ⟨rfl, ?_⟩ | refine ⟨leb rfl, ?_⟩ | refine ⟨by decide, ?_⟩ | refine .inr ⟨⟨leb rfl, leb rfl, rfl, rfl⟩, ?_⟩ | refine ⟨⟨by omega, by first | omega | exact ltm (by omega)⟩, lenm (by intro _; rfl), ?_⟩ | refine ⟨_, getm (by omega) (by first | omega | exact ltm_inv (by omega)), ?_⟩ | refine ⟨⟨by omega, by omega⟩, rfl, ?_⟩ | refine ⟨⟨rfl, by omega, rfl, by (show _ + 1 < 4294967296); omega, rfl⟩, .inr ⟨leb rfl, ?_⟩⟩ | refine ⟨_, find_C _ _, ?_⟩ | refine ⟨_, put_C _ _ _, ?_⟩ | refine ⟨_, _, _, true, fun _ H hR => ⟨H, rfl, hR⟩, k20 rfl hsm (r := [.agg (modC m), .list (l.map ptC), .int .i64 e]) (by rw [hr]; rfl), rfl, ?_⟩ | refine ⟨_, _, _, false, fun _ H hR => ⟨H, rfl, hR⟩, k20 rfl hsm (r := [.agg (modC m), .list (l.map ptC), .int .i64 e]) (by rw [hr]; rfl), rfl, ?_⟩ | fail)
    intro l8 hl8
    repeat' ((conv => whnf); first | refine ⟨rfl, fun hc => ?_, fun hc => ?_⟩ | refine ⟨fun hc => ?_, fun hc => ?_⟩ | refine ⟨rfl, _, w64 (by omega) (by omega), ?_⟩ | refine ⟨_, w64 (by omega) (by omega), ?_⟩ | refine ⟨_, wU (by omega) (by omega), ?_⟩ | refine ⟨rfl, rfl, ?_⟩ | refine And.intro (show (0 : Int) ≤ _ by omega) ?_ | refine ldI (by repeat first | exact .hd | apply In.tl) ?_ | refine stI (by repeat first | exact .hd | apply In.tl) ?_ | refine slI (by repeat first | exact .hd | apply In.tl) ?_ | refine apI (by repeat first | exact .hd | apply In.tl) ?_ | refine mpI (by repeat first | exact .hd | apply In.tl) ?_ | refine ⟨⟨rfl, leb rfl, rfl⟩, ?_⟩ | refine ⟨⟨rfl, leb rfl⟩, ?_⟩ | refine ⟨⟨by decide, by decide⟩, ?_⟩ | refine ⟨rfl, ?_⟩ | refine ⟨leb rfl, ?_⟩ | refine ⟨by decide, ?_⟩ | refine .inr ⟨⟨leb rfl, leb rfl, rfl, rfl⟩, ?_⟩ | refine ⟨⟨by omega, by first | omega | exact ltm (by omega)⟩, lenm (by intro _; rfl), ?_⟩ | refine ⟨_, getm (by omega) (by first | omega | exact ltm_inv (by omega)), ?_⟩ | refine ⟨⟨by omega, by omega⟩, rfl, ?_⟩ | refine ⟨⟨rfl, by omega, rfl, by (show _ + 1 < 4294967296); omega, rfl⟩, .inr ⟨leb rfl, ?_⟩⟩ | refine ⟨_, find_C _ _, ?_⟩ | refine ⟨_, put_C _ _ _, ?_⟩ | refine ⟨_, _, _, true, fun _ H hR => ⟨H, rfl, hR⟩, k21 rfl hsm (r := [.agg (modC m'), .int .i64 e']) (by rw [hq]; rfl), rfl, ?_⟩ | refine ⟨_, _, _, false, fun _ H hR => ⟨H, rfl, hR⟩, k21 rfl hsm (r := [.agg (modC m'), .int .i64 e']) (by rw [hq]; rfl), rfl, ?_⟩ | fail)
    intro l11 hl11
    repeat' ((conv => whnf); first | refine ⟨rfl, fun hc => ?_, fun hc => ?_⟩ | refine ⟨fun hc => ?_, fun hc => ?_⟩ | refine ⟨rfl, _, w64 (by omega) (by omega), ?_⟩ | refine ⟨_, w64 (by omega) (by omega), ?_⟩ | refine ⟨_, wU (by omega) (by omega), ?_⟩ | refine ⟨rfl, rfl, ?_⟩ | refine And.intro (show (0 : Int) ≤ _ by omega) ?_ | refine ldI (by repeat first | exact .hd | apply In.tl) ?_ | refine stI (by repeat first | exact .hd | apply In.tl) ?_ | refine slI (by repeat first | exact .hd | apply In.tl) ?_ | refine apI (by repeat first | exact .hd | apply In.tl) ?_ | refine mpI (by repeat first | exact .hd | apply In.tl) ?_ | refine ⟨⟨rfl, leb rfl, rfl⟩, ?_⟩ | refine ⟨⟨rfl, leb rfl⟩, ?_⟩ | refine ⟨⟨by decide, by decide⟩, ?_⟩ | refine ⟨rfl, ?_⟩ | refine ⟨leb rfl, ?_⟩ | refine ⟨by decide, ?_⟩ | refine .inr ⟨⟨leb rfl, leb rfl, rfl, rfl⟩, ?_⟩ | refine ⟨⟨by omega, by first | omega | exact ltm (by omega)⟩, lenm (by intro _; rfl), ?_⟩ | refine ⟨_, getm (by omega) (by first | omega | exact ltm_inv (by omega)), ?_⟩ | refine ⟨⟨by omega, by omega⟩, rfl, ?_⟩ | refine ⟨⟨rfl, by omega, rfl, by (show _ + 1 < 4294967296); omega, rfl⟩, .inr ⟨leb rfl, ?_⟩⟩ | refine ⟨_, find_C _ _, ?_⟩ | refine ⟨_, put_C _ _ _, ?_⟩ | refine ⟨_, _, _, true, fun _ H hR => ⟨H, rfl, hR⟩, k22 rfl hsm (r := [.agg (modC m'), .int .i64 e']) (by rw [hq]; rfl), rfl, ?_⟩ | refine ⟨_, _, _, false, fun _ H hR => ⟨H, rfl, hR⟩, k22 rfl hsm (r := [.agg (modC m'), .int .i64 e']) (by rw [hq]; rfl), rfl, ?_⟩ | fail)
    intro l13 hl13
    repeat' ((conv => whnf); first | refine ⟨rfl, fun _ => ?_, fun hc => absurd rfl hc⟩ | refine ⟨rfl, fun hc => ?_, fun hc => ?_⟩ | refine ⟨fun hc => ?_, fun hc => ?_⟩ | refine ⟨rfl, _, w64 (by omega) (by omega), ?_⟩ | refine ⟨_, w64 (by omega) (by omega), ?_⟩ | refine ⟨_, wU (by omega) (by omega), ?_⟩ | refine ⟨rfl, rfl, ?_⟩ | refine And.intro (show (0 : Int) ≤ _ by omega) ?_ | refine ldI (by repeat first | exact .hd | apply In.tl) ?_ | refine stI (by repeat first | exact .hd | apply In.tl) ?_ | refine slI (by repeat first | exact .hd | apply In.tl) ?_ | refine apI (by repeat first | exact .hd | apply In.tl) ?_ | refine mpI (by repeat first | exact .hd | apply In.tl) ?_ | refine ⟨⟨rfl, leb rfl, rfl⟩, ?_⟩ | refine ⟨⟨rfl, leb rfl⟩, ?_⟩ | refine ⟨⟨by decide, by decide⟩, ?_⟩ | refine ⟨rfl, ?_⟩ | refine ⟨leb rfl, ?_⟩ | refine ⟨by decide, ?_⟩ | refine .inr ⟨⟨leb rfl, leb rfl, rfl, rfl⟩, ?_⟩ | refine ⟨⟨by omega, by first | omega | exact ltm (by omega)⟩, lenm (by intro _; rfl), ?_⟩ | refine ⟨_, getm (by omega) (by first | omega | exact ltm_inv (by omega)), ?_⟩ | refine ⟨⟨by omega, by omega⟩, rfl, ?_⟩ | refine ⟨⟨rfl, by omega, rfl, by (show _ + 1 < 4294967296); omega, rfl⟩, .inr ⟨leb rfl, ?_⟩⟩ | refine ⟨_, find_C _ _, ?_⟩ | refine ⟨_, put_C _ _ _, ?_⟩ | refine ⟨_, _, _, true, fun _ H hR => ⟨H, rfl, hR⟩, k23 rfl m2 (decide_eq_true rfl), rfl, ?_⟩ | refine ⟨_, _, _, false, fun _ H hR => ⟨H, rfl, hR⟩, k23 rfl m2 (decide_eq_true rfl), rfl, ?_⟩ | refine ⟨_, _, _, true, fun _ H hR => ⟨H, rfl, hR⟩, mdl.k24 rfl m1 (decide_eq_true rfl), rfl, ?_⟩ | refine ⟨_, _, _, false, fun _ H hR => ⟨H, rfl, hR⟩, mdl.k24 rfl m1 (decide_eq_true rfl), rfl, ?_⟩ | refine ⟨_, _, _, true, fun _ H hR => ⟨H, rfl, hR⟩, mdl.k24 rfl m3 (decide_eq_true rfl), rfl, ?_⟩ | refine ⟨_, _, _, false, fun _ H hR => ⟨H, rfl, hR⟩, mdl.k24 rfl m3 (decide_eq_true rfl), rfl, ?_⟩ | fail)
    rfl
end Go.Proofs.Ytlgbbabijifflaa.sys
namespace Go.Proofs.Ytlgbbabijifflaa.L1R
open Go Go.Ai

def ir5 : IFunc := ⟨85, [.tmp 4],
  .seq (.region [⟨some 2, none, .box 4 (.t 0)⟩,
    ⟨some 4, none, .mov (.c (.bool false))⟩])
   (.seq (.seq (.region [⟨some 17, none, .call 17 []⟩,
    ⟨some 18, none, .un .not (.t 17)⟩,
    ⟨some 19, none, .mov (.t 18)⟩,
    ⟨some 20, some (2, false), .load 4 true (.t 2)⟩,
    ⟨some 21, some (2, false), .call 18 [(.t 20)]⟩,
    ⟨some 22, some (2, false), .un .not (.t 21)⟩,
    ⟨some 23, none, .pick (.t 19) (.c (.bool true)) (.t 22)⟩])
   (.cond (.t 23) (.seq (.region [⟨some 24, none, .call 17 []⟩,
    ⟨some 4, none, .mov (.t 24)⟩])
   (.ret)) (.skip)))
   (.seq (.region [⟨some 26, none, .load 4 true (.t 2)⟩,
    ⟨some 27, none, .call 25 [(.t 26)]⟩,
    ⟨some 25, none, .mov (.t 27)⟩,
    ⟨some 28, none, .extract (.t 25) 0⟩,
    ⟨some 29, none, .extract (.t 25) 1⟩,
    ⟨some 5, none, .alloc [(.int .i64 0), (.int .i64 0), (.int .i64 0), .nilsl]⟩,
    ⟨none, none, .store 4 (.t 5) (.t 28)⟩,
    ⟨some 6, none, .mov (.t 29)⟩])
   (.seq (.region [⟨some 31, none, .load 4 true (.t 2)⟩,
    ⟨some 32, none, .call 26 [(.t 31)]⟩,
    ⟨some 30, none, .mov (.t 32)⟩,
    ⟨some 33, none, .extract (.t 30) 0⟩,
    ⟨some 34, none, .extract (.t 30) 1⟩,
    ⟨some 7, none, .alloc [(.int .i64 0), (.int .i64 0), (.int .i64 0), .nilsl]⟩,
    ⟨none, none, .store 4 (.t 7) (.t 33)⟩,
    ⟨some 8, none, .mov (.t 34)⟩])
   (.seq (.region [⟨some 36, none, .load 4 true (.t 2)⟩,
    ⟨some 37, none, .call 27 [(.t 36)]⟩,
    ⟨some 35, none, .mov (.t 37)⟩,
    ⟨some 38, none, .extract (.t 35) 0⟩,
    ⟨some 39, none, .extract (.t 35) 1⟩,
    ⟨some 9, none, .alloc [(.int .i64 0), (.int .i64 0), (.int .i64 0), .nilsl]⟩,
    ⟨none, none, .store 4 (.t 9) (.t 38)⟩,
    ⟨some 10, none, .mov (.t 39)⟩])
   (.seq (.region [⟨some 41, none, .load 4 true (.t 2)⟩,
    ⟨some 42, none, .call 28 [(.t 41)]⟩,
    ⟨some 40, none, .mov (.t 42)⟩,
    ⟨some 43, none, .extract (.t 40) 0⟩,
    ⟨some 44, none, .extract (.t 40) 1⟩,
    ⟨some 11, none, .alloc [(.int .i64 0), (.int .i64 0), (.int .i64 0), .nilsl]⟩,
    ⟨none, none, .store 4 (.t 11) (.t 43)⟩,
    ⟨some 12, none, .mov (.t 44)⟩])
   (.seq (.region [⟨some 46, none, .load 4 true (.t 2)⟩,
    ⟨some 47, none, .mov (.t 1)⟩,
    ⟨some 48, none, .call 29 [(.t 46), (.t 47)]⟩,
    ⟨some 45, none, .mov (.t 48)⟩,
    ⟨some 49, none, .extract (.t 45) 0⟩,
    ⟨some 50, none, .extract (.t 45) 1⟩,
    ⟨some 13, none, .alloc [(.int .i64 0), (.int .i64 0), (.int .i64 0), .nilsl]⟩,
    ⟨none, none, .store 4 (.t 13) (.t 49)⟩,
    ⟨some 14, none, .mov (.t 50)⟩])
   (.seq (.region [⟨some 52, none, .load 4 true (.t 2)⟩,
    ⟨some 53, none, .mov (.t 1)⟩,
    ⟨some 54, none, .call 30 [(.t 52), (.t 53)]⟩,
    ⟨some 51, none, .mov (.t 54)⟩,
    ⟨some 55, none, .extract (.t 51) 0⟩,
    ⟨some 56, none, .extract (.t 51) 1⟩,
    ⟨some 15, none, .alloc [(.int .i64 0), (.int .i64 0), (.int .i64 0), .nilsl]⟩,
    ⟨none, none, .store 4 (.t 15) (.t 55)⟩,
    ⟨some 16, none, .mov (.t 56)⟩])
   (.seq (.region [⟨some 57, none, .mov (.t 6)⟩,
    ⟨some 58, none, .mov (.t 8)⟩,
    ⟨some 59, none, .bin .eql (.t 57) (.t 58)⟩,
    ⟨some 60, none, .mov (.t 59)⟩,
    ⟨some 61, some (3, true), .mov (.t 10)⟩,
    ⟨some 62, some (3, true), .mov (.t 12)⟩,
    ⟨some 63, some (3, true), .bin .eql (.t 61) (.t 62)⟩,
    ⟨some 64, none, .pick (.t 60) (.t 63) (.c (.bool false))⟩,
    ⟨some 65, none, .mov (.t 64)⟩,
    ⟨some 66, some (8, true), .mov (.t 14)⟩,
    ⟨some 67, some (8, true), .mov (.t 16)⟩,
    ⟨some 68, some (8, true), .bin .eql (.t 66) (.t 67)⟩,
    ⟨some 69, none, .pick (.t 65) (.t 68) (.c (.bool false))⟩,
    ⟨some 70, none, .mov (.t 69)⟩,
    ⟨some 71, some (13, true), .load 4 true (.t 5)⟩,
    ⟨some 72, some (13, true), .load 4 true (.t 7)⟩,
    ⟨some 73, some (13, true), .call 31 [(.t 71), (.t 72)]⟩,
    ⟨some 74, none, .pick (.t 70) (.t 73) (.c (.bool false))⟩,
    ⟨some 75, none, .mov (.t 74)⟩,
    ⟨some 76, some (18, true), .load 4 true (.t 9)⟩,
    ⟨some 77, some (18, true), .load 4 true (.t 11)⟩,
    ⟨some 78, some (18, true), .call 31 [(.t 76), (.t 77)]⟩,
    ⟨some 79, none, .pick (.t 75) (.t 78) (.c (.bool false))⟩,
    ⟨some 80, none, .mov (.t 79)⟩,
    ⟨some 81, some (23, true), .load 4 true (.t 13)⟩,
    ⟨some 82, some (23, true), .load 4 true (.t 15)⟩,
    ⟨some 83, some (23, true), .call 31 [(.t 81), (.t 82)]⟩,
    ⟨some 84, none, .pick (.t 80) (.t 83) (.c (.bool false))⟩,
    ⟨some 4, none, .mov (.t 84)⟩])
   (.ret)))))))))⟩
def ir7 : IFunc := ⟨117, [.tmp 2],
  .seq (.region [⟨some 1, none, .box 4 (.t 0)⟩,
    ⟨some 2, none, .mov (.c (.bool false))⟩])
   (.seq (.seq (.region [⟨some 13, none, .call 17 []⟩,
    ⟨some 14, none, .un .not (.t 13)⟩,
    ⟨some 15, none, .mov (.t 14)⟩,
    ⟨some 16, some (2, false), .load 4 true (.t 1)⟩,
    ⟨some 17, some (2, false), .call 18 [(.t 16)]⟩,
    ⟨some 18, some (2, false), .un .not (.t 17)⟩,
    ⟨some 19, none, .pick (.t 15) (.c (.bool true)) (.t 18)⟩,
    ⟨some 20, none, .mov (.t 19)⟩,
    ⟨some 21, some (7, false), .load 4 true (.t 1)⟩,
    ⟨some 22, some (7, false), .call 32 [(.t 21)]⟩,
    ⟨some 23, some (7, false), .bin .neq (.t 22) (.c (.int .i64 0))⟩,
    ⟨some 24, none, .pick (.t 20) (.c (.bool true)) (.t 23)⟩])
   (.cond (.t 24) (.seq (.region [⟨some 25, none, .call 17 []⟩,
    ⟨some 2, none, .mov (.t 25)⟩])
   (.ret)) (.skip)))
   (.seq (.region [⟨some 27, none, .load 4 true (.t 1)⟩,
    ⟨some 28, none, .call 25 [(.t 27)]⟩,
    ⟨some 26, none, .mov (.t 28)⟩,
    ⟨some 29, none, .extract (.t 26) 0⟩,
    ⟨some 30, none, .extract (.t 26) 1⟩,
    ⟨some 3, none, .alloc [(.int .i64 0), (.int .i64 0), (.int .i64 0), .nilsl]⟩,
    ⟨none, none, .store 4 (.t 3) (.t 29)⟩,
    ⟨some 4, none, .mov (.t 30)⟩])
   (.seq (.region [⟨some 32, none, .load 4 true (.t 1)⟩,
    ⟨some 33, none, .call 27 [(.t 32)]⟩,
    ⟨some 31, none, .mov (.t 33)⟩,
    ⟨some 34, none, .extract (.t 31) 0⟩,
    ⟨some 35, none, .extract (.t 31) 1⟩,
    ⟨some 5, none, .alloc [(.int .i64 0), (.int .i64 0), (.int .i64 0), .nilsl]⟩,
    ⟨none, none, .store 4 (.t 5) (.t 34)⟩,
    ⟨some 6, none, .mov (.t 35)⟩])
   (.seq (.region [⟨some 37, none, .load 4 true (.t 3)⟩,
    ⟨some 38, none, .call 27 [(.t 37)]⟩,
    ⟨some 36, none, .mov (.t 38)⟩,
    ⟨some 39, none, .extract (.t 36) 0⟩,
    ⟨some 40, none, .extract (.t 36) 1⟩,
    ⟨some 7, none, .alloc [(.int .i64 0), (.int .i64 0), (.int .i64 0), .nilsl]⟩,
    ⟨none, none, .store 4 (.t 7) (.t 39)⟩,
    ⟨some 8, none, .mov (.t 40)⟩])
   (.seq (.region [⟨some 42, none, .load 4 true (.t 3)⟩,
    ⟨some 43, none, .call 25 [(.t 42)]⟩,
    ⟨some 41, none, .mov (.t 43)⟩,
    ⟨some 44, none, .extract (.t 41) 0⟩,
    ⟨some 45, none, .extract (.t 41) 1⟩,
    ⟨some 9, none, .alloc [(.int .i64 0), (.int .i64 0), (.int .i64 0), .nilsl]⟩,
    ⟨none, none, .store 4 (.t 9) (.t 44)⟩,
    ⟨some 10, none, .mov (.t 45)⟩])
   (.seq (.region [⟨some 47, none, .load 4 true (.t 5)⟩,
    ⟨some 48, none, .call 27 [(.t 47)]⟩,
    ⟨some 46, none, .mov (.t 48)⟩,
    ⟨some 49, none, .extract (.t 46) 0⟩,
    ⟨some 50, none, .extract (.t 46) 1⟩,
    ⟨some 11, none, .alloc [(.int .i64 0), (.int .i64 0), (.int .i64 0), .nilsl]⟩,
    ⟨none, none, .store 4 (.t 11) (.t 49)⟩,
    ⟨some 12, none, .mov (.t 50)⟩])
   (.seq (.seq (.region [⟨some 51, none, .mov (.t 4)⟩,
    ⟨some 52, none, .bin .neq (.t 51) (.c (.int .i64 0))⟩,
    ⟨some 53, none, .mov (.t 52)⟩,
    ⟨some 54, some (2, false), .mov (.t 6)⟩,
    ⟨some 55, some (2, false), .bin .neq (.t 54) (.c (.int .i64 0))⟩,
    ⟨some 56, none, .pick (.t 53) (.c (.bool true)) (.t 55)⟩,
    ⟨some 57, none, .mov (.t 56)⟩,
    ⟨some 58, some (6, false), .mov (.t 8)⟩,
    ⟨some 59, some (6, false), .bin .neq (.t 58) (.c (.int .i64 0))⟩,
    ⟨some 60, none, .pick (.t 57) (.c (.bool true)) (.t 59)⟩,
    ⟨some 61, none, .mov (.t 60)⟩,
    ⟨some 62, some (10, false), .mov (.t 10)⟩,
    ⟨some 63, some (10, false), .bin .neq (.t 62) (.c (.int .i64 0))⟩,
    ⟨some 64, none, .pick (.t 61) (.c (.bool true)) (.t 63)⟩,
    ⟨some 65, none, .mov (.t 64)⟩,
    ⟨some 66, some (14, false), .mov (.t 12)⟩,
    ⟨some 67, some (14, false), .bin .neq (.t 66) (.c (.int .i64 0))⟩,
    ⟨some 68, none, .pick (.t 65) (.c (.bool true)) (.t 67)⟩,
    ⟨some 69, none, .mov (.t 68)⟩,
    ⟨some 70, some (18, false), .load 4 true (.t 3)⟩,
    ⟨some 71, some (18, false), .call 14 [(.t 70)]⟩,
    ⟨some 72, some (18, false), .un .not (.t 71)⟩,
    ⟨some 73, none, .pick (.t 69) (.c (.bool true)) (.t 72)⟩,
    ⟨some 74, none, .mov (.t 73)⟩,
    ⟨some 75, some (23, false), .load 4 true (.t 5)⟩,
    ⟨some 76, some (23, false), .call 15 [(.t 75)]⟩,
    ⟨some 77, some (23, false), .un .not (.t 76)⟩,
    ⟨some 78, none, .pick (.t 74) (.c (.bool true)) (.t 77)⟩,
    ⟨some 79, none, .mov (.t 78)⟩,
    ⟨some 80, some (28, false), .load 4 true (.t 7)⟩,
    ⟨some 81, some (28, false), .call 14 [(.t 80)]⟩,
    ⟨some 82, some (28, false), .un .not (.t 81)⟩,
    ⟨some 83, none, .pick (.t 79) (.c (.bool true)) (.t 82)⟩,
    ⟨some 84, none, .mov (.t 83)⟩,
    ⟨some 85, some (33, false), .load 4 true (.t 7)⟩,
    ⟨some 86, some (33, false), .call 15 [(.t 85)]⟩,
    ⟨some 87, some (33, false), .un .not (.t 86)⟩,
    ⟨some 88, none, .pick (.t 84) (.c (.bool true)) (.t 87)⟩])
   (.cond (.t 88) (.seq (.region [⟨some 2, none, .mov (.c (.bool false))⟩])
   (.ret)) (.skip)))
   (.seq (.region [⟨some 89, none, .load 4 true (.t 3)⟩,
    ⟨some 90, none, .load 4 true (.t 1)⟩,
    ⟨some 91, none, .call 34 [(.t 89), (.t 90)]⟩,
    ⟨some 92, none, .mov (.t 91)⟩,
    ⟨some 93, some (3, true), .load 4 true (.t 5)⟩,
    ⟨some 94, some (3, true), .load 4 true (.t 1)⟩,
    ⟨some 95, some (3, true), .call 34 [(.t 93), (.t 94)]⟩,
    ⟨some 96, none, .pick (.t 92) (.t 95) (.c (.bool false))⟩,
    ⟨some 97, none, .mov (.t 96)⟩,
    ⟨some 98, some (8, true), .load 4 true (.t 7)⟩,
    ⟨some 99, some (8, true), .load 4 true (.t 3)⟩,
    ⟨some 100, some (8, true), .call 34 [(.t 98), (.t 99)]⟩,
    ⟨some 101, none, .pick (.t 97) (.t 100) (.c (.bool false))⟩,
    ⟨some 102, none, .mov (.t 101)⟩,
    ⟨some 103, some (13, true), .load 4 true (.t 9)⟩,
    ⟨some 104, some (13, true), .load 4 true (.t 3)⟩,
    ⟨some 105, some (13, true), .call 31 [(.t 103), (.t 104)]⟩,
    ⟨some 106, none, .pick (.t 102) (.t 105) (.c (.bool false))⟩,
    ⟨some 107, none, .mov (.t 106)⟩,
    ⟨some 108, some (18, true), .load 4 true (.t 5)⟩,
    ⟨some 109, some (18, true), .load 4 true (.t 11)⟩,
    ⟨some 110, some (18, true), .call 34 [(.t 108), (.t 109)]⟩,
    ⟨some 111, none, .pick (.t 107) (.t 110) (.c (.bool false))⟩,
    ⟨some 112, none, .mov (.t 111)⟩,
    ⟨some 113, some (23, true), .load 4 true (.t 11)⟩,
    ⟨some 114, some (23, true), .load 4 true (.t 5)⟩,
    ⟨some 115, some (23, true), .call 34 [(.t 113), (.t 114)]⟩,
    ⟨some 116, none, .pick (.t 112) (.t 115) (.c (.bool false))⟩,
    ⟨some 2, none, .mov (.t 116)⟩])
   (.ret)))))))))⟩
def ir8 : IFunc := ⟨176, [.tmp 2],
  .seq (.region [⟨some 1, none, .box 4 (.t 0)⟩,
    ⟨some 2, none, .mov (.c (.bool false))⟩])
   (.seq (.seq (.region [⟨some 14, none, .call 17 []⟩,
    ⟨some 15, none, .un .not (.t 14)⟩,
    ⟨some 16, none, .mov (.t 15)⟩,
    ⟨some 17, some (2, false), .load 4 true (.t 1)⟩,
    ⟨some 18, some (2, false), .call 18 [(.t 17)]⟩,
    ⟨some 19, some (2, false), .un .not (.t 18)⟩,
    ⟨some 20, none, .pick (.t 16) (.c (.bool true)) (.t 19)⟩,
    ⟨some 21, none, .mov (.t 20)⟩,
    ⟨some 22, some (7, false), .load 4 true (.t 1)⟩,
    ⟨some 23, some (7, false), .call 32 [(.t 22)]⟩,
    ⟨some 24, some (7, false), .bin .neq (.t 23) (.c (.int .i64 0))⟩,
    ⟨some 25, none, .pick (.t 21) (.c (.bool true)) (.t 24)⟩])
   (.cond (.t 25) (.seq (.region [⟨some 26, none, .call 17 []⟩,
    ⟨some 2, none, .mov (.t 26)⟩])
   (.ret)) (.skip)))
   (.seq (.region [⟨some 28, none, .load 4 true (.t 1)⟩,
    ⟨some 29, none, .call 25 [(.t 28)]⟩,
    ⟨some 27, none, .mov (.t 29)⟩,
    ⟨some 30, none, .extract (.t 27) 0⟩,
    ⟨some 31, none, .extract (.t 27) 1⟩,
    ⟨some 3, none, .alloc [(.int .i64 0), (.int .i64 0), (.int .i64 0), .nilsl]⟩,
    ⟨none, none, .store 4 (.t 3) (.t 30)⟩,
    ⟨some 4, none, .mov (.t 31)⟩])
   (.seq (.region [⟨some 33, none, .load 4 true (.t 3)⟩,
    ⟨some 34, none, .call 27 [(.t 33)]⟩,
    ⟨some 32, none, .mov (.t 34)⟩,
    ⟨some 35, none, .extract (.t 32) 0⟩,
    ⟨some 36, none, .extract (.t 32) 1⟩,
    ⟨some 5, none, .alloc [(.int .i64 0), (.int .i64 0), (.int .i64 0), .nilsl]⟩,
    ⟨none, none, .store 4 (.t 5) (.t 35)⟩,
    ⟨some 6, none, .mov (.t 36)⟩])
   (.seq (.seq (.region [⟨some 37, none, .mov (.t 4)⟩,
    ⟨some 38, none, .bin .neq (.t 37) (.c (.int .i64 0))⟩,
    ⟨some 39, none, .mov (.t 38)⟩,
    ⟨some 40, some (2, false), .mov (.t 6)⟩,
    ⟨some 41, some (2, false), .bin .neq (.t 40) (.c (.int .i64 0))⟩,
    ⟨some 42, none, .pick (.t 39) (.c (.bool true)) (.t 41)⟩,
    ⟨some 43, none, .mov (.t 42)⟩,
    ⟨some 44, some (6, false), .load 4 true (.t 5)⟩,
    ⟨some 45, some (6, false), .call 32 [(.t 44)]⟩,
    ⟨some 46, some (6, false), .bin .neq (.t 45) (.c (.int .i64 0))⟩,
    ⟨some 47, none, .pick (.t 43) (.c (.bool true)) (.t 46)⟩,
    ⟨some 48, none, .mov (.t 47)⟩,
    ⟨some 49, some (11, false), .faddr 2 (.t 5)⟩,
    ⟨some 50, some (11, false), .load 1 false (.t 49)⟩,
    ⟨some 51, some (11, false), .faddr 2 (.t 1)⟩,
    ⟨some 52, some (11, false), .load 1 false (.t 51)⟩,
    ⟨some 53, some (11, false), .bin .neq (.t 50) (.t 52)⟩,
    ⟨some 54, none, .pick (.t 48) (.c (.bool true)) (.t 53)⟩,
    ⟨some 55, none, .mov (.t 54)⟩,
    ⟨some 56, some (18, false), .faddr 0 (.t 5)⟩,
    ⟨some 57, some (18, false), .load 1 false (.t 56)⟩,
    ⟨some 58, some (18, false), .faddr 0 (.t 1)⟩,
    ⟨some 59, some (18, false), .load 1 false (.t 58)⟩,
    ⟨some 60, some (18, false), .bin .neq (.t 57) (.t 59)⟩,
    ⟨some 61, none, .pick (.t 55) (.c (.bool true)) (.t 60)⟩,
    ⟨some 62, none, .mov (.t 61)⟩,
    ⟨some 63, some (25, false), .faddr 3 (.t 5)⟩,
    ⟨some 64, some (25, false), .load 1 false (.t 63)⟩,
    ⟨some 65, some (25, false), .len (.t 64)⟩,
    ⟨some 66, some (25, false), .faddr 3 (.t 1)⟩,
    ⟨some 67, some (25, false), .load 1 false (.t 66)⟩,
    ⟨some 68, some (25, false), .len (.t 67)⟩,
    ⟨some 69, some (25, false), .bin .neq (.t 65) (.t 68)⟩,
    ⟨some 70, none, .pick (.t 62) (.c (.bool true)) (.t 69)⟩])
   (.cond (.t 70) (.seq (.region [⟨some 2, none, .mov (.c (.bool false))⟩])
   (.ret)) (.skip)))
   (.seq (.seq (.region [⟨some 71, none, .load 4 true (.t 1)⟩,
    ⟨some 72, none, .call 14 [(.t 71)]⟩,
    ⟨some 73, none, .mov (.t 72)⟩,
    ⟨some 74, some (2, true), .load 4 true (.t 1)⟩,
    ⟨some 75, some (2, true), .call 15 [(.t 74)]⟩,
    ⟨some 76, none, .pick (.t 73) (.t 75) (.c (.bool false))⟩])
   (.cond (.t 76) (.region [⟨some 77, none, .load 4 true (.t 1)⟩,
    ⟨none, none, .store 4 (.t 5) (.t 77)⟩]) (.skip)))
   (.seq (.seq (.region [⟨some 7, none, .mov (.c (.int .i64 1))⟩])
   (.block 0 (.loop (.seq (.seq (.region [⟨some 78, none, .mov (.t 7)⟩,
    ⟨some 79, none, .faddr 2 (.t 5)⟩,
    ⟨some 80, none, .load 1 false (.t 79)⟩,
    ⟨some 81, none, .bin .lss (.t 78) (.t 80)⟩])
   (.cond (.t 81) (.skip) (.exit 0)))
   (.seq (.block 1 (.seq (.region [⟨some 85, none, .load 4 true (.t 5)⟩,
    ⟨some 86, none, .mov (.t 7)⟩,
    ⟨some 87, none, .call 21 [(.t 85), (.t 86)]⟩,
    ⟨some 84, none, .mov (.t 87)⟩,
    ⟨some 88, none, .extract (.t 84) 0⟩,
    ⟨some 89, none, .extract (.t 84) 1⟩,
    ⟨some 8, none, .alloc [(.int .i64 0), .nilsl, .nilsl]⟩,
    ⟨none, none, .store 3 (.t 8) (.t 88)⟩,
    ⟨some 9, none, .mov (.t 89)⟩])
   (.seq (.region [⟨some 91, none, .load 4 true (.t 5)⟩,
    ⟨some 92, none, .mov (.t 7)⟩,
    ⟨some 93, none, .bin .sub (.t 92) (.c (.int .i64 1))⟩,
    ⟨some 94, none, .call 21 [(.t 91), (.t 93)]⟩,
    ⟨some 90, none, .mov (.t 94)⟩,
    ⟨some 95, none, .extract (.t 90) 0⟩,
    ⟨some 96, none, .extract (.t 90) 1⟩,
    ⟨some 10, none, .alloc [(.int .i64 0), .nilsl, .nilsl]⟩,
    ⟨none, none, .store 3 (.t 10) (.t 95)⟩,
    ⟨some 11, none, .mov (.t 96)⟩])
   (.seq (.seq (.region [⟨some 97, none, .mov (.t 9)⟩,
    ⟨some 98, none, .bin .neq (.t 97) (.c (.int .i64 0))⟩,
    ⟨some 99, none, .mov (.t 98)⟩,
    ⟨some 100, some (2, false), .mov (.t 11)⟩,
    ⟨some 101, some (2, false), .bin .neq (.t 100) (.c (.int .i64 0))⟩,
    ⟨some 102, none, .pick (.t 99) (.c (.bool true)) (.t 101)⟩,
    ⟨some 103, none, .mov (.t 102)⟩,
    ⟨some 104, some (6, false), .faddr 2 (.t 8)⟩,
    ⟨some 105, some (6, false), .load 1 false (.t 104)⟩,
    ⟨some 106, some (6, false), .len (.t 105)⟩,
    ⟨some 107, some (6, false), .faddr 0 (.t 5)⟩,
    ⟨some 108, some (6, false), .load 1 false (.t 107)⟩,
    ⟨some 109, some (6, false), .bin .neq (.t 106) (.t 108)⟩,
    ⟨some 110, none, .pick (.t 103) (.c (.bool true)) (.t 109)⟩,
    ⟨some 111, none, .mov (.t 110)⟩,
    ⟨some 112, some (14, false), .faddr 2 (.t 10)⟩,
    ⟨some 113, some (14, false), .load 1 false (.t 112)⟩,
    ⟨some 114, some (14, false), .len (.t 113)⟩,
    ⟨some 115, some (14, false), .faddr 0 (.t 5)⟩,
    ⟨some 116, some (14, false), .load 1 false (.t 115)⟩,
    ⟨some 117, some (14, false), .bin .neq (.t 114) (.t 116)⟩,
    ⟨some 118, none, .pick (.t 111) (.c (.bool true)) (.t 117)⟩])
   (.cond (.t 118) (.seq (.region [⟨some 2, none, .mov (.c (.bool false))⟩])
   (.ret)) (.skip)))
   (.seq (.region [⟨some 119, none, .faddr 2 (.t 8)⟩,
    ⟨some 120, none, .load 1 false (.t 119)⟩,
    ⟨some 121, none, .len (.t 120)⟩,
    ⟨some 122, none, .mov (.c (.int .i64 0))⟩])
   (.block 2 (.loop (.seq (.region [⟨some 123, none, .bin .lss (.t 122) (.t 121)⟩])
   (.seq (.cond (.t 123) (.skip) (.exit 2))
   (.seq (.block 3 (.seq (.region [⟨some 124, none, .mov (.t 122)⟩,
    ⟨some 12, none, .mov (.t 124)⟩])
   (.seq (.seq (.draw [⟨some 125, none, .faddr 2 (.t 8)⟩,
    ⟨some 126, none, .load 1 false (.t 125)⟩,
    ⟨some 127, none, .mov (.t 12)⟩,
    ⟨some 128, none, .iaddr 1 (.t 126) (.t 127)⟩,
    ⟨some 129, none, .load 1 false (.t 128)⟩,
    ⟨some 130, none, .len (.t 129)⟩,
    ⟨some 131, none, .faddr 3 (.t 5)⟩,
    ⟨some 132, none, .load 1 false (.t 131)⟩,
    ⟨some 133, none, .len (.t 132)⟩,
    ⟨some 134, none, .bin .neq (.t 130) (.t 133)⟩,
    ⟨some 135, none, .mov (.t 134)⟩,
    ⟨some 136, some (10, false), .faddr 2 (.t 10)⟩,
    ⟨some 137, some (10, false), .load 1 false (.t 136)⟩,
    ⟨some 138, some (10, false), .mov (.t 12)⟩,
    ⟨some 139, some (10, false), .iaddr 1 (.t 137) (.t 138)⟩,
    ⟨some 140, some (10, false), .load 1 false (.t 139)⟩,
    ⟨some 141, some (10, false), .len (.t 140)⟩,
    ⟨some 142, some (10, false), .faddr 3 (.t 5)⟩,
    ⟨some 143, some (10, false), .load 1 false (.t 142)⟩,
    ⟨some 144, some (10, false), .len (.t 143)⟩,
    ⟨some 145, some (10, false), .bin .neq (.t 141) (.t 144)⟩,
    ⟨some 146, none, .pick (.t 135) (.c (.bool true)) (.t 145)⟩] [0, 1, 2, 3, 4, 5, 6, 7, 8, 9, 10, 11, 12, 13, 14, 15, 16, 17, 18, 19, 20, 21] [])
   (.cond (.t 146) (.seq (.region [⟨some 2, none, .mov (.c (.bool false))⟩])
   (.ret)) (.skip)))
   (.seq (.region [⟨some 147, none, .faddr 2 (.t 8)⟩,
    ⟨some 148, none, .load 1 false (.t 147)⟩,
    ⟨some 149, none, .mov (.t 12)⟩,
    ⟨some 150, none, .iaddr 1 (.t 148) (.t 149)⟩,
    ⟨some 151, none, .load 1 false (.t 150)⟩,
    ⟨some 152, none, .len (.t 151)⟩,
    ⟨some 153, none, .mov (.c (.int .i64 0))⟩])
   (.block 4 (.loop (.seq (.region [⟨some 154, none, .bin .lss (.t 153) (.t 152)⟩])
   (.seq (.cond (.t 154) (.skip) (.exit 4))
   (.seq (.block 5 (.seq (.region [⟨some 155, none, .mov (.t 153)⟩,
    ⟨some 13, none, .mov (.t 155)⟩])
   (.seq (.draw [⟨some 156, none, .faddr 2 (.t 8)⟩,
    ⟨some 157, none, .load 1 false (.t 156)⟩,
    ⟨some 158, none, .mov (.t 12)⟩,
    ⟨some 159, none, .iaddr 1 (.t 157) (.t 158)⟩,
    ⟨some 160, none, .load 1 false (.t 159)⟩,
    ⟨some 161, none, .mov (.t 13)⟩,
    ⟨some 162, none, .iaddr 1 (.t 160) (.t 161)⟩,
    ⟨some 163, none, .load 1 false (.t 162)⟩,
    ⟨some 164, none, .faddr 2 (.t 10)⟩,
    ⟨some 165, none, .load 1 false (.t 164)⟩,
    ⟨some 166, none, .mov (.t 12)⟩,
    ⟨some 167, none, .iaddr 1 (.t 165) (.t 166)⟩,
    ⟨some 168, none, .load 1 false (.t 167)⟩,
    ⟨some 169, none, .mov (.t 13)⟩,
    ⟨some 170, none, .iaddr 1 (.t 168) (.t 169)⟩,
    ⟨some 171, none, .load 1 false (.t 170)⟩,
    ⟨some 172, none, .bin .andNot (.t 163) (.t 171)⟩,
    ⟨some 173, none, .bin .neq (.t 172) (.c (.int .u64 0))⟩] [0, 1, 2, 3, 4, 5, 6, 7, 8, 9, 10, 11, 12, 13, 14, 15, 16, 17] [])
   (.cond (.t 173) (.seq (.region [⟨some 2, none, .mov (.c (.bool false))⟩])
   (.ret)) (.skip)))))
   (.region [⟨some 174, none, .bin .add (.t 153) (.c (.int .i64 1))⟩,
    ⟨some 153, none, .mov (.t 174)⟩]))))))))))
   (.region [⟨some 175, none, .bin .add (.t 122) (.c (.int .i64 1))⟩,
    ⟨some 122, none, .mov (.t 175)⟩])))))))))))
   (.region [⟨some 82, none, .mov (.t 7)⟩,
    ⟨some 83, none, .bin .add (.t 82) (.c (.int .i64 1))⟩,
    ⟨some 7, none, .mov (.t 83)⟩]))))))
   (.seq (.region [⟨some 2, none, .mov (.c (.bool true))⟩])
   (.ret))))))))⟩
def ir17 : IFunc := ⟨133, [.tmp 0],
  .seq (.region [⟨some 0, none, .mov (.c (.bool false))⟩])
   (.seq (.region [⟨some 14, none, .call 60 []⟩,
    ⟨some 15, none, .call 19 [(.t 14)]⟩,
    ⟨some 13, none, .mov (.t 15)⟩,
    ⟨some 16, none, .extract (.t 13) 0⟩,
    ⟨some 17, none, .extract (.t 13) 1⟩,
    ⟨some 18, none, .extract (.t 13) 2⟩,
    ⟨some 1, none, .alloc [(.int .i64 0), .nilsl, .nilsl]⟩,
    ⟨none, none, .store 3 (.t 1) (.t 16)⟩,
    ⟨some 2, none, .mov (.t 17)⟩,
    ⟨some 3, none, .mov (.t 18)⟩])
   (.seq (.region [⟨some 20, none, .call 60 []⟩,
    ⟨some 21, none, .call 25 [(.t 20)]⟩,
    ⟨some 19, none, .mov (.t 21)⟩,
    ⟨some 22, none, .extract (.t 19) 0⟩,
    ⟨some 23, none, .extract (.t 19) 1⟩,
    ⟨some 4, none, .alloc [(.int .i64 0), (.int .i64 0), (.int .i64 0), .nilsl]⟩,
    ⟨none, none, .store 4 (.t 4) (.t 22)⟩,
    ⟨some 5, none, .mov (.t 23)⟩])
   (.seq (.region [⟨some 25, none, .call 60 []⟩,
    ⟨some 26, none, .call 27 [(.t 25)]⟩,
    ⟨some 24, none, .mov (.t 26)⟩,
    ⟨some 27, none, .extract (.t 24) 0⟩,
    ⟨some 28, none, .extract (.t 24) 1⟩,
    ⟨some 6, none, .alloc [(.int .i64 0), (.int .i64 0), (.int .i64 0), .nilsl]⟩,
    ⟨none, none, .store 4 (.t 6) (.t 27)⟩,
    ⟨some 7, none, .mov (.t 28)⟩])
   (.seq (.region [⟨some 30, none, .call 60 []⟩,
    ⟨some 31, none, .call 21 [(.t 30), (.c (.int .i64 2))]⟩,
    ⟨some 29, none, .mov (.t 31)⟩,
    ⟨some 32, none, .extract (.t 29) 0⟩,
    ⟨some 33, none, .extract (.t 29) 1⟩,
    ⟨some 8, none, .alloc [(.int .i64 0), .nilsl, .nilsl]⟩,
    ⟨none, none, .store 3 (.t 8) (.t 32)⟩,
    ⟨some 9, none, .mov (.t 33)⟩])
   (.seq (.region [⟨some 35, none, .call 60 []⟩,
    ⟨some 36, none, .call 29 [(.t 35), (.c (.int .i64 1))]⟩,
    ⟨some 34, none, .mov (.t 36)⟩,
    ⟨some 37, none, .extract (.t 34) 0⟩,
    ⟨some 38, none, .extract (.t 34) 1⟩,
    ⟨some 10, none, .alloc [(.int .i64 0), (.int .i64 0), (.int .i64 0), .nilsl]⟩,
    ⟨none, none, .store 4 (.t 10) (.t 37)⟩,
    ⟨some 11, none, .mov (.t 38)⟩])
   (.seq (.region [⟨some 39, none, .mov (.t 3)⟩,
    ⟨some 40, none, .bin .eql (.t 39) (.c (.int .i64 0))⟩,
    ⟨some 41, none, .mov (.t 40)⟩,
    ⟨some 42, some (2, true), .mov (.t 5)⟩,
    ⟨some 43, some (2, true), .bin .eql (.t 42) (.c (.int .i64 0))⟩,
    ⟨some 44, none, .pick (.t 41) (.t 43) (.c (.bool false))⟩,
    ⟨some 45, none, .mov (.t 44)⟩,
    ⟨some 46, some (6, true), .mov (.t 7)⟩,
    ⟨some 47, some (6, true), .bin .eql (.t 46) (.c (.int .i64 0))⟩,
    ⟨some 48, none, .pick (.t 45) (.t 47) (.c (.bool false))⟩,
    ⟨some 49, none, .mov (.t 48)⟩,
    ⟨some 50, some (10, true), .mov (.t 9)⟩,
    ⟨some 51, some (10, true), .bin .eql (.t 50) (.c (.int .i64 0))⟩,
    ⟨some 52, none, .pick (.t 49) (.t 51) (.c (.bool false))⟩,
    ⟨some 53, none, .mov (.t 52)⟩,
    ⟨some 54, some (14, true), .mov (.t 11)⟩,
    ⟨some 55, some (14, true), .bin .eql (.t 54) (.c (.int .i64 0))⟩,
    ⟨some 56, none, .pick (.t 53) (.t 55) (.c (.bool false))⟩,
    ⟨some 57, none, .mov (.t 56)⟩,
    ⟨some 58, some (18, true), .mov (.t 2)⟩,
    ⟨some 59, some (18, true), .len (.t 58)⟩,
    ⟨some 60, some (18, true), .bin .eql (.t 59) (.c (.int .i64 6))⟩,
    ⟨some 61, none, .pick (.t 57) (.t 60) (.c (.bool false))⟩,
    ⟨some 62, none, .mov (.t 61)⟩,
    ⟨some 63, some (23, true), .mov (.t 2)⟩,
    ⟨some 64, some (23, true), .iaddr 2 (.t 63) (.c (.int .i64 4))⟩,
    ⟨some 65, some (23, true), .load 2 true (.t 64)⟩,
    ⟨some 66, some (23, true), .build [(.int .i64 0), (.int .i64 0)] [(0, 1, (.c (.int .i64 1))), (1, 1, (.c (.int .i64 1)))]⟩,
    ⟨some 67, some (23, true), .eqs false [0, 0] (.t 65) (.t 66)⟩,
    ⟨some 68, none, .pick (.t 62) (.t 67) (.c (.bool false))⟩,
    ⟨some 69, none, .mov (.t 68)⟩,
    ⟨some 70, some (30, true), .call 60 []⟩,
    ⟨some 71, some (30, true), .call 56 [(.t 70)]⟩,
    ⟨some 72, some (30, true), .len (.t 71)⟩,
    ⟨some 73, some (30, true), .bin .eql (.t 72) (.c (.int .i64 6))⟩,
    ⟨some 74, none, .pick (.t 69) (.t 73) (.c (.bool false))⟩,
    ⟨some 12, none, .mov (.t 74)⟩])
   (.seq (.region [⟨some 75, none, .mov (.t 12)⟩,
    ⟨some 76, none, .mov (.t 75)⟩,
    ⟨some 77, some (1, true), .load 3 true (.t 1)⟩,
    ⟨some 78, some (1, true), .rlit 1 1 [(.int .u64 0)] [(0, 1, (.c (.int .u64 38)))]⟩,
    ⟨some 79, some (1, true), .rlit 6 1 [(.int .u64 0)] [(0, 1, (.c (.int .u64 11))), (1, 1, (.c (.int .u64 11))), (2, 1, (.c (.int .u64 36))), (3, 1, (.c (.int .u64 11))), (4, 1, (.c (.int .u64 16))), (5, 1, (.c (.int .u64 36)))]⟩,
    ⟨some 80, some (1, true), .rlit 1 1 [.nilsl] [(0, 1, (.t 79))]⟩,
    ⟨some 81, some (1, true), .build [(.int .i64 0), .nilsl, .nilsl] [(0, 1, (.c (.int .i64 6))), (1, 1, (.t 78)), (2, 1, (.t 80))]⟩,
    ⟨some 82, some (1, true), .call 24 [(.t 77), (.t 81)]⟩,
    ⟨some 83, none, .pick (.t 76) (.t 82) (.c (.bool false))⟩,
    ⟨some 84, none, .mov (.t 83)⟩,
    ⟨some 85, some (9, true), .load 4 true (.t 4)⟩,
    ⟨some 86, some (9, true), .rlit 3 1 [(.int .i64 0)] [(0, 1, (.c (.int .i64 0))), (1, 1, (.c (.int .i64 1))), (2, 1, (.c (.int .i64 3)))]⟩,
    ⟨some 87, some (9, true), .rlit 3 1 [(.int .i64 0)] [(0, 1, (.c (.int .i64 0))), (1, 1, (.c (.int .i64 2))), (2, 1, (.c (.int .i64 3)))]⟩,
    ⟨some 88, some (9, true), .call 61 [(.t 85), (.t 86), (.t 87)]⟩,
    ⟨some 89, none, .pick (.t 84) (.t 88) (.c (.bool false))⟩,
    ⟨some 90, none, .mov (.t 89)⟩,
    ⟨some 91, some (15, true), .load 4 true (.t 6)⟩,
    ⟨some 92, some (15, true), .rlit 3 1 [(.int .i64 0)] [(0, 1, (.c (.int .i64 0))), (1, 1, (.c (.int .i64 0))), (2, 1, (.c (.int .i64 2)))]⟩,
    ⟨some 93, some (15, true), .rlit 3 1 [(.int .i64 0)] [(0, 1, (.c (.int .i64 0))), (1, 1, (.c (.int .i64 1))), (2, 1, (.c (.int .i64 3)))]⟩,
    ⟨some 94, some (15, true), .call 61 [(.t 91), (.t 92), (.t 93)]⟩,
    ⟨some 95, none, .pick (.t 90) (.t 94) (.c (.bool false))⟩,
    ⟨some 96, none, .mov (.t 95)⟩,
    ⟨some 97, some (21, true), .load 3 true (.t 8)⟩,
    ⟨some 98, some (21, true), .rlit 1 1 [(.int .u64 0)] [(0, 1, (.c (.int .u64 3)))]⟩,
    ⟨some 99, some (21, true), .rlit 2 1 [(.int .u64 0)] [(0, 1, (.c (.int .u64 3))), (1, 1, (.c (.int .u64 3)))]⟩,
    ⟨some 100, some (21, true), .rlit 1 1 [.nilsl] [(0, 1, (.t 99))]⟩,
    ⟨some 101, some (21, true), .build [(.int .i64 0), .nilsl, .nilsl] [(0, 1, (.c (.int .i64 2))), (1, 1, (.t 98)), (2, 1, (.t 100))]⟩,
    ⟨some 102, some (21, true), .call 24 [(.t 97), (.t 101)]⟩,
    ⟨some 103, none, .pick (.t 96) (.t 102) (.c (.bool false))⟩,
    ⟨some 104, none, .mov (.t 103)⟩,
    ⟨some 105, some (29, true), .load 4 true (.t 10)⟩,
    ⟨some 106, some (29, true), .rlit 1 1 [(.int .i64 0)] [(0, 1, (.c (.int .i64 5)))]⟩,
    ⟨some 107, some (29, true), .rlit 1 1 [(.int .i64 0)] [(0, 1, (.c (.int .i64 5)))]⟩,
    ⟨some 108, some (29, true), .call 61 [(.t 105), (.t 106), (.t 107)]⟩,
    ⟨some 109, none, .pick (.t 104) (.t 108) (.c (.bool false))⟩,
    ⟨some 110, none, .mov (.t 109)⟩,
    ⟨some 111, some (35, true), .call 60 []⟩,
    ⟨some 112, some (35, true), .call 14 [(.t 111)]⟩,
    ⟨some 113, some (35, true), .un .not (.t 112)⟩,
    ⟨some 114, none, .pick (.t 110) (.t 113) (.c (.bool false))⟩,
    ⟨some 115, none, .mov (.t 114)⟩,
    ⟨some 116, some (40, true), .call 60 []⟩,
    ⟨some 117, some (40, true), .call 15 [(.t 116)]⟩,
    ⟨some 118, some (40, true), .un .not (.t 117)⟩,
    ⟨some 119, none, .pick (.t 115) (.t 118) (.c (.bool false))⟩,
    ⟨some 120, none, .mov (.t 119)⟩,
    ⟨some 121, some (45, true), .load 4 true (.t 4)⟩,
    ⟨some 122, some (45, true), .call 14 [(.t 121)]⟩,
    ⟨some 123, none, .pick (.t 120) (.t 122) (.c (.bool false))⟩,
    ⟨some 124, none, .mov (.t 123)⟩,
    ⟨some 125, some (49, true), .load 4 true (.t 6)⟩,
    ⟨some 126, some (49, true), .call 15 [(.t 125)]⟩,
    ⟨some 127, none, .pick (.t 124) (.t 126) (.c (.bool false))⟩,
    ⟨some 128, none, .mov (.t 127)⟩,
    ⟨some 129, some (53, true), .call 60 []⟩,
    ⟨some 130, some (53, true), .call 13 [(.t 129)]⟩,
    ⟨some 131, some (53, true), .bin .eql (.t 130) (.c (.int .i64 0))⟩,
    ⟨some 132, none, .pick (.t 128) (.t 131) (.c (.bool false))⟩,
    ⟨some 0, none, .mov (.t 132)⟩])
   (.ret))))))))⟩
def ir25 : IFunc := ⟨9, [.cell 2 4 true, .tmp 3],
  .seq (.region [⟨some 1, none, .box 4 (.t 0)⟩,
    ⟨some 2, none, .alloc [(.int .i64 0), (.int .i64 0), (.int .i64 0), .nilsl]⟩,
    ⟨some 3, none, .mov (.c (.int .i64 0))⟩])
   (.seq (.region [⟨some 4, none, .load 4 true (.t 1)⟩,
    ⟨some 5, none, .mkfn 67 [(.t 1)]⟩,
    ⟨some 6, none, .call 66 [(.t 4), (.t 5)]⟩,
    ⟨some 7, none, .extract (.t 6) 0⟩,
    ⟨some 8, none, .extract (.t 6) 1⟩,
    ⟨none, none, .store 4 (.t 2) (.t 7)⟩,
    ⟨some 3, none, .mov (.t 8)⟩])
   (.ret))⟩
def ir26 : IFunc := ⟨13, [.cell 2 4 true, .tmp 3],
  .seq (.region [⟨some 1, none, .box 4 (.t 0)⟩,
    ⟨some 2, none, .alloc [(.int .i64 0), (.int .i64 0), (.int .i64 0), .nilsl]⟩,
    ⟨some 3, none, .mov (.c (.int .i64 0))⟩])
   (.seq (.region [⟨some 5, none, .load 4 true (.t 1)⟩,
    ⟨some 6, none, .call 32 [(.t 5)]⟩,
    ⟨some 4, none, .mov (.t 6)⟩])
   (.seq (.seq (.region [⟨some 7, none, .mov (.t 4)⟩,
    ⟨some 8, none, .bin .neq (.t 7) (.c (.int .i64 0))⟩])
   (.cond (.t 8) (.seq (.region [⟨some 9, none, .build [(.int .i64 0), (.int .i64 0), (.int .i64 0), .nilsl] []⟩,
    ⟨some 10, none, .mov (.t 4)⟩,
    ⟨none, none, .store 4 (.t 2) (.t 9)⟩,
    ⟨some 3, none, .mov (.t 10)⟩])
   (.ret)) (.skip)))
   (.seq (.region [⟨some 11, none, .load 4 true (.t 1)⟩,
    ⟨some 12, none, .call 68 [(.t 11), (.c (.bool false))]⟩,
    ⟨none, none, .store 4 (.t 2) (.t 12)⟩,
    ⟨some 3, none, .mov (.c (.int .i64 0))⟩])
   (.ret))))⟩
def ir27 : IFunc := ⟨9, [.cell 2 4 true, .tmp 3],
  .seq (.region [⟨some 1, none, .box 4 (.t 0)⟩,
    ⟨some 2, none, .alloc [(.int .i64 0), (.int .i64 0), (.int .i64 0), .nilsl]⟩,
    ⟨some 3, none, .mov (.c (.int .i64 0))⟩])
   (.seq (.region [⟨some 4, none, .load 4 true (.t 1)⟩,
    ⟨some 5, none, .mkfn 69 [(.t 1)]⟩,
    ⟨some 6, none, .call 66 [(.t 4), (.t 5)]⟩,
    ⟨some 7, none, .extract (.t 6) 0⟩,
    ⟨some 8, none, .extract (.t 6) 1⟩,
    ⟨none, none, .store 4 (.t 2) (.t 7)⟩,
    ⟨some 3, none, .mov (.t 8)⟩])
   (.ret))⟩
def ir28 : IFunc := ⟨13, [.cell 2 4 true, .tmp 3],
  .seq (.region [⟨some 1, none, .box 4 (.t 0)⟩,
    ⟨some 2, none, .alloc [(.int .i64 0), (.int .i64 0), (.int .i64 0), .nilsl]⟩,
    ⟨some 3, none, .mov (.c (.int .i64 0))⟩])
   (.seq (.region [⟨some 5, none, .load 4 true (.t 1)⟩,
    ⟨some 6, none, .call 32 [(.t 5)]⟩,
    ⟨some 4, none, .mov (.t 6)⟩])
   (.seq (.seq (.region [⟨some 7, none, .mov (.t 4)⟩,
    ⟨some 8, none, .bin .neq (.t 7) (.c (.int .i64 0))⟩])
   (.cond (.t 8) (.seq (.region [⟨some 9, none, .build [(.int .i64 0), (.int .i64 0), (.int .i64 0), .nilsl] []⟩,
    ⟨some 10, none, .mov (.t 4)⟩,
    ⟨none, none, .store 4 (.t 2) (.t 9)⟩,
    ⟨some 3, none, .mov (.t 10)⟩])
   (.ret)) (.skip)))
   (.seq (.region [⟨some 11, none, .load 4 true (.t 1)⟩,
    ⟨some 12, none, .call 68 [(.t 11), (.c (.bool true))]⟩,
    ⟨none, none, .store 4 (.t 2) (.t 12)⟩,
    ⟨some 3, none, .mov (.c (.int .i64 0))⟩])
   (.ret))))⟩
def ir29 : IFunc := ⟨72, [.cell 4 4 true, .tmp 5],
  .seq (.region [⟨some 2, none, .box 4 (.t 0)⟩,
    ⟨some 4, none, .alloc [(.int .i64 0), (.int .i64 0), (.int .i64 0), .nilsl]⟩,
    ⟨some 5, none, .mov (.c (.int .i64 0))⟩])
   (.seq (.seq (.region [⟨some 13, none, .load 4 true (.t 2)⟩,
    ⟨some 14, none, .call 13 [(.t 13)]⟩,
    ⟨some 6, none, .mov (.t 14)⟩])
   (.seq (.region [⟨some 15, none, .mov (.t 6)⟩,
    ⟨some 16, none, .bin .neq (.t 15) (.c (.int .i64 0))⟩])
   (.cond (.t 16) (.seq (.region [⟨some 17, none, .build [(.int .i64 0), (.int .i64 0), (.int .i64 0), .nilsl] []⟩,
    ⟨some 18, none, .mov (.t 6)⟩,
    ⟨none, none, .store 4 (.t 4) (.t 17)⟩,
    ⟨some 5, none, .mov (.t 18)⟩])
   (.ret)) (.skip))))
   (.seq (.seq (.region [⟨some 19, none, .mov (.t 1)⟩,
    ⟨some 20, none, .bin .lss (.t 19) (.c (.int .i64 1))⟩,
    ⟨some 21, none, .mov (.t 20)⟩,
    ⟨some 22, some (2, false), .mov (.t 1)⟩,
    ⟨some 23, some (2, false), .faddr 2 (.t 2)⟩,
    ⟨some 24, some (2, false), .load 1 false (.t 23)⟩,
    ⟨some 25, some (2, false), .bin .gtr (.t 22) (.t 24)⟩,
    ⟨some 26, none, .pick (.t 21) (.c (.bool true)) (.t 25)⟩])
   (.cond (.t 26) (.seq (.region [⟨some 27, none, .build [(.int .i64 0), (.int .i64 0), (.int .i64 0), .nilsl] []⟩,
    ⟨none, none, .store 4 (.t 4) (.t 27)⟩,
    ⟨some 5, none, .mov (.c (.int .i64 2))⟩])
   (.ret)) (.skip)))
   (.seq (.region [⟨some 28, none, .faddr 0 (.t 2)⟩,
    ⟨some 29, none, .load 1 false (.t 28)⟩,
    ⟨some 30, none, .faddr 1 (.t 2)⟩,
    ⟨some 31, none, .load 1 false (.t 30)⟩,
    ⟨some 32, none, .mov (.t 1)⟩,
    ⟨some 33, none, .build [(.int .i64 0), (.int .i64 0), (.int .i64 0), .nilsl] [(0, 1, (.t 29)), (1, 1, (.t 31)), (2, 1, (.t 32))]⟩,
    ⟨some 7, none, .alloc [(.int .i64 0), (.int .i64 0), (.int .i64 0), .nilsl]⟩,
    ⟨none, none, .store 4 (.t 7) (.t 33)⟩])
   (.seq (.seq (.region [⟨some 34, none, .faddr 3 (.t 2)⟩,
    ⟨some 35, none, .load 1 false (.t 34)⟩,
    ⟨some 36, none, .len (.t 35)⟩,
    ⟨some 37, none, .mov (.c (.int .i64 0))⟩])
   (.block 0 (.loop (.seq (.region [⟨some 38, none, .bin .lss (.t 37) (.t 36)⟩])
   (.seq (.cond (.t 38) (.skip) (.exit 0))
   (.seq (.block 1 (.seq (.region [⟨some 39, none, .iaddr 2 (.t 35) (.t 37)⟩,
    ⟨some 40, none, .load 2 true (.t 39)⟩,
    ⟨some 9, none, .alloc [.nilsl, .nilsl]⟩,
    ⟨none, none, .store 2 (.t 9) (.t 40)⟩])
   (.seq (.region [⟨some 41, none, .faddr 1 (.t 9)⟩,
    ⟨some 42, none, .load 1 false (.t 41)⟩,
    ⟨some 43, none, .mov (.t 1)⟩,
    ⟨some 44, none, .slice 1 (.t 42) none (some (.t 43))⟩,
    ⟨some 45, none, .call 70 [(.t 44)]⟩,
    ⟨some 46, none, .build [.nilsl, .nilsl] [(1, 1, (.t 45))]⟩,
    ⟨some 10, none, .alloc [.nilsl, .nilsl]⟩,
    ⟨none, none, .store 2 (.t 10) (.t 46)⟩])
   (.seq (.seq (.region [⟨some 47, none, .faddr 0 (.t 9)⟩,
    ⟨some 48, none, .load 1 false (.t 47)⟩,
    ⟨some 49, none, .mov (.t 1)⟩,
    ⟨some 50, none, .slice 1 (.t 48) none (some (.t 49))⟩,
    ⟨some 51, none, .len (.t 50)⟩,
    ⟨some 52, none, .mov (.c (.int .i64 0))⟩])
   (.block 2 (.loop (.seq (.region [⟨some 53, none, .bin .lss (.t 52) (.t 51)⟩])
   (.seq (.cond (.t 53) (.skip) (.exit 2))
   (.seq (.block 3 (.seq (.region [⟨some 54, none, .iaddr 1 (.t 50) (.t 52)⟩,
    ⟨some 55, none, .load 1 false (.t 54)⟩,
    ⟨some 12, none, .mov (.t 55)⟩])
   (.draw [⟨some 56, none, .faddr 0 (.t 10)⟩,
    ⟨some 57, none, .load 1 false (.t 56)⟩,
    ⟨some 58, none, .mov (.t 12)⟩,
    ⟨some 59, none, .call 51 [(.t 58)]⟩,
    ⟨some 60, none, .tlit 1 1 [.nilsl] [(0, 1, (.t 59))]⟩,
    ⟨some 61, none, .append 1 24 (.t 57) (.t 60)⟩,
    ⟨some 62, none, .faddr 0 (.t 10)⟩,
    ⟨none, none, .store 1 (.t 62) (.t 61)⟩] [0, 1, 2, 3, 4, 5, 6, 7] [(1, 3)])))
   (.region [⟨some 63, none, .bin .add (.t 52) (.c (.int .i64 1))⟩,
    ⟨some 52, none, .mov (.t 63)⟩])))))))
   (.region [⟨some 64, none, .faddr 3 (.t 7)⟩,
    ⟨some 65, none, .load 1 false (.t 64)⟩,
    ⟨some 66, none, .load 2 true (.t 10)⟩,
    ⟨some 67, none, .tlit 1 2 [.nilsl, .nilsl] [(0, 2, (.t 66))]⟩,
    ⟨some 68, none, .append 2 48 (.t 65) (.t 67)⟩,
    ⟨some 69, none, .faddr 3 (.t 7)⟩,
    ⟨none, none, .store 1 (.t 69) (.t 68)⟩])))))
   (.region [⟨some 70, none, .bin .add (.t 37) (.c (.int .i64 1))⟩,
    ⟨some 37, none, .mov (.t 70)⟩])))))))
   (.seq (.region [⟨some 71, none, .load 4 true (.t 7)⟩,
    ⟨none, none, .store 4 (.t 4) (.t 71)⟩,
    ⟨some 5, none, .mov (.c (.int .i64 0))⟩])
   (.ret))))))⟩
def ir30 : IFunc := ⟨62, [.cell 4 4 true, .tmp 5],
  .seq (.region [⟨some 2, none, .box 4 (.t 0)⟩,
    ⟨some 4, none, .alloc [(.int .i64 0), (.int .i64 0), (.int .i64 0), .nilsl]⟩,
    ⟨some 5, none, .mov (.c (.int .i64 0))⟩])
   (.seq (.region [⟨some 9, none, .load 4 true (.t 2)⟩,
    ⟨some 10, none, .call 32 [(.t 9)]⟩,
    ⟨some 6, none, .mov (.t 10)⟩])
   (.seq (.seq (.region [⟨some 11, none, .mov (.t 6)⟩,
    ⟨some 12, none, .bin .neq (.t 11) (.c (.int .i64 0))⟩])
   (.cond (.t 12) (.seq (.region [⟨some 13, none, .build [(.int .i64 0), (.int .i64 0), (.int .i64 0), .nilsl] []⟩,
    ⟨some 14, none, .mov (.t 6)⟩,
    ⟨none, none, .store 4 (.t 4) (.t 13)⟩,
    ⟨some 5, none, .mov (.t 14)⟩])
   (.ret)) (.skip)))
   (.seq (.seq (.region [⟨some 15, none, .mov (.t 1)⟩,
    ⟨some 16, none, .bin .lss (.t 15) (.c (.int .i64 1))⟩,
    ⟨some 17, none, .mov (.t 16)⟩,
    ⟨some 18, some (2, false), .mov (.t 1)⟩,
    ⟨some 19, some (2, false), .faddr 2 (.t 2)⟩,
    ⟨some 20, some (2, false), .load 1 false (.t 19)⟩,
    ⟨some 21, some (2, false), .bin .gtr (.t 18) (.t 20)⟩,
    ⟨some 22, none, .pick (.t 17) (.c (.bool true)) (.t 21)⟩])
   (.cond (.t 22) (.seq (.region [⟨some 23, none, .build [(.int .i64 0), (.int .i64 0), (.int .i64 0), .nilsl] []⟩,
    ⟨none, none, .store 4 (.t 4) (.t 23)⟩,
    ⟨some 5, none, .mov (.c (.int .i64 2))⟩])
   (.ret)) (.skip)))
   (.seq (.region [⟨some 24, none, .load 4 true (.t 2)⟩,
    ⟨some 25, none, .call 71 [(.t 24)]⟩,
    ⟨some 7, none, .alloc [(.int .i64 0), (.int .i64 0), (.int .i64 0), .nilsl]⟩,
    ⟨none, none, .store 4 (.t 7) (.t 25)⟩])
   (.seq (.region [⟨some 26, none, .mov (.t 1)⟩,
    ⟨some 27, none, .faddr 2 (.t 7)⟩,
    ⟨none, none, .store 1 (.t 27) (.t 26)⟩])
   (.seq (.seq (.region [⟨some 8, none, .mov (.c (.int .i64 0))⟩])
   (.block 0 (.loop (.seq (.seq (.region [⟨some 28, none, .mov (.t 8)⟩,
    ⟨some 29, none, .faddr 3 (.t 7)⟩,
    ⟨some 30, none, .load 1 false (.t 29)⟩,
    ⟨some 31, none, .len (.t 30)⟩,
    ⟨some 32, none, .bin .lss (.t 28) (.t 31)⟩])
   (.cond (.t 32) (.skip) (.exit 0)))
   (.seq (.block 1 (.seq (.draw [⟨some 35, none, .faddr 3 (.t 7)⟩,
    ⟨some 36, none, .load 1 false (.t 35)⟩,
    ⟨some 37, none, .mov (.t 8)⟩,
    ⟨some 38, none, .faddr 3 (.t 7)⟩,
    ⟨some 39, none, .load 1 false (.t 38)⟩,
    ⟨some 40, none, .mov (.t 8)⟩,
    ⟨some 41, none, .iaddr 2 (.t 39) (.t 40)⟩,
    ⟨some 42, none, .faddr 0 (.t 41)⟩,
    ⟨some 43, none, .load 1 false (.t 42)⟩,
    ⟨some 44, none, .mov (.t 1)⟩,
    ⟨some 45, none, .slice 1 (.t 43) none (some (.t 44))⟩,
    ⟨some 46, none, .iaddr 2 (.t 36) (.t 37)⟩,
    ⟨some 47, none, .faddr 0 (.t 46)⟩,
    ⟨none, none, .store 1 (.t 47) (.t 45)⟩] [0, 1, 2, 3, 4, 5, 6, 7, 8, 9, 10, 11, 12, 13] [])
   (.draw [⟨some 48, none, .faddr 3 (.t 7)⟩,
    ⟨some 49, none, .load 1 false (.t 48)⟩,
    ⟨some 50, none, .mov (.t 8)⟩,
    ⟨some 51, none, .faddr 3 (.t 7)⟩,
    ⟨some 52, none, .load 1 false (.t 51)⟩,
    ⟨some 53, none, .mov (.t 8)⟩,
    ⟨some 54, none, .iaddr 2 (.t 52) (.t 53)⟩,
    ⟨some 55, none, .faddr 1 (.t 54)⟩,
    ⟨some 56, none, .load 1 false (.t 55)⟩,
    ⟨some 57, none, .mov (.t 1)⟩,
    ⟨some 58, none, .slice 1 (.t 56) none (some (.t 57))⟩,
    ⟨some 59, none, .iaddr 2 (.t 49) (.t 50)⟩,
    ⟨some 60, none, .faddr 1 (.t 59)⟩,
    ⟨none, none, .store 1 (.t 60) (.t 58)⟩] [0, 1, 2, 3, 4, 5, 6, 7, 8, 9, 10, 11, 12, 13] [])))
   (.region [⟨some 33, none, .mov (.t 8)⟩,
    ⟨some 34, none, .bin .add (.t 33) (.c (.int .i64 1))⟩,
    ⟨some 8, none, .mov (.t 34)⟩]))))))
   (.seq (.region [⟨some 61, none, .load 4 true (.t 7)⟩,
    ⟨none, none, .store 4 (.t 4) (.t 61)⟩,
    ⟨some 5, none, .mov (.c (.int .i64 0))⟩])
   (.ret))))))))⟩
def ir31 : IFunc := ⟨53, [.tmp 4],
  .seq (.region [⟨some 2, none, .box 4 (.t 0)⟩,
    ⟨some 3, none, .box 4 (.t 1)⟩,
    ⟨some 4, none, .mov (.c (.bool false))⟩])
   (.seq (.seq (.region [⟨some 6, none, .faddr 0 (.t 2)⟩,
    ⟨some 7, none, .load 1 false (.t 6)⟩,
    ⟨some 8, none, .faddr 0 (.t 3)⟩,
    ⟨some 9, none, .load 1 false (.t 8)⟩,
    ⟨some 10, none, .bin .neq (.t 7) (.t 9)⟩,
    ⟨some 11, none, .mov (.t 10)⟩,
    ⟨some 12, some (5, false), .faddr 1 (.t 2)⟩,
    ⟨some 13, some (5, false), .load 1 false (.t 12)⟩,
    ⟨some 14, some (5, false), .faddr 1 (.t 3)⟩,
    ⟨some 15, some (5, false), .load 1 false (.t 14)⟩,
    ⟨some 16, some (5, false), .bin .neq (.t 13) (.t 15)⟩,
    ⟨some 17, none, .pick (.t 11) (.c (.bool true)) (.t 16)⟩,
    ⟨some 18, none, .mov (.t 17)⟩,
    ⟨some 19, some (12, false), .faddr 2 (.t 2)⟩,
    ⟨some 20, some (12, false), .load 1 false (.t 19)⟩,
    ⟨some 21, some (12, false), .faddr 2 (.t 3)⟩,
    ⟨some 22, some (12, false), .load 1 false (.t 21)⟩,
    ⟨some 23, some (12, false), .bin .neq (.t 20) (.t 22)⟩,
    ⟨some 24, none, .pick (.t 18) (.c (.bool true)) (.t 23)⟩,
    ⟨some 25, none, .mov (.t 24)⟩,
    ⟨some 26, some (19, false), .faddr 3 (.t 2)⟩,
    ⟨some 27, some (19, false), .load 1 false (.t 26)⟩,
    ⟨some 28, some (19, false), .len (.t 27)⟩,
    ⟨some 29, some (19, false), .faddr 3 (.t 3)⟩,
    ⟨some 30, some (19, false), .load 1 false (.t 29)⟩,
    ⟨some 31, some (19, false), .len (.t 30)⟩,
    ⟨some 32, some (19, false), .bin .neq (.t 28) (.t 31)⟩,
    ⟨some 33, none, .pick (.t 25) (.c (.bool true)) (.t 32)⟩])
   (.cond (.t 33) (.seq (.region [⟨some 4, none, .mov (.c (.bool false))⟩])
   (.ret)) (.skip)))
   (.seq (.seq (.region [⟨some 5, none, .mov (.c (.int .i64 0))⟩])
   (.block 0 (.loop (.seq (.seq (.region [⟨some 34, none, .mov (.t 5)⟩,
    ⟨some 35, none, .faddr 3 (.t 2)⟩,
    ⟨some 36, none, .load 1 false (.t 35)⟩,
    ⟨some 37, none, .len (.t 36)⟩,
    ⟨some 38, none, .bin .lss (.t 34) (.t 37)⟩])
   (.cond (.t 38) (.skip) (.exit 0)))
   (.seq (.block 1 (.seq (.draw [⟨some 41, none, .faddr 3 (.t 2)⟩,
    ⟨some 42, none, .load 1 false (.t 41)⟩,
    ⟨some 43, none, .mov (.t 5)⟩,
    ⟨some 44, none, .iaddr 2 (.t 42) (.t 43)⟩,
    ⟨some 45, none, .load 2 true (.t 44)⟩,
    ⟨some 46, none, .faddr 3 (.t 3)⟩,
    ⟨some 47, none, .load 1 false (.t 46)⟩,
    ⟨some 48, none, .mov (.t 5)⟩,
    ⟨some 49, none, .iaddr 2 (.t 47) (.t 48)⟩,
    ⟨some 50, none, .load 2 true (.t 49)⟩,
    ⟨some 51, none, .call 72 [(.t 45), (.t 50)]⟩,
    ⟨some 52, none, .un .not (.t 51)⟩] [0, 1, 2, 3, 4, 5, 6, 7, 8, 9, 10, 11] [])
   (.cond (.t 52) (.seq (.region [⟨some 4, none, .mov (.c (.bool false))⟩])
   (.ret)) (.skip))))
   (.region [⟨some 39, none, .mov (.t 5)⟩,
    ⟨some 40, none, .bin .add (.t 39) (.c (.int .i64 1))⟩,
    ⟨some 5, none, .mov (.t 40)⟩]))))))
   (.seq (.region [⟨some 4, none, .mov (.c (.bool true))⟩])
   (.ret))))⟩
def ir34 : IFunc := ⟨84, [.tmp 4],
  .seq (.region [⟨some 2, none, .box 4 (.t 0)⟩,
    ⟨some 3, none, .box 4 (.t 1)⟩,
    ⟨some 4, none, .mov (.c (.bool false))⟩])
   (.seq (.seq (.region [⟨some 11, none, .faddr 3 (.t 2)⟩,
    ⟨some 12, none, .load 1 false (.t 11)⟩,
    ⟨some 13, none, .len (.t 12)⟩,
    ⟨some 14, none, .faddr 3 (.t 3)⟩,
    ⟨some 15, none, .load 1 false (.t 14)⟩,
    ⟨some 16, none, .len (.t 15)⟩,
    ⟨some 17, none, .bin .neq (.t 13) (.t 16)⟩,
    ⟨some 18, none, .mov (.t 17)⟩,
    ⟨some 19, some (7, false), .faddr 2 (.t 2)⟩,
    ⟨some 20, some (7, false), .load 1 false (.t 19)⟩,
    ⟨some 21, some (7, false), .faddr 2 (.t 3)⟩,
    ⟨some 22, some (7, false), .load 1 false (.t 21)⟩,
    ⟨some 23, some (7, false), .bin .neq (.t 20) (.t 22)⟩,
    ⟨some 24, none, .pick (.t 18) (.c (.bool true)) (.t 23)⟩,
    ⟨some 25, none, .mov (.t 24)⟩,
    ⟨some 26, some (14, false), .faddr 0 (.t 2)⟩,
    ⟨some 27, some (14, false), .load 1 false (.t 26)⟩,
    ⟨some 28, some (14, false), .faddr 0 (.t 3)⟩,
    ⟨some 29, some (14, false), .load 1 false (.t 28)⟩,
    ⟨some 30, some (14, false), .bin .neq (.t 27) (.t 29)⟩,
    ⟨some 31, none, .pick (.t 25) (.c (.bool true)) (.t 30)⟩,
    ⟨some 32, none, .mov (.t 31)⟩,
    ⟨some 33, some (21, false), .load 4 true (.t 2)⟩,
    ⟨some 34, some (21, false), .call 32 [(.t 33)]⟩,
    ⟨some 35, some (21, false), .bin .neq (.t 34) (.c (.int .i64 0))⟩,
    ⟨some 36, none, .pick (.t 32) (.c (.bool true)) (.t 35)⟩,
    ⟨some 37, none, .mov (.t 36)⟩,
    ⟨some 38, some (26, false), .load 4 true (.t 3)⟩,
    ⟨some 39, some (26, false), .call 32 [(.t 38)]⟩,
    ⟨some 40, some (26, false), .bin .neq (.t 39) (.c (.int .i64 0))⟩,
    ⟨some 41, none, .pick (.t 37) (.c (.bool true)) (.t 40)⟩])
   (.cond (.t 41) (.seq (.region [⟨some 4, none, .mov (.c (.bool false))⟩])
   (.ret)) (.skip)))
   (.seq (.region [⟨some 42, none, .load 4 true (.t 2)⟩,
    ⟨some 43, none, .call 63 [(.t 42)]⟩,
    ⟨some 5, none, .mov (.t 43)⟩])
   (.seq (.seq (.region [⟨some 44, none, .mov (.t 5)⟩,
    ⟨some 45, none, .len (.t 44)⟩,
    ⟨some 46, none, .mov (.c (.int .i64 0))⟩])
   (.block 0 (.loop (.seq (.region [⟨some 47, none, .bin .lss (.t 46) (.t 45)⟩])
   (.seq (.cond (.t 47) (.skip) (.exit 0))
   (.seq (.block 1 (.seq (.region [⟨some 48, none, .iaddr 2 (.t 44) (.t 46)⟩,
    ⟨some 49, none, .load 2 true (.t 48)⟩,
    ⟨some 7, none, .alloc [(.int .i64 0), (.int .i64 0)]⟩,
    ⟨none, none, .store 2 (.t 7) (.t 49)⟩])
   (.seq (.region [⟨some 50, none, .mov (.t 5)⟩,
    ⟨some 51, none, .len (.t 50)⟩,
    ⟨some 52, none, .mov (.c (.int .i64 0))⟩])
   (.block 2 (.loop (.seq (.region [⟨some 53, none, .bin .lss (.t 52) (.t 51)⟩])
   (.seq (.cond (.t 53) (.skip) (.exit 2))
   (.seq (.block 3 (.seq (.region [⟨some 54, none, .iaddr 2 (.t 50) (.t 52)⟩,
    ⟨some 55, none, .load 2 true (.t 54)⟩,
    ⟨some 9, none, .alloc [(.int .i64 0), (.int .i64 0)]⟩,
    ⟨none, none, .store 2 (.t 9) (.t 55)⟩])
   (.seq (.region [⟨some 56, none, .faddr 0 (.t 2)⟩,
    ⟨some 57, none, .load 1 false (.t 56)⟩,
    ⟨some 58, none, .mov (.c (.int .i64 0))⟩])
   (.block 4 (.loop (.seq (.region [⟨some 59, none, .bin .lss (.t 58) (.t 57)⟩])
   (.seq (.cond (.t 59) (.skip) (.exit 4))
   (.seq (.block 5 (.seq (.region [⟨some 60, none, .mov (.t 58)⟩,
    ⟨some 10, none, .mov (.t 60)⟩])
   (.seq (.draw [⟨some 61, none, .load 4 true (.t 2)⟩,
    ⟨some 62, none, .mov (.t 10)⟩,
    ⟨some 63, none, .load 2 true (.t 7)⟩,
    ⟨some 64, none, .call 76 [(.t 61), (.t 62), (.t 63)]⟩,
    ⟨some 65, none, .load 4 true (.t 2)⟩,
    ⟨some 66, none, .mov (.t 10)⟩,
    ⟨some 67, none, .load 2 true (.t 9)⟩,
    ⟨some 68, none, .call 76 [(.t 65), (.t 66), (.t 67)]⟩,
    ⟨some 69, none, .bin .eql (.t 64) (.t 68)⟩,
    ⟨some 70, none, .mov (.t 69)⟩,
    ⟨some 71, some (9, true), .load 4 true (.t 3)⟩,
    ⟨some 72, some (9, true), .mov (.t 10)⟩,
    ⟨some 73, some (9, true), .load 2 true (.t 7)⟩,
    ⟨some 74, some (9, true), .call 76 [(.t 71), (.t 72), (.t 73)]⟩,
    ⟨some 75, some (9, true), .load 4 true (.t 3)⟩,
    ⟨some 76, some (9, true), .mov (.t 10)⟩,
    ⟨some 77, some (9, true), .load 2 true (.t 9)⟩,
    ⟨some 78, some (9, true), .call 76 [(.t 75), (.t 76), (.t 77)]⟩,
    ⟨some 79, some (9, true), .bin .neq (.t 74) (.t 78)⟩,
    ⟨some 80, none, .pick (.t 70) (.t 79) (.c (.bool false))⟩] [0, 1, 2, 3, 4, 5, 6, 7, 8, 9, 10, 11, 12, 13, 14, 15, 16, 17, 18, 19] [(3, 4), (3, 6), (13, 14), (13, 16)])
   (.cond (.t 80) (.seq (.region [⟨some 4, none, .mov (.c (.bool false))⟩])
   (.ret)) (.skip)))))
   (.region [⟨some 81, none, .bin .add (.t 58) (.c (.int .i64 1))⟩,
    ⟨some 58, none, .mov (.t 81)⟩])))))))))
   (.region [⟨some 82, none, .bin .add (.t 52) (.c (.int .i64 1))⟩,
    ⟨some 52, none, .mov (.t 82)⟩])))))))))
   (.region [⟨some 83, none, .bin .add (.t 46) (.c (.int .i64 1))⟩,
    ⟨some 46, none, .mov (.t 83)⟩])))))))
   (.seq (.region [⟨some 4, none, .mov (.c (.bool true))⟩])
   (.ret)))))⟩
def ir60 : IFunc := ⟨15, [.cell 0 4 true],
  .seq (.region [⟨some 0, none, .alloc [(.int .i64 0), (.int .i64 0), (.int .i64 0), .nilsl]⟩])
   (.seq (.region [⟨some 1, none, .rlit 1 1 [(.int .i64 0)] [(0, 1, (.c (.int .i64 5)))]⟩,
    ⟨some 2, none, .rlit 1 1 [(.int .i64 0)] [(0, 1, (.c (.int .i64 5)))]⟩,
    ⟨some 3, none, .rlit 1 1 [(.int .i64 0)] [(0, 1, (.c (.int .i64 7)))]⟩,
    ⟨some 4, none, .rlit 3 1 [.nilsl] [(0, 1, (.t 1)), (1, 1, (.t 2)), (2, 1, (.t 3))]⟩,
    ⟨some 5, none, .rlit 3 1 [(.int .u64 0)] [(0, 1, (.c (.int .u64 0))), (1, 1, (.c (.int .u64 1))), (2, 1, (.c (.int .u64 1)))]⟩,
    ⟨some 6, none, .build [.nilsl, .nilsl] [(0, 1, (.t 4)), (1, 1, (.t 5))]⟩,
    ⟨some 7, none, .rlit 1 1 [(.int .i64 0)] [(0, 1, (.c (.int .i64 5)))]⟩,
    ⟨some 8, none, .rlit 1 1 [(.int .i64 0)] [(0, 1, (.c (.int .i64 6)))]⟩,
    ⟨some 9, none, .rlit 1 1 [(.int .i64 0)] [(0, 1, (.c (.int .i64 7)))]⟩,
    ⟨some 10, none, .rlit 3 1 [.nilsl] [(0, 1, (.t 7)), (1, 1, (.t 8)), (2, 1, (.t 9))]⟩,
    ⟨some 11, none, .rlit 3 1 [(.int .u64 0)] [(0, 1, (.c (.int .u64 0))), (1, 1, (.c (.int .u64 0))), (2, 1, (.c (.int .u64 1)))]⟩,
    ⟨some 12, none, .build [.nilsl, .nilsl] [(0, 1, (.t 10)), (1, 1, (.t 11))]⟩,
    ⟨some 13, none, .rlit 2 2 [.nilsl, .nilsl] [(0, 2, (.t 6)), (2, 2, (.t 12))]⟩,
    ⟨some 14, none, .build [(.int .i64 0), (.int .i64 0), (.int .i64 0), .nilsl] [(0, 1, (.c (.int .i64 1))), (1, 1, (.c (.int .i64 1))), (2, 1, (.c (.int .i64 3))), (3, 1, (.t 13))]⟩,
    ⟨none, none, .store 4 (.t 0) (.t 14)⟩])
   (.ret))⟩
def ir61 : IFunc := ⟨69, [.tmp 6],
  .seq (.region [⟨some 3, none, .box 4 (.t 0)⟩,
    ⟨some 6, none, .mov (.c (.bool false))⟩])
   (.seq (.seq (.region [⟨some 11, none, .faddr 3 (.t 3)⟩,
    ⟨some 12, none, .load 1 false (.t 11)⟩,
    ⟨some 13, none, .len (.t 12)⟩,
    ⟨some 14, none, .bin .neq (.t 13) (.c (.int .i64 2))⟩])
   (.cond (.t 14) (.seq (.region [⟨some 6, none, .mov (.c (.bool false))⟩])
   (.ret)) (.skip)))
   (.seq (.seq (.region [⟨some 15, none, .mov (.t 1)⟩,
    ⟨some 16, none, .mov (.t 2)⟩,
    ⟨some 17, none, .rlit 2 1 [.nilsl] [(0, 1, (.t 15)), (1, 1, (.t 16))]⟩,
    ⟨some 18, none, .len (.t 17)⟩,
    ⟨some 19, none, .mov (.c (.int .i64 0))⟩])
   (.block 0 (.loop (.seq (.region [⟨some 20, none, .bin .lss (.t 19) (.t 18)⟩])
   (.seq (.cond (.t 20) (.skip) (.exit 0))
   (.seq (.block 1 (.seq (.region [⟨some 21, none, .mov (.t 19)⟩,
    ⟨some 22, none, .iaddr 1 (.t 17) (.t 19)⟩,
    ⟨some 23, none, .load 1 false (.t 22)⟩,
    ⟨some 7, none, .mov (.t 21)⟩,
    ⟨some 8, none, .mov (.t 23)⟩])
   (.seq (.seq (.region [⟨some 24, none, .faddr 3 (.t 3)⟩,
    ⟨some 25, none, .load 1 false (.t 24)⟩,
    ⟨some 26, none, .mov (.t 7)⟩,
    ⟨some 27, none, .iaddr 2 (.t 25) (.t 26)⟩,
    ⟨some 28, none, .faddr 0 (.t 27)⟩,
    ⟨some 29, none, .load 1 false (.t 28)⟩,
    ⟨some 30, none, .len (.t 29)⟩,
    ⟨some 31, none, .mov (.t 8)⟩,
    ⟨some 32, none, .len (.t 31)⟩,
    ⟨some 33, none, .bin .neq (.t 30) (.t 32)⟩])
   (.cond (.t 33) (.seq (.region [⟨some 6, none, .mov (.c (.bool false))⟩])
   (.ret)) (.skip)))
   (.seq (.region [⟨some 34, none, .mov (.t 8)⟩,
    ⟨some 35, none, .len (.t 34)⟩,
    ⟨some 36, none, .mov (.c (.int .i64 0))⟩])
   (.block 2 (.loop (.seq (.region [⟨some 37, none, .bin .lss (.t 36) (.t 35)⟩])
   (.seq (.cond (.t 37) (.skip) (.exit 2))
   (.seq (.block 3 (.seq (.region [⟨some 38, none, .mov (.t 36)⟩,
    ⟨some 39, none, .iaddr 1 (.t 34) (.t 36)⟩,
    ⟨some 40, none, .load 1 false (.t 39)⟩,
    ⟨some 9, none, .mov (.t 38)⟩,
    ⟨some 10, none, .mov (.t 40)⟩])
   (.seq (.region [⟨some 41, none, .faddr 3 (.t 3)⟩,
    ⟨some 42, none, .load 1 false (.t 41)⟩,
    ⟨some 43, none, .mov (.t 7)⟩,
    ⟨some 44, none, .iaddr 2 (.t 42) (.t 43)⟩,
    ⟨some 45, none, .faddr 0 (.t 44)⟩,
    ⟨some 46, none, .load 1 false (.t 45)⟩,
    ⟨some 47, none, .mov (.t 9)⟩,
    ⟨some 48, none, .iaddr 1 (.t 46) (.t 47)⟩,
    ⟨some 49, none, .load 1 false (.t 48)⟩,
    ⟨some 50, none, .len (.t 49)⟩,
    ⟨some 51, none, .bin .neq (.t 50) (.c (.int .i64 1))⟩,
    ⟨some 52, none, .mov (.t 51)⟩,
    ⟨some 53, some (11, false), .faddr 3 (.t 3)⟩,
    ⟨some 54, some (11, false), .load 1 false (.t 53)⟩,
    ⟨some 55, some (11, false), .mov (.t 7)⟩,
    ⟨some 56, some (11, false), .iaddr 2 (.t 54) (.t 55)⟩,
    ⟨some 57, some (11, false), .faddr 0 (.t 56)⟩,
    ⟨some 58, some (11, false), .load 1 false (.t 57)⟩,
    ⟨some 59, some (11, false), .mov (.t 9)⟩,
    ⟨some 60, some (11, false), .iaddr 1 (.t 58) (.t 59)⟩,
    ⟨some 61, some (11, false), .load 1 false (.t 60)⟩,
    ⟨some 62, some (11, false), .iaddr 1 (.t 61) (.c (.int .i64 0))⟩,
    ⟨some 63, some (11, false), .load 1 false (.t 62)⟩,
    ⟨some 64, some (11, false), .mov (.t 10)⟩,
    ⟨some 65, some (11, false), .bin .neq (.t 63) (.t 64)⟩,
    ⟨some 66, none, .pick (.t 52) (.c (.bool true)) (.t 65)⟩])
   (.cond (.t 66) (.seq (.region [⟨some 6, none, .mov (.c (.bool false))⟩])
   (.ret)) (.skip)))))
   (.region [⟨some 67, none, .bin .add (.t 36) (.c (.int .i64 1))⟩,
    ⟨some 36, none, .mov (.t 67)⟩]))))))))))
   (.region [⟨some 68, none, .bin .add (.t 19) (.c (.int .i64 1))⟩,
    ⟨some 19, none, .mov (.t 68)⟩])))))))
   (.seq (.region [⟨some 6, none, .mov (.c (.bool true))⟩])
   (.ret))))⟩
def ir66 : IFunc := ⟨118, [.cell 4 4 true, .tmp 5],
  .seq (.region [⟨some 2, none, .box 4 (.t 0)⟩,
    ⟨some 4, none, .alloc [(.int .i64 0), (.int .i64 0), (.int .i64 0), .nilsl]⟩,
    ⟨some 5, none, .mov (.c (.int .i64 0))⟩])
   (.seq (.seq (.region [⟨some 18, none, .load 4 true (.t 2)⟩,
    ⟨some 19, none, .call 13 [(.t 18)]⟩,
    ⟨some 6, none, .mov (.t 19)⟩])
   (.seq (.region [⟨some 20, none, .mov (.t 6)⟩,
    ⟨some 21, none, .bin .neq (.t 20) (.c (.int .i64 0))⟩])
   (.cond (.t 21) (.seq (.region [⟨some 22, none, .build [(.int .i64 0), (.int .i64 0), (.int .i64 0), .nilsl] []⟩,
    ⟨some 23, none, .mov (.t 6)⟩,
    ⟨none, none, .store 4 (.t 4) (.t 22)⟩,
    ⟨some 5, none, .mov (.t 23)⟩])
   (.ret)) (.skip))))
   (.seq (.region [⟨some 24, none, .faddr 0 (.t 2)⟩,
    ⟨some 25, none, .load 1 false (.t 24)⟩,
    ⟨some 26, none, .faddr 1 (.t 2)⟩,
    ⟨some 27, none, .load 1 false (.t 26)⟩,
    ⟨some 28, none, .faddr 2 (.t 2)⟩,
    ⟨some 29, none, .load 1 false (.t 28)⟩,
    ⟨some 30, none, .build [(.int .i64 0), (.int .i64 0), (.int .i64 0), .nilsl] [(0, 1, (.t 25)), (1, 1, (.t 27)), (2, 1, (.t 29))]⟩,
    ⟨some 7, none, .alloc [(.int .i64 0), (.int .i64 0), (.int .i64 0), .nilsl]⟩,
    ⟨none, none, .store 4 (.t 7) (.t 30)⟩])
   (.seq (.seq (.region [⟨some 31, none, .faddr 3 (.t 2)⟩,
    ⟨some 32, none, .load 1 false (.t 31)⟩,
    ⟨some 33, none, .len (.t 32)⟩,
    ⟨some 34, none, .mov (.c (.int .i64 0))⟩])
   (.block 0 (.loop (.seq (.region [⟨some 35, none, .bin .lss (.t 34) (.t 33)⟩])
   (.seq (.cond (.t 35) (.skip) (.exit 0))
   (.seq (.block 1 (.seq (.region [⟨some 36, none, .iaddr 2 (.t 32) (.t 34)⟩,
    ⟨some 37, none, .load 2 true (.t 36)⟩,
    ⟨some 9, none, .alloc [.nilsl, .nilsl]⟩,
    ⟨none, none, .store 2 (.t 9) (.t 37)⟩])
   (.seq (.region [⟨some 38, none, .faddr 1 (.t 9)⟩,
    ⟨some 39, none, .load 1 false (.t 38)⟩,
    ⟨some 40, none, .call 70 [(.t 39)]⟩,
    ⟨some 41, none, .build [.nilsl, .nilsl] [(1, 1, (.t 40))]⟩,
    ⟨some 10, none, .alloc [.nilsl, .nilsl]⟩,
    ⟨none, none, .store 2 (.t 10) (.t 41)⟩])
   (.seq (.seq (.region [⟨some 42, none, .faddr 2 (.t 2)⟩,
    ⟨some 43, none, .load 1 false (.t 42)⟩,
    ⟨some 44, none, .mov (.c (.int .i64 0))⟩])
   (.block 2 (.loop (.seq (.region [⟨some 45, none, .bin .lss (.t 44) (.t 43)⟩])
   (.seq (.cond (.t 45) (.skip) (.exit 2))
   (.seq (.block 3 (.draw [⟨some 46, none, .faddr 0 (.t 10)⟩,
    ⟨some 47, none, .load 1 false (.t 46)⟩,
    ⟨some 48, none, .faddr 0 (.t 2)⟩,
    ⟨some 49, none, .load 1 false (.t 48)⟩,
    ⟨some 50, none, .mslice 1 8 [(.int .i64 0)] (.t 49) (.t 49)⟩,
    ⟨some 51, none, .tlit 1 1 [.nilsl] [(0, 1, (.t 50))]⟩,
    ⟨some 52, none, .append 1 24 (.t 47) (.t 51)⟩,
    ⟨some 53, none, .faddr 0 (.t 10)⟩,
    ⟨none, none, .store 1 (.t 53) (.t 52)⟩] [0, 1, 2, 3, 4, 5, 6, 7, 8] [(1, 4)]))
   (.region [⟨some 54, none, .bin .add (.t 44) (.c (.int .i64 1))⟩,
    ⟨some 44, none, .mov (.t 54)⟩])))))))
   (.region [⟨some 55, none, .faddr 3 (.t 7)⟩,
    ⟨some 56, none, .load 1 false (.t 55)⟩,
    ⟨some 57, none, .load 2 true (.t 10)⟩,
    ⟨some 58, none, .tlit 1 2 [.nilsl, .nilsl] [(0, 2, (.t 57))]⟩,
    ⟨some 59, none, .append 2 48 (.t 56) (.t 58)⟩,
    ⟨some 60, none, .faddr 3 (.t 7)⟩,
    ⟨none, none, .store 1 (.t 60) (.t 59)⟩])))))
   (.region [⟨some 61, none, .bin .add (.t 34) (.c (.int .i64 1))⟩,
    ⟨some 34, none, .mov (.t 61)⟩])))))))
   (.seq (.region [⟨some 62, none, .load 4 true (.t 2)⟩,
    ⟨some 63, none, .call 56 [(.t 62)]⟩,
    ⟨some 11, none, .mov (.t 63)⟩])
   (.seq (.seq (.region [⟨some 64, none, .faddr 0 (.t 2)⟩,
    ⟨some 65, none, .load 1 false (.t 64)⟩,
    ⟨some 66, none, .mov (.c (.int .i64 0))⟩])
   (.block 4 (.loop (.seq (.region [⟨some 67, none, .bin .lss (.t 66) (.t 65)⟩])
   (.seq (.cond (.t 67) (.skip) (.exit 4))
   (.seq (.block 5 (.seq (.region [⟨some 68, none, .mov (.t 66)⟩,
    ⟨some 12, none, .mov (.t 68)⟩])
   (.seq (.region [⟨some 13, none, .mov (.c .nilsl)⟩])
   (.seq (.seq (.region [⟨some 69, none, .mov (.t 11)⟩,
    ⟨some 70, none, .len (.t 69)⟩,
    ⟨some 71, none, .mov (.c (.int .i64 0))⟩])
   (.block 6 (.loop (.seq (.region [⟨some 72, none, .bin .lss (.t 71) (.t 70)⟩])
   (.seq (.cond (.t 72) (.skip) (.exit 6))
   (.seq (.block 7 (.seq (.region [⟨some 73, none, .iaddr 2 (.t 69) (.t 71)⟩,
    ⟨some 74, none, .load 2 true (.t 73)⟩,
    ⟨some 15, none, .alloc [(.int .i64 0), (.int .i64 0)]⟩,
    ⟨none, none, .store 2 (.t 15) (.t 74)⟩])
   (.region [⟨some 75, none, .mov (.t 13)⟩,
    ⟨some 76, none, .mov (.t 1)⟩,
    ⟨some 77, none, .mov (.t 12)⟩,
    ⟨some 78, none, .load 2 true (.t 15)⟩,
    ⟨some 79, none, .dyn (.t 76) [(.t 77), (.t 78)]⟩,
    ⟨some 80, none, .tlit 1 1 [.nilsl] [(0, 1, (.t 79))]⟩,
    ⟨some 81, none, .append 1 24 (.t 75) (.t 80)⟩,
    ⟨some 13, none, .mov (.t 81)⟩])))
   (.region [⟨some 82, none, .bin .add (.t 71) (.c (.int .i64 1))⟩,
    ⟨some 71, none, .mov (.t 82)⟩])))))))
   (.seq (.region [⟨some 83, none, .mov (.t 13)⟩,
    ⟨some 84, none, .call 96 [(.t 83), (.c (.func 97 []))]⟩])
   (.seq (.region [⟨some 85, none, .mov (.t 13)⟩,
    ⟨some 86, none, .call 98 [(.t 85), (.c (.func 99 []))]⟩,
    ⟨some 13, none, .mov (.t 86)⟩])
   (.seq (.region [⟨some 87, none, .mov (.t 11)⟩,
    ⟨some 88, none, .len (.t 87)⟩,
    ⟨some 89, none, .mov (.c (.int .i64 0))⟩])
   (.block 8 (.loop (.seq (.region [⟨some 90, none, .bin .lss (.t 89) (.t 88)⟩])
   (.seq (.cond (.t 90) (.skip) (.exit 8))
   (.seq (.block 9 (.seq (.region [⟨some 91, none, .iaddr 2 (.t 87) (.t 89)⟩,
    ⟨some 92, none, .load 2 true (.t 91)⟩,
    ⟨some 17, none, .alloc [(.int .i64 0), (.int .i64 0)]⟩,
    ⟨none, none, .store 2 (.t 17) (.t 92)⟩])
   (.draw [⟨some 94, none, .faddr 3 (.t 7)⟩,
    ⟨some 95, none, .load 1 false (.t 94)⟩,
    ⟨some 96, none, .faddr 0 (.t 17)⟩,
    ⟨some 97, none, .load 1 false (.t 96)⟩,
    ⟨some 98, none, .iaddr 2 (.t 95) (.t 97)⟩,
    ⟨some 99, none, .faddr 0 (.t 98)⟩,
    ⟨some 100, none, .load 1 false (.t 99)⟩,
    ⟨some 101, none, .faddr 1 (.t 17)⟩,
    ⟨some 102, none, .load 1 false (.t 101)⟩,
    ⟨some 103, none, .iaddr 1 (.t 100) (.t 102)⟩,
    ⟨some 104, none, .load 1 false (.t 103)⟩,
    ⟨some 105, none, .mov (.t 12)⟩,
    ⟨some 106, none, .mov (.t 13)⟩,
    ⟨some 107, none, .mov (.t 1)⟩,
    ⟨some 108, none, .mov (.t 12)⟩,
    ⟨some 109, none, .load 2 true (.t 17)⟩,
    ⟨some 110, none, .dyn (.t 107) [(.t 108), (.t 109)]⟩,
    ⟨some 111, none, .call 100 [(.t 106), (.t 110), (.c (.func 97 []))]⟩,
    ⟨some 93, none, .mov (.t 111)⟩,
    ⟨some 112, none, .extract (.t 93) 0⟩,
    ⟨some 113, none, .extract (.t 93) 1⟩,
    ⟨some 114, none, .iaddr 1 (.t 104) (.t 105)⟩,
    ⟨none, none, .store 1 (.t 114) (.t 112)⟩] [0, 1, 2, 3, 4, 5, 6, 7, 8, 9, 10, 11, 12, 13, 14, 15, 16, 17, 18, 19, 20, 21, 22] [(1, 16), (3, 16), (6, 16), (8, 16), (10, 16), (1, 17), (3, 17), (6, 17), (8, 17), (10, 17)])))
   (.region [⟨some 115, none, .bin .add (.t 89) (.c (.int .i64 1))⟩,
    ⟨some 89, none, .mov (.t 115)⟩])))))))))))))
   (.region [⟨some 116, none, .bin .add (.t 66) (.c (.int .i64 1))⟩,
    ⟨some 66, none, .mov (.t 116)⟩])))))))
   (.seq (.region [⟨some 117, none, .load 4 true (.t 7)⟩,
    ⟨none, none, .store 4 (.t 4) (.t 117)⟩,
    ⟨some 5, none, .mov (.c (.int .i64 0))⟩])
   (.ret)))))))⟩
def ir67 : IFunc := ⟨13, [.tmp 5],
  .seq (.region [⟨some 4, none, .box 2 (.t 1)⟩,
    ⟨some 5, none, .mov (.c .nilsl)⟩])
   (.seq (.draw [⟨some 6, none, .faddr 1 (.t 4)⟩,
    ⟨some 7, none, .load 1 false (.t 6)⟩,
    ⟨some 8, none, .load 4 true (.t 2)⟩,
    ⟨some 9, none, .mov (.t 0)⟩,
    ⟨some 10, none, .load 2 true (.t 4)⟩,
    ⟨some 11, none, .call 57 [(.t 8), (.t 9), (.t 10)]⟩,
    ⟨some 12, none, .rlit 2 1 [(.int .i64 0)] [(0, 1, (.t 7)), (1, 1, (.t 11))]⟩,
    ⟨some 5, none, .mov (.t 12)⟩] [0, 1, 2, 3, 4, 5, 6, 7] [(1, 5)])
   (.ret))⟩
def ir68 : IFunc := ⟨87, [.cell 4 4 true],
  .seq (.region [⟨some 2, none, .box 4 (.t 0)⟩,
    ⟨some 4, none, .alloc [(.int .i64 0), (.int .i64 0), (.int .i64 0), .nilsl]⟩])
   (.seq (.draw [⟨some 12, none, .load 4 true (.t 2)⟩,
    ⟨some 13, none, .call 71 [(.t 12)]⟩,
    ⟨some 14, none, .load 4 true (.t 2)⟩,
    ⟨some 15, none, .call 63 [(.t 14)]⟩,
    ⟨some 5, none, .alloc [(.int .i64 0), (.int .i64 0), (.int .i64 0), .nilsl]⟩,
    ⟨none, none, .store 4 (.t 5) (.t 13)⟩,
    ⟨some 6, none, .mov (.t 15)⟩] [0, 1, 2, 3, 4, 5, 6] [(1, 2), (0, 4), (1, 4), (2, 4), (3, 4)])
   (.seq (.seq (.region [⟨some 7, none, .mov (.c (.int .i64 0))⟩])
   (.block 0 (.loop (.seq (.seq (.region [⟨some 16, none, .mov (.t 7)⟩,
    ⟨some 17, none, .faddr 0 (.t 2)⟩,
    ⟨some 18, none, .load 1 false (.t 17)⟩,
    ⟨some 19, none, .bin .lss (.t 16) (.t 18)⟩])
   (.cond (.t 19) (.skip) (.exit 0)))
   (.seq (.block 1 (.seq (.region [⟨some 8, none, .mov (.c .nilsl)⟩])
   (.seq (.seq (.region [⟨some 9, none, .mov (.c (.int .i64 0))⟩])
   (.block 2 (.loop (.seq (.seq (.region [⟨some 22, none, .mov (.t 9)⟩,
    ⟨some 23, none, .mov (.t 6)⟩,
    ⟨some 24, none, .len (.t 23)⟩,
    ⟨some 25, none, .bin .lss (.t 22) (.t 24)⟩])
   (.cond (.t 25) (.skip) (.exit 2)))
   (.seq (.block 3 (.seq (.region [⟨some 28, none, .mov (.t 1)⟩])
   (.cond (.t 28) (.draw [⟨some 29, none, .mov (.t 8)⟩,
    ⟨some 30, none, .load 4 true (.t 2)⟩,
    ⟨some 31, none, .mov (.t 7)⟩,
    ⟨some 32, none, .mov (.t 6)⟩,
    ⟨some 33, none, .mov (.t 9)⟩,
    ⟨some 34, none, .iaddr 2 (.t 32) (.t 33)⟩,
    ⟨some 35, none, .load 2 true (.t 34)⟩,
    ⟨some 36, none, .call 101 [(.t 30), (.t 31), (.t 35)]⟩,
    ⟨some 37, none, .tlit 1 1 [.nilsl] [(0, 1, (.t 36))]⟩,
    ⟨some 38, none, .append 1 24 (.t 29) (.t 37)⟩,
    ⟨some 8, none, .mov (.t 38)⟩] [0, 1, 2, 3, 4, 5, 6, 7, 8, 9, 10] []) (.draw [⟨some 39, none, .mov (.t 8)⟩,
    ⟨some 40, none, .mov (.t 6)⟩,
    ⟨some 41, none, .mov (.t 9)⟩,
    ⟨some 42, none, .iaddr 2 (.t 40) (.t 41)⟩,
    ⟨some 43, none, .faddr 1 (.t 42)⟩,
    ⟨some 44, none, .load 1 false (.t 43)⟩,
    ⟨some 45, none, .load 4 true (.t 2)⟩,
    ⟨some 46, none, .mov (.t 7)⟩,
    ⟨some 47, none, .mov (.t 6)⟩,
    ⟨some 48, none, .mov (.t 9)⟩,
    ⟨some 49, none, .iaddr 2 (.t 47) (.t 48)⟩,
    ⟨some 50, none, .load 2 true (.t 49)⟩,
    ⟨some 51, none, .call 76 [(.t 45), (.t 46), (.t 50)]⟩,
    ⟨some 52, none, .rlit 2 1 [(.int .i64 0)] [(0, 1, (.t 44)), (1, 1, (.t 51))]⟩,
    ⟨some 53, none, .tlit 1 1 [.nilsl] [(0, 1, (.t 52))]⟩,
    ⟨some 54, none, .append 1 24 (.t 39) (.t 53)⟩,
    ⟨some 8, none, .mov (.t 54)⟩] [0, 1, 2, 3, 4, 5, 6, 7, 8, 9, 10, 11, 12, 13, 14, 15, 16] [(5, 12)]))))
   (.region [⟨some 26, none, .mov (.t 9)⟩,
    ⟨some 27, none, .bin .add (.t 26) (.c (.int .i64 1))⟩,
    ⟨some 9, none, .mov (.t 27)⟩]))))))
   (.seq (.region [⟨some 55, none, .mov (.t 8)⟩,
    ⟨some 56, none, .call 102 [(.t 55)]⟩,
    ⟨some 10, none, .mov (.t 56)⟩])
   (.seq (.region [⟨some 11, none, .mov (.c (.int .i64 0))⟩])
   (.block 4 (.loop (.seq (.seq (.region [⟨some 57, none, .mov (.t 11)⟩,
    ⟨some 58, none, .mov (.t 6)⟩,
    ⟨some 59, none, .len (.t 58)⟩,
    ⟨some 60, none, .bin .lss (.t 57) (.t 59)⟩])
   (.cond (.t 60) (.skip) (.exit 4)))
   (.seq (.block 5 (.draw [⟨some 63, none, .faddr 3 (.t 5)⟩,
    ⟨some 64, none, .load 1 false (.t 63)⟩,
    ⟨some 65, none, .mov (.t 6)⟩,
    ⟨some 66, none, .mov (.t 11)⟩,
    ⟨some 67, none, .iaddr 2 (.t 65) (.t 66)⟩,
    ⟨some 68, none, .faddr 0 (.t 67)⟩,
    ⟨some 69, none, .load 1 false (.t 68)⟩,
    ⟨some 70, none, .iaddr 2 (.t 64) (.t 69)⟩,
    ⟨some 71, none, .faddr 0 (.t 70)⟩,
    ⟨some 72, none, .load 1 false (.t 71)⟩,
    ⟨some 73, none, .mov (.t 6)⟩,
    ⟨some 74, none, .mov (.t 11)⟩,
    ⟨some 75, none, .iaddr 2 (.t 73) (.t 74)⟩,
    ⟨some 76, none, .faddr 1 (.t 75)⟩,
    ⟨some 77, none, .load 1 false (.t 76)⟩,
    ⟨some 78, none, .iaddr 1 (.t 72) (.t 77)⟩,
    ⟨some 79, none, .load 1 false (.t 78)⟩,
    ⟨some 80, none, .mov (.t 7)⟩,
    ⟨some 81, none, .mov (.t 10)⟩,
    ⟨some 82, none, .mov (.t 11)⟩,
    ⟨some 83, none, .iaddr 1 (.t 81) (.t 82)⟩,
    ⟨some 84, none, .load 1 false (.t 83)⟩,
    ⟨some 85, none, .iaddr 1 (.t 79) (.t 80)⟩,
    ⟨none, none, .store 1 (.t 85) (.t 84)⟩] [0, 1, 2, 3, 4, 5, 6, 7, 8, 9, 10, 11, 12, 13, 14, 15, 16, 17, 18, 19, 20, 21, 22, 23] []))
   (.region [⟨some 61, none, .mov (.t 11)⟩,
    ⟨some 62, none, .bin .add (.t 61) (.c (.int .i64 1))⟩,
    ⟨some 11, none, .mov (.t 62)⟩]))))))))))
   (.region [⟨some 20, none, .mov (.t 7)⟩,
    ⟨some 21, none, .bin .add (.t 20) (.c (.int .i64 1))⟩,
    ⟨some 7, none, .mov (.t 21)⟩]))))))
   (.seq (.region [⟨some 86, none, .load 4 true (.t 5)⟩,
    ⟨none, none, .store 4 (.t 4) (.t 86)⟩])
   (.ret))))⟩
def ir69 : IFunc := ⟨10, [.tmp 5],
  .seq (.region [⟨some 4, none, .box 2 (.t 1)⟩,
    ⟨some 5, none, .mov (.c .nilsl)⟩])
   (.seq (.region [⟨some 6, none, .load 4 true (.t 2)⟩,
    ⟨some 7, none, .mov (.t 0)⟩,
    ⟨some 8, none, .load 2 true (.t 4)⟩,
    ⟨some 9, none, .call 58 [(.t 6), (.t 7), (.t 8)]⟩,
    ⟨some 5, none, .mov (.t 9)⟩])
   (.ret))⟩
def ir70 : IFunc := ⟨8, [.tmp 2],
  .seq (.region [⟨some 2, none, .mov (.c .nilsl)⟩])
   (.seq (.seq (.region [⟨some 3, none, .mov (.t 0)⟩,
    ⟨some 4, none, .eqn 0 false (.t 3)⟩])
   (.cond (.t 4) (.seq (.region [⟨some 2, none, .mov (.c .nilsl)⟩])
   (.ret)) (.skip)))
   (.seq (.region [⟨some 5, none, .rlit 0 1 [(.int .u64 0)] []⟩,
    ⟨some 6, none, .mov (.t 0)⟩,
    ⟨some 7, none, .append 1 8 (.t 5) (.t 6)⟩,
    ⟨some 2, none, .mov (.t 7)⟩])
   (.ret)))⟩
def ir71 : IFunc := ⟨103, [.cell 2 4 true],
  .seq (.region [⟨some 1, none, .box 4 (.t 0)⟩,
    ⟨some 2, none, .alloc [(.int .i64 0), (.int .i64 0), (.int .i64 0), .nilsl]⟩])
   (.seq (.region [⟨some 10, none, .faddr 0 (.t 1)⟩,
    ⟨some 11, none, .load 1 false (.t 10)⟩,
    ⟨some 12, none, .faddr 1 (.t 1)⟩,
    ⟨some 13, none, .load 1 false (.t 12)⟩,
    ⟨some 14, none, .faddr 2 (.t 1)⟩,
    ⟨some 15, none, .load 1 false (.t 14)⟩,
    ⟨some 16, none, .build [(.int .i64 0), (.int .i64 0), (.int .i64 0), .nilsl] [(0, 1, (.t 11)), (1, 1, (.t 13)), (2, 1, (.t 15))]⟩,
    ⟨some 3, none, .alloc [(.int .i64 0), (.int .i64 0), (.int .i64 0), .nilsl]⟩,
    ⟨none, none, .store 4 (.t 3) (.t 16)⟩])
   (.seq (.seq (.region [⟨some 4, none, .mov (.c (.int .i64 0))⟩])
   (.block 0 (.loop (.seq (.seq (.region [⟨some 17, none, .mov (.t 4)⟩,
    ⟨some 18, none, .faddr 3 (.t 1)⟩,
    ⟨some 19, none, .load 1 false (.t 18)⟩,
    ⟨some 20, none, .len (.t 19)⟩,
    ⟨some 21, none, .bin .lss (.t 17) (.t 20)⟩])
   (.cond (.t 21) (.skip) (.exit 0)))
   (.seq (.block 1 (.seq (.region [⟨some 24, none, .build [.nilsl, .nilsl] []⟩,
    ⟨some 5, none, .alloc [.nilsl, .nilsl]⟩,
    ⟨none, none, .store 2 (.t 5) (.t 24)⟩])
   (.seq (.seq (.region [⟨some 6, none, .mov (.c (.int .i64 0))⟩])
   (.block 2 (.loop (.seq (.seq (.region [⟨some 25, none, .mov (.t 6)⟩,
    ⟨some 26, none, .faddr 3 (.t 1)⟩,
    ⟨some 27, none, .load 1 false (.t 26)⟩,
    ⟨some 28, none, .mov (.t 4)⟩,
    ⟨some 29, none, .iaddr 2 (.t 27) (.t 28)⟩,
    ⟨some 30, none, .faddr 1 (.t 29)⟩,
    ⟨some 31, none, .load 1 false (.t 30)⟩,
    ⟨some 32, none, .len (.t 31)⟩,
    ⟨some 33, none, .bin .lss (.t 25) (.t 32)⟩])
   (.cond (.t 33) (.skip) (.exit 2)))
   (.seq (.block 3 (.draw [⟨some 36, none, .faddr 1 (.t 5)⟩,
    ⟨some 37, none, .load 1 false (.t 36)⟩,
    ⟨some 38, none, .faddr 3 (.t 1)⟩,
    ⟨some 39, none, .load 1 false (.t 38)⟩,
    ⟨some 40, none, .mov (.t 4)⟩,
    ⟨some 41, none, .iaddr 2 (.t 39) (.t 40)⟩,
    ⟨some 42, none, .faddr 1 (.t 41)⟩,
    ⟨some 43, none, .load 1 false (.t 42)⟩,
    ⟨some 44, none, .mov (.t 6)⟩,
    ⟨some 45, none, .iaddr 1 (.t 43) (.t 44)⟩,
    ⟨some 46, none, .load 1 false (.t 45)⟩,
    ⟨some 47, none, .tlit 1 1 [(.int .u64 0)] [(0, 1, (.t 46))]⟩,
    ⟨some 48, none, .append 1 8 (.t 37) (.t 47)⟩,
    ⟨some 49, none, .faddr 1 (.t 5)⟩,
    ⟨none, none, .store 1 (.t 49) (.t 48)⟩] [0, 1, 2, 3, 4, 5, 6, 7, 8, 9, 10, 11, 12, 13, 14] []))
   (.region [⟨some 34, none, .mov (.t 6)⟩,
    ⟨some 35, none, .bin .add (.t 34) (.c (.int .i64 1))⟩,
    ⟨some 6, none, .mov (.t 35)⟩]))))))
   (.seq (.seq (.region [⟨some 7, none, .mov (.c (.int .i64 0))⟩])
   (.block 4 (.loop (.seq (.seq (.region [⟨some 50, none, .mov (.t 7)⟩,
    ⟨some 51, none, .faddr 3 (.t 1)⟩,
    ⟨some 52, none, .load 1 false (.t 51)⟩,
    ⟨some 53, none, .mov (.t 4)⟩,
    ⟨some 54, none, .iaddr 2 (.t 52) (.t 53)⟩,
    ⟨some 55, none, .faddr 0 (.t 54)⟩,
    ⟨some 56, none, .load 1 false (.t 55)⟩,
    ⟨some 57, none, .len (.t 56)⟩,
    ⟨some 58, none, .bin .lss (.t 50) (.t 57)⟩])
   (.cond (.t 58) (.skip) (.exit 4)))
   (.seq (.block 5 (.seq (.region [⟨some 8, none, .mov (.c .nilsl)⟩])
   (.seq (.seq (.region [⟨some 9, none, .mov (.c (.int .i64 0))⟩])
   (.block 6 (.loop (.seq (.seq (.region [⟨some 61, none, .mov (.t 9)⟩,
    ⟨some 62, none, .faddr 3 (.t 1)⟩,
    ⟨some 63, none, .load 1 false (.t 62)⟩,
    ⟨some 64, none, .mov (.t 4)⟩,
    ⟨some 65, none, .iaddr 2 (.t 63) (.t 64)⟩,
    ⟨some 66, none, .faddr 0 (.t 65)⟩,
    ⟨some 67, none, .load 1 false (.t 66)⟩,
    ⟨some 68, none, .mov (.t 7)⟩,
    ⟨some 69, none, .iaddr 1 (.t 67) (.t 68)⟩,
    ⟨some 70, none, .load 1 false (.t 69)⟩,
    ⟨some 71, none, .len (.t 70)⟩,
    ⟨some 72, none, .bin .lss (.t 61) (.t 71)⟩])
   (.cond (.t 72) (.skip) (.exit 6)))
   (.seq (.block 7 (.region [⟨some 75, none, .mov (.t 8)⟩,
    ⟨some 76, none, .faddr 3 (.t 1)⟩,
    ⟨some 77, none, .load 1 false (.t 76)⟩,
    ⟨some 78, none, .mov (.t 4)⟩,
    ⟨some 79, none, .iaddr 2 (.t 77) (.t 78)⟩,
    ⟨some 80, none, .faddr 0 (.t 79)⟩,
    ⟨some 81, none, .load 1 false (.t 80)⟩,
    ⟨some 82, none, .mov (.t 7)⟩,
    ⟨some 83, none, .iaddr 1 (.t 81) (.t 82)⟩,
    ⟨some 84, none, .load 1 false (.t 83)⟩,
    ⟨some 85, none, .mov (.t 9)⟩,
    ⟨some 86, none, .iaddr 1 (.t 84) (.t 85)⟩,
    ⟨some 87, none, .load 1 false (.t 86)⟩,
    ⟨some 88, none, .tlit 1 1 [(.int .i64 0)] [(0, 1, (.t 87))]⟩,
    ⟨some 89, none, .append 1 8 (.t 75) (.t 88)⟩,
    ⟨some 8, none, .mov (.t 89)⟩]))
   (.region [⟨some 73, none, .mov (.t 9)⟩,
    ⟨some 74, none, .bin .add (.t 73) (.c (.int .i64 1))⟩,
    ⟨some 9, none, .mov (.t 74)⟩]))))))
   (.region [⟨some 90, none, .faddr 0 (.t 5)⟩,
    ⟨some 91, none, .load 1 false (.t 90)⟩,
    ⟨some 92, none, .mov (.t 8)⟩,
    ⟨some 93, none, .tlit 1 1 [.nilsl] [(0, 1, (.t 92))]⟩,
    ⟨some 94, none, .append 1 24 (.t 91) (.t 93)⟩,
    ⟨some 95, none, .faddr 0 (.t 5)⟩,
    ⟨none, none, .store 1 (.t 95) (.t 94)⟩]))))
   (.region [⟨some 59, none, .mov (.t 7)⟩,
    ⟨some 60, none, .bin .add (.t 59) (.c (.int .i64 1))⟩,
    ⟨some 7, none, .mov (.t 60)⟩]))))))
   (.region [⟨some 96, none, .faddr 3 (.t 3)⟩,
    ⟨some 97, none, .load 1 false (.t 96)⟩,
    ⟨some 98, none, .load 2 true (.t 5)⟩,
    ⟨some 99, none, .tlit 1 2 [.nilsl, .nilsl] [(0, 2, (.t 98))]⟩,
    ⟨some 100, none, .append 2 48 (.t 97) (.t 99)⟩,
    ⟨some 101, none, .faddr 3 (.t 3)⟩,
    ⟨none, none, .store 1 (.t 101) (.t 100)⟩])))))
   (.region [⟨some 22, none, .mov (.t 4)⟩,
    ⟨some 23, none, .bin .add (.t 22) (.c (.int .i64 1))⟩,
    ⟨some 4, none, .mov (.t 23)⟩]))))))
   (.seq (.region [⟨some 102, none, .load 4 true (.t 3)⟩,
    ⟨none, none, .store 4 (.t 2) (.t 102)⟩])
   (.ret))))⟩
def ir72 : IFunc := ⟨89, [.tmp 4],
  .seq (.region [⟨some 2, none, .box 2 (.t 0)⟩,
    ⟨some 3, none, .box 2 (.t 1)⟩,
    ⟨some 4, none, .mov (.c (.bool false))⟩])
   (.seq (.seq (.region [⟨some 8, none, .faddr 1 (.t 2)⟩,
    ⟨some 9, none, .load 1 false (.t 8)⟩,
    ⟨some 10, none, .len (.t 9)⟩,
    ⟨some 11, none, .faddr 1 (.t 3)⟩,
    ⟨some 12, none, .load 1 false (.t 11)⟩,
    ⟨some 13, none, .len (.t 12)⟩,
    ⟨some 14, none, .bin .neq (.t 10) (.t 13)⟩,
    ⟨some 15, none, .mov (.t 14)⟩,
    ⟨some 16, some (7, false), .faddr 0 (.t 2)⟩,
    ⟨some 17, some (7, false), .load 1 false (.t 16)⟩,
    ⟨some 18, some (7, false), .len (.t 17)⟩,
    ⟨some 19, some (7, false), .faddr 0 (.t 3)⟩,
    ⟨some 20, some (7, false), .load 1 false (.t 19)⟩,
    ⟨some 21, some (7, false), .len (.t 20)⟩,
    ⟨some 22, some (7, false), .bin .neq (.t 18) (.t 21)⟩,
    ⟨some 23, none, .pick (.t 15) (.c (.bool true)) (.t 22)⟩])
   (.cond (.t 23) (.seq (.region [⟨some 4, none, .mov (.c (.bool false))⟩])
   (.ret)) (.skip)))
   (.seq (.seq (.region [⟨some 5, none, .mov (.c (.int .i64 0))⟩])
   (.block 0 (.loop (.seq (.seq (.region [⟨some 24, none, .mov (.t 5)⟩,
    ⟨some 25, none, .faddr 1 (.t 2)⟩,
    ⟨some 26, none, .load 1 false (.t 25)⟩,
    ⟨some 27, none, .len (.t 26)⟩,
    ⟨some 28, none, .bin .lss (.t 24) (.t 27)⟩])
   (.cond (.t 28) (.skip) (.exit 0)))
   (.seq (.block 1 (.seq (.draw [⟨some 31, none, .faddr 1 (.t 2)⟩,
    ⟨some 32, none, .load 1 false (.t 31)⟩,
    ⟨some 33, none, .mov (.t 5)⟩,
    ⟨some 34, none, .iaddr 1 (.t 32) (.t 33)⟩,
    ⟨some 35, none, .load 1 false (.t 34)⟩,
    ⟨some 36, none, .faddr 1 (.t 3)⟩,
    ⟨some 37, none, .load 1 false (.t 36)⟩,
    ⟨some 38, none, .mov (.t 5)⟩,
    ⟨some 39, none, .iaddr 1 (.t 37) (.t 38)⟩,
    ⟨some 40, none, .load 1 false (.t 39)⟩,
    ⟨some 41, none, .bin .neq (.t 35) (.t 40)⟩] [0, 1, 2, 3, 4, 5, 6, 7, 8, 9, 10] [])
   (.cond (.t 41) (.seq (.region [⟨some 4, none, .mov (.c (.bool false))⟩])
   (.ret)) (.skip))))
   (.region [⟨some 29, none, .mov (.t 5)⟩,
    ⟨some 30, none, .bin .add (.t 29) (.c (.int .i64 1))⟩,
    ⟨some 5, none, .mov (.t 30)⟩]))))))
   (.seq (.seq (.region [⟨some 6, none, .mov (.c (.int .i64 0))⟩])
   (.block 2 (.loop (.seq (.seq (.region [⟨some 42, none, .mov (.t 6)⟩,
    ⟨some 43, none, .faddr 0 (.t 2)⟩,
    ⟨some 44, none, .load 1 false (.t 43)⟩,
    ⟨some 45, none, .len (.t 44)⟩,
    ⟨some 46, none, .bin .lss (.t 42) (.t 45)⟩])
   (.cond (.t 46) (.skip) (.exit 2)))
   (.seq (.block 3 (.seq (.seq (.draw [⟨some 49, none, .faddr 0 (.t 2)⟩,
    ⟨some 50, none, .load 1 false (.t 49)⟩,
    ⟨some 51, none, .mov (.t 6)⟩,
    ⟨some 52, none, .iaddr 1 (.t 50) (.t 51)⟩,
    ⟨some 53, none, .load 1 false (.t 52)⟩,
    ⟨some 54, none, .len (.t 53)⟩,
    ⟨some 55, none, .faddr 0 (.t 3)⟩,
    ⟨some 56, none, .load 1 false (.t 55)⟩,
    ⟨some 57, none, .mov (.t 6)⟩,
    ⟨some 58, none, .iaddr 1 (.t 56) (.t 57)⟩,
    ⟨some 59, none, .load 1 false (.t 58)⟩,
    ⟨some 60, none, .len (.t 59)⟩,
    ⟨some 61, none, .bin .neq (.t 54) (.t 60)⟩] [0, 1, 2, 3, 4, 5, 6, 7, 8, 9, 10, 11, 12] [])
   (.cond (.t 61) (.seq (.region [⟨some 4, none, .mov (.c (.bool false))⟩])
   (.ret)) (.skip)))
   (.seq (.region [⟨some 7, none, .mov (.c (.int .i64 0))⟩])
   (.block 4 (.loop (.seq (.seq (.region [⟨some 62, none, .mov (.t 7)⟩,
    ⟨some 63, none, .faddr 0 (.t 2)⟩,
    ⟨some 64, none, .load 1 false (.t 63)⟩,
    ⟨some 65, none, .mov (.t 6)⟩,
    ⟨some 66, none, .iaddr 1 (.t 64) (.t 65)⟩,
    ⟨some 67, none, .load 1 false (.t 66)⟩,
    ⟨some 68, none, .len (.t 67)⟩,
    ⟨some 69, none, .bin .lss (.t 62) (.t 68)⟩])
   (.cond (.t 69) (.skip) (.exit 4)))
   (.seq (.block 5 (.seq (.draw [⟨some 72, none, .faddr 0 (.t 2)⟩,
    ⟨some 73, none, .load 1 false (.t 72)⟩,
    ⟨some 74, none, .mov (.t 6)⟩,
    ⟨some 75, none, .iaddr 1 (.t 73) (.t 74)⟩,
    ⟨some 76, none, .load 1 false (.t 75)⟩,
    ⟨some 77, none, .mov (.t 7)⟩,
    ⟨some 78, none, .iaddr 1 (.t 76) (.t 77)⟩,
    ⟨some 79, none, .load 1 false (.t 78)⟩,
    ⟨some 80, none, .faddr 0 (.t 3)⟩,
    ⟨some 81, none, .load 1 false (.t 80)⟩,
    ⟨some 82, none, .mov (.t 6)⟩,
    ⟨some 83, none, .iaddr 1 (.t 81) (.t 82)⟩,
    ⟨some 84, none, .load 1 false (.t 83)⟩,
    ⟨some 85, none, .mov (.t 7)⟩,
    ⟨some 86, none, .iaddr 1 (.t 84) (.t 85)⟩,
    ⟨some 87, none, .load 1 false (.t 86)⟩,
    ⟨some 88, none, .bin .neq (.t 79) (.t 87)⟩] [0, 1, 2, 3, 4, 5, 6, 7, 8, 9, 10, 11, 12, 13, 14, 15, 16] [])
   (.cond (.t 88) (.seq (.region [⟨some 4, none, .mov (.c (.bool false))⟩])
   (.ret)) (.skip))))
   (.region [⟨some 70, none, .mov (.t 7)⟩,
    ⟨some 71, none, .bin .add (.t 70) (.c (.int .i64 1))⟩,
    ⟨some 7, none, .mov (.t 71)⟩]))))))))
   (.region [⟨some 47, none, .mov (.t 6)⟩,
    ⟨some 48, none, .bin .add (.t 47) (.c (.int .i64 1))⟩,
    ⟨some 6, none, .mov (.t 48)⟩]))))))
   (.seq (.region [⟨some 4, none, .mov (.c (.bool true))⟩])
   (.ret)))))⟩
def ir96 : IFunc := ⟨14, [],
  .seq (.region [⟨some 5, none, .mov (.t 0)⟩,
    ⟨some 6, none, .len (.t 5)⟩,
    ⟨some 4, none, .mov (.t 6)⟩])
   (.region [⟨some 7, none, .mov (.t 0)⟩,
    ⟨some 8, none, .mov (.t 4)⟩,
    ⟨some 9, none, .mov (.t 4)⟩,
    ⟨some 10, none, .conv .u64 (.t 9)⟩,
    ⟨some 11, none, .call 127 [(.t 10)]⟩,
    ⟨some 12, none, .mov (.t 1)⟩,
    ⟨some 13, none, .call 126 [(.t 7), (.c (.int .i64 0)), (.t 8), (.t 11), (.t 12)]⟩])⟩
def ir97 : IFunc := ⟨15, [.tmp 4],
  .seq (.region [⟨some 4, none, .mov (.c (.int .i64 0))⟩])
   (.seq (.region [⟨some 5, none, .mov (.t 0)⟩,
    ⟨some 6, none, .len (.t 5)⟩,
    ⟨some 7, none, .mov (.t 1)⟩,
    ⟨some 8, none, .len (.t 7)⟩,
    ⟨some 9, none, .call 129 [(.t 6), (.t 8)]⟩,
    ⟨some 10, none, .mov (.t 0)⟩,
    ⟨some 11, none, .mov (.t 1)⟩,
    ⟨some 12, none, .call 130 [(.t 10), (.t 11)]⟩,
    ⟨some 13, none, .rlit 2 1 [(.int .i64 0)] [(0, 1, (.t 9)), (1, 1, (.t 12))]⟩,
    ⟨some 14, none, .call 128 [(.t 13)]⟩,
    ⟨some 4, none, .mov (.t 14)⟩])
   (.ret))⟩
def ir98 : IFunc := ⟨66, [.tmp 4],
  .seq (.region [⟨some 4, none, .mov (.c .nilsl)⟩])
   (.seq (.seq (.region [⟨some 8, none, .mov (.t 0)⟩,
    ⟨some 9, none, .len (.t 8)⟩,
    ⟨some 10, none, .bin .lss (.t 9) (.c (.int .i64 2))⟩])
   (.cond (.t 10) (.seq (.region [⟨some 11, none, .mov (.t 0)⟩,
    ⟨some 4, none, .mov (.t 11)⟩])
   (.ret)) (.skip)))
   (.seq (.seq (.region [⟨some 5, none, .mov (.c (.int .i64 1))⟩])
   (.block 0 (.loop (.seq (.seq (.region [⟨some 12, none, .mov (.t 5)⟩,
    ⟨some 13, none, .mov (.t 0)⟩,
    ⟨some 14, none, .len (.t 13)⟩,
    ⟨some 15, none, .bin .lss (.t 12) (.t 14)⟩])
   (.cond (.t 15) (.skip) (.exit 0)))
   (.seq (.block 1 (.seq (.draw [⟨some 18, none, .mov (.t 1)⟩,
    ⟨some 19, none, .mov (.t 0)⟩,
    ⟨some 20, none, .mov (.t 5)⟩,
    ⟨some 21, none, .iaddr 1 (.t 19) (.t 20)⟩,
    ⟨some 22, none, .load 1 false (.t 21)⟩,
    ⟨some 23, none, .mov (.t 0)⟩,
    ⟨some 24, none, .mov (.t 5)⟩,
    ⟨some 25, none, .bin .sub (.t 24) (.c (.int .i64 1))⟩,
    ⟨some 26, none, .iaddr 1 (.t 23) (.t 25)⟩,
    ⟨some 27, none, .load 1 false (.t 26)⟩,
    ⟨some 28, none, .dyn (.t 18) [(.t 22), (.t 27)]⟩] [0, 1, 2, 3, 4, 5, 6, 7, 8, 9, 10] [])
   (.cond (.t 28) (.seq (.region [⟨some 29, none, .mov (.t 0)⟩,
    ⟨some 30, none, .mov (.t 5)⟩,
    ⟨some 31, none, .slice 1 (.t 29) (some (.t 30)) none⟩,
    ⟨some 6, none, .mov (.t 31)⟩])
   (.seq (.seq (.region [⟨some 7, none, .mov (.c (.int .i64 1))⟩])
   (.block 2 (.loop (.seq (.seq (.region [⟨some 32, none, .mov (.t 7)⟩,
    ⟨some 33, none, .mov (.t 6)⟩,
    ⟨some 34, none, .len (.t 33)⟩,
    ⟨some 35, none, .bin .lss (.t 32) (.t 34)⟩])
   (.cond (.t 35) (.skip) (.exit 2)))
   (.seq (.block 3 (.seq (.draw [⟨some 38, none, .mov (.t 1)⟩,
    ⟨some 39, none, .mov (.t 6)⟩,
    ⟨some 40, none, .mov (.t 7)⟩,
    ⟨some 41, none, .iaddr 1 (.t 39) (.t 40)⟩,
    ⟨some 42, none, .load 1 false (.t 41)⟩,
    ⟨some 43, none, .mov (.t 6)⟩,
    ⟨some 44, none, .mov (.t 7)⟩,
    ⟨some 45, none, .bin .sub (.t 44) (.c (.int .i64 1))⟩,
    ⟨some 46, none, .iaddr 1 (.t 43) (.t 45)⟩,
    ⟨some 47, none, .load 1 false (.t 46)⟩,
    ⟨some 48, none, .dyn (.t 38) [(.t 42), (.t 47)]⟩,
    ⟨some 49, none, .un .not (.t 48)⟩] [0, 1, 2, 3, 4, 5, 6, 7, 8, 9, 10, 11] [])
   (.cond (.t 49) (.seq (.region [⟨some 50, none, .mov (.t 0)⟩,
    ⟨some 51, none, .mov (.t 5)⟩,
    ⟨some 52, none, .mov (.t 6)⟩,
    ⟨some 53, none, .mov (.t 7)⟩,
    ⟨some 54, none, .iaddr 1 (.t 52) (.t 53)⟩,
    ⟨some 55, none, .load 1 false (.t 54)⟩,
    ⟨some 56, none, .iaddr 1 (.t 50) (.t 51)⟩,
    ⟨none, none, .store 1 (.t 56) (.t 55)⟩])
   (.region [⟨some 57, none, .mov (.t 5)⟩,
    ⟨some 58, none, .bin .add (.t 57) (.c (.int .i64 1))⟩,
    ⟨some 5, none, .mov (.t 58)⟩])) (.skip))))
   (.region [⟨some 36, none, .mov (.t 7)⟩,
    ⟨some 37, none, .bin .add (.t 36) (.c (.int .i64 1))⟩,
    ⟨some 7, none, .mov (.t 37)⟩]))))))
   (.seq (.region [⟨some 59, none, .mov (.t 0)⟩,
    ⟨some 60, none, .mov (.t 5)⟩,
    ⟨some 61, none, .slice 1 (.t 59) (some (.t 60)) none⟩,
    ⟨none, none, .clear 1 [.nilsl] (.t 61)⟩])
   (.seq (.region [⟨some 62, none, .mov (.t 0)⟩,
    ⟨some 63, none, .mov (.t 5)⟩,
    ⟨some 64, none, .slice 1 (.t 62) none (some (.t 63))⟩,
    ⟨some 4, none, .mov (.t 64)⟩])
   (.ret))))) (.skip))))
   (.region [⟨some 16, none, .mov (.t 5)⟩,
    ⟨some 17, none, .bin .add (.t 16) (.c (.int .i64 1))⟩,
    ⟨some 5, none, .mov (.t 17)⟩]))))))
   (.seq (.region [⟨some 65, none, .mov (.t 0)⟩,
    ⟨some 4, none, .mov (.t 65)⟩])
   (.ret))))⟩
def ir99 : IFunc := ⟨8, [.tmp 4],
  .seq (.region [⟨some 4, none, .mov (.c (.bool false))⟩])
   (.seq (.region [⟨some 5, none, .mov (.t 0)⟩,
    ⟨some 6, none, .mov (.t 1)⟩,
    ⟨some 7, none, .call 59 [(.t 5), (.t 6)]⟩,
    ⟨some 4, none, .mov (.t 7)⟩])
   (.ret))⟩
def ir100 : IFunc := ⟨49, [.tmp 6, .tmp 7],
  .seq (.region [⟨some 6, none, .mov (.c (.int .i64 0))⟩,
    ⟨some 7, none, .mov (.c (.bool false))⟩])
   (.seq (.region [⟨some 12, none, .mov (.t 0)⟩,
    ⟨some 13, none, .len (.t 12)⟩,
    ⟨some 8, none, .mov (.t 13)⟩])
   (.seq (.region [⟨some 14, none, .mov (.t 8)⟩,
    ⟨some 9, none, .mov (.c (.int .i64 0))⟩,
    ⟨some 10, none, .mov (.t 14)⟩])
   (.seq (.block 0 (.loop (.seq (.seq (.region [⟨some 15, none, .mov (.t 9)⟩,
    ⟨some 16, none, .mov (.t 10)⟩,
    ⟨some 17, none, .bin .lss (.t 15) (.t 16)⟩])
   (.cond (.t 17) (.skip) (.exit 0)))
   (.block 1 (.seq (.region [⟨some 18, none, .mov (.t 9)⟩,
    ⟨some 19, none, .mov (.t 10)⟩,
    ⟨some 20, none, .bin .add (.t 18) (.t 19)⟩,
    ⟨some 21, none, .conv .u64 (.t 20)⟩,
    ⟨some 22, none, .bin .shr (.t 21) (.c (.int .u64 1))⟩,
    ⟨some 23, none, .conv .i64 (.t 22)⟩,
    ⟨some 11, none, .mov (.t 23)⟩])
   (.seq (.region [⟨some 24, none, .mov (.t 2)⟩,
    ⟨some 25, none, .mov (.t 0)⟩,
    ⟨some 26, none, .mov (.t 11)⟩,
    ⟨some 27, none, .iaddr 1 (.t 25) (.t 26)⟩,
    ⟨some 28, none, .load 1 false (.t 27)⟩,
    ⟨some 29, none, .mov (.t 1)⟩,
    ⟨some 30, none, .dyn (.t 24) [(.t 28), (.t 29)]⟩,
    ⟨some 31, none, .bin .lss (.t 30) (.c (.int .i64 0))⟩])
   (.cond (.t 31) (.region [⟨some 32, none, .mov (.t 11)⟩,
    ⟨some 33, none, .bin .add (.t 32) (.c (.int .i64 1))⟩,
    ⟨some 9, none, .mov (.t 33)⟩]) (.region [⟨some 34, none, .mov (.t 11)⟩,
    ⟨some 10, none, .mov (.t 34)⟩]))))))))
   (.seq (.region [⟨some 35, none, .mov (.t 9)⟩,
    ⟨some 36, none, .mov (.t 9)⟩,
    ⟨some 37, none, .mov (.t 8)⟩,
    ⟨some 38, none, .bin .lss (.t 36) (.t 37)⟩,
    ⟨some 39, none, .mov (.t 38)⟩,
    ⟨some 40, some (4, true), .mov (.t 2)⟩,
    ⟨some 41, some (4, true), .mov (.t 0)⟩,
    ⟨some 42, some (4, true), .mov (.t 9)⟩,
    ⟨some 43, some (4, true), .iaddr 1 (.t 41) (.t 42)⟩,
    ⟨some 44, some (4, true), .load 1 false (.t 43)⟩,
    ⟨some 45, some (4, true), .mov (.t 1)⟩,
    ⟨some 46, some (4, true), .dyn (.t 40) [(.t 44), (.t 45)]⟩,
    ⟨some 47, some (4, true), .bin .eql (.t 46) (.c (.int .i64 0))⟩,
    ⟨some 48, none, .pick (.t 39) (.t 47) (.c (.bool false))⟩,
    ⟨some 6, none, .mov (.t 35)⟩,
    ⟨some 7, none, .mov (.t 48)⟩])
   (.ret)))))⟩
def ir101 : IFunc := ⟨40, [.tmp 6],
  .seq (.region [⟨some 3, none, .box 4 (.t 0)⟩,
    ⟨some 5, none, .box 2 (.t 2)⟩,
    ⟨some 6, none, .mov (.c .nilsl)⟩])
   (.seq (.region [⟨some 7, none, .mov (.c .nilsl)⟩])
   (.seq (.seq (.region [⟨some 8, none, .mov (.c (.int .i64 0))⟩])
   (.block 0 (.loop (.seq (.seq (.region [⟨some 10, none, .mov (.t 8)⟩,
    ⟨some 11, none, .faddr 1 (.t 5)⟩,
    ⟨some 12, none, .load 1 false (.t 11)⟩,
    ⟨some 13, none, .bin .leq (.t 10) (.t 12)⟩])
   (.cond (.t 13) (.skip) (.exit 0)))
   (.seq (.block 1 (.seq (.region [⟨some 16, none, .load 4 true (.t 3)⟩,
    ⟨some 17, none, .mov (.t 1)⟩,
    ⟨some 18, none, .faddr 0 (.t 5)⟩,
    ⟨some 19, none, .load 1 false (.t 18)⟩,
    ⟨some 20, none, .mov (.t 8)⟩,
    ⟨some 21, none, .build [(.int .i64 0), (.int .i64 0)] [(0, 1, (.t 19)), (1, 1, (.t 20))]⟩,
    ⟨some 22, none, .call 76 [(.t 16), (.t 17), (.t 21)]⟩,
    ⟨some 9, none, .mov (.t 22)⟩])
   (.seq (.region [⟨some 23, none, .mov (.t 8)⟩,
    ⟨some 24, none, .bin .eql (.t 23) (.c (.int .i64 0))⟩,
    ⟨some 25, none, .mov (.t 24)⟩,
    ⟨some 26, some (2, false), .mov (.t 9)⟩,
    ⟨some 27, some (2, false), .mov (.t 7)⟩,
    ⟨some 28, some (2, false), .mov (.t 7)⟩,
    ⟨some 29, some (2, false), .len (.t 28)⟩,
    ⟨some 30, some (2, false), .bin .sub (.t 29) (.c (.int .i64 1))⟩,
    ⟨some 31, some (2, false), .iaddr 1 (.t 27) (.t 30)⟩,
    ⟨some 32, some (2, false), .load 1 false (.t 31)⟩,
    ⟨some 33, some (2, false), .bin .neq (.t 26) (.t 32)⟩,
    ⟨some 34, none, .pick (.t 25) (.c (.bool true)) (.t 33)⟩])
   (.cond (.t 34) (.region [⟨some 35, none, .mov (.t 7)⟩,
    ⟨some 36, none, .mov (.t 9)⟩,
    ⟨some 37, none, .tlit 1 1 [(.int .i64 0)] [(0, 1, (.t 36))]⟩,
    ⟨some 38, none, .append 1 8 (.t 35) (.t 37)⟩,
    ⟨some 7, none, .mov (.t 38)⟩]) (.skip)))))
   (.region [⟨some 14, none, .mov (.t 8)⟩,
    ⟨some 15, none, .bin .add (.t 14) (.c (.int .i64 1))⟩,
    ⟨some 8, none, .mov (.t 15)⟩]))))))
   (.seq (.region [⟨some 39, none, .mov (.t 7)⟩,
    ⟨some 6, none, .mov (.t 39)⟩])
   (.ret))))⟩
def ir102 : IFunc := ⟨85, [.tmp 2],
  .seq (.region [⟨some 2, none, .mov (.c .nilsl)⟩])
   (.seq (.region [⟨some 3, none, .mov (.c .nilsl)⟩])
   (.seq (.seq (.region [⟨some 4, none, .mov (.c (.int .i64 0))⟩])
   (.block 0 (.loop (.seq (.seq (.region [⟨some 11, none, .mov (.t 4)⟩,
    ⟨some 12, none, .mov (.t 0)⟩,
    ⟨some 13, none, .len (.t 12)⟩,
    ⟨some 14, none, .bin .lss (.t 11) (.t 13)⟩])
   (.cond (.t 14) (.skip) (.exit 0)))
   (.seq (.block 1 (.seq (.region [⟨some 5, none, .mov (.c (.bool false))⟩])
   (.seq (.seq (.region [⟨some 6, none, .mov (.c (.int .i64 0))⟩])
   (.block 2 (.loop (.seq (.seq (.region [⟨some 17, none, .mov (.t 6)⟩,
    ⟨some 18, none, .mov (.t 3)⟩,
    ⟨some 19, none, .len (.t 18)⟩,
    ⟨some 20, none, .bin .lss (.t 17) (.t 19)⟩])
   (.cond (.t 20) (.skip) (.exit 2)))
   (.seq (.block 3 (.draw [⟨some 23, none, .mov (.t 5)⟩,
    ⟨some 24, none, .mov (.t 23)⟩,
    ⟨some 25, some (1, false), .mov (.t 0)⟩,
    ⟨some 26, some (1, false), .mov (.t 4)⟩,
    ⟨some 27, some (1, false), .iaddr 1 (.t 25) (.t 26)⟩,
    ⟨some 28, some (1, false), .load 1 false (.t 27)⟩,
    ⟨some 29, some (1, false), .mov (.t 3)⟩,
    ⟨some 30, some (1, false), .mov (.t 6)⟩,
    ⟨some 31, some (1, false), .iaddr 1 (.t 29) (.t 30)⟩,
    ⟨some 32, some (1, false), .load 1 false (.t 31)⟩,
    ⟨some 33, some (1, false), .call 131 [(.t 28), (.t 32)]⟩,
    ⟨some 34, some (1, false), .un .not (.t 33)⟩,
    ⟨some 35, some (1, false), .mov (.t 34)⟩,
    ⟨some 36, some (12, true), .mov (.t 3)⟩,
    ⟨some 37, some (12, true), .mov (.t 6)⟩,
    ⟨some 38, some (12, true), .iaddr 1 (.t 36) (.t 37)⟩,
    ⟨some 39, some (12, true), .load 1 false (.t 38)⟩,
    ⟨some 40, some (12, true), .mov (.t 0)⟩,
    ⟨some 41, some (12, true), .mov (.t 4)⟩,
    ⟨some 42, some (12, true), .iaddr 1 (.t 40) (.t 41)⟩,
    ⟨some 43, some (12, true), .load 1 false (.t 42)⟩,
    ⟨some 44, some (12, true), .call 131 [(.t 39), (.t 43)]⟩,
    ⟨some 45, some (12, true), .un .not (.t 44)⟩,
    ⟨some 46, some (1, false), .pick (.t 35) (.t 45) (.c (.bool false))⟩,
    ⟨some 47, none, .pick (.t 24) (.c (.bool true)) (.t 46)⟩,
    ⟨some 5, none, .mov (.t 47)⟩] [0, 1, 2, 3, 4, 5, 6, 7, 8, 9, 10, 11, 12, 13, 14, 15, 16, 17, 18, 19, 20, 21, 22, 23, 24, 25] []))
   (.region [⟨some 21, none, .mov (.t 6)⟩,
    ⟨some 22, none, .bin .add (.t 21) (.c (.int .i64 1))⟩,
    ⟨some 6, none, .mov (.t 22)⟩]))))))
   (.seq (.region [⟨some 48, none, .mov (.t 5)⟩,
    ⟨some 49, none, .un .not (.t 48)⟩])
   (.cond (.t 49) (.region [⟨some 50, none, .mov (.t 3)⟩,
    ⟨some 51, none, .mov (.t 0)⟩,
    ⟨some 52, none, .mov (.t 4)⟩,
    ⟨some 53, none, .iaddr 1 (.t 51) (.t 52)⟩,
    ⟨some 54, none, .load 1 false (.t 53)⟩,
    ⟨some 55, none, .tlit 1 1 [.nilsl] [(0, 1, (.t 54))]⟩,
    ⟨some 56, none, .append 1 24 (.t 50) (.t 55)⟩,
    ⟨some 3, none, .mov (.t 56)⟩]) (.skip))))))
   (.region [⟨some 15, none, .mov (.t 4)⟩,
    ⟨some 16, none, .bin .add (.t 15) (.c (.int .i64 1))⟩,
    ⟨some 4, none, .mov (.t 16)⟩]))))))
   (.seq (.region [⟨some 7, none, .mov (.c .nilsl)⟩])
   (.seq (.seq (.region [⟨some 8, none, .mov (.c (.int .i64 0))⟩])
   (.block 4 (.loop (.seq (.seq (.region [⟨some 57, none, .mov (.t 8)⟩,
    ⟨some 58, none, .mov (.t 0)⟩,
    ⟨some 59, none, .len (.t 58)⟩,
    ⟨some 60, none, .bin .lss (.t 57) (.t 59)⟩])
   (.cond (.t 60) (.skip) (.exit 4)))
   (.seq (.block 5 (.seq (.region [⟨some 9, none, .mov (.c (.int .i64 0))⟩])
   (.seq (.seq (.region [⟨some 10, none, .mov (.c (.int .i64 0))⟩])
   (.block 6 (.loop (.seq (.seq (.region [⟨some 63, none, .mov (.t 10)⟩,
    ⟨some 64, none, .mov (.t 3)⟩,
    ⟨some 65, none, .len (.t 64)⟩,
    ⟨some 66, none, .bin .lss (.t 63) (.t 65)⟩])
   (.cond (.t 66) (.skip) (.exit 6)))
   (.seq (.block 7 (.seq (.draw [⟨some 69, none, .mov (.t 3)⟩,
    ⟨some 70, none, .mov (.t 10)⟩,
    ⟨some 71, none, .iaddr 1 (.t 69) (.t 70)⟩,
    ⟨some 72, none, .load 1 false (.t 71)⟩,
    ⟨some 73, none, .mov (.t 0)⟩,
    ⟨some 74, none, .mov (.t 8)⟩,
    ⟨some 75, none, .iaddr 1 (.t 73) (.t 74)⟩,
    ⟨some 76, none, .load 1 false (.t 75)⟩,
    ⟨some 77, none, .call 131 [(.t 72), (.t 76)]⟩] [0, 1, 2, 3, 4, 5, 6, 7, 8] [])
   (.cond (.t 77) (.region [⟨some 78, none, .mov (.t 9)⟩,
    ⟨some 79, none, .bin .add (.t 78) (.c (.int .i64 1))⟩,
    ⟨some 9, none, .mov (.t 79)⟩]) (.skip))))
   (.region [⟨some 67, none, .mov (.t 10)⟩,
    ⟨some 68, none, .bin .add (.t 67) (.c (.int .i64 1))⟩,
    ⟨some 10, none, .mov (.t 68)⟩]))))))
   (.region [⟨some 80, none, .mov (.t 7)⟩,
    ⟨some 81, none, .mov (.t 9)⟩,
    ⟨some 82, none, .tlit 1 1 [(.int .i64 0)] [(0, 1, (.t 81))]⟩,
    ⟨some 83, none, .append 1 8 (.t 80) (.t 82)⟩,
    ⟨some 7, none, .mov (.t 83)⟩]))))
   (.region [⟨some 61, none, .mov (.t 8)⟩,
    ⟨some 62, none, .bin .add (.t 61) (.c (.int .i64 1))⟩,
    ⟨some 8, none, .mov (.t 62)⟩]))))))
   (.seq (.region [⟨some 84, none, .mov (.t 7)⟩,
    ⟨some 2, none, .mov (.t 84)⟩])
   (.ret))))))⟩
def ir126 : IFunc := ⟨148, [],
  .seq (.region [⟨some 10, none, .mov (.c (.bool true))⟩])
   (.seq (.region [⟨some 11, none, .mov (.c (.bool true))⟩])
   (.block 0 (.loop (.block 1 (.seq (.region [⟨some 21, none, .mov (.t 2)⟩,
    ⟨some 22, none, .mov (.t 1)⟩,
    ⟨some 23, none, .bin .sub (.t 21) (.t 22)⟩,
    ⟨some 12, none, .mov (.t 23)⟩])
   (.seq (.seq (.region [⟨some 24, none, .mov (.t 12)⟩,
    ⟨some 25, none, .bin .leq (.t 24) (.c (.int .i64 12))⟩])
   (.cond (.t 25) (.seq (.region [⟨some 26, none, .mov (.t 0)⟩,
    ⟨some 27, none, .mov (.t 1)⟩,
    ⟨some 28, none, .mov (.t 2)⟩,
    ⟨some 29, none, .mov (.t 4)⟩,
    ⟨some 30, none, .call 150 [(.t 26), (.t 27), (.t 28), (.t 29)]⟩])
   (.ret)) (.skip)))
   (.seq (.seq (.region [⟨some 31, none, .mov (.t 3)⟩,
    ⟨some 32, none, .bin .eql (.t 31) (.c (.int .i64 0))⟩])
   (.cond (.t 32) (.seq (.region [⟨some 33, none, .mov (.t 0)⟩,
    ⟨some 34, none, .mov (.t 1)⟩,
    ⟨some 35, none, .mov (.t 2)⟩,
    ⟨some 36, none, .mov (.t 4)⟩,
    ⟨some 37, none, .call 151 [(.t 33), (.t 34), (.t 35), (.t 36)]⟩])
   (.ret)) (.skip)))
   (.seq (.seq (.region [⟨some 38, none, .mov (.t 10)⟩,
    ⟨some 39, none, .un .not (.t 38)⟩])
   (.cond (.t 39) (.seq (.region [⟨some 40, none, .mov (.t 0)⟩,
    ⟨some 41, none, .mov (.t 1)⟩,
    ⟨some 42, none, .mov (.t 2)⟩,
    ⟨some 43, none, .mov (.t 4)⟩,
    ⟨some 44, none, .call 152 [(.t 40), (.t 41), (.t 42), (.t 43)]⟩])
   (.region [⟨some 45, none, .mov (.t 3)⟩,
    ⟨some 46, none, .bin .sub (.t 45) (.c (.int .i64 1))⟩,
    ⟨some 3, none, .mov (.t 46)⟩])) (.skip)))
   (.seq (.region [⟨some 48, none, .mov (.t 0)⟩,
    ⟨some 49, none, .mov (.t 1)⟩,
    ⟨some 50, none, .mov (.t 2)⟩,
    ⟨some 51, none, .mov (.t 4)⟩,
    ⟨some 52, none, .call 153 [(.t 48), (.t 49), (.t 50), (.t 51)]⟩,
    ⟨some 47, none, .mov (.t 52)⟩,
    ⟨some 53, none, .extract (.t 47) 0⟩,
    ⟨some 54, none, .extract (.t 47) 1⟩,
    ⟨some 13, none, .mov (.t 53)⟩,
    ⟨some 14, none, .mov (.t 54)⟩])
   (.seq (.seq (.region [⟨some 55, none, .mov (.t 14)⟩,
    ⟨some 56, none, .bin .eql (.t 55) (.c (.int .i64 2))⟩])
   (.cond (.t 56) (.seq (.region [⟨some 57, none, .mov (.t 0)⟩,
    ⟨some 58, none, .mov (.t 1)⟩,
    ⟨some 59, none, .mov (.t 2)⟩,
    ⟨some 60, none, .mov (.t 4)⟩,
    ⟨some 61, none, .call 154 [(.t 57), (.t 58), (.t 59), (.t 60)]⟩])
   (.seq (.region [⟨some 62, none, .mov (.t 2)⟩,
    ⟨some 63, none, .bin .sub (.t 62) (.c (.int .i64 1))⟩,
    ⟨some 64, none, .mov (.t 13)⟩,
    ⟨some 65, none, .mov (.t 1)⟩,
    ⟨some 66, none, .bin .sub (.t 64) (.t 65)⟩,
    ⟨some 67, none, .bin .sub (.t 63) (.t 66)⟩,
    ⟨some 13, none, .mov (.t 67)⟩])
   (.region [⟨some 14, none, .mov (.c (.int .i64 1))⟩]))) (.skip)))
   (.seq (.seq (.region [⟨some 68, none, .mov (.t 10)⟩,
    ⟨some 69, none, .mov (.t 68)⟩,
    ⟨some 70, some (1, true), .mov (.t 11)⟩,
    ⟨some 71, none, .pick (.t 69) (.t 70) (.c (.bool false))⟩,
    ⟨some 72, none, .mov (.t 71)⟩,
    ⟨some 73, some (4, true), .mov (.t 14)⟩,
    ⟨some 74, some (4, true), .bin .eql (.t 73) (.c (.int .i64 1))⟩,
    ⟨some 75, none, .pick (.t 72) (.t 74) (.c (.bool false))⟩])
   (.cond (.t 75) (.seq (.region [⟨some 76, none, .mov (.t 0)⟩,
    ⟨some 77, none, .mov (.t 1)⟩,
    ⟨some 78, none, .mov (.t 2)⟩,
    ⟨some 79, none, .mov (.t 4)⟩,
    ⟨some 80, none, .call 155 [(.t 76), (.t 77), (.t 78), (.t 79)]⟩])
   (.cond (.t 80) (.ret) (.skip))) (.skip)))
   (.seq (.seq (.draw [⟨some 81, none, .mov (.t 1)⟩,
    ⟨some 82, none, .bin .gtr (.t 81) (.c (.int .i64 0))⟩,
    ⟨some 83, none, .mov (.t 82)⟩,
    ⟨some 84, some (2, true), .mov (.t 4)⟩,
    ⟨some 85, some (2, true), .mov (.t 0)⟩,
    ⟨some 86, some (2, true), .mov (.t 1)⟩,
    ⟨some 87, some (2, true), .bin .sub (.t 86) (.c (.int .i64 1))⟩,
    ⟨some 88, some (2, true), .iaddr 1 (.t 85) (.t 87)⟩,
    ⟨some 89, some (2, true), .load 1 false (.t 88)⟩,
    ⟨some 90, some (2, true), .mov (.t 0)⟩,
    ⟨some 91, some (2, true), .mov (.t 13)⟩,
    ⟨some 92, some (2, true), .iaddr 1 (.t 90) (.t 91)⟩,
    ⟨some 93, some (2, true), .load 1 false (.t 92)⟩,
    ⟨some 94, some (2, true), .dyn (.t 84) [(.t 89), (.t 93)]⟩,
    ⟨some 95, some (2, true), .bin .lss (.t 94) (.c (.int .i64 0))⟩,
    ⟨some 96, some (2, true), .un .not (.t 95)⟩,
    ⟨some 97, none, .pick (.t 83) (.t 96) (.c (.bool false))⟩] [0, 1, 2, 3, 4, 5, 6, 7, 8, 9, 10, 11, 12, 13, 14, 15, 16] [])
   (.cond (.t 97) (.seq (.region [⟨some 98, none, .mov (.t 0)⟩,
    ⟨some 99, none, .mov (.t 1)⟩,
    ⟨some 100, none, .mov (.t 2)⟩,
    ⟨some 101, none, .mov (.t 13)⟩,
    ⟨some 102, none, .mov (.t 4)⟩,
    ⟨some 103, none, .call 156 [(.t 98), (.t 99), (.t 100), (.t 101), (.t 102)]⟩,
    ⟨some 15, none, .mov (.t 103)⟩])
   (.seq (.region [⟨some 104, none, .mov (.t 15)⟩,
    ⟨some 1, none, .mov (.t 104)⟩])
   (.exit 1))) (.skip)))
   (.seq (.region [⟨some 106, none, .mov (.t 0)⟩,
    ⟨some 107, none, .mov (.t 1)⟩,
    ⟨some 108, none, .mov (.t 2)⟩,
    ⟨some 109, none, .mov (.t 13)⟩,
    ⟨some 110, none, .mov (.t 4)⟩,
    ⟨some 111, none, .call 157 [(.t 106), (.t 107), (.t 108), (.t 109), (.t 110)]⟩,
    ⟨some 105, none, .mov (.t 111)⟩,
    ⟨some 112, none, .extract (.t 105) 0⟩,
    ⟨some 113, none, .extract (.t 105) 1⟩,
    ⟨some 16, none, .mov (.t 112)⟩,
    ⟨some 17, none, .mov (.t 113)⟩])
   (.seq (.region [⟨some 114, none, .mov (.t 17)⟩,
    ⟨some 11, none, .mov (.t 114)⟩])
   (.seq (.region [⟨some 115, none, .mov (.t 16)⟩,
    ⟨some 116, none, .mov (.t 1)⟩,
    ⟨some 117, none, .bin .sub (.t 115) (.t 116)⟩,
    ⟨some 118, none, .mov (.t 2)⟩,
    ⟨some 119, none, .mov (.t 16)⟩,
    ⟨some 120, none, .bin .sub (.t 118) (.t 119)⟩,
    ⟨some 18, none, .mov (.t 117)⟩,
    ⟨some 19, none, .mov (.t 120)⟩])
   (.seq (.region [⟨some 121, none, .mov (.t 12)⟩,
    ⟨some 122, none, .bin .quo (.t 121) (.c (.int .i64 8))⟩,
    ⟨some 20, none, .mov (.t 122)⟩])
   (.seq (.region [⟨some 123, none, .mov (.t 18)⟩,
    ⟨some 124, none, .mov (.t 19)⟩,
    ⟨some 125, none, .bin .lss (.t 123) (.t 124)⟩])
   (.cond (.t 125) (.seq (.region [⟨some 126, none, .mov (.t 18)⟩,
    ⟨some 127, none, .mov (.t 20)⟩,
    ⟨some 128, none, .bin .geq (.t 126) (.t 127)⟩,
    ⟨some 10, none, .mov (.t 128)⟩])
   (.seq (.region [⟨some 129, none, .mov (.t 0)⟩,
    ⟨some 130, none, .mov (.t 1)⟩,
    ⟨some 131, none, .mov (.t 16)⟩,
    ⟨some 132, none, .mov (.t 3)⟩,
    ⟨some 133, none, .mov (.t 4)⟩,
    ⟨some 134, none, .call 126 [(.t 129), (.t 130), (.t 131), (.t 132), (.t 133)]⟩])
   (.region [⟨some 135, none, .mov (.t 16)⟩,
    ⟨some 136, none, .bin .add (.t 135) (.c (.int .i64 1))⟩,
    ⟨some 1, none, .mov (.t 136)⟩]))) (.seq (.region [⟨some 137, none, .mov (.t 19)⟩,
    ⟨some 138, none, .mov (.t 20)⟩,
    ⟨some 139, none, .bin .geq (.t 137) (.t 138)⟩,
    ⟨some 10, none, .mov (.t 139)⟩])
   (.seq (.region [⟨some 140, none, .mov (.t 0)⟩,
    ⟨some 141, none, .mov (.t 16)⟩,
    ⟨some 142, none, .bin .add (.t 141) (.c (.int .i64 1))⟩,
    ⟨some 143, none, .mov (.t 2)⟩,
    ⟨some 144, none, .mov (.t 3)⟩,
    ⟨some 145, none, .mov (.t 4)⟩,
    ⟨some 146, none, .call 126 [(.t 140), (.t 142), (.t 143), (.t 144), (.t 145)]⟩])
   (.region [⟨some 147, none, .mov (.t 16)⟩,
    ⟨some 2, none, .mov (.t 147)⟩])))))))))))))))))))))⟩
def ir127 : IFunc := ⟨8, [.tmp 2],
  .seq (.region [⟨some 2, none, .mov (.c (.int .i64 0))⟩])
   (.seq (.cond (.c (.bool false)) (.seq (.region [⟨some 3, none, .mov (.t 0)⟩,
    ⟨some 4, none, .conv .u32 (.t 3)⟩,
    ⟨some 5, none, .call 158 [(.t 4)]⟩,
    ⟨some 2, none, .mov (.t 5)⟩])
   (.ret)) (.skip))
   (.seq (.region [⟨some 6, none, .mov (.t 0)⟩,
    ⟨some 7, none, .call 159 [(.t 6)]⟩,
    ⟨some 2, none, .mov (.t 7)⟩])
   (.ret)))⟩
def ir128 : IFunc := ⟨18, [.tmp 2],
  .seq (.region [⟨some 2, none, .mov (.c (.int .i64 0))⟩])
   (.seq (.region [⟨some 3, none, .mov (.c (.int .i64 0))⟩])
   (.seq (.seq (.region [⟨some 6, none, .mov (.t 0)⟩,
    ⟨some 7, none, .len (.t 6)⟩,
    ⟨some 8, none, .mov (.c (.int .i64 0))⟩])
   (.block 0 (.loop (.seq (.region [⟨some 9, none, .bin .lss (.t 8) (.t 7)⟩])
   (.seq (.cond (.t 9) (.skip) (.exit 0))
   (.seq (.block 1 (.seq (.region [⟨some 10, none, .iaddr 1 (.t 6) (.t 8)⟩,
    ⟨some 11, none, .load 1 false (.t 10)⟩,
    ⟨some 5, none, .mov (.t 11)⟩])
   (.seq (.region [⟨some 12, none, .mov (.t 5)⟩,
    ⟨some 13, none, .mov (.t 3)⟩,
    ⟨some 14, none, .bin .neq (.t 12) (.t 13)⟩])
   (.cond (.t 14) (.seq (.region [⟨some 15, none, .mov (.t 5)⟩,
    ⟨some 2, none, .mov (.t 15)⟩])
   (.ret)) (.skip)))))
   (.region [⟨some 16, none, .bin .add (.t 8) (.c (.int .i64 1))⟩,
    ⟨some 8, none, .mov (.t 16)⟩])))))))
   (.seq (.region [⟨some 17, none, .mov (.t 3)⟩,
    ⟨some 2, none, .mov (.t 17)⟩])
   (.ret))))⟩
def ir129 : IFunc := ⟨20, [.tmp 4],
  .seq (.region [⟨some 4, none, .mov (.c (.int .i64 0))⟩])
   (.seq (.region [⟨some 7, none, .mov (.t 0)⟩,
    ⟨some 8, none, .call 160 [(.t 7)]⟩,
    ⟨some 5, none, .mov (.t 8)⟩])
   (.seq (.region [⟨some 9, none, .mov (.t 1)⟩,
    ⟨some 10, none, .call 160 [(.t 9)]⟩,
    ⟨some 6, none, .mov (.t 10)⟩])
   (.seq (.seq (.region [⟨some 11, none, .mov (.t 5)⟩])
   (.cond (.t 11) (.seq (.seq (.region [⟨some 12, none, .mov (.t 6)⟩])
   (.cond (.t 12) (.seq (.region [⟨some 4, none, .mov (.c (.int .i64 0))⟩])
   (.ret)) (.skip)))
   (.seq (.region [⟨some 4, none, .mov (.c (.int .i64 (-1)))⟩])
   (.ret))) (.skip)))
   (.seq (.seq (.region [⟨some 13, none, .mov (.t 6)⟩])
   (.cond (.t 13) (.seq (.region [⟨some 4, none, .mov (.c (.int .i64 1))⟩])
   (.ret)) (.skip)))
   (.seq (.seq (.region [⟨some 14, none, .mov (.t 0)⟩,
    ⟨some 15, none, .mov (.t 1)⟩,
    ⟨some 16, none, .bin .lss (.t 14) (.t 15)⟩])
   (.cond (.t 16) (.seq (.region [⟨some 4, none, .mov (.c (.int .i64 (-1)))⟩])
   (.ret)) (.skip)))
   (.seq (.seq (.region [⟨some 17, none, .mov (.t 0)⟩,
    ⟨some 18, none, .mov (.t 1)⟩,
    ⟨some 19, none, .bin .gtr (.t 17) (.t 18)⟩])
   (.cond (.t 19) (.seq (.region [⟨some 4, none, .mov (.c (.int .i64 1))⟩])
   (.ret)) (.skip)))
   (.seq (.region [⟨some 4, none, .mov (.c (.int .i64 0))⟩])
   (.ret))))))))⟩
def ir130 : IFunc := ⟨36, [.tmp 4],
  .seq (.region [⟨some 4, none, .mov (.c (.int .i64 0))⟩])
   (.seq (.seq (.region [⟨some 9, none, .mov (.t 0)⟩,
    ⟨some 10, none, .len (.t 9)⟩,
    ⟨some 11, none, .mov (.c (.int .i64 0))⟩])
   (.block 0 (.loop (.seq (.region [⟨some 12, none, .bin .lss (.t 11) (.t 10)⟩])
   (.seq (.cond (.t 12) (.skip) (.exit 0))
   (.seq (.block 1 (.seq (.region [⟨some 13, none, .mov (.t 11)⟩,
    ⟨some 14, none, .iaddr 1 (.t 9) (.t 11)⟩,
    ⟨some 15, none, .load 1 false (.t 14)⟩,
    ⟨some 5, none, .mov (.t 13)⟩,
    ⟨some 6, none, .mov (.t 15)⟩])
   (.seq (.seq (.region [⟨some 16, none, .mov (.t 5)⟩,
    ⟨some 17, none, .mov (.t 1)⟩,
    ⟨some 18, none, .len (.t 17)⟩,
    ⟨some 19, none, .bin .geq (.t 16) (.t 18)⟩])
   (.cond (.t 19) (.seq (.region [⟨some 4, none, .mov (.c (.int .i64 1))⟩])
   (.ret)) (.skip)))
   (.seq (.region [⟨some 20, none, .mov (.t 1)⟩,
    ⟨some 21, none, .mov (.t 5)⟩,
    ⟨some 22, none, .iaddr 1 (.t 20) (.t 21)⟩,
    ⟨some 23, none, .load 1 false (.t 22)⟩,
    ⟨some 7, none, .mov (.t 23)⟩])
   (.seq (.region [⟨some 24, none, .mov (.t 6)⟩,
    ⟨some 25, none, .mov (.t 7)⟩,
    ⟨some 26, none, .call 129 [(.t 24), (.t 25)]⟩,
    ⟨some 8, none, .mov (.t 26)⟩])
   (.seq (.region [⟨some 27, none, .mov (.t 8)⟩,
    ⟨some 28, none, .bin .neq (.t 27) (.c (.int .i64 0))⟩])
   (.cond (.t 28) (.seq (.region [⟨some 29, none, .mov (.t 8)⟩,
    ⟨some 4, none, .mov (.t 29)⟩])
   (.ret)) (.skip))))))))
   (.region [⟨some 30, none, .bin .add (.t 11) (.c (.int .i64 1))⟩,
    ⟨some 11, none, .mov (.t 30)⟩])))))))
   (.seq (.seq (.region [⟨some 31, none, .mov (.t 0)⟩,
    ⟨some 32, none, .len (.t 31)⟩,
    ⟨some 33, none, .mov (.t 1)⟩,
    ⟨some 34, none, .len (.t 33)⟩,
    ⟨some 35, none, .bin .lss (.t 32) (.t 34)⟩])
   (.cond (.t 35) (.seq (.region [⟨some 4, none, .mov (.c (.int .i64 (-1)))⟩])
   (.ret)) (.skip)))
   (.seq (.region [⟨some 4, none, .mov (.c (.int .i64 0))⟩])
   (.ret))))⟩
def ir131 : IFunc := ⟨40, [.tmp 4],
  .seq (.region [⟨some 4, none, .mov (.c (.bool false))⟩])
   (.seq (.seq (.region [⟨some 6, none, .mov (.t 0)⟩,
    ⟨some 7, none, .len (.t 6)⟩,
    ⟨some 8, none, .mov (.t 1)⟩,
    ⟨some 9, none, .len (.t 8)⟩,
    ⟨some 10, none, .bin .neq (.t 7) (.t 9)⟩])
   (.cond (.t 10) (.seq (.region [⟨some 11, none, .mov (.t 0)⟩,
    ⟨some 12, none, .len (.t 11)⟩,
    ⟨some 13, none, .mov (.t 1)⟩,
    ⟨some 14, none, .len (.t 13)⟩,
    ⟨some 15, none, .bin .lss (.t 12) (.t 14)⟩,
    ⟨some 4, none, .mov (.t 15)⟩])
   (.ret)) (.skip)))
   (.seq (.seq (.region [⟨some 5, none, .mov (.c (.int .i64 0))⟩])
   (.block 0 (.loop (.seq (.seq (.region [⟨some 16, none, .mov (.t 5)⟩,
    ⟨some 17, none, .mov (.t 0)⟩,
    ⟨some 18, none, .len (.t 17)⟩,
    ⟨some 19, none, .bin .lss (.t 16) (.t 18)⟩])
   (.cond (.t 19) (.skip) (.exit 0)))
   (.seq (.block 1 (.seq (.draw [⟨some 22, none, .mov (.t 0)⟩,
    ⟨some 23, none, .mov (.t 5)⟩,
    ⟨some 24, none, .iaddr 1 (.t 22) (.t 23)⟩,
    ⟨some 25, none, .load 1 false (.t 24)⟩,
    ⟨some 26, none, .mov (.t 1)⟩,
    ⟨some 27, none, .mov (.t 5)⟩,
    ⟨some 28, none, .iaddr 1 (.t 26) (.t 27)⟩,
    ⟨some 29, none, .load 1 false (.t 28)⟩,
    ⟨some 30, none, .bin .neq (.t 25) (.t 29)⟩] [0, 1, 2, 3, 4, 5, 6, 7, 8] [])
   (.cond (.t 30) (.seq (.draw [⟨some 31, none, .mov (.t 0)⟩,
    ⟨some 32, none, .mov (.t 5)⟩,
    ⟨some 33, none, .iaddr 1 (.t 31) (.t 32)⟩,
    ⟨some 34, none, .load 1 false (.t 33)⟩,
    ⟨some 35, none, .mov (.t 1)⟩,
    ⟨some 36, none, .mov (.t 5)⟩,
    ⟨some 37, none, .iaddr 1 (.t 35) (.t 36)⟩,
    ⟨some 38, none, .load 1 false (.t 37)⟩,
    ⟨some 39, none, .bin .lss (.t 34) (.t 38)⟩,
    ⟨some 4, none, .mov (.t 39)⟩] [0, 1, 2, 3, 4, 5, 6, 7, 8, 9] [])
   (.ret)) (.skip))))
   (.region [⟨some 20, none, .mov (.t 5)⟩,
    ⟨some 21, none, .bin .add (.t 20) (.c (.int .i64 1))⟩,
    ⟨some 5, none, .mov (.t 21)⟩]))))))
   (.seq (.region [⟨some 4, none, .mov (.c (.bool false))⟩])
   (.ret))))⟩
def ir150 : IFunc := ⟨53, [],
  .seq (.region [⟨some 10, none, .mov (.t 1)⟩,
    ⟨some 11, none, .bin .add (.t 10) (.c (.int .i64 1))⟩,
    ⟨some 8, none, .mov (.t 11)⟩])
   (.block 0 (.loop (.seq (.seq (.region [⟨some 12, none, .mov (.t 8)⟩,
    ⟨some 13, none, .mov (.t 2)⟩,
    ⟨some 14, none, .bin .lss (.t 12) (.t 13)⟩])
   (.cond (.t 14) (.skip) (.exit 0)))
   (.seq (.block 1 (.seq (.region [⟨some 17, none, .mov (.t 8)⟩,
    ⟨some 9, none, .mov (.t 17)⟩])
   (.block 2 (.loop (.seq (.seq (.draw [⟨some 18, none, .mov (.t 9)⟩,
    ⟨some 19, none, .mov (.t 1)⟩,
    ⟨some 20, none, .bin .gtr (.t 18) (.t 19)⟩,
    ⟨some 21, none, .mov (.t 20)⟩,
    ⟨some 22, some (3, true), .mov (.t 3)⟩,
    ⟨some 23, some (3, true), .mov (.t 0)⟩,
    ⟨some 24, some (3, true), .mov (.t 9)⟩,
    ⟨some 25, some (3, true), .iaddr 1 (.t 23) (.t 24)⟩,
    ⟨some 26, some (3, true), .load 1 false (.t 25)⟩,
    ⟨some 27, some (3, true), .mov (.t 0)⟩,
    ⟨some 28, some (3, true), .mov (.t 9)⟩,
    ⟨some 29, some (3, true), .bin .sub (.t 28) (.c (.int .i64 1))⟩,
    ⟨some 30, some (3, true), .iaddr 1 (.t 27) (.t 29)⟩,
    ⟨some 31, some (3, true), .load 1 false (.t 30)⟩,
    ⟨some 32, some (3, true), .dyn (.t 22) [(.t 26), (.t 31)]⟩,
    ⟨some 33, some (3, true), .bin .lss (.t 32) (.c (.int .i64 0))⟩,
    ⟨some 34, none, .pick (.t 21) (.t 33) (.c (.bool false))⟩] [0, 1, 2, 3, 4, 5, 6, 7, 8, 9, 10, 11, 12, 13, 14, 15, 16] [])
   (.cond (.t 34) (.skip) (.exit 2)))
   (.seq (.block 3 (.draw [⟨some 37, none, .mov (.t 0)⟩,
    ⟨some 38, none, .mov (.t 9)⟩,
    ⟨some 39, none, .mov (.t 0)⟩,
    ⟨some 40, none, .mov (.t 9)⟩,
    ⟨some 41, none, .bin .sub (.t 40) (.c (.int .i64 1))⟩,
    ⟨some 42, none, .mov (.t 0)⟩,
    ⟨some 43, none, .mov (.t 9)⟩,
    ⟨some 44, none, .bin .sub (.t 43) (.c (.int .i64 1))⟩,
    ⟨some 45, none, .iaddr 1 (.t 42) (.t 44)⟩,
    ⟨some 46, none, .load 1 false (.t 45)⟩,
    ⟨some 47, none, .mov (.t 0)⟩,
    ⟨some 48, none, .mov (.t 9)⟩,
    ⟨some 49, none, .iaddr 1 (.t 47) (.t 48)⟩,
    ⟨some 50, none, .load 1 false (.t 49)⟩,
    ⟨some 51, none, .iaddr 1 (.t 37) (.t 38)⟩,
    ⟨none, none, .store 1 (.t 51) (.t 46)⟩,
    ⟨some 52, none, .iaddr 1 (.t 39) (.t 41)⟩,
    ⟨none, none, .store 1 (.t 52) (.t 50)⟩] [0, 1, 2, 3, 4, 5, 6, 7, 8, 9, 10, 11, 12, 13, 14, 15, 16, 17] []))
   (.region [⟨some 35, none, .mov (.t 9)⟩,
    ⟨some 36, none, .bin .sub (.t 35) (.c (.int .i64 1))⟩,
    ⟨some 9, none, .mov (.t 36)⟩])))))))
   (.region [⟨some 15, none, .mov (.t 8)⟩,
    ⟨some 16, none, .bin .add (.t 15) (.c (.int .i64 1))⟩,
    ⟨some 8, none, .mov (.t 16)⟩])))))⟩
def ir159 : IFunc := ⟨25, [.tmp 2],
  .seq (.region [⟨some 2, none, .mov (.c (.int .i64 0))⟩])
   (.seq (.seq (.region [⟨some 3, none, .mov (.t 0)⟩,
    ⟨some 4, none, .bin .geq (.t 3) (.c (.int .u64 4294967296))⟩])
   (.cond (.t 4) (.seq (.region [⟨some 5, none, .mov (.t 0)⟩,
    ⟨some 6, none, .bin .shr (.t 5) (.c (.int .u64 32))⟩,
    ⟨some 0, none, .mov (.t 6)⟩])
   (.region [⟨some 2, none, .mov (.c (.int .i64 32))⟩])) (.skip)))
   (.seq (.seq (.region [⟨some 7, none, .mov (.t 0)⟩,
    ⟨some 8, none, .bin .geq (.t 7) (.c (.int .u64 65536))⟩])
   (.cond (.t 8) (.seq (.region [⟨some 9, none, .mov (.t 0)⟩,
    ⟨some 10, none, .bin .shr (.t 9) (.c (.int .u64 16))⟩,
    ⟨some 0, none, .mov (.t 10)⟩])
   (.region [⟨some 11, none, .mov (.t 2)⟩,
    ⟨some 12, none, .bin .add (.t 11) (.c (.int .i64 16))⟩,
    ⟨some 2, none, .mov (.t 12)⟩])) (.skip)))
   (.seq (.seq (.region [⟨some 13, none, .mov (.t 0)⟩,
    ⟨some 14, none, .bin .geq (.t 13) (.c (.int .u64 256))⟩])
   (.cond (.t 14) (.seq (.region [⟨some 15, none, .mov (.t 0)⟩,
    ⟨some 16, none, .bin .shr (.t 15) (.c (.int .u64 8))⟩,
    ⟨some 0, none, .mov (.t 16)⟩])
   (.region [⟨some 17, none, .mov (.t 2)⟩,
    ⟨some 18, none, .bin .add (.t 17) (.c (.int .i64 8))⟩,
    ⟨some 2, none, .mov (.t 18)⟩])) (.skip)))
   (.seq (.region [⟨some 19, none, .mov (.t 2)⟩,
    ⟨some 20, none, .mov (.t 0)⟩,
    ⟨some 21, none, .conv .u8 (.t 20)⟩,
    ⟨some 22, none, .idxs (.c (.str ⟨#[0, 1, 2, 2, 3, 3, 3, 3, 4, 4, 4, 4, 4, 4, 4, 4, 5, 5, 5, 5, 5, 5, 5, 5, 5, 5, 5, 5, 5, 5, 5, 5, 6, 6, 6, 6, 6, 6, 6, 6, 6, 6, 6, 6, 6, 6, 6, 6, 6, 6, 6, 6, 6, 6, 6, 6, 6, 6, 6, 6, 6, 6, 6, 6, 7, 7, 7, 7, 7, 7, 7, 7, 7, 7, 7, 7, 7, 7, 7, 7, 7, 7, 7, 7, 7, 7, 7, 7, 7, 7, 7, 7, 7, 7, 7, 7, 7, 7, 7, 7, 7, 7, 7, 7, 7, 7, 7, 7, 7, 7, 7, 7, 7, 7, 7, 7, 7, 7, 7, 7, 7, 7, 7, 7, 7, 7, 7, 7, 8, 8, 8, 8, 8, 8, 8, 8, 8, 8, 8, 8, 8, 8, 8, 8, 8, 8, 8, 8, 8, 8, 8, 8, 8, 8, 8, 8, 8, 8, 8, 8, 8, 8, 8, 8, 8, 8, 8, 8, 8, 8, 8, 8, 8, 8, 8, 8, 8, 8, 8, 8, 8, 8, 8, 8, 8, 8, 8, 8, 8, 8, 8, 8, 8, 8, 8, 8, 8, 8, 8, 8, 8, 8, 8, 8, 8, 8, 8, 8, 8, 8, 8, 8, 8, 8, 8, 8, 8, 8, 8, 8, 8, 8, 8, 8, 8, 8, 8, 8, 8, 8, 8, 8, 8, 8, 8, 8, 8, 8, 8, 8, 8, 8, 8, 8, 8, 8, 8, 8, 8, 8, 8, 8, 8, 8, 8, 8]⟩)) (.t 21)⟩,
    ⟨some 23, none, .conv .i64 (.t 22)⟩,
    ⟨some 24, none, .bin .add (.t 19) (.t 23)⟩,
    ⟨some 2, none, .mov (.t 24)⟩])
   (.ret)))))⟩
def ir160 : IFunc := ⟨6, [.tmp 2],
  .seq (.region [⟨some 2, none, .mov (.c (.bool false))⟩])
   (.seq (.region [⟨some 3, none, .mov (.t 0)⟩,
    ⟨some 4, none, .mov (.t 0)⟩,
    ⟨some 5, none, .bin .neq (.t 3) (.t 4)⟩,
    ⟨some 2, none, .mov (.t 5)⟩])
   (.ret))⟩
def ir51 : IFunc := ⟨8, [.tmp 2],
  .seq (.region [⟨some 2, none, .mov (.c .nilsl)⟩])
   (.seq (.seq (.region [⟨some 3, none, .mov (.t 0)⟩,
    ⟨some 4, none, .eqn 0 false (.t 3)⟩])
   (.cond (.t 4) (.seq (.region [⟨some 2, none, .mov (.c .nilsl)⟩])
   (.ret)) (.skip)))
   (.seq (.region [⟨some 5, none, .rlit 0 1 [(.int .i64 0)] []⟩,
    ⟨some 6, none, .mov (.t 0)⟩,
    ⟨some 7, none, .append 1 8 (.t 5) (.t 6)⟩,
    ⟨some 2, none, .mov (.t 7)⟩])
   (.ret)))⟩
theorem cir5 : compile Try.prog Try.f5 = some ir5 := by kernel_rfl
theorem cir7 : compile Try.prog Try.f7 = some ir7 := by kernel_rfl
theorem cir8 : compile Try.prog Try.f8 = some ir8 := by kernel_rfl
theorem cir17 : compile Try.prog Try.f17 = some ir17 := by kernel_rfl
theorem cir25 : compile Try.prog Try.f25 = some ir25 := by kernel_rfl
theorem cir26 : compile Try.prog Try.f26 = some ir26 := by kernel_rfl
theorem cir27 : compile Try.prog Try.f27 = some ir27 := by kernel_rfl
theorem cir28 : compile Try.prog Try.f28 = some ir28 := by kernel_rfl
theorem cir29 : compile Try.prog Try.f29 = some ir29 := by kernel_rfl
theorem cir30 : compile Try.prog Try.f30 = some ir30 := by kernel_rfl
theorem cir31 : compile Try.prog Try.f31 = some ir31 := by kernel_rfl
theorem cir34 : compile Try.prog Try.f34 = some ir34 := by kernel_rfl
theorem cir60 : compile Try.prog Try.f60 = some ir60 := by kernel_rfl
theorem cir61 : compile Try.prog Try.f61 = some ir61 := by kernel_rfl
theorem cir66 : compile Try.prog Try.f66 = some ir66 := by kernel_rfl
theorem cir67 : compile Try.prog Try.f67 = some ir67 := by kernel_rfl
theorem cir68 : compile Try.prog Try.f68 = some ir68 := by kernel_rfl
theorem cir69 : compile Try.prog Try.f69 = some ir69 := by kernel_rfl
theorem cir70 : compile Try.prog Try.f70 = some ir70 := by kernel_rfl
theorem cir71 : compile Try.prog Try.f71 = some ir71 := by kernel_rfl
theorem cir72 : compile Try.prog Try.f72 = some ir72 := by kernel_rfl
theorem cir96 : compile Try.prog Try.f96 = some ir96 := by kernel_rfl
theorem cir97 : compile Try.prog Try.f97 = some ir97 := by kernel_rfl
theorem cir98 : compile Try.prog Try.f98 = some ir98 := by kernel_rfl
theorem cir99 : compile Try.prog Try.f99 = some ir99 := by kernel_rfl
theorem cir100 : compile Try.prog Try.f100 = some ir100 := by kernel_rfl
theorem cir101 : compile Try.prog Try.f101 = some ir101 := by kernel_rfl
theorem cir102 : compile Try.prog Try.f102 = some ir102 := by kernel_rfl
theorem cir126 : compile Try.prog Try.f126 = some ir126 := by kernel_rfl
theorem cir127 : compile Try.prog Try.f127 = some ir127 := by kernel_rfl
theorem cir128 : compile Try.prog Try.f128 = some ir128 := by kernel_rfl
theorem cir129 : compile Try.prog Try.f129 = some ir129 := by kernel_rfl
theorem cir130 : compile Try.prog Try.f130 = some ir130 := by kernel_rfl
theorem cir131 : compile Try.prog Try.f131 = some ir131 := by kernel_rfl
theorem cir150 : compile Try.prog Try.f150 = some ir150 := by kernel_rfl
theorem cir159 : compile Try.prog Try.f159 = some ir159 := by kernel_rfl
theorem cir160 : compile Try.prog Try.f160 = some ir160 := by kernel_rfl
theorem cir51 : compile Try.prog Try.f51 = some ir51 := by kernel_rfl
end Go.Proofs.Ytlgbbabijifflaa.L1R
set_option linter.unusedVariables false
set_option linter.unusedSimpArgs false
namespace Go.Proofs.Ytlgbbabijifflaa.sys
open Go Go.Ai Go.Proofs.Ytlgbbabijifflaa.L1R
open mdl (mixed nilOk)
open runs (SysD RunD sysC)
def how3 (f : Nat) : How := match Go.Ai.look [(96, ()), (126, ()), (150, ()), (98, ()), (95, ())] f with
  | some _ => .shared
  | none => match Go.Ai.look [(51, ()), (70, ())] f with
    | some _ => .thaw
    | none => .iso
def fun3 : List (Nat × IFunc) := [(14, ir14), (15, ir15), (17, ir17), (25, ir25), (27, ir27), (29, ir29), (58, ir58), (59, ir59), (60, ir60), (61, ir61), (66, ir66), (67, ir67), (69, ir69), (95, ir95), (96, ir96), (97, ir97), (98, ir98), (99, ir99), (100, ir100), (126, ir126), (127, ir127), (128, ir128), (129, ir129), (130, ir130), (150, ir150), (159, ir159), (160, ir160)]
def spec3 : List (Nat × (List AV → Option (List AV))) := [(13, g13), (19, g19), (21, g21), (24, mdl.g24), (56, g56), (57, g57), (51, cloneG 1), (70, cloneG 1)]
def G3 : Prg := ⟨Go.Ai.look fun3, how3, Go.Ai.look spec3⟩
def exS : SysD := ⟨1, 1, 3, [⟨[[5], [5], [7]], [0, 1, 1]⟩, ⟨[[5], [6], [7]], [0, 0, 1]⟩]⟩
set_option maxRecDepth 1000000 in
theorem ev60 : evalI G3 60 60 [] = some [.agg (sysC exS)] := by kernel_rfl
def exClock : SysD := ⟨1, 1, 3, [⟨[[0], [1], [3]], [0, 1, 1]⟩, ⟨[[0], [2], [3]], [0, 0, 1]⟩]⟩
set_option maxRecDepth 1000000 in
theorem ev19 : evalI G3 60 19 [.agg (sysC exS)] = some (outM (modelR exS)) := by kernel_rfl
set_option maxRecDepth 1000000 in
theorem ev25 : evalI G3 60 25 [.agg (sysC exS)] = some [.agg (sysC exClock), .int .i64 0] := by kernel_rfl
def exRem : SysD := ⟨1, 1, 3, [⟨[[0], [0], [2]], [0, 1, 1]⟩, ⟨[[0], [1], [3]], [0, 0, 1]⟩]⟩
def exCut : SysD := ⟨1, 1, 1, [⟨[[5]], [0]⟩, ⟨[[5]], [0]⟩]⟩
set_option maxRecDepth 1000000 in
theorem ev27 : evalI G3 60 27 [.agg (sysC exS)] = some [.agg (sysC exRem), .int .i64 0] := by kernel_rfl
set_option maxRecDepth 1000000 in
theorem ev29 : evalI G3 60 29 [.agg (sysC exS), .int .i64 1] = some [.agg (sysC exCut), .int .i64 0] := by kernel_rfl
theorem c51 : IsoOk Try.prog 51 (cloneG 1) := clone_ok (bytes := 8) (z := [.int .i64 0]) mixed Try.func51 cir51
theorem c70 : IsoOk Try.prog 70 (cloneG 1) := clone_ok (bytes := 8) (z := [.int .u64 0]) mixed Try.func70 cir70
theorem okG3 : PrgOk Try.prog G3 where
  mixed := mixed
  ok := fun f ir h => by
    have hm := look_mem (l := fun3) h
    simp only [fun3, List.mem_cons, Prod.mk.injEq, List.not_mem_nil, or_false] at hm
    rcases hm with ⟨rfl, rfl⟩ | ⟨rfl, rfl⟩ | ⟨rfl, rfl⟩ | ⟨rfl, rfl⟩ | ⟨rfl, rfl⟩ | ⟨rfl, rfl⟩ | ⟨rfl, rfl⟩ | ⟨rfl, rfl⟩ | ⟨rfl, rfl⟩ | ⟨rfl, rfl⟩ | ⟨rfl, rfl⟩ | ⟨rfl, rfl⟩ | ⟨rfl, rfl⟩ | ⟨rfl, rfl⟩ | ⟨rfl, rfl⟩ | ⟨rfl, rfl⟩ | ⟨rfl, rfl⟩ | ⟨rfl, rfl⟩ | ⟨rfl, rfl⟩ | ⟨rfl, rfl⟩ | ⟨rfl, rfl⟩ | ⟨rfl, rfl⟩ | ⟨rfl, rfl⟩ | ⟨rfl, rfl⟩ | ⟨rfl, rfl⟩ | ⟨rfl, rfl⟩ | ⟨rfl, rfl⟩
    · exact ⟨_, Try.func14, cir14⟩
    · exact ⟨_, Try.func15, cir15⟩
    · exact ⟨_, Try.func17, cir17⟩
    · exact ⟨_, Try.func25, cir25⟩
    · exact ⟨_, Try.func27, cir27⟩
    · exact ⟨_, Try.func29, cir29⟩
    · exact ⟨_, Try.func58, cir58⟩
    · exact ⟨_, Try.func59, cir59⟩
    · exact ⟨_, Try.func60, cir60⟩
    · exact ⟨_, Try.func61, cir61⟩
    · exact ⟨_, Try.func66, cir66⟩
    · exact ⟨_, Try.func67, cir67⟩
    · exact ⟨_, Try.func69, cir69⟩
    · exact ⟨_, Try.func95, cir95⟩
    · exact ⟨_, Try.func96, cir96⟩
    · exact ⟨_, Try.func97, cir97⟩
    · exact ⟨_, Try.func98, cir98⟩
    · exact ⟨_, Try.func99, cir99⟩
    · exact ⟨_, Try.func100, cir100⟩
    · exact ⟨_, Try.func126, cir126⟩
    · exact ⟨_, Try.func127, cir127⟩
    · exact ⟨_, Try.func128, cir128⟩
    · exact ⟨_, Try.func129, cir129⟩
    · exact ⟨_, Try.func130, cir130⟩
    · exact ⟨_, Try.func150, cir150⟩
    · exact ⟨_, Try.func159, cir159⟩
    · exact ⟨_, Try.func160, cir160⟩
  spec := fun f g hf h => by
    have hm := look_mem (l := spec3) h
    simp only [spec3, List.mem_cons, Prod.mk.injEq, List.not_mem_nil, or_false] at hm
    rcases hm with ⟨rfl, rfl⟩ | ⟨rfl, rfl⟩ | ⟨rfl, rfl⟩ | ⟨rfl, rfl⟩ | ⟨rfl, rfl⟩ | ⟨rfl, rfl⟩ | ⟨rfl, rfl⟩ | ⟨rfl, rfl⟩
    · exact c13
    · exact c19
    · exact c21
    · exact mdl.c24
    · exact c56
    · exact c57
    · exact c51
    · exact c70
  fspec := fun f g hf h => by
    have hm := look_mem (l := spec3) h
    simp only [spec3, List.mem_cons, Prod.mk.injEq, List.not_mem_nil, or_false] at hm
    rcases hm with ⟨rfl, rfl⟩ | ⟨rfl, rfl⟩ | ⟨rfl, rfl⟩ | ⟨rfl, rfl⟩ | ⟨rfl, rfl⟩ | ⟨rfl, rfl⟩ | ⟨rfl, rfl⟩ | ⟨rfl, rfl⟩ <;> cases hf
deriving instance DecidableEq for RunD, SysD
def one25 (f : SysD) : List AV → Option (List AV) := con (.one (.agg sysK)) (fun s => s = exS) fun _ => [.agg (sysC f), .int .i64 0]
def one29 : List AV → Option (List AV) := con (.cons (.agg sysK) (.one .i64)) (fun x => x.1 = exS ∧ x.2 = 1) fun _ => [.agg (sysC exCut), .int .i64 0]
theorem e25 : IsoOk Try.prog 25 (one25 exClock) := by
  have h0 : IsoOk Try.prog 25 (evalI G3 60 25) := evalI_ok okG3 (by decide) (by decide) ev25
  have e0 := ev25
  generalize evalI G3 60 25 = g at h0 e0
  refine iso_le h0 fun args rs h => ?_
  obtain ⟨s, rfl, rfl, rfl⟩ := con_inv h
  exact e0
theorem e27 : IsoOk Try.prog 27 (one25 exRem) := by
  have h0 : IsoOk Try.prog 27 (evalI G3 60 27) := evalI_ok okG3 (by decide) (by decide) ev27
  have e0 := ev27
  generalize evalI G3 60 27 = g at h0 e0
  refine iso_le h0 fun args rs h => ?_
  obtain ⟨s, rfl, rfl, rfl⟩ := con_inv h
  exact e0
theorem e29 : IsoOk Try.prog 29 one29 := by
  have h0 : IsoOk Try.prog 29 (evalI G3 60 29) := evalI_ok okG3 (by decide) (by decide) ev29
  have e0 := ev29
  generalize evalI G3 60 29 = g at h0 e0
  refine iso_le h0 fun args rs h => ?_
  obtain ⟨⟨s, n⟩, ⟨h1, h2⟩, rfl, rfl⟩ := con_inv h
  simp only at h1 h2
  subst h1 h2
  exact e0
end Go.Proofs.Ytlgbbabijifflaa.sys
set_option linter.unusedVariables false
set_option linter.unusedSimpArgs false
namespace Go.Proofs.Ytlgbbabijifflaa.sys
open Go Go.Ai Go.Proofs.Ytlgbbabijifflaa.L1R
open mdl (mixed nilOk)
open runs (SysD RunD sysC)
def fun4 : List (Nat × IFunc) := [(14, ir14), (15, ir15), (17, ir17), (58, ir58), (59, ir59), (60, ir60), (61, ir61), (95, ir95)]
def spec4 : List (Nat × (List AV → Option (List AV))) := [(13, g13), (19, g19), (21, g21), (24, mdl.g24), (56, g56), (57, g57), (25, one25 exClock), (27, one25 exRem), (29, one29)]
def G4 : Prg := ⟨Go.Ai.look fun4, how3, Go.Ai.look spec4⟩
set_option maxRecDepth 1000000 in
theorem ev17 : evalI G4 60 17 [] = some [.bool true] := by kernel_rfl
theorem okG4 : PrgOk Try.prog G4 where
  mixed := mixed
  ok := fun f ir h => by
    have hm := look_mem (l := fun4) h
    simp only [fun4, List.mem_cons, Prod.mk.injEq, List.not_mem_nil, or_false] at hm
    rcases hm with ⟨rfl, rfl⟩ | ⟨rfl, rfl⟩ | ⟨rfl, rfl⟩ | ⟨rfl, rfl⟩ | ⟨rfl, rfl⟩ | ⟨rfl, rfl⟩ | ⟨rfl, rfl⟩ | ⟨rfl, rfl⟩
    · exact ⟨_, Try.func14, cir14⟩
    · exact ⟨_, Try.func15, cir15⟩
    · exact ⟨_, Try.func17, cir17⟩
    · exact ⟨_, Try.func58, cir58⟩
    · exact ⟨_, Try.func59, cir59⟩
    · exact ⟨_, Try.func60, cir60⟩
    · exact ⟨_, Try.func61, cir61⟩
    · exact ⟨_, Try.func95, cir95⟩
  spec := fun f g hf h => by
    have hm := look_mem (l := spec4) h
    simp only [spec4, List.mem_cons, Prod.mk.injEq, List.not_mem_nil, or_false] at hm
    rcases hm with ⟨rfl, rfl⟩ | ⟨rfl, rfl⟩ | ⟨rfl, rfl⟩ | ⟨rfl, rfl⟩ | ⟨rfl, rfl⟩ | ⟨rfl, rfl⟩ | ⟨rfl, rfl⟩ | ⟨rfl, rfl⟩ | ⟨rfl, rfl⟩
    · exact c13
    · exact c19
    · exact c21
    · exact mdl.c24
    · exact c56
    · exact c57
    · exact e25
    · exact e27
    · exact e29
  fspec := fun f g hf h => by
    have hm := look_mem (l := spec4) h
    simp only [spec4, List.mem_cons, Prod.mk.injEq, List.not_mem_nil, or_false] at hm
    rcases hm with ⟨rfl, rfl⟩ | ⟨rfl, rfl⟩ | ⟨rfl, rfl⟩ | ⟨rfl, rfl⟩ | ⟨rfl, rfl⟩ | ⟨rfl, rfl⟩ | ⟨rfl, rfl⟩ | ⟨rfl, rfl⟩ | ⟨rfl, rfl⟩ <;> cases hf
theorem c17 : IsoOk Try.prog 17 g17 := by
  have h0 : IsoOk Try.prog 17 (evalI G4 60 17) := evalI_ok okG4 (by decide) (by decide) ev17
  have e0 := ev17
  generalize evalI G4 60 17 = g at h0 e0
  refine iso_le h0 fun args rs h => ?_
  unfold g17 at h
  split at h
  · injection h with h; subst h; exact e0
  · cases h
end Go.Proofs.Ytlgbbabijifflaa.sys
