/- grammar.Follow. -/
import Derived.Test.YtgfchgnebpogjaaZ16
import Derived.Test.YtgfchgnebpogjaaZ18
import Derived.Test.YtgfchgnebpogjaaZ14
import Derived.Test.YtgfchgnebpogjaaZ22
namespace Go.Proofs.Ytgfchgnebpogjaa
open Go.RowKit BigFrame
set_option linter.unusedVariables false
set_option linter.unusedSimpArgs false
set_option maxRecDepth 100000

theorem follow1_any (i : Nat) (px : Int) (r : List Int) (py : Int) (A' : Option Addr) (n' c' vu vm vg ve vf gu ge D DF N T np : Nat) (ρ ρF : List Nat) (used emp : List Bool) (FT M : List (List Bool)) (w : World) (B : Nat) (hB : B ≤ w.heap.size) (hN0 : 0 < N) (hN : N ≤ 300) (hT : T ≤ 300)
    (hr : RdI w B A' r) (hl : r.length = n') (hm : n' ≤ 20) (hf : FoSt w vu vm vg ve vf gu ge D DF N T np ρ ρF used emp FT M) (hBr : ∀ j, FoR N ρ j → B ≤ j)
    (h0 : 0 ≤ px) (h1 : px.toNat < N) (h2 : FitS N T r) (hi : i < np) (hF : Rect N T FT) (hM : Rect N (T + 1) M) :
    Calls Try.prog 59 #[.int .i64 i, .agg #[.int .i64 px, .slice A' n' c', .int .i64 py], .pointer (some ⟨vu, 0, none⟩), .pointer (some ⟨vm, 0, none⟩), .pointer (some ⟨vg, 0, none⟩), .pointer (some ⟨ve, 0, none⟩), .pointer (some ⟨vf, 0, none⟩)] w fun e w' => e = .returned (.bool (stepB emp used FT T i (px, r, py) M).2) ∧ FoSt w' vu vm vg ve vf gu ge D DF N T np ρ ρF used emp FT (stepB emp used FT T i (px, r, py) M).1 ∧ Kp (FoR N ρ) w w' := by
  obtain ⟨t, rfl⟩ := Int.eq_ofNat_of_zero_le h0
  rw [Int.toNat_natCast] at h1
  unfold stepB
  simp only [Int.toNat_natCast]
  cases hu : bth used i
  · have zu := hf.u.c
    have zub := hf.u.b.bcell (k := i) (by rw [hf.u.l]; exact hi)
    rw [hu] at zub
    have hb0 : Below w.heap.size w (w.alloc (.cells #[.int .i64 t, .slice A' n' c', .int .i64 py] 50)) := (Below.refl _ _).alloc (Nat.le_refl _) _
    have lu := hf.b vu (.inl (.inl rfl)); have lgu := hf.b gu (.inr (.inl (.inl rfl)))
    have H1 := Lib.hid (hf.below hb0)
    have H2 : Hid (Kp (FoR N ρ) w (w.alloc (.cells #[.int .i64 t, .slice A' n' c', .int .i64 py] 50))) := Lib.hid ((Kp.refl _ _).alloc _)
    clear hf hr hl hF hM hu h2
    go_enter Try.func59, Try.ntmps59
    go_wp2_with fail
    go_ret
    exact ⟨rfl, H1.out, H2.out⟩
  · rw [if_pos rfl]
    exact follow1_used i t r py A' n' c' vu vm vg ve vf gu ge D DF N T np ρ ρF used emp FT M w B hB hN0 hN hT hr hl hm hf hBr h1 h2 hi hu hF hM

theorem FollowT_bad (G : Gr) (Ap Al As : Option Addr) (np cp nl cl ns cs : Nat) (w : World) (B : Nat) (hB : B ≤ w.heap.size) (hG : GrIn w B G Ap Al As np cp nl cl ns cs) (hk : okB G = false) :
    Calls Try.prog 25 #[.agg #[.int .i64 G.terms, .int .i64 G.names, .int .i64 G.start, .slice Ap np cp, .slice Al nl cl, .slice As ns cs]] w fun e w' => e = .returned (.slice none 0 0) ∧ Below w.heap.size w w' := by
  obtain ⟨hb0, hs0, gb⟩ := gbox w G Ap Al As np cp nl cl ns cs
  obtain ⟨hp1, hp2⟩ := hG.p.len
  have hl3 := hG.lm; have hl4 := hG.sm
  have hcall := ok_any G Ap Al As np cp nl cl ns cs (w.alloc (.cells #[.int .i64 G.terms, .int .i64 G.names, .int .i64 G.start, .slice Ap np cp, .slice Al nl cl, .slice As ns cs] 30)) B (Nat.le_trans hB hb0.size) (hG.below (hb0.mono hB))
  rw [hk, hs0] at hcall
  have HC := Lib.hid hcall; have HB0 := Lib.hid hb0
  unfold maxLen at hp2 hl3 hl4
  clear hcall gb hG hk hp1 hb0 hs0
  go_enter Try.func25, Try.ntmps25
  go_wp2_with (go_at_call 18; refine HC.out.mono ?_; rintro e w' ⟨rfl, hb⟩)
  go_ret
  exact ⟨rfl, HB0.out.trans (hb.mono (Nat.le_succ _))⟩

theorem MtSt.agree {w w' : World} {D N T lo hi : Nat} {ρ : List Nat} {M : List (List Bool)} (h : MtSt w D N T ρ M) (hD : lo ≤ D) (hr : ∀ k, k < N → lo ≤ nthN ρ k) (hh : w.heap.size ≤ hi) (ha : ∀ k : Nat, lo ≤ k → k < hi → w'.heap[k]? = w.heap[k]?) (hs : hi ≤ w'.heap.size) : MtSt w' D N T ρ M :=
  have hd := h.dl
  ⟨by omega, fun k hk => (World.cell?_of_block (a := ⟨D, k, none⟩) (ha D hD (by omega))).trans (h.d k hk), h.rl, h.ml, h.nd, h.ne, fun k hk => ⟨(ha _ (hr k hk) (by have := (h.rows k hk).1.lt; omega)).trans (h.rows k hk).1, (h.rows k hk).2⟩⟩
/-- What the three calls answer. -/
def foP (n0 N T np : Nat) (EM : List Bool) (FT : List (List Bool)) (Q : List Bool → Prop) : Nat → World → Value → Prop
  | 0 => fun w v => ∃ g, v = .slice (some ⟨g, 0, none⟩) N N ∧ n0 < g ∧ Blk w g 4 (bv EM)
  | 1 => fun w v => ∃ D ρ, v = .slice (some ⟨D, 0, none⟩) N N ∧ n0 < D ∧ (∀ k, k < N → n0 < nthN ρ k) ∧ MtSt w D N T ρ FT
  | _ => fun w v => ∃ g u, v = .slice (some ⟨g, 0, none⟩) np np ∧ n0 < g ∧ Blk w g 4 (bv u) ∧ Q u
def foTy : Nat → TypeId
  | 0 => 38
  | 1 => 61
  | _ => 38
def foInv (W0 : World) (n0 N T np : Nat) (gv : Value) (EM : List Bool) (FT : List (List Bool)) (Q : List Bool → Prop) (listed : Array Bool) (a : Act) (w : World) : Prop :=
  ∃ (la lb lc ld : Nat → Bool) (lo hi b : Nat → Nat) (sl sr sv : Nat → Value),
    listed = #[la 0, lb 0, la 1, lb 1, la 2, lb 2, lc 0, lc 1, lc 2, ld 0, ld 1, ld 2] ∧
    a = ⟨#[gv, .pointer (some ⟨n0, 0, none⟩), .slice none 0 0, sv 0, sv 1, sv 2, undef, gv, .bool true, .bool false, sl 0, sr 0, sl 1, sr 1, sl 2, sr 2, undef, undef, undef, undef, undef, undef, undef, undef, undef, undef, undef, undef, undef, undef, undef, undef, undef, undef, undef, undef, undef, undef, undef, undef, undef, undef], []⟩ ∧
    Tri 3 foTy (fun _ => .slice none 0 0) (foP n0 N T np EM FT Q) W0 n0 gv la lb lc ld lo hi b sl sr sv w

theorem fol0_no {N X T : Nat} : fol0 N X T false = m0 N (T + 1) := by
  unfold fol0 m0 zT
  apply List.ext_getElem
  · simp
  · intro i h1 h2
    rw [List.getElem_set]
    split
    · simp
    · rfl
theorem fol0_yes {N X T : Nat} (h : X < N) : (m0 N (T + 1)).set X ((rowB (m0 N (T + 1)) X).set T true) = fol0 N X T true := by
  unfold fol0
  have : rowB (m0 N (T + 1)) X = zT T := by unfold m0 rowB zT; simp [List.getD, h]
  rw [this]; rfl
/-- Of the region that asks whether Start lives: what some of its operations leave. -/
structure LiC (W3 : World) (n0 N X g : Nat) (gv : Value) (LV : List Bool) (l0 l1 l2 l3 l4 l5 : Bool) (s22 s23 s24 s25 s26 s27 : Value) (w : World) : Prop where
  hb : Below W3.heap.size W3 w
  i0 : l0 = true → s22 = gv
  i1 : l1 = true → s23 = .slice (some ⟨g, 0, none⟩) N N ∧ Blk w g 4 (bv LV)
  i2 : l2 = true → s24 = .pointer (some ⟨n0, 2, none⟩)
  i3 : l3 = true → s25 = .int .i64 (X : Int)
  i4 : l4 = true → s26 = .pointer (some ⟨g, X, none⟩) ∧ l1 = true
  i5 : l5 = true → s27 = .bool (bth LV X)
def liInv (W3 : World) (n0 N X T np ve vf vu vl ge DF gu D : Nat) (gv sl0 sl1 sl2 : Value) (LV : List Bool) (listed : Array Bool) (a : Act) (w : World) : Prop :=
  ∃ (l0 l1 l2 l3 l4 l5 : Bool) (g : Nat) (s22 s23 s24 s25 s26 s27 : Value), listed = #[l0, l1, l2, l3, l4, l5] ∧
    a = ⟨#[gv, .pointer (some ⟨n0, 0, none⟩), .slice none 0 0, .pointer (some ⟨ve, 0, none⟩), .pointer (some ⟨vf, 0, none⟩), .pointer (some ⟨vu, 0, none⟩), .pointer (some ⟨vl, 0, none⟩), gv, .bool true, .bool false, sl0, .slice (some ⟨ge, 0, none⟩) N N, sl1, .slice (some ⟨DF, 0, none⟩) N N, sl2, .slice (some ⟨gu, 0, none⟩) np np, .pointer (some ⟨n0, 1, none⟩), .int .i64 (N : Int), .pointer (some ⟨n0, 0, none⟩), .int .i64 (T : Int), .int .i64 ((T : Int) + 1), .slice (some ⟨D, 0, none⟩) N N, s22, s23, s24, s25, s26, s27, undef, undef, undef, undef, undef, undef, undef, undef, undef, undef, undef, undef, undef, undef], []⟩ ∧ LiC W3 n0 N X g gv LV l0 l1 l2 l3 l4 l5 s22 s23 s24 s25 s26 s27 w

set_option maxHeartbeats 4000000 in
theorem FollowT_good (G : Gr) (Ap Al As : Option Addr) (np cp nl cl ns cs : Nat) (w : World) (B N T : Nat) (hB : B ≤ w.heap.size) (hG : GrIn w B G Ap Al As np cp nl cl ns cs) (hk : GOk G) (hN : G.names = N) (hT : G.terms = T) :
    Calls Try.prog 25 #[.agg #[.int .i64 G.terms, .int .i64 G.names, .int .i64 G.start, .slice Ap np cp, .slice Al nl cl, .slice As ns cs]] w fun e w' => ∃ D M u, e = .returned (.slice (some ⟨D, 0, none⟩) N N) ∧ w.heap.size ≤ D ∧ UsOk G.prods (rounds (stepG livS) G.prods N (b0 N)) G.start.toNat u ∧
      FolOk (rounds (stepG empS) G.prods N (b0 N)) (frT G N T) G.prods u N G.start.toNat T (bth (rounds (stepG livS) G.prods N (b0 N)) G.start.toNat) M ∧ LsSt w' D N (fun k => nums (rowB M k)) ∧ Below w.heap.size w w' := by
  obtain ⟨hb0, hs0, gb⟩ := gbox w G Ap Al As np cp nl cl ns cs
  obtain ⟨hp1, hp2⟩ := hG.p.len
  have hl3 := hG.lm; have hl4 := hG.sm
  have hcall := ok_any G Ap Al As np cp nl cl ns cs (w.alloc (.cells #[.int .i64 G.terms, .int .i64 G.names, .int .i64 G.start, .slice Ap np cp, .slice Al nl cl, .slice As ns cs] 30)) B (Nat.le_trans hB hb0.size) (hG.below (hb0.mono hB))
  rw [okB_t hk, hs0] at hcall
  have HC := Lib.hid hcall; have HB0 := Lib.hid hb0; have HGB := Lib.hid gb; have HG := Lib.hid (hG.below (hb0.mono hB))
  have HK := Lib.hid hk; have HN := Lib.hid hN; have HT := Lib.hid hT; have hp1' := Lib.hid hp1
  unfold maxLen at hp2 hl3 hl4
  have hs0 : (w.alloc (.cells #[.int .i64 G.terms, .int .i64 G.names, .int .i64 G.start, .slice Ap np cp, .slice Al nl cl, .slice As ns cs] 30)).heap.size = w.heap.size + 1 := by simp
  clear hcall gb hG hp1 hb0
  obtain ⟨LV, hLV⟩ : ∃ LV, LV = rounds (stepG livS) G.prods N (b0 N) := ⟨_, rfl⟩
  obtain ⟨EM, hEM⟩ : ∃ EM, EM = rounds (stepG empS) G.prods N (b0 N) := ⟨_, rfl⟩
  obtain ⟨FT, hFT⟩ : ∃ FT, FT = frT G N T := ⟨_, rfl⟩
  rw [← hLV, ← hEM, ← hFT]
  have hX0 := hk.s0; have hX1 := hk.s1
  obtain ⟨X, hX⟩ := Int.eq_ofNat_of_zero_le hX0
  have hXN : X < N := by omega
  have hXt : G.start.toNat = X := by omega
  rw [hXt]
  have HXE := Lib.hid hX; have HXT := Lib.hid hXt
  clear hX hX0 hX1 hXt hk hN hT
  have HLVE := Lib.hid hLV; have HEME := Lib.hid hEM; have HFTE := Lib.hid hFT
  clear hLV hEM hFT
  go_enter Try.func25, Try.ntmps25
  go_wp2_with fail
  generalize w.alloc (.cells #[.int .i64 G.terms, .int .i64 G.names, .int .i64 G.start, .slice Ap np cp, .slice Al nl cl, .slice As ns cs] 30) = W0 at *
  refine HC.out.mono ?_
  rintro e w1 ⟨rfl, hb1⟩
  obtain ⟨c0, c1, c2, c3, c4, c5⟩ := HGB.out.below hb1 (Nat.lt_succ_self _)
  have hs1 := hb1.size
  have hem : ∀ W, Below (w.heap.size + 1) W0 W → Calls Try.prog 23 #[.agg #[.int .i64 G.terms, .int .i64 G.names, .int .i64 G.start, .slice Ap np cp, .slice Al nl cl, .slice As ns cs]] W fun e w' => ∃ g, e = .returned (.slice (some ⟨g, 0, none⟩) N N) ∧ W.heap.size ≤ g ∧ Blk w' g 4 (bv EM) ∧ Below W.heap.size W w' :=
    fun W h => by rw [HEME.out]; exact EmptyT_good G Ap Al As np cp nl cl ns cs W B N (by have := h.size; omega) (HG.out.below (h.mono (by omega))) HK.out HN.out
  have hfi : ∀ W, Below (w.heap.size + 1) W0 W → Calls Try.prog 50 #[.agg #[.int .i64 G.terms, .int .i64 G.names, .int .i64 G.start, .slice Ap np cp, .slice Al nl cl, .slice As ns cs]] W fun e w' => ∃ (D : Nat) (ρ : List Nat), e = .returned (.slice (some ⟨D, 0, none⟩) N N) ∧ W.heap.size ≤ D ∧ (∀ k, k < N → W.heap.size ≤ nthN ρ k) ∧ MtSt w' D N T ρ FT ∧ Below W.heap.size W w' :=
    fun W h => by rw [HFTE.out]; exact firsts_any G Ap Al As np cp nl cl ns cs W B N T (by have := h.size; omega) (HG.out.below (h.mono (by omega))) HK.out HN.out HT.out
  have hus : ∀ W, Below (w.heap.size + 1) W0 W → Calls Try.prog 22 #[.agg #[.int .i64 G.terms, .int .i64 G.names, .int .i64 G.start, .slice Ap np cp, .slice Al nl cl, .slice As ns cs]] W fun e w' => ∃ g u, e = .returned (.slice (some ⟨g, 0, none⟩) np np) ∧ W.heap.size ≤ g ∧ Blk w' g 4 (bv u) ∧ UsOk G.prods LV X u ∧ Below W.heap.size W w' :=
    fun W h => by rw [HLVE.out, ← HXT.out]; exact UsedT_good G Ap Al As np cp nl cl ns cs W B N (by have := h.size; omega) (HG.out.below (h.mono (by omega))) HK.out HN.out
  have HEM := Lib.hid hem; have HFI := Lib.hid hfi; have HUS := Lib.hid hus
  have hz0 : w.heap.size < W0.heap.size := by omega
  clear hem hfi hus HC
  have HBB := Lib.hid hb1
  clear hb1
  go_wp2_with fail
  clear c0 c1 c2 c3 c4 c5
  refine wp_region_inv (by kernel_rfl) (foInv W0 w.heap.size N T np (.agg #[.int .i64 G.terms, .int .i64 G.names, .int .i64 G.start, .slice Ap np cp, .slice Al nl cl, .slice As ns cs]) EM FT (UsOk G.prods LV X)) (by kernel_rfl) ?_ ?_ ?_ ?_
  · rintro l a w' ⟨la, lb, lc, ld, lo, hi, b, sl, sr, sv, rfl, _⟩
    rfl
  · rintro l a w' ⟨la, lb, lc, ld, lo, hi, b, sl, sr, sv, rfl, rfl, hC⟩ hall
    have q1 : lb 0 = true := hall 1 (by decide)
    have q3 : lb 1 = true := hall 3 (by decide)
    have q5 : lb 2 = true := hall 5 (by decide)
    have q6 : lc 0 = true := hall 6 (by decide)
    have q7 : lc 1 = true := hall 7 (by decide)
    have q8 : lc 2 = true := hall 8 (by decide)
    have q9 : ld 0 = true := hall 9 (by decide)
    have qa : ld 1 = true := hall 10 (by decide)
    have qb : ld 2 = true := hall 11 (by decide)
    clear hall
    obtain ⟨ge, e0, hge, hbe⟩ := (hC.ib 0 (by omega) q1).1.now
    obtain ⟨DF, ρF, e1, hDF, hρF, hMF⟩ := (hC.ib 1 (by omega) q3).1.now
    obtain ⟨gu, u, e2, hgu, hbu, hU⟩ := (hC.ib 2 (by omega) q5).1.now
    obtain ⟨f0, f1, f2⟩ := hC.ic 0 (by omega) q6
    obtain ⟨f3, f4, f5⟩ := hC.ic 1 (by omega) q7
    obtain ⟨f6, f7, f8⟩ := hC.ic 2 (by omega) q8
    rw [q9, if_pos rfl] at f2
    rw [qa, if_pos rfl] at f5
    rw [qb, if_pos rfl] at f8
    rw [f0, f3, f6, e0, e1, e2]
    rw [e0] at f2
    rw [e1] at f5
    rw [e2] at f8
    have hb := hC.hb
    generalize b 0 = ve at *
    generalize b 1 = vf at *
    generalize b 2 = vu at *
    generalize sl 0 = sl0 at *
    generalize sl 1 = sl1 at *
    generalize sl 2 = sl2 at *
    have hU' : UsOk G.prods LV X u := hU
    clear hC q1 q3 q5 q6 q7 q8 q9 qa qb e0 e1 e2 f0 f3 f6 hU
    simp only [foTy] at f2 f5 f8
    obtain ⟨c0, c1, c2, c3, c4, c5⟩ := HGB.out.below hb (Nat.lt_succ_self _)
    have hNN : N ≤ 300 := by have := HK.out.n1; have := HN.out; omega
    have hTT : T ≤ 300 := by have := HK.out.t1; have := HT.out; omega
    have hN0 : 0 < N := by have := HK.out.n0; have := HN.out; omega
    rw [HXE.out] at c2
    rw [HT.out] at c0
    rw [HN.out] at c1
    have hns := newSets_any N (T + 1) w' hNN (by omega)
    rw [show ((T + 1 : Nat) : Int) = (T : Int) + 1 from rfl] at hns
    have HNS := Lib.hid hns; have HB := Lib.hid hb; have F2 := Lib.hid f2; have F5 := Lib.hid f5; have F8 := Lib.hid f8; have HBE := Lib.hid hbe; have HMF := Lib.hid hMF; have HBU := Lib.hid hbu; have HU := Lib.hid hU'
    clear hns hb f2 f5 f8 hbe hMF hbu hU'
    go_wp2_with fail
    refine HNS.out.mono ?_
    rintro e w2 ⟨D, ρ, rfl, hD, hρ, hM, hb2⟩
    have hbx := HB.out.trans (hb2.mono (by have := HB.out.size; omega))
    have hb3 : Below w2.heap.size w2 (w2.alloc (.cells #[.slice (some ⟨D, 0, none⟩) N N] 61)) := (Below.refl _ _).alloc (Nat.le_refl _) _
    have hs3 : (w2.alloc (.cells #[.slice (some ⟨D, 0, none⟩) N N] 61)).heap.size = w2.heap.size + 1 := by simp
    have hcm := new_cell w2 w2.heap.size rfl (.slice (some ⟨D, 0, none⟩) N N) 61
    have hs2 := hb2.size; have hsb := HB.out.size
    have hb03 := hbx.trans (hb3.mono (by omega))
    obtain ⟨d0, d1, d2, d3, d4, d5⟩ := HGB.out.below hb03 (Nat.lt_succ_self _)
    obtain ⟨c0, c1, c2, c3, c4, c5⟩ := HGB.out.below hbx (Nat.lt_succ_self _)
    rw [HT.out] at c0 d0
    rw [HN.out] at c1 d1
    rw [HXE.out] at c2 d2
    have hLVl : LV.length = N := by rw [HLVE.out]; exact growN_len N
    have hEMl : EM.length = N := by rw [HEME.out]; exact growN_len N
    have hul : u.length = np := HU.out.1.trans hp1'.out
    have lv := F2.out.lt; have lf := F5.out.lt; have lu := F8.out.lt; have lge := HBE.out.lt; have lgu := HBU.out.lt; have lDF := HMF.out.dl; have lD := hM.dl
    have lrF := fun k (hk : k < N) => (HMF.out.rows k hk).1.lt
    have hblk : ∀ k e vs, k < w'.heap.size → Blk w' k e vs → Blk (w2.alloc (.cells #[.slice (some ⟨D, 0, none⟩) N N] 61)) k e vs := fun k e vs _ h => (h.below' hb2).below' hb3
    have hst : FoSt (w2.alloc (.cells #[.slice (some ⟨D, 0, none⟩) N N] 61)) vu w2.heap.size w.heap.size ve vf gu ge D DF N T np ρ ρF u EM FT (m0 N (T + 1)) := by
      refine ⟨⟨(hblk _ _ _ lu F8.out).cell rfl, hblk _ _ _ lgu HBU.out, hul⟩, ⟨(hblk _ _ _ lv F2.out).cell rfl, hblk _ _ _ lge HBE.out, hEMl⟩, hcm, (hblk _ _ _ lf F5.out).cell rfl, d0, hM.below hb3, (HMF.out.below hb2).below hb3, ?_, ?_⟩
      · rintro j ((rfl | rfl | rfl | rfl | rfl) | (rfl | rfl | rfl | rfl) | ⟨k, hk, rfl⟩)
        all_goals first | omega | (have := lrF k hk; omega)
      · rintro j hj ⟨k', hk', rfl⟩
        have := hρ k' hk'
        have := (hM.rows k' hk').1.lt
        rcases hj with (e | e | e | e | e) | (e | e | e | e) | ⟨k, hk, e⟩
        all_goals first | omega | exact hM.ne k' hk' e | (have := lrF k hk; omega)
    have HST := Lib.hid hst; have HB03 := Lib.hid hb03
    have hwz : w.heap.size < w2.heap.size := by omega
    clear hst hblk hcm hM hb2 hbx hb03 d0 d1 d2 d3 d4 d5
    have hz3 := (((Below.refl w2.heap.size w2).alloc (Nat.le_refl _) (.cells #[.slice (some ⟨D, 0, none⟩) N N] 61)).cell (p := ⟨w.heap.size, 0, none⟩) (by show w.heap.size < w2.heap.size; omega)).trans c0
    have hDlt : w'.heap.size ≤ D := hD
    clear hb3 lrF
    go_wp2_with fail
    have hlv : ∀ W, Below (w2.heap.size + 1) (w2.alloc (.cells #[.slice (some ⟨D, 0, none⟩) N N] 61)) W → Calls Try.prog 19 #[.agg #[.int .i64 G.terms, .int .i64 G.names, .int .i64 G.start, .slice Ap np cp, .slice Al nl cl, .slice As ns cs]] W fun e w' => ∃ g, e = .returned (.slice (some ⟨g, 0, none⟩) N N) ∧ W.heap.size ≤ g ∧ Blk w' g 4 (bv LV) ∧ Below W.heap.size W w' :=
      fun W h => by rw [HLVE.out]; exact LivesT_good G Ap Al As np cp nl cl ns cs W B N (by have := h.size; omega) (HG.out.below ((HB03.out.trans (h.mono (by omega))).mono (by omega))) HK.out HN.out
    have HLIV := Lib.hid hlv
    clear hlv hz3
    generalize w2.alloc (.cells #[.slice (some ⟨D, 0, none⟩) N N] 61) = W3 at *
    rw [← hs3] at HLIV
    refine wp_region_inv (by kernel_rfl) (liInv W3 w.heap.size N X T np ve vf vu w2.heap.size ge DF gu D (.agg #[.int .i64 G.terms, .int .i64 G.names, .int .i64 G.start, .slice Ap np cp, .slice Al nl cl, .slice As ns cs]) sl0 sl1 sl2 LV) (by kernel_rfl) ?_ ?_ ?_ ?_
    · rintro l a w' ⟨l0, l1, l2, l3, l4, l5, g, s22, s23, s24, s25, s26, s27, rfl, _⟩
      rfl
    · rintro l a w4 ⟨l0, l1, l2, l3, l4, l5, g, s22, s23, s24, s25, s26, s27, rfl, rfl, hC⟩ hall
      have q4 : l4 = true := hall 4 (by decide)
      have q5 : l5 = true := hall 5 (by decide)
      clear hall
      obtain rfl := hC.i5 q5
      have hb34 := hC.hb
      clear hC q4 q5
      have hs4 := hb34.size
      have hb04 := HB03.out.trans (hb34.mono (by omega))
      obtain ⟨c0, c1, c2, c3, c4, c5⟩ := HGB.out.below hb04 (Nat.lt_succ_self _)
      rw [HT.out] at c0
      rw [HXE.out] at c2
      have hS4 := HST.out.below hb34
      have HS4 := Lib.hid hS4; have HB04 := Lib.hid hb04
      clear hS4 hb34 hb04 hLVl
      have hpin := (HG.out.below (HB04.out.mono (by omega : B ≤ w.heap.size + 1))).p
      have hfit : ∀ p ∈ G.prods, FitF N T p := fun p hp => (fitF HK.out hp HN.out HT.out).2.2
      have hFR : Rect N T FT := by rw [HFTE.out]; exact frT_rect HK.out HN.out HT.out
      have hρ2 : ∀ j, FoR N ρ j → w'.heap.size ≤ j := fun j ⟨k, hk, e⟩ => by have := hρ k hk; omega
      have hset : ∀ w5, B ≤ w5.heap.size → RdP w5 B Ap np cp G.prods → FoSt w5 vu w2.heap.size w.heap.size ve vf gu ge D DF N T np ρ ρF u EM FT (fol0 N X T (bth LV X)) →
          Calls Try.prog 39 #[.slice Ap np cp, .func (.func 59) #[] #[.pointer (some ⟨vu, 0, none⟩), .pointer (some ⟨w2.heap.size, 0, none⟩), .pointer (some ⟨w.heap.size, 0, none⟩), .pointer (some ⟨ve, 0, none⟩), .pointer (some ⟨vf, 0, none⟩)]] w5 fun e w6 => e = .returned (.tuple #[]) ∧ ∃ M, FoSt w6 vu w2.heap.size w.heap.size ve vf gu ge D DF N T np ρ ρF u EM FT M ∧ FolOk EM FT G.prods u N X T (bth LV X) M ∧ Kp (FoR N ρ) w5 w6 := fun w5 hB5 hP5 hf5 =>
        (settled5q 59 vu w2.heap.size w.heap.size ve vf (stepB EM u FT T) (fun ww x => FoSt ww vu w2.heap.size w.heap.size ve vf gu ge D DF N T np ρ ρF u EM FT x) (FoR N ρ) (Rect N (T + 1)) muM B G.prods Ap np cp
          (fun _ _ => rfl)
          (fun k p y hp hy => stepB_same hFR hfit hp hy)
          (fun k p y hp hy => stepB_mu hFR hfit hp hy)
          (fun w w' x h hb => h.below hb)
          (fun k hk => by have := hρ2 k hk; omega)
          (fun k p A' n' c' ww x hp hq hi hBw hr hl hm => by
            obtain ⟨px, r, py⟩ := p
            obtain ⟨f0, f1, f2, f3⟩ := fitF HK.out (mem_of_get hp) HN.out HT.out
            have hknp : k < np := by rw [← hp1'.out]; exact (List.getElem?_eq_some_iff.1 hp).1
            exact follow1_any k px r py A' n' c' vu w2.heap.size w.heap.size ve vf gu ge D DF N T np ρ ρF u EM FT x ww B hBw hN0 hNN hTT hr hl (by rw [← hl]; exact f1) hi (fun j hj => by have := hρ2 j hj; omega) f0 f2 f3 hknp hFR hq)
          w5 (fol0 N X T (bth LV X)) hB5 hP5 (fol0_ok (EM := EM) (FT := FT) (ps := G.prods) (u := u) hXN).rect hf5).mono fun e w6 ⟨he, n, h1, h2, h3⟩ => ⟨he, _, h1, stepB_done hFR hfit hXN h2, h3⟩
      have HSET := Lib.hid hset; have HPIN := Lib.hid hpin; have HR2 := Lib.hid hρ2
      clear hset hpin hfit hFR hρ2
      cases hbX : bth LV X
      · have he : m0 N (T + 1) = fol0 N X T (bth LV X) := by rw [hbX]; exact fol0_no.symm
        rw [he] at HS4
        have HSET2 := Lib.hid (HSET.out w4 (by omega) HPIN.out HS4.out)
        have HB4 := HB04
        go_wp2_with fail
        refine HSET2.out.mono ?_
        rintro e w6 ⟨rfl, M, hf6, hok, hk6⟩
        have zm := hf6.c
        have hli := lists_any D N (T + 1) N ρ M w6 hNN (by omega) hf6.m.dl hf6.m
        have hb46 : Below (w.heap.size + 1) w4 w6 := hk6.bel (by rw [show w4.heap.size = w4.heap.size from rfl]; omega) (fun j hj q => by have := HR2.out j q; omega)
        have HLI := Lib.hid hli; have HOK := Lib.hid hok; have HB6 := Lib.hid (HB4.out.trans hb46)
        have hs6 := hk6.size
        rw [show w4.heap.size = w4.heap.size from rfl] at hs6
        clear hli hok hf6 hb46 hk6
        go_wp2_with fail
        refine HLI.out.mono ?_
        rintro e w7 ⟨E, rfl, hE, hL, hb7⟩
        have HL := Lib.hid hL
        have HB7 := Lib.hid (HB6.out.trans (hb7.mono (by omega)))
        clear hL hb7
        go_wp2
        go_ret
        exact ⟨E, M, u, rfl, by omega, HU.out, HOK.out, HL.out, HB0.out.trans (HB7.out.mono (by omega))⟩
      · have zvl := HS4.out.c
        have zD := HS4.out.m.cell hXN
        obtain ⟨hrb, hrl⟩ := HS4.out.m.rows X hXN
        have zr := hrb.bcell (k := T) (by rw [hrl]; omega)
        have zf := hrb.frozen T
        have hSn := (HS4.out.below (w' := w4.drew) ⟨rfl, rfl, rfl, Nat.le_refl _, fun _ _ => rfl⟩).row hXN (r := (rowB (m0 N (T + 1)) X).set T true) (by rw [List.length_set]; exact hrl) ((Kp.refl (fun j => j = nthN ρ X) w4.drew).set_ (p := ⟨nthN ρ X, T, none⟩) (.inr rfl) (.bool true)) (Blk.bset hrb.drew T true)
        have he : (m0 N (T + 1)).set X ((rowB (m0 N (T + 1)) X).set T true) = fol0 N X T (bth LV X) := by rw [hbX]; exact fol0_yes hXN
        rw [he] at hSn
        have hb45 : Below (w.heap.size + 1) W0 (w4.drew.setCell ⟨nthN ρ X, T, none⟩ (.bool true)) := (HB04.out.trans (show Below (w.heap.size + 1) w4 w4.drew from ⟨rfl, rfl, rfl, Nat.le_refl _, fun _ _ => rfl⟩)).setCell (by have := HR2.out _ ⟨X, hXN, rfl⟩; show w.heap.size + 1 ≤ nthN ρ X; omega) _
        have hs5 : (w4.drew.setCell ⟨nthN ρ X, T, none⟩ (.bool true)).heap.size = w4.heap.size := setCell_size _ _ _
        have HSN := Lib.hid hSn; have HB5 := Lib.hid hb45
        have hP5 : RdP (w4.drew.setCell ⟨nthN ρ X, T, none⟩ (.bool true)) B Ap np cp G.prods := (HG.out.below (hb45.mono (by omega : B ≤ w.heap.size + 1))).p
        have HSET2 := Lib.hid (HSET.out _ (by omega) hP5 hSn)
        obtain ⟨d0, d1, d2, d3, d4, d5⟩ := HGB.out.below hb45 (Nat.lt_succ_self _)
        rw [HT.out] at d0
        rw [HXE.out] at d2
        clear hSn he hb45 hrb hrl hP5
        go_wp2_with fail
        refine wp_region_still_tail 8 (by kernel_rfl) (by kernel_rfl) ?_
        simp only [List.take_succ_cons, List.take_zero, List.drop_succ_cons, List.drop_zero]
        change wpStill _ _ w4.drew (fun a' => wpList _ _ _ _ a' w4.drew) _ _
        obtain ⟨w5, hw5⟩ : ∃ w5, w5 = w4.drew := ⟨_, rfl⟩
        have hcl : ∀ p, w5.cell? p = w4.cell? p := by intro p; rw [hw5]; rfl
        have hcf : ∀ p, w5.frozen? p = w4.frozen? p := by intro p; rw [hw5]; rfl
        have y1 := (hcl _).trans zvl
        have y2 := (hcl _).trans zD
        have y3 := (hcl _).trans zr
        have y4 := (hcf _).trans zf
        have y5 := (hcl _).trans c0
        have y6 := (hcl _).trans c2
        rw [← hw5] at HSN HB5 HSET2 hs5 d0 d1 d2 d3 d4 d5 ⊢
        clear hcl hcf hw5 zvl zD zr zf c0 c1 c2 c3 c4 c5
        refine wpStill_of_quiet _ _ ?_
        repeat (first | go_big_quiet_skip | (go_big_quiet_want; go_big_quiet_op; go_big_quiet_on))
        refine wpQuiet_nil ?_
        go_upto_region 7 with (fail)
        clear y1 y2 y3 y4 y5 y6
        generalize w5.setCell ⟨nthN ρ X, T, none⟩ (.bool true) = w8 at *
        have HB4 := HB5
        go_wp2_with fail
        refine HSET2.out.mono ?_
        rintro e w6 ⟨rfl, M, hf6, hok, hk6⟩
        have zm := hf6.c
        have hli := lists_any D N (T + 1) N ρ M w6 hNN (by omega) hf6.m.dl hf6.m
        have hb46 : Below (w.heap.size + 1) w8 w6 := hk6.bel (by rw [hs5]; omega) (fun j hj q => by have := HR2.out j q; omega)
        have HLI := Lib.hid hli; have HOK := Lib.hid hok; have HB6 := Lib.hid (HB4.out.trans hb46)
        have hs6 := hk6.size
        rw [hs5] at hs6
        clear hli hok hf6 hb46 hk6
        go_wp2_with fail
        refine HLI.out.mono ?_
        rintro e w7 ⟨E, rfl, hE, hL, hb7⟩
        have HL := Lib.hid hL
        have HB7 := Lib.hid (HB6.out.trans (hb7.mono (by omega)))
        clear hL hb7
        go_wp2
        go_ret
        exact ⟨E, M, u, rfl, by omega, HU.out, HOK.out, HL.out, HB0.out.trans (HB7.out.mono (by omega))⟩
    · rintro l a w4 i ⟨l0, l1, l2, l3, l4, l5, g, s22, s23, s24, s25, s26, s27, rfl, rfl, hC⟩ hi
      obtain ⟨hl, o, ho, hpre⟩ := mem_ready.1 hi
      have hi8 : i < 6 := (Array.getElem?_eq_some_iff.1 ho).1
      refine wpOp_of_list ho ?_
      have hcell := HGB.out.below (HB03.out.trans (hC.hb.mono (by omega))) (Nat.lt_succ_self _)
      obtain ⟨c0, c1, c2, c3, c4, c5⟩ := hcell
      have HC := Lib.hid hC
      have hcase : i = 0 ∨ i = 1 ∨ i = 2 ∨ i = 3 ∨ i = 4 ∨ i = 5 := by omega
      clear hi hi8
      rcases hcase with rfl | rfl | rfl | rfl | rfl | rfl
      · simp at ho hl
        subst ho hl
        clear hpre
        go_wp2_with fail
        exact ⟨_, _, _, _, _, _, g, _, _, _, _, _, _, rfl, rfl, ⟨HC.out.hb, fun _ => rfl, HC.out.i1, HC.out.i2, HC.out.i3, HC.out.i4, HC.out.i5⟩⟩
      · simp at ho hl
        subst ho hl
        simp [Region.binds] at hpre
        obtain rfl := hC.i0 hpre
        have hl4 : l4 = false := by cases l4; rfl; exact absurd (hC.i4 rfl).2 (by simp)
        subst hl4
        clear hC
        go_wp2_with fail
        refine (HLIV.out w4 HC.out.hb).mono ?_
        rintro e w5 ⟨g2, rfl, hg, hblk, hb⟩
        have hz := HC.out.hb.size
        go_wp2_with fail
        exact ⟨_, _, _, _, _, _, g2, _, _, _, _, _, _, rfl, rfl, ⟨HC.out.hb.trans (hb.mono hz), HC.out.i0, fun _ => ⟨rfl, hblk⟩, HC.out.i2, HC.out.i3, fun e => (by cases e), HC.out.i5⟩⟩
      · simp at ho hl
        subst ho hl
        clear hpre
        go_wp2_with fail
        exact ⟨_, _, _, _, _, _, g, _, _, _, _, _, _, rfl, rfl, ⟨HC.out.hb, HC.out.i0, HC.out.i1, fun _ => rfl, HC.out.i3, HC.out.i4, HC.out.i5⟩⟩
      · simp at ho hl
        subst ho hl
        simp [Region.binds] at hpre
        obtain rfl := hC.i2 (by simp [hpre])
        rw [HXE.out] at c2
        clear hC
        go_wp2_with fail
        exact ⟨_, _, _, _, _, _, g, _, _, _, _, _, _, rfl, rfl, ⟨HC.out.hb, HC.out.i0, HC.out.i1, HC.out.i2, fun _ => rfl, HC.out.i4, HC.out.i5⟩⟩
      · simp at ho hl
        subst ho hl
        simp [Region.binds] at hpre
        obtain ⟨rfl, hblk⟩ := hC.i1 (by simp [hpre])
        obtain rfl := hC.i3 (by simp [hpre])
        have hl1 : l1 = true := by simp [hpre]
        clear hC hblk hpre
        go_wp2_with fail
        exact ⟨_, _, _, _, _, _, g, _, _, _, _, _, _, rfl, rfl, ⟨HC.out.hb, HC.out.i0, HC.out.i1, HC.out.i2, HC.out.i3, fun _ => ⟨rfl, hl1⟩, HC.out.i5⟩⟩
      · simp at ho hl
        subst ho hl
        simp [Region.binds] at hpre
        obtain ⟨rfl, hl1⟩ := hC.i4 (by simp [hpre])
        have hblk := (hC.i1 hl1).2
        have zl := hblk.bcell (k := X) (by rw [hLVl]; exact hXN)
        clear hC hblk hpre
        go_wp2_with fail
        exact ⟨_, _, _, _, _, _, g, _, _, _, _, _, _, rfl, rfl, ⟨HC.out.hb, HC.out.i0, HC.out.i1, HC.out.i2, HC.out.i3, HC.out.i4, fun _ => rfl⟩⟩
    · exact ⟨false, false, false, false, false, false, 0, undef, undef, undef, undef, undef, undef, rfl, rfl, ⟨⟨rfl, rfl, rfl, Nat.le_refl _, fun _ _ => rfl⟩, by simp, by simp, by simp, by simp, by simp, by simp⟩⟩
  · rintro l a w' i ⟨la, lb, lc, ld, lo, hi, b, sl, sr, sv, rfl, rfl, hC⟩ hi
    obtain ⟨hl, o, ho, hpre⟩ := mem_ready.1 hi
    have hi8 : i < 12 := (Array.getElem?_eq_some_iff.1 ho).1
    refine wpOp_of_list ho ?_
    have hcell := HGB.out.below hC.hb (Nat.lt_succ_self _)
    obtain ⟨c0, c1, c2, c3, c4, c5⟩ := hcell
    have HC := Lib.hid hC
    have hcase : i = 0 ∨ i = 1 ∨ i = 2 ∨ i = 3 ∨ i = 4 ∨ i = 5 ∨ i = 6 ∨ i = 7 ∨ i = 8 ∨ i = 9 ∨ i = 10 ∨ i = 11 := by omega
    clear hi hi8
    rcases hcase with rfl | rfl | rfl | rfl | rfl | rfl | rfl | rfl | rfl | rfl | rfl | rfl
    · simp at ho hl
      subst ho
      clear hpre
      go_wp2_with fail
      exact ⟨_, _, _, _, _, _, _, _, _, _, rfl, rfl, HC.out.load 0⟩
    · simp at ho hl
      subst ho
      simp [Region.binds] at hpre
      have e := hC.ia 0 (by omega) (by first | exact hpre | exact hpre.1)
      have E := Lib.hid e
      rw [e]
      clear hC e
      go_wp2_with fail
      refine (HEM.out w' HC.out.hb).mono ?_
      rintro e w2 ⟨g, rfl, hg, hblk, hb⟩
      have hC2 := HC.out.call (k := 0) (by omega) hl hb (fun w'' ha hs => ⟨g, rfl, by have := HC.out.lt; omega, (ha g hg hblk.lt).trans hblk⟩)
      have HC2 := Lib.hid hC2
      clear hC2
      go_wp2_with fail
      exact ⟨_, _, _, _, _, _, _, _, _, _, rfl, by simp only [E.out, upd]; rfl, HC2.out⟩
    · simp at ho hl
      subst ho
      clear hpre
      go_wp2_with fail
      exact ⟨_, _, _, _, _, _, _, _, _, _, rfl, rfl, HC.out.load 1⟩
    · simp at ho hl
      subst ho
      simp [Region.binds] at hpre
      have e := hC.ia 1 (by omega) (by first | exact hpre | exact hpre.1)
      have E := Lib.hid e
      rw [e]
      clear hC e
      go_wp2_with fail
      refine (HFI.out w' HC.out.hb).mono ?_
      rintro e w2 ⟨D, ρ, rfl, hD, hρ, hM, hb⟩
      have hC2 := HC.out.call (k := 1) (by omega) hl hb (fun w'' ha hs => ⟨D, ρ, rfl, by have := HC.out.lt; omega, fun k hk => by have := HC.out.lt; have := hρ k hk; omega, hM.agree hD hρ (Nat.le_refl _) ha hs⟩)
      have HC2 := Lib.hid hC2
      clear hC2
      go_wp2_with fail
      exact ⟨_, _, _, _, _, _, _, _, _, _, rfl, by simp only [E.out, upd]; rfl, HC2.out⟩
    · simp at ho hl
      subst ho
      clear hpre
      go_wp2_with fail
      exact ⟨_, _, _, _, _, _, _, _, _, _, rfl, rfl, HC.out.load 2⟩
    · simp at ho hl
      subst ho
      simp [Region.binds] at hpre
      have e := hC.ia 2 (by omega) (by first | exact hpre | exact hpre.1)
      have E := Lib.hid e
      rw [e]
      clear hC e
      go_wp2_with fail
      refine (HUS.out w' HC.out.hb).mono ?_
      rintro e w2 ⟨g, u, rfl, hg, hblk, hu, hb⟩
      have hC2 := HC.out.call (k := 2) (by omega) hl hb (fun w'' ha hs => ⟨g, u, rfl, by have := HC.out.lt; omega, (ha g hg hblk.lt).trans hblk, hu⟩)
      have HC2 := Lib.hid hC2
      clear hC2
      go_wp2_with fail
      exact ⟨_, _, _, _, _, _, _, _, _, _, rfl, by simp only [E.out, upd]; rfl, HC2.out⟩
    · simp at ho hl
      subst ho
      clear hpre
      have hC2 := HC.out.alloc (k := 0) (by omega) hl
      have HC2 := Lib.hid hC2
      clear hC2 hC
      go_wp2_with fail
      exact ⟨_, _, _, _, _, _, _, _, _, _, rfl, rfl, HC2.out⟩
    · simp at ho hl
      subst ho
      clear hpre
      have hC2 := HC.out.alloc (k := 1) (by omega) hl
      have HC2 := Lib.hid hC2
      clear hC2 hC
      go_wp2_with fail
      exact ⟨_, _, _, _, _, _, _, _, _, _, rfl, rfl, HC2.out⟩
    · simp at ho hl
      subst ho
      clear hpre
      have hC2 := HC.out.alloc (k := 2) (by omega) hl
      have HC2 := Lib.hid hC2
      clear hC2 hC
      go_wp2_with fail
      exact ⟨_, _, _, _, _, _, _, _, _, _, rfl, rfl, HC2.out⟩
    · simp at ho hl
      subst ho
      simp [Region.binds] at hpre
      have q1 : lb 0 = true := by simp [hpre]
      have q2 : lc 0 = true := by simp [hpre]
      have hC2 := HC.out.store (k := 0) (by omega) q1 q2
      have hcell := HC.out.cell (k := 0) (by omega) q2
      have hld : ld 0 = false := hl
      rw [hld] at hcell
      have hlt := (HC.out.ic 0 (by omega) q2).2.2.lt
      obtain ⟨k1, k2⟩ := hcell
      obtain ⟨e1, e2, _⟩ := HC.out.ic 0 (by omega) q2
      have hres := (HC.out.ib 0 (by omega) q1).1.now
      have hsv : ∃ A n c, sr 0 = .slice A n c := by
        obtain ⟨x1, x2⟩ := hres
        first | exact ⟨_, _, _, x2.1⟩ | (obtain ⟨x3, x4⟩ := x2; exact ⟨_, _, _, x4.1⟩)
      obtain ⟨xA, xn, xc, e3⟩ := hsv
      have E1 := Lib.hid e1; have E3 := Lib.hid e3; have HC2 := Lib.hid hC2
      rw [e1, e3]
      clear hC2 hC hpre e1 e3 hres e2
      simp only [Bool.false_eq_true, if_false] at k1
      go_wp2_with fail
      exact ⟨la, lb, lc, upd ld 0 true, lo, hi, b, sl, sr, sv, rfl, by simp only [E1.out, E3.out], by have h := HC2.out; rw [E3.out] at h; exact h⟩
    · simp at ho hl
      subst ho
      simp [Region.binds] at hpre
      have q1 : lb 1 = true := by simp [hpre]
      have q2 : lc 1 = true := by simp [hpre]
      have hC2 := HC.out.store (k := 1) (by omega) q1 q2
      have hcell := HC.out.cell (k := 1) (by omega) q2
      have hld : ld 1 = false := hl
      rw [hld] at hcell
      have hlt := (HC.out.ic 1 (by omega) q2).2.2.lt
      obtain ⟨k1, k2⟩ := hcell
      obtain ⟨e1, e2, _⟩ := HC.out.ic 1 (by omega) q2
      have hres := (HC.out.ib 1 (by omega) q1).1.now
      have hsv : ∃ A n c, sr 1 = .slice A n c := by
        obtain ⟨x1, x2⟩ := hres
        first | exact ⟨_, _, _, x2.1⟩ | (obtain ⟨x3, x4⟩ := x2; exact ⟨_, _, _, x4.1⟩)
      obtain ⟨xA, xn, xc, e3⟩ := hsv
      have E1 := Lib.hid e1; have E3 := Lib.hid e3; have HC2 := Lib.hid hC2
      rw [e1, e3]
      clear hC2 hC hpre e1 e3 hres e2
      simp only [Bool.false_eq_true, if_false] at k1
      go_wp2_with fail
      exact ⟨la, lb, lc, upd ld 1 true, lo, hi, b, sl, sr, sv, rfl, by simp only [E1.out, E3.out], by have h := HC2.out; rw [E3.out] at h; exact h⟩
    · simp at ho hl
      subst ho
      simp [Region.binds] at hpre
      have q1 : lb 2 = true := by simp [hpre]
      have q2 : lc 2 = true := by simp [hpre]
      have hC2 := HC.out.store (k := 2) (by omega) q1 q2
      have hcell := HC.out.cell (k := 2) (by omega) q2
      have hld : ld 2 = false := hl
      rw [hld] at hcell
      have hlt := (HC.out.ic 2 (by omega) q2).2.2.lt
      obtain ⟨k1, k2⟩ := hcell
      obtain ⟨e1, e2, _⟩ := HC.out.ic 2 (by omega) q2
      have hres := (HC.out.ib 2 (by omega) q1).1.now
      have hsv : ∃ A n c, sr 2 = .slice A n c := by
        obtain ⟨x1, x2⟩ := hres
        first | exact ⟨_, _, _, x2.1⟩ | (obtain ⟨x3, x4⟩ := x2; exact ⟨_, _, _, x4.1⟩)
      obtain ⟨xA, xn, xc, e3⟩ := hsv
      have E1 := Lib.hid e1; have E3 := Lib.hid e3; have HC2 := Lib.hid hC2
      rw [e1, e3]
      clear hC2 hC hpre e1 e3 hres e2
      simp only [Bool.false_eq_true, if_false] at k1
      go_wp2_with fail
      exact ⟨la, lb, lc, upd ld 2 true, lo, hi, b, sl, sr, sv, rfl, by simp only [E1.out, E3.out], by have h := HC2.out; rw [E3.out] at h; exact h⟩
  · exact ⟨fun _ => false, fun _ => false, fun _ => false, fun _ => false, fun _ => 0, fun _ => 0, fun _ => 0, fun _ => undef, fun _ => undef, fun _ => undef, rfl, rfl, Tri.start hz0 (HBB.out.trans ⟨rfl, rfl, rfl, Nat.le_refl _, fun _ _ => rfl⟩)⟩
end Go.Proofs.Ytgfchgnebpogjaa
