/- grammar.firsts: the two lists that its closure holds (a region that draws the order of two calls and two variables). -/
import Derived.Test.YtgfchgnebpogjaaFs
import Derived.Test.YtgfchgnebpogjaaAny
import Derived.Test.YtgfchgnebpogjaaGd
import Derived.Test.YtgfchgnebpogjaaFuP
namespace Go.Proofs.Ytgfchgnebpogjaa
open Go.RowKit BigFrame
set_option linter.unusedVariables false
set_option linter.unusedSimpArgs false
set_option maxRecDepth 100000

theorem Blk.type_eq {w : World} {g : Nat} {e e' : TypeId} {vs vs' : List Value} (h : Blk w g e vs) (h' : Blk w g e' vs') : e = e' := by
  unfold Blk at h h'
  rw [h] at h'
  simp at h'
  exact h'.2

/-- What holds after some of the operations: those listed by l0 .. l7. -/
structure TwoC (W0 : World) (n0 N : Nat) (gv : Value) (LV EM : List Bool) (l0 l1 l2 l3 l4 l5 l6 l7 : Bool) (gl ge b3 b4 : Nat) (s3 s4 s6 s7 s8 s9 : Value) (w : World) : Prop where
  hb : Below (n0 + 1) W0 w
  z : n0 < W0.heap.size
  i0 : l0 = true → s6 = gv
  i2 : l2 = true → s8 = gv
  i1 : l1 = true → s7 = .slice (some ⟨gl, 0, none⟩) N N ∧ n0 < gl ∧ Blk w gl 4 (bv LV)
  i3 : l3 = true → s9 = .slice (some ⟨ge, 0, none⟩) N N ∧ n0 < ge ∧ Blk w ge 4 (bv EM)
  i4 : l4 = true → s3 = .pointer (some ⟨b3, 0, none⟩) ∧ n0 < b3 ∧ Blk w b3 38 [if l6 = true then .slice (some ⟨gl, 0, none⟩) N N else .slice none 0 0]
  i5 : l5 = true → s4 = .pointer (some ⟨b4, 0, none⟩) ∧ n0 < b4 ∧ Blk w b4 38 [if l7 = true then .slice (some ⟨ge, 0, none⟩) N N else .slice none 0 0]
  d : l4 = true → l5 = true → b3 ≠ b4
  p6 : l6 = true → l1 = true ∧ l4 = true
  p7 : l7 = true → l3 = true ∧ l5 = true
theorem TwoC.below {W0 : World} {n0 N : Nat} {gv : Value} {LV EM : List Bool} {l0 l1 l2 l3 l4 l5 l6 l7 : Bool} {gl ge b3 b4 : Nat} {s3 s4 s6 s7 s8 s9 : Value} {w w' : World} (h : TwoC W0 n0 N gv LV EM l0 l1 l2 l3 l4 l5 l6 l7 gl ge b3 b4 s3 s4 s6 s7 s8 s9 w) (hb : Below w.heap.size w w') :
    TwoC W0 n0 N gv LV EM l0 l1 l2 l3 l4 l5 l6 l7 gl ge b3 b4 s3 s4 s6 s7 s8 s9 w' :=
  ⟨h.hb.trans (hb.mono (by have := h.hb.size; have := h.z; omega)), h.z, h.i0, h.i2, fun e => ⟨(h.i1 e).1, (h.i1 e).2.1, (h.i1 e).2.2.below' hb⟩, fun e => ⟨(h.i3 e).1, (h.i3 e).2.1, (h.i3 e).2.2.below' hb⟩,
    fun e => ⟨(h.i4 e).1, (h.i4 e).2.1, (h.i4 e).2.2.below' hb⟩, fun e => ⟨(h.i5 e).1, (h.i5 e).2.1, (h.i5 e).2.2.below' hb⟩, h.d, h.p6, h.p7⟩
def TwoInv (W0 : World) (n0 N : Nat) (gv : Value) (LV EM : List Bool) (listed : Array Bool) (a : Act) (w : World) : Prop :=
  ∃ (l0 l1 l2 l3 l4 l5 l6 l7 : Bool) (gl ge b3 b4 : Nat) (s3 s4 s6 s7 s8 s9 : Value),
    listed = #[l0, l1, l2, l3, l4, l5, l6, l7] ∧
    a = ⟨#[gv, .pointer (some ⟨n0, 0, none⟩), .slice none 0 0, s3, s4, undef, s6, s7, s8, s9, undef, undef, undef, undef, undef, undef, undef, undef, undef, undef], []⟩ ∧
    TwoC W0 n0 N gv LV EM l0 l1 l2 l3 l4 l5 l6 l7 gl ge b3 b4 s3 s4 s6 s7 s8 s9 w

theorem fitF {G : Gr} (h : GOk G) {p : Prd} (hp : p ∈ G.prods) {N T : Nat} (hN : G.names = N) (hT : G.terms = T) : 0 ≤ p.1 ∧ p.2.1.length ≤ 20 ∧ FitF N T p := by
  have q := h.pr p hp
  have h0 := q.l0; have h1 := q.l1
  exact ⟨h0, q.r, by omega, fun s hs => by have := q.s s hs; exact ⟨fun _ => by omega, by omega⟩⟩

set_option maxHeartbeats 4000000 in
theorem firsts_any (G : Gr) (Ap Al As : Option Addr) (np cp nl cl ns cs : Nat) (w : World) (B N T : Nat) (hB : B ≤ w.heap.size) (hG : GrIn w B G Ap Al As np cp nl cl ns cs) (hk : GOk G) (hN : G.names = N) (hT : G.terms = T) :
    Calls Try.prog 50 #[.agg #[.int .i64 G.terms, .int .i64 G.names, .int .i64 G.start, .slice Ap np cp, .slice Al nl cl, .slice As ns cs]] w fun e w' => ∃ (D : Nat) (ρ : List Nat), e = .returned (.slice (some ⟨D, 0, none⟩) N N) ∧ w.heap.size ≤ D ∧ (∀ k, k < N → w.heap.size ≤ nthN ρ k) ∧
      MtSt w' D N T ρ (rounds (stepF (rounds (stepG livS) G.prods N (b0 N)) (rounds (stepG empS) G.prods N (b0 N))) G.prods N (m0 N T)) ∧ Below w.heap.size w w' := by
  obtain ⟨hb0, hs0, gb⟩ := gbox w G Ap Al As np cp nl cl ns cs
  obtain ⟨hp1, hp2⟩ := hG.p.len
  have hl3 := hG.lm; have hl4 := hG.sm
  unfold maxLen at hp2 hl3 hl4
  have HB0 := Lib.hid hb0; have HGB := Lib.hid gb; have HG := Lib.hid (hG.below (hb0.mono hB))
  have hlv : ∀ W, Below (w.heap.size + 1) (w.alloc (.cells #[.int .i64 G.terms, .int .i64 G.names, .int .i64 G.start, .slice Ap np cp, .slice Al nl cl, .slice As ns cs] 30)) W → Calls Try.prog 19 #[.agg #[.int .i64 G.terms, .int .i64 G.names, .int .i64 G.start, .slice Ap np cp, .slice Al nl cl, .slice As ns cs]] W fun e w' => ∃ g, e = .returned (.slice (some ⟨g, 0, none⟩) N N) ∧ W.heap.size ≤ g ∧ Blk w' g 4 (bv (rounds (stepG livS) G.prods N (b0 N))) ∧ Below W.heap.size W w' :=
    fun W h => LivesT_good G Ap Al As np cp nl cl ns cs W B N (by have := h.size; omega) (HG.out.below (h.mono (by omega))) hk hN
  have hem : ∀ W, Below (w.heap.size + 1) (w.alloc (.cells #[.int .i64 G.terms, .int .i64 G.names, .int .i64 G.start, .slice Ap np cp, .slice Al nl cl, .slice As ns cs] 30)) W → Calls Try.prog 23 #[.agg #[.int .i64 G.terms, .int .i64 G.names, .int .i64 G.start, .slice Ap np cp, .slice Al nl cl, .slice As ns cs]] W fun e w' => ∃ g, e = .returned (.slice (some ⟨g, 0, none⟩) N N) ∧ W.heap.size ≤ g ∧ Blk w' g 4 (bv (rounds (stepG empS) G.prods N (b0 N))) ∧ Below W.heap.size W w' :=
    fun W h => EmptyT_good G Ap Al As np cp nl cl ns cs W B N (by have := h.size; omega) (HG.out.below (h.mono (by omega))) hk hN
  have HLV := Lib.hid hlv; have HEM := Lib.hid hem; have HK := Lib.hid hk; have HN := Lib.hid hN; have HT := Lib.hid hT
  have hz0 : w.heap.size < (w.alloc (.cells #[.int .i64 G.terms, .int .i64 G.names, .int .i64 G.start, .slice Ap np cp, .slice Al nl cl, .slice As ns cs] 30)).heap.size := by omega
  clear hlv hem hG hk hN hT hp1 hb0 hs0 gb
  go_enter Try.func50, Try.ntmps50
  go_wp2_with fail
  generalize w.alloc (.cells #[.int .i64 G.terms, .int .i64 G.names, .int .i64 G.start, .slice Ap np cp, .slice Al nl cl, .slice As ns cs] 30) = W0 at *
  obtain ⟨LV, hLV⟩ : ∃ LV, LV = rounds (stepG livS) G.prods N (b0 N) := ⟨_, rfl⟩
  obtain ⟨EM, hEM⟩ : ∃ EM, EM = rounds (stepG empS) G.prods N (b0 N) := ⟨_, rfl⟩
  rw [← hLV] at HLV
  rw [← hEM] at HEM
  have HLVE := Lib.hid hLV; have HEME := Lib.hid hEM
  clear hLV hEM
  refine wp_region_inv (by kernel_rfl) (TwoInv W0 w.heap.size N (.agg #[.int .i64 G.terms, .int .i64 G.names, .int .i64 G.start, .slice Ap np cp, .slice Al nl cl, .slice As ns cs]) LV EM) (by kernel_rfl) ?_ ?_ ?_ ?_
  · rintro l a w' ⟨l0, l1, l2, l3, l4, l5, l6, l7, _, _, _, _, _, _, _, _, _, _, rfl, _⟩
    rfl
  · rintro l a w' ⟨l0, l1, l2, l3, l4, l5, l6, l7, gl, ge, b3, b4, s3, s4, s6, s7, s8, s9, rfl, rfl, hC⟩ hall
    obtain rfl : l0 = true := hall 0 (by decide)
    obtain rfl : l1 = true := hall 1 (by decide)
    obtain rfl : l2 = true := hall 2 (by decide)
    obtain rfl : l3 = true := hall 3 (by decide)
    obtain rfl : l4 = true := hall 4 (by decide)
    obtain rfl : l5 = true := hall 5 (by decide)
    obtain rfl : l6 = true := hall 6 (by decide)
    obtain rfl : l7 = true := hall 7 (by decide)
    clear hall
    obtain ⟨hb, hz, hi0, hi2, hi1, hi3, hi4, hi5, hd, _, _⟩ := hC
    obtain ⟨rfl, h1g, h1b⟩ := hi1 rfl
    obtain ⟨rfl, h3g, h3b⟩ := hi3 rfl
    obtain ⟨rfl, h4g, h4b⟩ := hi4 rfl
    obtain ⟨rfl, h5g, h5b⟩ := hi5 rfl
    have hd := hd rfl rfl
    obtain rfl := hi0 rfl
    obtain rfl := hi2 rfl
    clear hi0 hi2 hi1 hi3 hi4 hi5
    rw [if_pos rfl] at h4b h5b
    obtain ⟨c0, c1, c2, c3, c4, c5⟩ := HGB.out.below hb (Nat.lt_succ_self _)
    have hNN : N ≤ 300 := by have := HK.out.n1; have := HN.out; omega
    have hTT : T ≤ 300 := by have := HK.out.t1; have := HT.out; omega
    have HB := Lib.hid hb; have H1 := Lib.hid h1b; have H3 := Lib.hid h3b; have H4 := Lib.hid h4b; have H5 := Lib.hid h5b
    clear hb h1b h3b h4b h5b
    go_wp2_with fail
    rw [HN.out, HT.out]
    refine (newSets_any N T w' hNN (by omega)).mono ?_
    rintro e w2 ⟨D, ρ, rfl, hD, hρ, hM, hb2⟩
    have hb02 := HB.out.trans (hb2.mono (by have := HB.out.size; omega))
    obtain ⟨c0, c1, c2, c3, c4, c5⟩ := HGB.out.below hb02 (Nat.lt_succ_self _)
    have HM := Lib.hid hM; have HB2 := Lib.hid hb2; have HB02 := Lib.hid hb02
    clear hM hb2 hb02
    have hwz : w.heap.size < w'.heap.size := by have := HB.out.size; omega
    have hw2 : w'.heap.size ≤ w2.heap.size := HB2.out.size
    have z3 := (((Below.refl w2.heap.size w2).alloc (Nat.le_refl _) (.cells #[.slice (some ⟨D, 0, none⟩) N N] 61)).cell (p := ⟨w.heap.size, 3, none⟩) (by show w.heap.size < w2.heap.size; omega)).trans c3
    have hb3 : Below w2.heap.size w2 (w2.alloc (.cells #[.slice (some ⟨D, 0, none⟩) N N] 61)) := (Below.refl _ _).alloc (Nat.le_refl _) _
    have hs3 : (w2.alloc (.cells #[.slice (some ⟨D, 0, none⟩) N N] 61)).heap.size = w2.heap.size + 1 := by simp
    have hcm := new_cell w2 w2.heap.size rfl (.slice (some ⟨D, 0, none⟩) N N) 61
    have hLVl : LV.length = N := by rw [HLVE.out]; exact rounds_keep (Q := fun x : List Bool => x.length = N) (fun k p y hp hy => by rw [stepG_len]; exact hy) (by simp [b0]) N
    have hEMl : EM.length = N := by rw [HEME.out]; exact rounds_keep (Q := fun x : List Bool => x.length = N) (fun k p y hp hy => by rw [stepG_len]; exact hy) (by simp [b0]) N
    have hl1 := H1.out.lt; have hl3 := H3.out.lt; have hl4 := H4.out.lt; have hl5 := H5.out.lt
    have hf : FsSt (w2.alloc (.cells #[.slice (some ⟨D, 0, none⟩) N N] 61)) b3 w2.heap.size b4 gl ge D N T ρ LV EM (m0 N T) :=
      ⟨⟨((H4.out.below' HB2.out).below' hb3).cell rfl, (H1.out.below' HB2.out).below' hb3, hLVl⟩, ⟨((H5.out.below' HB2.out).below' hb3).cell rfl, (H3.out.below' HB2.out).below' hb3, hEMl⟩, hcm, HM.out.below hb3, ⟨by omega, by omega, by omega⟩,
        fun k hk => by have h1 := hρ k hk; have h2 := (HM.out.rows k hk).1.lt; exact ⟨by omega, by omega, by omega, by omega, by omega⟩⟩
    have hP := (HG.out.below ((HB02.out.trans (hb3.mono (by omega))).mono (by omega : B ≤ w.heap.size + 1))).p
    have HF := Lib.hid hf; have HP := Lib.hid hP
    clear hf hP c0 c1 c2 c3 c4 c5 hcm
    generalize hW3 : w2.alloc (.cells #[.slice (some ⟨D, 0, none⟩) N N] 61) = W3 at *
    have hset := settled3q 73 b3 w2.heap.size b4 (stepF LV EM) (fun w x => FsSt w b3 w2.heap.size b4 gl ge D N T ρ LV EM x) (fun j => ∃ k, k < N ∧ j = nthN ρ k) (Rect N T) muM B G.prods Ap np cp
      (fun _ _ => rfl)
      (fun k p y hp hy => (stepF_all (fitF HK.out (mem_of_get hp) HN.out HT.out).2.2 hy).2.2.2)
      (fun k p y hp hy => ⟨(stepF_all (fitF HK.out (mem_of_get hp) HN.out HT.out).2.2 hy).1, (stepF_all (fitF HK.out (mem_of_get hp) HN.out HT.out).2.2 hy).2.2.1⟩)
      (fun w w' x h hb => h.below hb)
      (fun k ⟨j, hj, e⟩ => by have := hρ j hj; omega)
      (fun k p A' n' c' w x hp hq hi hBw hr hl hm => by
        obtain ⟨px, r, py⟩ := p
        obtain ⟨f0, f1, f2, f3⟩ := fitF HK.out (mem_of_get hp) HN.out HT.out
        exact firsts1_any k px r py A' n' c' b3 w2.heap.size b4 gl ge D N T ρ LV EM x w B hBw hNN hTT hr hl (by rw [← hl]; exact f1) hi (fun k hk => by have := hρ k hk; omega) f0 f2 f3 _ rfl)
      W3 (m0 N T) (by omega) HP.out (m0_rect N T) HF.out
    have HSET := Lib.hid hset; clear hset
    go_wp2_with fail
    refine HSET.out.mono ?_
    rintro e w4 ⟨rfl, n, h1, h2, h3⟩
    have zm := h1.c
    have hag : rounds (stepF LV EM) G.prods n (m0 N T) = rounds (stepF LV EM) G.prods N (m0 N T) := gd_agree (step := stepF LV EM) (Q := Rect N T) (fun k p y hp hy => (stepF_all (fitF HK.out (mem_of_get hp) HN.out HT.out).2.2 hy).2.2.2) (fun k p y hp hy => (stepF_all (fitF HK.out (mem_of_get hp) HN.out HT.out).2.2 hy).1) (m0_rect N T) h2
      (stepF_done (fun p hp => (fitF HK.out hp HN.out HT.out).2.2))
    have H1' := Lib.hid h1.m; have HAG := Lib.hid hag
    have HBB := Lib.hid ((HB02.out.trans (hb3.mono (by omega))).trans (h3.bel (B := w.heap.size + 1) (by omega) (fun j hj ⟨k, hk, e⟩ => by have := hρ k hk; omega)))
    clear h1 h2 h3 hag
    go_wp2
    go_ret
    refine ⟨D, ρ, rfl, by omega, fun k hk => by have := hρ k hk; omega, ?_, HB0.out.trans (HBB.out.mono (by omega))⟩
    rw [← HLVE.out, ← HEME.out]
    have hh := H1'.out
    rw [HAG.out] at hh
    exact hh
  · rintro l a w' i ⟨l0, l1, l2, l3, l4, l5, l6, l7, gl, ge, b3, b4, s3, s4, s6, s7, s8, s9, rfl, rfl, hC⟩ hi
    obtain ⟨hl, o, ho, hpre⟩ := mem_ready.1 hi
    have hi8 : i < 8 := (Array.getElem?_eq_some_iff.1 ho).1
    refine wpOp_of_list ho ?_
    have hcell := HGB.out.below hC.hb (Nat.lt_succ_self _)
    obtain ⟨c0, c1, c2, c3, c4, c5⟩ := hcell
    have HC := Lib.hid hC
    have hcase : i = 0 ∨ i = 1 ∨ i = 2 ∨ i = 3 ∨ i = 4 ∨ i = 5 ∨ i = 6 ∨ i = 7 := by omega
    clear hi hi8
    rcases hcase with rfl | rfl | rfl | rfl | rfl | rfl | rfl | rfl
    · simp at ho hl
      subst ho hl
      clear hpre
      go_wp2_with fail
      exact ⟨true, l1, l2, l3, l4, l5, l6, l7, gl, ge, b3, b4, s3, s4, _, s7, s8, s9, rfl, rfl, ⟨HC.out.hb, HC.out.z, fun _ => rfl, HC.out.i2, HC.out.i1, HC.out.i3, HC.out.i4, HC.out.i5, HC.out.d, HC.out.p6, HC.out.p7⟩⟩
    · simp at ho hl
      subst ho hl
      simp [Region.binds] at hpre
      obtain rfl := hC.i0 hpre
      have hl6 : l6 = false := by cases l6; rfl; exact absurd (hC.p6 rfl).1 (by simp)
      subst hl6
      go_wp2_with fail
      refine (HLV.out w' HC.out.hb).mono ?_
      rintro e w1 ⟨g, rfl, hg, hblk, hb⟩
      have hC1 := HC.out.below hb
      have hsz := HC.out.hb.size; have hzz := HC.out.z
      go_wp2_with fail
      exact ⟨l0, true, l2, l3, l4, l5, false, l7, g, ge, b3, b4, s3, s4, _, _, s8, s9, rfl, rfl, ⟨hC1.hb, hC1.z, hC1.i0, hC1.i2, fun _ => ⟨rfl, by omega, hblk⟩, hC1.i3, hC1.i4, hC1.i5, hC1.d, fun h => by simp at h, hC1.p7⟩⟩
    · simp at ho hl
      subst ho hl
      clear hpre
      go_wp2_with fail
      exact ⟨l0, l1, true, l3, l4, l5, l6, l7, gl, ge, b3, b4, s3, s4, s6, s7, _, s9, rfl, rfl, ⟨HC.out.hb, HC.out.z, HC.out.i0, fun _ => rfl, HC.out.i1, HC.out.i3, HC.out.i4, HC.out.i5, HC.out.d, HC.out.p6, HC.out.p7⟩⟩
    · simp at ho hl
      subst ho hl
      simp [Region.binds] at hpre
      obtain rfl := hC.i2 hpre.1
      have hl7 : l7 = false := by cases l7; rfl; exact absurd (hC.p7 rfl).1 (by simp)
      subst hl7
      go_wp2_with fail
      refine (HEM.out w' HC.out.hb).mono ?_
      rintro e w1 ⟨g, rfl, hg, hblk, hb⟩
      have hC1 := HC.out.below hb
      have hsz := HC.out.hb.size; have hzz := HC.out.z
      go_wp2_with fail
      exact ⟨l0, l1, l2, true, l4, l5, l6, false, gl, g, b3, b4, s3, s4, s6, s7, _, _, rfl, rfl, ⟨hC1.hb, hC1.z, hC1.i0, hC1.i2, hC1.i1, fun _ => ⟨rfl, by omega, hblk⟩, hC1.i4, hC1.i5, hC1.d, hC1.p6, fun h => by simp at h⟩⟩
    · simp at ho hl
      subst ho hl
      clear hpre
      have hl6 : l6 = false := by cases l6; rfl; exact absurd (hC.p6 rfl).2 (by simp)
      subst hl6
      have hC1 := HC.out.below ((Below.refl w'.heap.size w').alloc (Nat.le_refl _) (.cells #[.slice none 0 0] 38))
      have hsz := HC.out.hb.size; have hzz := HC.out.z
      go_wp2_with fail
      exact ⟨l0, l1, l2, l3, true, l5, false, l7, gl, ge, w'.heap.size, b4, _, s4, s6, s7, s8, s9, rfl, rfl, ⟨hC1.hb, hC1.z, hC1.i0, hC1.i2, hC1.i1, hC1.i3, fun _ => ⟨rfl, by omega, Blk.made w' 38 (.slice none 0 0) 1⟩, hC1.i5, fun _ h e => by have := (HC.out.i5 h).2.2.lt; omega, fun h => by simp at h, hC1.p7⟩⟩
    · simp at ho hl
      subst ho hl
      clear hpre
      have hl7 : l7 = false := by cases l7; rfl; exact absurd (hC.p7 rfl).2 (by simp)
      subst hl7
      have hC1 := HC.out.below ((Below.refl w'.heap.size w').alloc (Nat.le_refl _) (.cells #[.slice none 0 0] 38))
      have hsz := HC.out.hb.size; have hzz := HC.out.z
      go_wp2_with fail
      exact ⟨l0, l1, l2, l3, l4, true, l6, false, gl, ge, b3, w'.heap.size, s3, _, s6, s7, s8, s9, rfl, rfl, ⟨hC1.hb, hC1.z, hC1.i0, hC1.i2, hC1.i1, hC1.i3, hC1.i4, fun _ => ⟨rfl, by omega, Blk.made w' 38 (.slice none 0 0) 1⟩, fun h _ e => by have := (HC.out.i4 h).2.2.lt; omega, hC1.p6, fun h => by simp at h⟩⟩
    · simp at ho hl
      subst ho hl
      simp [Region.binds] at hpre
      obtain ⟨rfl, rfl, rfl, rfl, -, -, rfl⟩ := hpre
      obtain ⟨rfl, h1g, h1b⟩ := hC.i1 rfl
      obtain ⟨rfl, h4g, h4b⟩ := hC.i4 rfl
      have hne1 : gl ≠ b3 := fun e => absurd (Blk.type_eq (e ▸ h1b) h4b) (by decide)
      have zf := h4b.frozen 0
      have zc := h4b.cell (i := 0) rfl
      have h4s := h4b.set_ 0 (.slice (some ⟨gl, 0, none⟩) N N)
      have hB6 : Below w'.heap.size w' w' := Below.refl _ _
      have hbs : Below (w.heap.size + 1) W0 (w'.setCell ⟨b3, 0, none⟩ (.slice (some ⟨gl, 0, none⟩) N N)) := HC.out.hb.setCell (by show w.heap.size + 1 ≤ b3; omega) _
      have h1s := h1b.far (p := ⟨b3, 0, none⟩) hne1 (.slice (some ⟨gl, 0, none⟩) N N)
      have h3s : ∀ e : true = true, Blk (w'.setCell ⟨b3, 0, none⟩ (.slice (some ⟨gl, 0, none⟩) N N)) ge 4 (bv EM) := fun e => ((HC.out.i3 e).2.2).far (p := ⟨b3, 0, none⟩) (fun q => by have q : ge = b3 := q; exact absurd (Blk.type_eq (q ▸ (HC.out.i3 e).2.2) h4b) (by decide)) _
      have h5s : ∀ e : true = true, Blk (w'.setCell ⟨b3, 0, none⟩ (.slice (some ⟨gl, 0, none⟩) N N)) b4 38 [if l7 = true then .slice (some ⟨ge, 0, none⟩) N N else .slice none 0 0] := fun e => ((HC.out.i5 e).2.2).far (p := ⟨b3, 0, none⟩) (fun q => HC.out.d rfl e q.symm) _
      have H1 := Lib.hid h1s; have H3 := Lib.hid h3s; have H4 := Lib.hid h4s; have H5 := Lib.hid h5s; have HBS := Lib.hid hbs
      clear h1s h3s h4s h5s hbs h1b h4b hC
      go_wp2_with fail
      exact ⟨true, true, l2, true, true, true, true, l7, gl, ge, b3, b4, _, s4, s6, _, s8, s9, rfl, rfl, ⟨HBS.out, HC.out.z, HC.out.i0, HC.out.i2, fun _ => ⟨rfl, h1g, H1.out⟩, fun e => ⟨(HC.out.i3 e).1, (HC.out.i3 e).2.1, H3.out (by simp)⟩, fun _ => ⟨rfl, h4g, H4.out⟩, fun e => ⟨(HC.out.i5 e).1, (HC.out.i5 e).2.1, H5.out (by simp)⟩, HC.out.d, fun _ => ⟨rfl, rfl⟩, HC.out.p7⟩⟩
    · simp at ho hl
      subst ho hl
      simp [Region.binds] at hpre
      obtain ⟨rfl, rfl, rfl, rfl, rfl, rfl, -, rfl, -, -⟩ := hpre
      obtain ⟨rfl, h1g, h1b⟩ := hC.i3 rfl
      obtain ⟨rfl, h4g, h4b⟩ := hC.i5 rfl
      have hne1 : ge ≠ b4 := fun e => absurd (Blk.type_eq (e ▸ h1b) h4b) (by decide)
      have zf := h4b.frozen 0
      have zc := h4b.cell (i := 0) rfl
      have h4s := h4b.set_ 0 (.slice (some ⟨ge, 0, none⟩) N N)
      have hB6 : Below w'.heap.size w' w' := Below.refl _ _
      have hbs : Below (w.heap.size + 1) W0 (w'.setCell ⟨b4, 0, none⟩ (.slice (some ⟨ge, 0, none⟩) N N)) := HC.out.hb.setCell (by show w.heap.size + 1 ≤ b4; omega) _
      have h1s := h1b.far (p := ⟨b4, 0, none⟩) hne1 (.slice (some ⟨ge, 0, none⟩) N N)
      have h3s : ∀ e : true = true, Blk (w'.setCell ⟨b4, 0, none⟩ (.slice (some ⟨ge, 0, none⟩) N N)) gl 4 (bv LV) := fun e => ((HC.out.i1 e).2.2).far (p := ⟨b4, 0, none⟩) (fun q => by have q : gl = b4 := q; exact absurd (Blk.type_eq (q ▸ (HC.out.i1 e).2.2) h4b) (by decide)) _
      have h5s : ∀ e : true = true, Blk (w'.setCell ⟨b4, 0, none⟩ (.slice (some ⟨ge, 0, none⟩) N N)) b3 38 [if true = true then .slice (some ⟨gl, 0, none⟩) N N else .slice none 0 0] := fun e => ((HC.out.i4 e).2.2).far (p := ⟨b4, 0, none⟩) (fun q => HC.out.d e rfl q) _
      have H1 := Lib.hid h1s; have H3 := Lib.hid h3s; have H4 := Lib.hid h4s; have H5 := Lib.hid h5s; have HBS := Lib.hid hbs
      clear h1s h3s h4s h5s hbs h1b h4b hC
      go_wp2_with fail
      exact ⟨true, true, true, true, true, true, true, true, gl, ge, b3, b4, s3, _, s6, s7, s8, _, rfl, rfl, ⟨HBS.out, HC.out.z, HC.out.i0, HC.out.i2, fun e => ⟨(HC.out.i1 e).1, (HC.out.i1 e).2.1, H3.out (by simp)⟩, fun _ => ⟨rfl, h1g, H1.out⟩, fun e => ⟨(HC.out.i4 e).1, (HC.out.i4 e).2.1, H5.out (by simp)⟩, fun _ => ⟨rfl, h4g, H4.out⟩, HC.out.d, HC.out.p6, fun _ => ⟨rfl, rfl⟩⟩⟩
  · exact ⟨false, false, false, false, false, false, false, false, 0, 0, 0, 0, undef, undef, undef, undef, undef, undef, rfl, rfl, ⟨⟨rfl, rfl, rfl, Nat.le_refl _, fun _ _ => rfl⟩, hz0, by simp, by simp, by simp, by simp, by simp, by simp, by simp, by simp, by simp⟩⟩
end Go.Proofs.Ytgfchgnebpogjaa
