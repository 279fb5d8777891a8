/- grammar.Short whole. -/
import Derived.Test.YtgfchgnebpogjaaGrT
import Derived.Test.YtgfchgnebpogjaaGrU
import Derived.Test.YtgfchgnebpogjaaGrP
namespace Go.Proofs.Ytgfchgnebpogjaa
open Go.RowKit BigFrame
set_option linter.unusedVariables false
set_option linter.unusedSimpArgs false
set_option maxRecDepth 100000

theorem elI : ElTy Try.prog 22 3 1 8 (.int .i64 0) := ⟨Try.underlying22, by kernel_rfl, rfl, by decide⟩

theorem prFit {G : Gr} (h : GOk G) {p : Prd} (hp : p ∈ G.prods) {N : Nat} (hN : G.names = N) : PrFit N p := by
  have q := h.pr p hp
  have h0 := q.l0; have h1 := q.l1
  exact ⟨h0, by omega, fun s hs hn => by have := (q.s s hs).1; omega⟩

theorem short_bad (G : Gr) (Ap Al As : Option Addr) (np cp nl cl ns cs : Nat) (w : World) (B : Nat) (hB : B ≤ w.heap.size) (hG : GrIn w B G Ap Al As np cp nl cl ns cs) (hk : okB G = false) :
    Calls Try.prog 12 #[.agg #[.int .i64 G.terms, .int .i64 G.names, .int .i64 G.start, .slice Ap np cp, .slice Al nl cl, .slice As ns cs]] w fun e w' => e = .returned (.slice none 0 0) ∧ Below w.heap.size w w' := by
  obtain ⟨hb0, hs0, gb⟩ := gbox w G Ap Al As np cp nl cl ns cs
  obtain ⟨hp1, hp2⟩ := hG.p.len
  have hl3 := hG.lm; have hl4 := hG.sm
  have hcall := ok_any G Ap Al As np cp nl cl ns cs (w.alloc (.cells #[.int .i64 G.terms, .int .i64 G.names, .int .i64 G.start, .slice Ap np cp, .slice Al nl cl, .slice As ns cs] 30)) B (Nat.le_trans hB hb0.size) (hG.below (hb0.mono hB))
  rw [hk, hs0] at hcall
  have HC := Lib.hid hcall; have HB0 := Lib.hid hb0
  unfold maxLen at hp2 hl3 hl4
  clear hcall gb hG hk hp1 hb0 hs0
  go_enter Try.func12, Try.ntmps12
  go_wp2_with (go_at_call 18; refine HC.out.mono ?_; rintro e w' ⟨rfl, hb⟩)
  go_ret
  exact ⟨rfl, HB0.out.trans (hb.mono (Nat.le_succ _))⟩

set_option maxHeartbeats 1000000 in
theorem short_good (G : Gr) (Ap Al As : Option Addr) (np cp nl cl ns cs : Nat) (w : World) (B N : Nat) (hB : B ≤ w.heap.size) (hG : GrIn w B G Ap Al As np cp nl cl ns cs) (hk : GOk G) (hN : G.names = N) :
    Calls Try.prog 12 #[.agg #[.int .i64 G.terms, .int .i64 G.names, .int .i64 G.start, .slice Ap np cp, .slice Al nl cl, .slice As ns cs]] w fun e w' => ∃ g n, e = .returned (.slice (some ⟨g, 0, none⟩) N N) ∧ w.heap.size ≤ g ∧ Blk w' g 3 (iv (rounds stepS G.prods n (x0 N))) ∧ (passF stepS 0 G.prods (rounds stepS G.prods n (x0 N))).2 = false ∧ Below w.heap.size w w' := by
  obtain ⟨hb0, hs0, gb⟩ := gbox w G Ap Al As np cp nl cl ns cs
  obtain ⟨hp1, hp2⟩ := hG.p.len
  have hl3 := hG.lm; have hl4 := hG.sm
  have hcall := ok_any G Ap Al As np cp nl cl ns cs (w.alloc (.cells #[.int .i64 G.terms, .int .i64 G.names, .int .i64 G.start, .slice Ap np cp, .slice Al nl cl, .slice As ns cs] 30)) B (Nat.le_trans hB hb0.size) (hG.below (hb0.mono hB))
  rw [okB_t hk, hs0] at hcall
  have HC := Lib.hid hcall; have HB0 := Lib.hid hb0; have HGB := Lib.hid gb; have HG := Lib.hid (hG.below (hb0.mono hB))
  have hn1 := hk.n0; have hn2 := hk.n1
  have HK := Lib.hid hk
  have HN := Lib.hid hN
  have hNN : N ≤ 300 := by omega
  unfold maxLen at hp2 hl3 hl4
  clear hcall gb hG hk hp1 hb0 hN
  have hmk : ∀ w : World, (Instr.makeSlice 22 (.int .i64 (N : Int)) (.int .i64 (N : Int))).run Try.prog w = .ok (.slice (some ⟨w.heap.size, 0, none⟩) N N) (w.alloc (.cells (zs (.int .i64 0) N) 3)) := fun w =>
    mk_row elI rfl .i64 .i64 N _ (by omega) (by omega) (by omega) w
  go_enter Try.func12, Try.ntmps12
  go_wp2_with fail
  refine HC.out.mono ?_
  rintro e w1 ⟨rfl, hb1⟩
  have gb1 := HGB.out.below hb1 (Nat.lt_succ_self _)
  have z1 := gb1.c1
  rw [HN.out] at z1
  have hs1 : w.heap.size < w1.heap.size := by have := hb1.size; omega
  have HG1 := Lib.hid (HG.out.below (hb1.mono (by omega)))
  have HGB1 := Lib.hid gb1
  have HW1 := Lib.hid (HB0.out.trans (hb1.mono (Nat.le_succ _)))
  clear hs0 hb1 gb1 HG HGB HB0 HC
  go_wp2_with fail
  have hblk : Blk ((w1.alloc (.cells (zs (.int .i64 0) N) 3)).alloc (.cells #[.slice (some ⟨w1.heap.size, 0, none⟩) N N] 22)) w1.heap.size 3 (iv (List.replicate N 0)) := by
    rw [← iv_rep]; exact (Blk.made _ _ _ _).alloc _
  have hcv : ((w1.alloc (.cells (zs (.int .i64 0) N) 3)).alloc (.cells #[.slice (some ⟨w1.heap.size, 0, none⟩) N N] 22)).cell? ⟨w1.heap.size + 1, 0, none⟩ = some (.slice (some ⟨w1.heap.size, 0, none⟩) N N) := by simp
  have hs2 : ((w1.alloc (.cells (zs (.int .i64 0) N) 3)).alloc (.cells #[.slice (some ⟨w1.heap.size, 0, none⟩) N N] 22)).heap.size = w1.heap.size + 2 := by simp
  have hb2 : Below w1.heap.size w1 ((w1.alloc (.cells (zs (.int .i64 0) N) 3)).alloc (.cells #[.slice (some ⟨w1.heap.size, 0, none⟩) N N] 22)) := ((Below.refl _ _).alloc (Nat.le_refl _) _).alloc (by simp) _
  obtain ⟨g, hg⟩ : ∃ g, g = w1.heap.size := ⟨_, rfl⟩
  obtain ⟨v, hv⟩ : ∃ v, v = g + 1 := ⟨_, rfl⟩
  rw [← hg] at hblk hcv hs2 hb2 ⊢
  rw [← hv] at hcv ⊢
  generalize (w1.alloc (.cells (zs (.int .i64 0) N) 3)).alloc (.cells #[.slice (some ⟨g, 0, none⟩) N N] 22) = W2 at *
  have hgw : w.heap.size < g := by omega
  have hgv : g < v := by omega
  have hvs : v < W2.heap.size := by omega
  have hgB : B ≤ g := by omega
  have HG2 := Lib.hid (HG1.out.below (hb2.mono hgB))
  have HGB2 := Lib.hid (HGB1.out.below hb2 hgw)
  have HW2 := Lib.hid (HW1.out.trans (hb2.mono (Nat.le_of_lt hgw)))
  clear hg hv hs2 hb2 hs1 HG1 HGB1 HW1 z1 hmk
  have HBL := Lib.hid hblk; have HCV := Lib.hid hcv; clear hblk hcv
  go_loopw [13] (fun i wr => ∃ k : Nat, k ≤ N ∧ i = .int .i64 k ∧ Kp (fun j => j = g) W2 wr ∧ ∃ x : List Int, Hid (Blk wr g 3 (iv x) ∧ x.length = N ∧ ∀ j, j < k → nth x j = -1)) (fun i _ => N - (intOf i).toNat)
  case atStart => exact ⟨0, Nat.zero_le _, rfl, Kp.refl _ _, _, HBL.out, List.length_replicate, fun j h => absurd h (by omega)⟩
  case round =>
    obtain ⟨k, hk, rfl, hkr, x, HX⟩ := hrel
    have zv := (hkr.cell (p := ⟨v, 0, none⟩) hvs (by simp; omega)).trans HCV.out
    by_cases hlt : k < N
    · have zk := HX.out.1.icell (k := k) (by rw [HX.out.2.1]; exact hlt)
      have zf := HX.out.1.frozen k
      generalize nth x k = q at zk
      go_wp2
      go_roundw
      case rel => exact ⟨k + 1, by omega, by go_num, hkr.set_ (.inr rfl) _, x.set k (-1), HX.out.1.iset k (-1), by rw [List.length_set]; exact HX.out.2.1, fun j hj => by
        rw [nth_set (by rw [HX.out.2.1]; exact hlt)]
        split
        · rfl
        · exact HX.out.2.2 j (by omega)⟩
      case measure => simp [intOf]; omega
    · have hx0 : x = x0 N := by
        apply List.ext_getElem
        · rw [HX.out.2.1]; simp [x0]
        · intro j h1 h2
          have h3 := HX.out.2.1
          have := HX.out.2.2 j (by omega)
          rw [nth_get h1] at this
          rw [this]; simp [x0]
      subst hx0
      have hst : ShSt wr v g N (x0 N) := ⟨zv, HX.out.1, by simp [x0], fun j => by
        unfold nth x0
        rw [List.getD_eq_getElem?_getD, List.getElem?_replicate]
        split <;> simp⟩
      have hbr : Below g W2 wr := hkr.bel (by omega) (fun j hj e => by omega)
      have hkr2 := hkr
      have hszr := hkr.size
      have hP := (HG2.out.below (hbr.mono hgB)).p
      have gr3 := (HGB2.out.below hbr hgw).c3
      have hfit : ∀ p ∈ G.prods, PrFit N p := fun p hp => prFit HK.out hp HN.out
      have hset := settled_any 40 v stepS (fun w x => ShSt w v g N x ∧ v < w.heap.size ∧ x.length = N) (fun j => j = g) (fun x => x.length = N) mu B G.prods Ap np cp
        (fun _ _ => rfl) stepS_same
        (fun k p y hp hy => ⟨by rw [step_len]; exact hy, fun h => step_mu (by rw [hy]; exact (hfit p (mem_of_get hp)).2.1) h⟩)
        (fun w w' x h hb => ⟨h.1.below hb h.2.1 h.1.b.lt, Nat.lt_of_lt_of_le h.2.1 hb.size, h.2.2⟩)
        (fun k e => by omega)
        (fun k p A' n' c' w x hp hq hi hB hr hl hm => by
          obtain ⟨px, r, py⟩ := p
          refine (short1_any k px r py A' n' c' v g N x w B hB (by omega) hi.2.1 hr hl hm (by unfold maxLen; omega) hi.1 (hfit _ (mem_of_get hp)) _ rfl).mono ?_
          rintro e w' ⟨rfl, h1, h2⟩
          exact ⟨rfl, ⟨h1, Nat.lt_of_lt_of_le hi.2.1 h2.size, h1.l⟩, h2⟩)
        wr (x0 N) (by omega) hP (by simp [x0]) ⟨hst, by omega, by simp [x0]⟩
      have HSET := Lib.hid hset
      clear hset hfit hP hst hkr zv
      go_wp2_with fail
      refine HSET.out.mono ?_
      rintro e w3 ⟨rfl, n, ⟨h1, h2, h3⟩, h4, h5⟩
      have zv3 := h1.c
      have HB3 := Lib.hid h1.b; have H4 := Lib.hid h4
      have HK5 := Lib.hid (h5.bel (B := g) (by omega) (fun j hj e => by omega))
      clear h1 h2 h3 h4 h5 HSET gr3
      go_wp2
      go_ret
      exact ⟨g, n, rfl, Nat.le_of_lt hgw, HB3.out, H4.out, HW2.out.trans ((hbr.trans HK5.out).mono (Nat.le_of_lt hgw))⟩
end Go.Proofs.Ytgfchgnebpogjaa
