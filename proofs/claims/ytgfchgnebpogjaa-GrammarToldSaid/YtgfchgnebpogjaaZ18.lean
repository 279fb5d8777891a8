/- grammar.Used: a list of names that wait. · slices.Grow of nil, slices.Concat of numbers. · Regions that draw the order of several calls that make memory and of the variables that take what they answer. · grammar.Loops: a map of maps in memory; the closure. -/
import Derived.Test.YtgfchgnebpogjaaZ14
import Derived.Test.YtgfchgnebpogjaaZ11
import Derived.Test.YtgfchgnebpogjaaZ9
import Derived.Test.YtgfchgnebpogjaaZ12
import Derived.Test.YtgfchgnebpogjaaZ1
import Derived.Test.YtgfchgnebpogjaaZ6
import Derived.Test.YtgfchgnebpogjaaZ5
import Derived.Maps.RangeWalk
import Derived.Maps.OwnOps
namespace Go.Proofs.Ytgfchgnebpogjaa
open Go.RowKit BigFrame
set_option linter.unusedVariables false
set_option linter.unusedSimpArgs false
set_option maxRecDepth 100000

theorem elIu : ElTy Try.prog 22 3 1 8 (.int .i64 0) := ⟨Try.underlying22, by kernel_rfl, rfl, by decide⟩
/-- What a round finds in memory: the names that live, those that are reached, the productions used, the list of names that wait. -/
structure TdW (W0 wr : World) (bx base gl ga gu : Nat) (LV x u : List Bool) (v : Value) (l : List Int) : Prop where
  fb : Below bx W0 wr
  fl : Blk wr gl 4 (bv LV)
  fx : Blk wr ga 4 (bv x)
  fu : Blk wr gu 4 (bv u)
  fo : wr.ownsRow base 3 1 v l.length (iv l)
  fs : base ≤ wr.heap.size
section
variable {W0 wr w' : World} {bx base gl ga gu : Nat} {LV x u : List Bool} {v v' : Value} {l l' : List Int}
theorem TdW.below (h : TdW W0 wr bx base gl ga gu LV x u v l) (hb : Below wr.heap.size wr w') (hbx : bx ≤ W0.heap.size) : TdW W0 w' bx base gl ga gu LV x u v l :=
  ⟨h.fb.trans (hb.mono (Nat.le_trans hbx h.fb.size)), h.fl.below' hb, h.fx.below' hb, h.fu.below' hb, own_ext h.fo hb, Nat.le_trans h.fs hb.size⟩
theorem TdW.setx (h : TdW W0 wr bx base gl ga gu LV x u v l) (h1 : bx ≤ ga) (h2 : gl ≠ ga) (h3 : ga ≠ gu) (h4 : ga < base) (k : Nat) (b : Bool) : TdW W0 (wr.setCell ⟨ga, k, none⟩ (.bool b)) bx base gl ga gu LV (x.set k b) u v l :=
  ⟨h.fb.setCell h1 _, h.fl.far (p := ⟨ga, k, none⟩) h2 _, h.fx.bset k b, h.fu.far (p := ⟨ga, k, none⟩) (Ne.symm h3) _, ownsRow_setCell_below h.fo (a := ⟨ga, k, none⟩) h4 _, by rw [setCell_size]; exact h.fs⟩
theorem TdW.setu (h : TdW W0 wr bx base gl ga gu LV x u v l) (h1 : bx ≤ gu) (h2 : gl ≠ gu) (h3 : ga ≠ gu) (h4 : gu < base) (k : Nat) (b : Bool) : TdW W0 (wr.setCell ⟨gu, k, none⟩ (.bool b)) bx base gl ga gu LV x (u.set k b) v l :=
  ⟨h.fb.setCell h1 _, h.fl.far (p := ⟨gu, k, none⟩) h2 _, h.fx.far (p := ⟨gu, k, none⟩) h3 _, h.fu.bset k b, ownsRow_setCell_below h.fo (a := ⟨gu, k, none⟩) h4 _, by rw [setCell_size]; exact h.fs⟩
theorem TdW.app (h : TdW W0 wr bx base gl ga gu LV x u v l) (hg : wr.grownBy w' v.ownBlock) (ho : w'.ownsRow base 3 1 v' l'.length (iv l')) (h1 : bx ≤ base) (h2 : gl < base) (h3 : ga < base) (h4 : gu < base) (hbx : bx ≤ W0.heap.size) : TdW W0 w' bx base gl ga gu LV x u v' l' := by
  have hne : ∀ k, k < base → some k ≠ v.ownBlock := fun k hk e => by have := (h.fo.lt k e.symm).1; omega
  exact ⟨h.fb.trans ⟨hg.os, hg.tape, hg.output, hg.size, fun k hk => hg.block k (Nat.lt_of_lt_of_le hk (Nat.le_trans hbx h.fb.size)) (hne k (by omega))⟩, h.fl.grown hg (hne _ h2), h.fx.grown hg (hne _ h3), h.fu.grown hg (hne _ h4), ho, Nat.le_trans h.fs hg.size⟩
end

/-- The last of a list that is owned, and the rest. -/
theorem own_top {wr : World} {base : Nat} {e : TypeId} {v : Value} {l : List Int} {n : Int} (h : wr.ownsRow base e 1 v (l ++ [n]).length (iv (l ++ [n]))) :
    ∃ g cap, v = .slice (some ⟨g, 0, none⟩) (l.length + 1) cap ∧ l.length + 1 ≤ cap ∧ cap ≤ maxLen ∧ base ≤ g ∧ wr.cell? ⟨g, l.length, none⟩ = some (.int .i64 n) ∧ wr.ownsRow base e 1 (.slice (some ⟨g, 0, none⟩) l.length cap) l.length (iv l) := by
  rw [List.length_append, List.length_singleton] at h
  rcases h.2 with ⟨_, h0⟩ | ⟨g, cap, cur, rfl, hb, hg, hn, hc, hs, ht⟩
  · omega
  · refine ⟨g, cap, rfl, hn, hc, hb, ?_, ?_⟩
    · rw [h.cellAt l.length (by omega)]
      have := iv_get (l := l ++ [n]) (k := l.length) (by simp)
      rw [this]; simp [nth]
    · refine ownsRow_pop (last := [.int .i64 n]) (by rw [iv_len]; omega) ?_
      have e2 : iv l ++ [.int .i64 n] = iv (l ++ [n]) := by unfold iv; rw [List.map_append]; rfl
      rw [e2]; exact h

theorem UsedT_bad (G : Gr) (Ap Al As : Option Addr) (np cp nl cl ns cs : Nat) (w : World) (B : Nat) (hB : B ≤ w.heap.size) (hG : GrIn w B G Ap Al As np cp nl cl ns cs) (hk : okB G = false) :
    Calls Try.prog 22 #[.agg #[.int .i64 G.terms, .int .i64 G.names, .int .i64 G.start, .slice Ap np cp, .slice Al nl cl, .slice As ns cs]] w fun e w' => e = .returned (.slice none 0 0) ∧ Below w.heap.size w w' := by
  obtain ⟨hb0, hs0, gb⟩ := gbox w G Ap Al As np cp nl cl ns cs
  obtain ⟨hp1, hp2⟩ := hG.p.len
  have hl3 := hG.lm; have hl4 := hG.sm
  have hcall := ok_any G Ap Al As np cp nl cl ns cs (w.alloc (.cells #[.int .i64 G.terms, .int .i64 G.names, .int .i64 G.start, .slice Ap np cp, .slice Al nl cl, .slice As ns cs] 30)) B (Nat.le_trans hB hb0.size) (hG.below (hb0.mono hB))
  rw [hk, hs0] at hcall
  have HC := Lib.hid hcall; have HB0 := Lib.hid hb0
  unfold maxLen at hp2 hl3 hl4
  clear hcall gb hG hk hp1 hb0 hs0
  go_enter Try.func22, Try.ntmps22
  go_wp2_with (go_at_call 18; refine HC.out.mono ?_; rintro e w' ⟨rfl, hb⟩)
  go_ret
  exact ⟨rfl, HB0.out.trans (hb.mono (Nat.le_succ _))⟩

set_option maxHeartbeats 4000000 in
theorem UsedT_good (G : Gr) (Ap Al As : Option Addr) (np cp nl cl ns cs : Nat) (w : World) (B N : Nat) (hB : B ≤ w.heap.size) (hG : GrIn w B G Ap Al As np cp nl cl ns cs) (hk : GOk G) (hN : G.names = N) :
    Calls Try.prog 22 #[.agg #[.int .i64 G.terms, .int .i64 G.names, .int .i64 G.start, .slice Ap np cp, .slice Al nl cl, .slice As ns cs]] w fun e w' => ∃ g u, e = .returned (.slice (some ⟨g, 0, none⟩) np np) ∧ w.heap.size ≤ g ∧ Blk w' g 4 (bv u) ∧ UsOk G.prods (rounds (stepG livS) G.prods N (b0 N)) G.start.toNat u ∧ Below w.heap.size w w' := by
  obtain ⟨LV, hLV⟩ : ∃ LV, LV = rounds (stepG livS) G.prods N (b0 N) := ⟨_, rfl⟩
  rw [← hLV]
  have hLVl : LV.length = N := by rw [hLV]; exact growN_len N
  have HLV := Lib.hid hLV; clear hLV
  obtain ⟨hb0, hs0, gb⟩ := gbox w G Ap Al As np cp nl cl ns cs
  obtain ⟨hp1, hp2⟩ := hG.p.len
  have hl3 := hG.lm; have hl4 := hG.sm
  have hn0 := hk.n0; have hn1 := hk.n1; have hp4 := hk.p
  have hNN : N ≤ 300 := by omega
  have hnp : np ≤ 400 := by omega
  have hN0 : 0 < N := by omega
  have hst0 := hk.s0; have hst1 := hk.s1
  obtain ⟨X, hX⟩ := Int.eq_ofNat_of_zero_le hst0
  have hXN : X < N := by omega
  rw [show G.start.toNat = X by omega]
  have HX := Lib.hid hX
  unfold maxLen at hp2 hl3 hl4
  have hcall := ok_any G Ap Al As np cp nl cl ns cs (w.alloc (.cells #[.int .i64 G.terms, .int .i64 G.names, .int .i64 G.start, .slice Ap np cp, .slice Al nl cl, .slice As ns cs] 30)) B (Nat.le_trans hB hb0.size) (hG.below (hb0.mono hB))
  rw [okB_t hk] at hcall
  have HC := Lib.hid hcall
  have HB0 := Lib.hid hb0; have HGB := Lib.hid gb; have HG := Lib.hid (hG.below (hb0.mono hB)); have HK := Lib.hid hk; have HN := Lib.hid hN; have HP1 := Lib.hid hp1
  have HFIT := Lib.hid (fun p (hp : p ∈ G.prods) => prFitg hk hp hN)
  have hs0 : (w.alloc (.cells #[.int .i64 G.terms, .int .i64 G.names, .int .i64 G.start, .slice Ap np cp, .slice Al nl cl, .slice As ns cs] 30)).heap.size = w.heap.size + 1 := by simp
  have HMK := Lib.hid (fun w : World => mk_row elBg rfl .i64 .i64 N _ rfl (by omega) (by omega) w)
  have HMK2 := Lib.hid (fun w : World => mk_row elBg rfl .i64 .i64 np _ rfl (by omega) (by omega) w)
  clear gb hG hk hp1 hb0 hN hX hst0 hst1 hcall
  go_enter Try.func22, Try.ntmps22
  go_wp2_with fail
  generalize w.alloc (.cells #[.int .i64 G.terms, .int .i64 G.names, .int .i64 G.start, .slice Ap np cp, .slice Al nl cl, .slice As ns cs] 30) = W0 at *
  refine HC.out.mono ?_
  rintro e w1 ⟨rfl, hb1⟩
  rw [hs0] at hb1
  obtain ⟨c0, c1, c2, c3, c4, c5⟩ := HGB.out.below hb1 (by omega)
  have HB1 := Lib.hid hb1
  have hs1 := hb1.size
  have HCL := Lib.hid (LivesT_good G Ap Al As np cp nl cl ns cs w1 B N (by omega) (HG.out.below (hb1.mono (by omega))) HK.out HN.out)
  clear hb1 HC
  go_wp2_with fail
  refine HCL.out.mono ?_
  rintro e w2 ⟨gl, rfl, hgl, hbl, hb2⟩
  rw [← HLV.out] at hbl
  have HBL := Lib.hid hbl
  have HB2 := Lib.hid (HB1.out.trans (hb2.mono (by omega)))
  have hgl1 := hbl.lt
  have hs2 := hb2.size
  have hlt2 : w.heap.size < w2.heap.size := by omega
  obtain ⟨c0, c1, c2, c3, c4, c5⟩ := HGB.out.below HB2.out (by omega)
  rw [HN.out] at c1
  rw [HX.out] at c2
  clear hb2 hbl HCL
  have hmk := HMK.out
  have hmk2 := HMK2.out
  go_upto_region 7 with (fail)
  clear hmk hmk2
  have ha0 := Blk.made w2 4 (.bool false) N
  have hu0 := Blk.made (w2.alloc (.cells (zs (.bool false) N) 4)) 4 (.bool false) np
  have e1 : (w2.alloc (.cells (zs (.bool false) N) 4)).heap.size = w2.heap.size + 1 := by simp
  have e2 : ((w2.alloc (.cells (zs (.bool false) N) 4)).alloc (.cells (zs (.bool false) np) 4)).heap.size = w2.heap.size + 1 + 1 := by simp
  rw [bv_rep] at ha0 hu0
  rw [e1] at hu0
  have ho0 := World.ownsRow_lit (base := w2.heap.size + 1 + 1) (e := 3) (size := 1) ((w2.alloc (.cells (zs (.bool false) N) 4)).alloc (.cells (zs (.bool false) np) 4)) #[.int .i64 (X : Int)] 1 (by rw [e2]; exact Nat.le_refl _) (by decide) rfl
  rw [e2] at ho0
  have htd0 : TdW W0 (((w2.alloc (.cells (zs (.bool false) N) 4)).alloc (.cells (zs (.bool false) np) 4)).alloc (.cells #[.int .i64 (X : Int)] 3)) (w.heap.size + 1) (w2.heap.size + 1 + 1) gl w2.heap.size (w2.heap.size + 1) LV (b0 N) (List.replicate np false) (.slice (some ⟨w2.heap.size + 1 + 1, 0, none⟩) 1 1) [(X : Int)] :=
    ⟨((HB2.out.alloc (by omega) _).alloc (by rw [e1]; omega) _).alloc (by rw [e2]; omega) _, ((HBL.out.alloc _).alloc _).alloc _, (ha0.alloc _).alloc _, hu0.alloc _, ho0, by simp⟩
  have hWs : (((w2.alloc (.cells (zs (.bool false) N) 4)).alloc (.cells (zs (.bool false) np) 4)).alloc (.cells #[.int .i64 (X : Int)] 3)).heap.size = w2.heap.size + 1 + 1 + 1 := by simp
  obtain ⟨W3, hW3⟩ : ∃ W3, W3 = (((w2.alloc (.cells (zs (.bool false) N) 4)).alloc (.cells (zs (.bool false) np) 4)).alloc (.cells #[.int .i64 (X : Int)] 3)) := ⟨_, rfl⟩
  rw [← hW3] at htd0 hWs ⊢
  obtain ⟨ga, hga⟩ : ∃ ga, ga = w2.heap.size := ⟨_, rfl⟩
  obtain ⟨gu, hgu⟩ : ∃ gu, gu = w2.heap.size + 1 := ⟨_, rfl⟩
  obtain ⟨gt, hgt⟩ : ∃ gt, gt = w2.heap.size + 1 + 1 := ⟨_, rfl⟩
  rw [← hgt, ← hgu, ← hga] at htd0 ⊢
  have q1 : w.heap.size + 1 ≤ ga := by omega
  have q2 : gl < ga := by omega
  have q3 : ga < gu := by omega
  have q4 : gu < gt := by omega
  have qx : w.heap.size + 1 ≤ W0.heap.size := by omega
  have q5 : w.heap.size < W3.heap.size := by omega
  have HTD := Lib.hid htd0
  clear hgt hgu hga hW3 hWs ho0 hu0 ha0 e1 e2 htd0 HBL HB2 HB1 hs1 hs2 hgl1 hgl hlt2 c0 c1 c2 c3 c4 c5
  have key : ∀ wr, Below (w.heap.size + 1) W0 wr → GrBox wr w.heap.size G Ap Al As np cp nl cl ns cs ∧ GrIn wr B G Ap Al As np cp nl cl ns cs ∧ B ≤ wr.heap.size ∧ w.heap.size + 1 ≤ wr.heap.size := fun wr h => by
    have hz := h.size
    exact ⟨HGB.out.below h (by omega), HG.out.below (h.mono (by omega)), by omega, by omega⟩
  have KEY := Lib.hid key; clear key
  obtain ⟨⟨c0, c1, c2, c3, c4, c5⟩, _, _, _⟩ := KEY.out W3 HTD.out.fb
  rw [HX.out] at c2
  have z1 := HTD.out.fx.bcell (k := X) (by simpa [b0] using hXN)
  have z2 := HTD.out.fx.frozen X
  generalize bth (b0 N) X = v0 at z1
  go_wp2_with fail
  have HT1 := Lib.hid (HTD.out.setx q1 (Nat.ne_of_lt q2) (Nat.ne_of_lt q3) (by omega) X true)
  clear z1 z2 c0 c1 c2 c3 c4 c5 HTD q5
  go_loopg [6] (muB ((b0 N).set X true) + 1) (fun gk v wr => ∃ x u l, Hid (TdW W0 wr (w.heap.size + 1) gt gl ga gu LV x u v l ∧ UsS G.prods LV X N gk x u l N 0 ∧ gk ≤ N + 1))
  case atStart =>
    refine ⟨_, _, _, HT1.out, ?_, ?_⟩
    · have h := UsS.start (ps := G.prods) (lv := LV) hXN
      rw [HP1.out] at h; exact h
    · have h1 := muB_le ((b0 N).set X true)
      simp [b0] at h1 ⊢; omega
  case round =>
    as_aux_lemma =>
      clear HT1
      obtain ⟨x, u, l, HS⟩ := hrel
      have hbel := HS.out.1.fb
      rcases List.eq_nil_or_concat l with rfl | ⟨l1, n, rfl⟩
      · as_aux_lemma =>
          obtain ⟨A, c, rfl, _, hc, _⟩ := own_form HS.out.1.fo
          have HF := Lib.hid (HB0.out.trans (hbel.mono (by omega)))
          clear hbel
          go_wp2_with fail
          go_ret
          exact ⟨gu, u, rfl, by omega, HS.out.1.fu, HS.out.2.1.done, HF.out⟩
      · as_aux_lemma =>
          rw [List.concat_eq_append] at HS
          have hn := HS.out.2.1.lm n (by simp)
          obtain ⟨nn, rfl⟩ := Int.eq_ofNat_of_zero_le hn.1
          have hnx := HS.out.2.1.lx nn (by simp)
          rw [Int.toNat_natCast] at hnx
          have HRN := Lib.hid (HS.out.2.1.snd _ hnx)
          obtain ⟨g, cap, rfl, hcap, hcm, hg, zt, hop⟩ := own_top HS.out.1.fo
          obtain ⟨m1, hgk, hpop⟩ := HS.out.2.1.pop
          have HTD : Hid (TdW W0 wr (w.heap.size + 1) gt gl ga gu LV x u (.slice (some ⟨g, 0, none⟩) l1.length cap) l1) := Lib.hid ⟨HS.out.1.fb, HS.out.1.fl, HS.out.1.fx, HS.out.1.fu, hop, HS.out.1.fs⟩
          have HP := Lib.hid hpop
          have HGK := Lib.hid hgk
          have hm1 : m1 ≤ N := by have := HS.out.2.2; omega
          have hll : l1.length ≤ N := by have := hpop.mu; omega
          obtain ⟨⟨c0, c1, c2, c3, c4, c5⟩, _, _, _⟩ := KEY.out wr hbel
          unfold maxLen at hcm
          clear hop hpop hgk HS hbel hnx hn
          go_wp2_with fail
          obtain ⟨wo, rfl⟩ : ∃ wo : World, wo = wr := ⟨_, rfl⟩
          clear zt c0 c1 c2 c3 c4 c5
          go_loopw [6, 48] (fun v i wr' => ∃ k : Nat, k ≤ np ∧ i = .int .i64 k ∧ ∃ x u l, Hid (TdW W0 wr' (w.heap.size + 1) gt gl ga gu LV x u v l ∧ UsS G.prods LV X N m1 x u l nn k)) (fun _ i _ => np - (intOf i).toNat)
          case atStart => exact ⟨0, Nat.zero_le _, rfl, x, u, l1, HTD.out, HP.out⟩
          case round =>
            as_aux_lemma =>
              clear HTD HP
              obtain ⟨k, hk, rfl, x, u, l, HS⟩ := hrel
              have hbel := HS.out.1.fb
              by_cases hlt : k < np
              · as_aux_lemma =>
                  obtain ⟨_, k2, k3, k4⟩ := KEY.out wr hbel
                  obtain ⟨b, off, rfl, hb, hc⟩ := k2.p.at_ (by omega)
                  obtain ⟨px, rr, py, A', n', c', hq, z0, z1, z2, g1, g2, g3, g4⟩ := hc k hlt
                  obtain ⟨hf0, hf1, hf2⟩ := HFIT.out _ (mem_of_get hq)
                  simp only at hf0 hf1 hf2
                  have HPM := Lib.hid hq; have HR := Lib.hid g1; have HF2 := Lib.hid hf2
                  have HCL : Hid (∀ wr', Below (w.heap.size + 1) W0 wr' → RdI wr' B A' rr) := Lib.hid (fun wr' h => Rd.keep g4 (fun p hp => (h.cell (p := p) (by omega)).trans (hbel.cell (p := p) (by omega)).symm))
                  have hbox := Blk.new wr 50 [.int .i64 px, .slice A' n' c', .int .i64 py]
                  have HT5 := Lib.hid (HS.out.1.below (w' := wr.alloc (.cells #[.int .i64 px, .slice A' n' c', .int .i64 py] 50)) ((Below.refl _ _).alloc (Nat.le_refl _) _) qx)
                  have HUS := Lib.hid HS.out.2
                  have hszw : wr.heap.size < (wr.alloc (.cells #[.int .i64 px, .slice A' n' c', .int .i64 py] 50)).heap.size := by simp
                  unfold maxLen at g3
                  clear hbel k2 hc hq g1 g4 hf2
                  by_cases hpn : px = nn
                  · as_aux_lemma =>
                      subst hpn
                      go_upto_region 14 with (fail)
                      obtain ⟨W5, hW5⟩ : ∃ W5, W5 = wr.alloc (.cells #[.int .i64 (nn : Int), .slice A' n' c', .int .i64 py] 50) := ⟨_, rfl⟩
                      have hbox' : Blk W5 wr.heap.size 50 [.int .i64 (nn : Int), .slice A' n' c', .int .i64 py] := by rw [hW5]; exact hbox
                      rw [← hW5] at HT5 hszw ⊢
                      have hgul := HS.out.1.fu.lt
                      clear hW5 hbox HS
                      obtain ⟨gp, hgp⟩ : ∃ gp, gp = wr.heap.size := ⟨_, rfl⟩
                      rw [← hgp] at hbox' hszw ⊢
                      have hgpb : w.heap.size + 1 ≤ gp := by omega
                      have hgpu : gu < gp := by omega
                      clear hgp z0 z1 z2
                      obtain ⟨_, k2, k3', k4'⟩ := KEY.out W5 HT5.out.fb
                      have hrd5 := HCL.out W5 HT5.out.fb
                      have HC := Lib.hid (whole_any (nn : Int) rr py A' n' c' gl N LV W5 B (by omega) (by omega) hrd5 HR.out (by unfold maxLen; omega) HT5.out.fl hLVl HF2.out)
                      have z0 := hbox'.cell (i := 0) rfl
                      have z1 := hbox'.cell (i := 1) rfl
                      have z2 := hbox'.cell (i := 2) rfl
                      clear k2 hrd5
                      have d1 : ((nn : Int) == (nn : Int)) = true := by simp
                      have d2 : ((nn : Int) != (nn : Int)) = false := by simp
                      go_wp2_with fail
                      refine HC.out.mono ?_
                      rintro e w6 ⟨rfl, hb6⟩
                      have HT6 := Lib.hid (HT5.out.below hb6 qx)
                      have hbox6 := hbox'.below' hb6
                      have hs6 := hb6.size
                      have z0 := hbox6.cell (i := 0) rfl
                      have z1 := hbox6.cell (i := 1) rfl
                      have z2 := hbox6.cell (i := 2) rfl
                      clear HC HT5 hbox' hb6 d1 d2
                      cases hall : rr.all (livS LV)
                      · as_aux_lemma =>
                          have HNX := Lib.hid (HUS.out.skip HPM.out (.inr hall))
                          clear hall
                          go_wp2_with fail
                          go_roundw
                          case rel => exact ⟨k + 1, by omega, by go_num, x, u, l, HT6.out, HNX.out⟩
                          case measure => simp [intOf]; omega
                      · as_aux_lemma =>
                          have HNX := Lib.hid (HUS.out.use HPM.out hall (by simpa using HRN.out))
                          have HRS : Hid (∀ s ∈ rr, s < 0 → RchN G.prods LV X (-1 - s).toNat) := Lib.hid (fun s hs h0 => RchN.step (mem_of_get HPM.out) hall (by simpa using HRN.out) hs h0)
                          have zu := HT6.out.fu.bcell (k := k) (by rw [HUS.out.ul, HP1.out]; exact hlt)
                          have zuf := HT6.out.fu.frozen k
                          generalize bth u k = vu at zu
                          clear hall
                          go_wp2_with fail
                          have HT7 := Lib.hid (HT6.out.setu (by omega) (by omega) (by omega) q4 k true)
                          clear z0 z1 z2 zu zuf HT6 hbox6 HUS
                          generalize w6.setCell ⟨gu, k, none⟩ (.bool true) = W7 at HT7 ⊢
                          obtain ⟨wo3, rfl⟩ : ∃ wo3 : World, wo3 = W7 := ⟨_, rfl⟩
                          go_loopw [6, 69] (fun v i wr' => ∃ j : Nat, j ≤ n' ∧ i = .int .i64 j ∧ ∃ x l, Hid (TdW W0 wr' (w.heap.size + 1) gt gl ga gu LV x (u.set k true) v l ∧ UsS G.prods LV X N m1 x (u.set k true) l nn k ∧ ∀ a, a < j → nth rr a < 0 → bth x (-1 - nth rr a).toNat = true)) (fun _ i _ => n' - (intOf i).toNat)
                          case atStart => exact ⟨0, Nat.zero_le _, rfl, x, l, HT7.out, HNX.out, fun a h => absurd h (by omega)⟩
                          case round =>
                            as_aux_lemma =>
                              clear HT7 HNX
                              obtain ⟨j, hj, rfl, x, l, HS⟩ := hrel
                              by_cases hjn : j < n'
                              · as_aux_lemma =>
                                  obtain ⟨b', off', rfl, hb', zr⟩ := (HCL.out wr HS.out.1.fb).get1 (k := j) (by rw [HR.out]; exact hjn)
                                  have hmem := mem_nth (l := rr) (k := j) (by rw [HR.out]; exact hjn)
                                  have hf2 := HF2.out _ hmem
                                  have hrn := HRS.out _ hmem
                                  have hstep : ∀ x3 : List Bool, (∀ i, bth x i = true → bth x3 i = true) → (nth rr j < 0 → bth x3 (-1 - nth rr j).toNat = true) → ∀ a, a < j + 1 → nth rr a < 0 → bth x3 (-1 - nth rr a).toNat = true := fun x3 h1 h2 a ha h0 => by
                                    by_cases e : a = j
                                    · subst e; exact h2 h0
                                    · exact h1 _ (HS.out.2.2 a (by omega) h0)
                                  have HST := Lib.hid hstep
                                  clear hstep hmem
                                  generalize nth rr j = s at zr hf2 hrn HST
                                  by_cases hs : s < 0
                                  · obtain ⟨t2, ht1⟩ : ∃ t2 : Nat, t2 = (-1 - s).toNat := ⟨_, rfl⟩
                                    have ht := hf2 hs
                                    have hrn := hrn hs
                                    rw [← ht1] at ht hrn HST
                                    have hts : -1 - s = (t2 : Int) := by omega
                                    have zx := HS.out.1.fx.bcell (k := t2) (by rw [HS.out.2.1.xl]; exact ht)
                                    have zxf := HS.out.1.fx.frozen t2
                                    cases hxt : bth x t2
                                    · as_aux_lemma =>
                                        have HN2 := Lib.hid (HS.out.2.1.push ht hxt hrn)
                                        have HT2 := Lib.hid (HS.out.1.setx q1 (by omega) (by omega) (by omega) t2 true)
                                        have HST2 := Lib.hid (HST.out (x.set t2 true) (fun i h => set_true_bth h) (fun _ => set_true_at (by rw [HS.out.2.1.xl]; exact ht)))
                                        have hmu := HS.out.2.1.mu
                                        have hll2 : l.length ≤ N := by omega
                                        have hsz2 : (wr.setCell ⟨ga, t2, none⟩ (.bool true)).heap.size = wr.heap.size := setCell_size _ _ _
                                        have hgtw := HS.out.1.fs
                                        rw [hxt] at zx
                                        clear hf2 hrn HST ht1 hxt hmu HS
                                        go_wp2_with (at_builtin; refine wpList_app elIu rfl (.tmp 87) (.tmp 90) rfl gt _ l.length 1 _ [.int .i64 (t2 : Int)] rfl HT2.out.fo (by rw [hsz2]; rfl) rfl (by simp [Value.oneCell']) (by omega) (by omega) (by rw [hsz2]; exact hgtw) ?_; intro v1 w2 hown2 hg2 hat2; have HG2 := Lib.hid hg2; have HO2 := Lib.hid hown2; clear hown2 hg2 hat2)
                                        go_roundw
                                        case rel => exact ⟨j + 1, by omega, by go_num, x.set t2 true, l ++ [(t2 : Int)], HT2.out.app HG2.out (by rw [List.length_append]; unfold iv; rw [List.map_append]; exact HO2.out) (by omega) (by omega) (by omega) (by omega) qx, HN2.out, HST2.out⟩
                                        case measure => simp [intOf]; omega
                                    · as_aux_lemma =>
                                        have HST2 := Lib.hid (HST.out x (fun i h => h) (fun _ => hxt))
                                        rw [hxt] at zx
                                        clear hf2 hrn HST ht1 hxt
                                        go_wp2_with fail
                                        go_roundw
                                        case rel => exact ⟨j + 1, by omega, by go_num, x, l, HS.out.1, HS.out.2.1, HST2.out⟩
                                        case measure => simp [intOf]; omega
                                  · have HST2 := Lib.hid (HST.out x (fun i h => h) (fun h => absurd h hs))
                                    have ds : decide (s < 0) = false := decide_eq_false hs
                                    clear hf2 hrn HST
                                    go_wp2_with fail
                                    go_roundw
                                    case rel => exact ⟨j + 1, by omega, by go_num, x, l, HS.out.1, HS.out.2.1, HST2.out⟩
                                    case measure => simp [intOf]; omega
                              · as_aux_lemma =>
                                  have HN3 : Hid (UsS G.prods LV X N m1 x (u.set k true) l nn (k + 1)) := Lib.hid (HS.out.2.1.next HPM.out (set_true_at (by
                                    have h1 := HS.out.2.1.ul
                                    rw [List.length_set] at h1
                                    rw [h1, HP1.out]; exact hlt)) (fun s hs h0 => by
                                    obtain ⟨a, ha, e⟩ := List.getElem_of_mem hs
                                    have := HS.out.2.2 a (by have := HR.out; simp only at ha; omega) (by rw [nth_get ha, e]; exact h0)
                                    rwa [nth_get ha, e] at this))
                                  go_wp2_with fail
                                  go_roundw
                                  case rel => exact ⟨k + 1, by omega, by go_num, x, u.set k true, l, HS.out.1, HN3.out⟩
                                  case measure => simp [intOf]; omega
                  · as_aux_lemma =>
                      have HNX := Lib.hid (HUS.out.skip HPM.out (.inl (by simp only; omega)))
                      have d1 : (px == (nn : Int)) = false := by rw [beq_eq_false_iff_ne]; exact hpn
                      have d2 : (px != (nn : Int)) = true := by rw [bne_iff_ne]; exact hpn
                      clear HS hbox
                      go_wp2_with fail
                      go_roundw
                      case rel => exact ⟨k + 1, by omega, by go_num, x, u, l, HT5.out, HNX.out⟩
                      case measure => simp [intOf]; omega
              · as_aux_lemma =>
                  have hkn : k = G.prods.length := by rw [HP1.out]; omega
                  have HNX : Hid (UsS G.prods LV X N m1 x u l N 0) := Lib.hid (UsS.through (by rw [← hkn]; exact HS.out.2))
                  clear hkn hbel
                  go_wp2_with fail
                  go_roundg m1
                  case measure => rw [HGK.out]; omega
                  case rel => exact ⟨x, u, l, HS.out.1, HNX.out, by omega⟩
end Go.Proofs.Ytgfchgnebpogjaa
namespace Go.Proofs.Ytgfchgnebpogjaa
open Go.RowKit BigFrame
set_option linter.unusedVariables false
set_option linter.unusedSimpArgs false
set_option maxRecDepth 100000

theorem grow_nil (n : Nat) (w : World) (hn : n ≤ 100000) :
    Calls Try.prog 69 #[.slice none 0 0, .int .i64 (n : Int)] w fun e w' => ∃ v, e = .returned v ∧ w'.ownsRow w.heap.size 3 1 v 0 [] ∧ Below w.heap.size w w' := by
  rcases Nat.eq_zero_or_pos n with rfl | h0
  · go_enter Try.func69, Try.ntmps69
    go_wp2_with fail
    go_ret
    exact ⟨_, rfl, World.ownsRow_nil _ _ _ _, Below.refl _ _⟩
  · obtain ⟨i, hi, hz, hsz, hby⟩ := info_parts elIu.hi
    have hlt : (0 : Int) < (n : Int) := by omega
    have hrun := fun w : World => Lib.run_append_nil_zeros (P := Try.prog) w 22 3 22 3 i (.int .i64 0) .i64 .i64 elIu.ht (by rfl) hi hz n h0 (by omega) (by omega) (by rw [hby]; omega)
    have HR := Lib.hid hrun
    clear hi hz hsz hby hrun
    go_enter Try.func69, Try.ntmps69
    go_upto_region 5 with (fail)
    go_wp2_with (at_builtin; refine Lib.wpList_append_run _ rfl (.tmp 20) (.tmp 21) 22 3 rfl _ _ rfl rfl _ _ (HR.out _) ?_)
    go_ret
    refine ⟨_, rfl, ⟨rfl, .inr ⟨w.heap.size, _, _, rfl, Nat.le_refl _, heap_alloc_new w.drew _, Nat.zero_le _, ?_, ?_, by simp⟩⟩, ?_⟩
    · exact grownCap_le_maxLen _ _ _ _ (by unfold maxLen; omega)
    · rw [Array.size_append, size_zeroCells, size_zeroCells]
      have := grownCap_ge w n 0 3
      show n * 1 + (grownCap w n 0 3 - n) * 1 = _
      omega
    · have hb : Below w.heap.size w w.drew := ⟨rfl, rfl, rfl, Nat.le_refl _, fun _ _ => rfl⟩
      exact hb.alloc (Nat.le_refl _) _

/-- The first k lists, one behind the other. -/
def catL (L : Nat → List Int) : Nat → List Int
  | 0 => []
  | k + 1 => catL L k ++ L k
def lenL (L : Nat → List Int) : Nat → Nat
  | 0 => 0
  | k + 1 => lenL L k + (L k).length
theorem catL_len (L : Nat → List Int) : ∀ k, (catL L k).length = lenL L k
  | 0 => rfl
  | k + 1 => by rw [catL, List.length_append, catL_len L k, lenL]
theorem lenL_le (L : Nat → List Int) {m : Nat} : ∀ {k : Nat}, k ≤ m → lenL L k ≤ lenL L m := fun {k} h => by
  induction m with
  | zero => obtain rfl : k = 0 := by omega
            exact Nat.le_refl _
  | succ m ih =>
    by_cases e : k = m + 1
    · rw [e]; exact Nat.le_refl _
    · have := ih (by omega); rw [lenL]; omega

set_option maxHeartbeats 1000000 in
theorem concat_any (g m cap : Nat) (L : Nat → List Int) (A : Nat → Option Addr) (C : Nat → Nat) (w : World) (B : Nat) (hB : B ≤ w.heap.size) (hg : g < w.heap.size) (hm : m ≤ 1000) (hL : lenL L m ≤ 100000)
    (hc : ∀ k, k < m → w.cell? ⟨g, k, none⟩ = some (.slice (A k) (L k).length (C k))) (hr : ∀ k, k < m → RdI w B (A k) (L k)) :
    Calls Try.prog 35 #[.slice (some ⟨g, 0, none⟩) m cap] w fun e w' => ∃ v, e = .returned v ∧ w'.ownsRow w.heap.size 3 1 v (catL L m).length (iv (catL L m)) ∧ Below w.heap.size w w' := by
  have HC := Lib.hid hc; have HR := Lib.hid hr; have HL := Lib.hid hL
  clear hc hr hL
  go_enter Try.func35, Try.ntmps35
  go_wp2_with fail
  go_loop [3, 11] (fun v i => ∃ k : Nat, k ≤ m ∧ i = .int .i64 k ∧ v = .int .i64 (lenL L k : Nat)) (fun _ i => m - (intOf i).toNat)
  case atStart => exact ⟨0, Nat.zero_le _, rfl, rfl⟩
  case round =>
    as_aux_lemma =>
      obtain ⟨k, hk, rfl, rfl⟩ := hrel
      have hle : lenL L k ≤ 100000 := Nat.le_trans (lenL_le L hk) HL.out
      by_cases hlt : k < m
      · as_aux_lemma =>
          have z1 := HC.out k hlt
          have hsu : lenL L (k + 1) = lenL L k + (L k).length := rfl
          have hle2 : lenL L (k + 1) ≤ 100000 := Nat.le_trans (lenL_le L hlt) HL.out
          rw [hsu] at hle2
          have HSU := Lib.hid hsu
          clear hsu
          generalize (L k).length = n at *
          go_wp2_with fail
          go_round
          case rel => exact ⟨k + 1, by omega, by go_num, by rw [HSU.out]; go_num⟩
          case measure => simp [intOf]; omega
      · as_aux_lemma =>
          have hkm : k = m := by omega
          have hgr := grow_nil (lenL L m) w HL.out
          rw [← hkm] at hgr
          have HG := Lib.hid hgr; have HKM := Lib.hid hkm
          clear hgr hkm
          go_wp2_with fail
          refine HG.out.mono ?_
          rintro e w1 ⟨v, rfl, hown, hb⟩
          have HO := Lib.hid hown; have HB := Lib.hid hb
          clear hown hb
          go_wp2_with fail
          go_loopw [6, 27] (fun v i wr => ∃ k : Nat, k ≤ m ∧ i = .int .i64 k ∧ Hid (wr.ownsRow w.heap.size 3 1 v (catL L k).length (iv (catL L k))) ∧ Hid (Below w.heap.size w wr)) (fun _ i _ => m - (intOf i).toNat)
          case atStart => exact ⟨0, Nat.zero_le _, rfl, HO.out, HB.out⟩
          case round =>
            as_aux_lemma =>
              clear HO HB
              obtain ⟨k2, hk2, rfl, HO, HB⟩ := hrel
              have hsz := HB.out.size
              by_cases hlt2 : k2 < m
              · as_aux_lemma =>
                  have hz := (HB.out.cell (p := ⟨g, k2, none⟩) hg).trans (HC.out k2 hlt2)
                  have hrd : Rd wr B (A k2) (iv (L k2)) := (HR.out k2 hlt2).below (HB.out.mono hB)
                  have hle : (catL L k2).length + (L k2).length ≤ 100000 := by
                    have h1 := lenL_le L (k := k2 + 1) (m := m) (by omega)
                    have h2 := HL.out
                    rw [lenL] at h1
                    rw [catL_len]
                    omega
                  have HRD := Lib.hid hrd; have H1 := Lib.hid (iv_one (L k2)); have HLE := Lib.hid hle
                  have HN := Lib.hid (show (iv (L k2)).length = (L k2).length * 1 by rw [iv_len, Nat.mul_one])
                  have HCAT : Hid (catL L (k2 + 1) = catL L k2 ++ L k2) := Lib.hid rfl
                  clear hrd hle
                  generalize catL L k2 = xs at *
                  generalize L k2 = ys at *
                  go_wp2_with (at_builtin; refine wpList_app_rd elIu rfl (.tmp 31) (.tmp 32) rfl w.heap.size _ xs.length ys.length (C k2) B (A k2) (iv xs) (iv ys) rfl HO.out rfl HN.out HRD.out H1.out (by have := HLE.out; omega) (by have := HLE.out; omega) hsz ?_; intro v1 w1 hown1 hg1 hat1)
                  have hown2 : w1.ownsRow w.heap.size 3 1 v1 (xs ++ ys).length (iv (xs ++ ys)) := by
                    rw [List.length_append]
                    have : iv (xs ++ ys) = iv xs ++ iv ys := by unfold iv; rw [List.map_append]
                    rw [this]; exact hown1
                  have hb1 : Below w.heap.size w w1 := HB.out.grown hg1 hsz (fun k hk => own_base HO.out k hk)
                  have HO1 := Lib.hid hown2; have HB1 := Lib.hid hb1
                  clear hown1 hown2 hb1 hg1 hat1
                  go_wp2_with fail
                  go_roundw
                  case rel => exact ⟨k2 + 1, by omega, by go_num, by show World.ownsRow _ _ _ _ _ _ _; rw [HCAT.out]; exact HO1.out, HB1.out⟩
                  case measure => simp [intOf]; omega
              · as_aux_lemma =>
                  have e : k2 = m := by omega
                  have HE := Lib.hid e
                  clear e
                  go_wp2_with fail
                  go_ret
                  exact ⟨_, rfl, by rw [← HE.out]; exact HO.out, HB.out⟩
end Go.Proofs.Ytgfchgnebpogjaa
namespace Go.Proofs.Ytgfchgnebpogjaa
open Go.RowKit
set_option linter.unusedVariables false
set_option linter.unusedSimpArgs false

/-- In whatever world has the blocks from lo to hi as they are here, v is such. -/
def Ag (P : World → Value → Prop) (lo hi : Nat) (v : Value) (w : World) : Prop :=
  lo ≤ hi ∧ hi ≤ w.heap.size ∧ ∀ w', (∀ k : Nat, lo ≤ k → k < hi → w'.heap[k]? = w.heap[k]?) → hi ≤ w'.heap.size → P w' v
theorem Ag.kp {P : World → Value → Prop} {lo hi : Nat} {v : Value} {w w' : World} {S : Nat → Prop} (h : Ag P lo hi v w) (hk : Kp S w w') (hS : ∀ k, lo ≤ k → k < hi → ¬ S k) : Ag P lo hi v w' :=
  ⟨h.1, Nat.le_trans h.2.1 hk.size, fun w'' ha hs => h.2.2 w'' (fun k h1 h2 => (ha k h1 h2).trans (hk.block k (Nat.lt_of_lt_of_le h2 h.2.1) (hS k h1 h2))) hs⟩
theorem Ag.now {P : World → Value → Prop} {lo hi : Nat} {v : Value} {w : World} (h : Ag P lo hi v w) : P w v := h.2.2 w (fun _ _ _ => rfl) h.2.1

def upd {α : Type} (f : Nat → α) (k : Nat) (v : α) : Nat → α := fun j => if j = k then v else f j
theorem upd_same {α : Type} (f : Nat → α) (k : Nat) (v : α) : upd f k v k = v := if_pos rfl
theorem upd_ne {α : Type} (f : Nat → α) {k j : Nat} (v : α) (h : j ≠ k) : upd f k v j = f j := if_neg h

/-- What holds after some of the operations: la: grammars loaded; lb: calls made; lc: variables made; ld: variables filled. -/
structure Tri (n : Nat) (ty : Nat → TypeId) (z : Nat → Value) (P : Nat → World → Value → Prop) (W0 : World) (n0 : Nat) (gv : Value) (la lb lc ld : Nat → Bool) (lo hi b : Nat → Nat) (sl sr sv : Nat → Value) (w : World) : Prop where
  hb : Below (n0 + 1) W0 w
  z0 : n0 < W0.heap.size
  ia : ∀ k, k < n → la k = true → sl k = gv
  ib : ∀ k, k < n → lb k = true → Ag (P k) (lo k) (hi k) (sr k) w ∧ n0 < lo k
  ic : ∀ k, k < n → lc k = true → sv k = .pointer (some ⟨b k, 0, none⟩) ∧ n0 < b k ∧ Blk w (b k) (ty k) [if ld k = true then sr k else z k]
  dd : ∀ i j, i < n → j < n → i ≠ j → lc i = true → lc j = true → b i ≠ b j
  dr : ∀ i j, i < n → j < n → lb i = true → lc j = true → b j < lo i ∨ hi i ≤ b j
  pd : ∀ k, k < n → ld k = true → lb k = true ∧ lc k = true
section
variable {n : Nat} {ty : Nat → TypeId} {z : Nat → Value} {P : Nat → World → Value → Prop} {W0 : World} {n0 : Nat} {gv : Value} {la lb lc ld : Nat → Bool} {lo hi b : Nat → Nat} {sl sr sv : Nat → Value} {w w' : World}
theorem Tri.lt (h : Tri n ty z P W0 n0 gv la lb lc ld lo hi b sl sr sv w) : n0 < w.heap.size := Nat.lt_of_lt_of_le h.z0 h.hb.size
theorem Tri.below (h : Tri n ty z P W0 n0 gv la lb lc ld lo hi b sl sr sv w) (hb : Below w.heap.size w w') : Tri n ty z P W0 n0 gv la lb lc ld lo hi b sl sr sv w' :=
  ⟨h.hb.trans (hb.mono h.lt), h.z0, h.ia, fun k hk e => ⟨(h.ib k hk e).1.kp (S := fun _ => False) (Kp.of hb) (fun _ _ _ e => e), (h.ib k hk e).2⟩,
    fun k hk e => ⟨(h.ic k hk e).1, (h.ic k hk e).2.1, (h.ic k hk e).2.2.below' hb⟩, h.dd, h.dr, h.pd⟩
theorem Tri.load (h : Tri n ty z P W0 n0 gv la lb lc ld lo hi b sl sr sv w) (k : Nat) : Tri n ty z P W0 n0 gv (upd la k true) lb lc ld lo hi b (upd sl k gv) sr sv w :=
  ⟨h.hb, h.z0, fun j hj e => by
    by_cases q : j = k
    · rw [q, upd_same]
    · rw [upd_ne _ _ q] at e ⊢; exact h.ia j hj e, h.ib, h.ic, h.dd, h.dr, h.pd⟩
theorem Tri.call (h : Tri n ty z P W0 n0 gv la lb lc ld lo hi b sl sr sv w) {k : Nat} (hk : k < n) (hl : lb k = false) (hb : Below w.heap.size w w') {v : Value} (hv : ∀ w'', (∀ j : Nat, w.heap.size ≤ j → j < w'.heap.size → w''.heap[j]? = w'.heap[j]?) → w'.heap.size ≤ w''.heap.size → P k w'' v) :
    Tri n ty z P W0 n0 gv la (upd lb k true) lc ld (upd lo k w.heap.size) (upd hi k w'.heap.size) b sl (upd sr k v) sv w' := by
  have h1 := h.below hb
  have hd : ld k = false := by cases e : ld k with | false => rfl | true => exact absurd (h.pd k hk e).1 (by rw [hl]; simp)
  refine ⟨h1.hb, h1.z0, h1.ia, fun j hj e => ?_, fun j hj e => ?_, h1.dd, fun i j hi' hj ei ej => ?_, fun j hj e => ?_⟩
  · by_cases q : j = k
    · subst q; rw [upd_same, upd_same, upd_same]
      exact ⟨⟨hb.size, Nat.le_refl _, hv⟩, h.lt⟩
    · rw [upd_ne _ _ q] at e; rw [upd_ne _ _ q, upd_ne _ _ q, upd_ne _ _ q]; exact h1.ib j hj e
  · have := h1.ic j hj e
    by_cases q : j = k
    · subst q; rw [hd] at this ⊢; exact this
    · rw [upd_ne _ _ q]; exact this
  · by_cases q : i = k
    · subst q; rw [upd_same, upd_same]; exact .inl ((h.ic j hj ej).2.2.lt)
    · rw [upd_ne _ _ q] at ei; rw [upd_ne _ _ q, upd_ne _ _ q]; exact h.dr i j hi' hj ei ej
  · by_cases q : j = k
    · subst q; rw [hd] at e; cases e
    · rw [upd_ne _ _ q]; exact h.pd j hj e
theorem Tri.alloc (h : Tri n ty z P W0 n0 gv la lb lc ld lo hi b sl sr sv w) {k : Nat} (hk : k < n) (hl : lc k = false) :
    Tri n ty z P W0 n0 gv la lb (upd lc k true) ld lo hi (upd b k w.heap.size) sl sr (upd sv k (.pointer (some ⟨w.heap.size, 0, none⟩))) (w.alloc (.cells #[z k] (ty k))) := by
  have h1 := h.below ((Below.refl w.heap.size w).alloc (Nat.le_refl _) (.cells #[z k] (ty k)))
  have hd : ld k = false := by cases e : ld k with | false => rfl | true => exact absurd (h.pd k hk e).2 (by rw [hl]; simp)
  refine ⟨h1.hb, h1.z0, h1.ia, h1.ib, fun j hj e => ?_, fun i j hi' hj hne ei ej => ?_, fun i j hi' hj ei ej => ?_, fun j hj e => ?_⟩
  · by_cases q : j = k
    · subst q; rw [upd_same, upd_same, hd]
      exact ⟨rfl, h.lt, Blk.new w (ty j) [z j]⟩
    · rw [upd_ne _ _ q] at e; rw [upd_ne _ _ q, upd_ne _ _ q]; exact h1.ic j hj e
  · by_cases q : i = k
    · have q2 : j ≠ k := fun e => hne (q.trans e.symm)
      subst q; rw [upd_same, upd_ne _ _ q2]; rw [upd_ne _ _ q2] at ej
      have := (h.ic j hj ej).2.2.lt; omega
    · rw [upd_ne _ _ q] at ei ⊢
      by_cases q2 : j = k
      · subst q2; rw [upd_same]; have := (h.ic i hi' ei).2.2.lt; omega
      · rw [upd_ne _ _ q2] at ej ⊢; exact h.dd i j hi' hj hne ei ej
  · by_cases q2 : j = k
    · subst q2; rw [upd_same]; exact .inr (h.ib i hi' ei).1.2.1
    · rw [upd_ne _ _ q2] at ej ⊢; exact h.dr i j hi' hj ei ej
  · by_cases q : j = k
    · subst q; rw [hd] at e; cases e
    · rw [upd_ne _ _ q]; exact h.pd j hj e
theorem Tri.store (h : Tri n ty z P W0 n0 gv la lb lc ld lo hi b sl sr sv w) {k : Nat} (hk : k < n) (h1 : lb k = true) (h2 : lc k = true) :
    Tri n ty z P W0 n0 gv la lb lc (upd ld k true) lo hi b sl sr sv (w.setCell ⟨b k, 0, none⟩ (sr k)) := by
  have hbk := (h.ic k hk h2).2.1
  have hkp : Kp (fun j => j = b k) w (w.setCell ⟨b k, 0, none⟩ (sr k)) := (Kp.refl (fun j => j = b k) w).set_ (p := ⟨b k, 0, none⟩) (.inr rfl) _
  refine ⟨h.hb.setCell (by show n0 + 1 ≤ b k; omega) _, h.z0, h.ia, fun j hj e => ⟨(h.ib j hj e).1.kp hkp (fun i h3 h4 e2 => by have := h.dr j k hj hk e h2; omega), (h.ib j hj e).2⟩, fun j hj e => ?_, h.dd, h.dr, fun j hj e => ?_⟩
  · by_cases q : j = k
    · subst q; rw [upd_same, if_pos rfl]
      have := (h.ic j hj e).2.2.set_ 0 (sr j)
      exact ⟨(h.ic j hj e).1, (h.ic j hj e).2.1, by simpa using this⟩
    · rw [upd_ne _ _ q]
      exact ⟨(h.ic j hj e).1, (h.ic j hj e).2.1, (h.ic j hj e).2.2.far (p := ⟨b k, 0, none⟩) (h.dd j k hj hk q e h2) _⟩
  · by_cases q : j = k
    · subst q; exact ⟨h1, h2⟩
    · rw [upd_ne _ _ q] at e; exact h.pd j hj e
theorem Tri.start (hz : n0 < W0.heap.size) (hb : Below (n0 + 1) W0 w) : Tri n ty z P W0 n0 gv (fun _ => false) (fun _ => false) (fun _ => false) (fun _ => false) lo hi b sl sr sv w :=
  ⟨hb, hz, fun _ _ e => (by cases e), fun _ _ e => (by cases e), fun _ _ e => (by cases e), fun _ _ _ _ _ e => (by cases e), fun _ _ _ _ e => (by cases e), fun _ _ e => (by cases e)⟩
/-- A variable's cell, while it is filled. -/
theorem Tri.cell (h : Tri n ty z P W0 n0 gv la lb lc ld lo hi b sl sr sv w) {k : Nat} (hk : k < n) (h2 : lc k = true) : w.cell? ⟨b k, 0, none⟩ = some (if ld k = true then sr k else z k) ∧ w.frozen? ⟨b k, 0, none⟩ = false :=
  ⟨(h.ic k hk h2).2.2.cell rfl, (h.ic k hk h2).2.2.frozen 0⟩
end
end Go.Proofs.Ytgfchgnebpogjaa
namespace Go.Proofs.Ytgfchgnebpogjaa
open Go.RowKit BigFrame Go.Maps
set_option linter.unusedVariables false
set_option linter.unusedSimpArgs false
set_option maxRecDepth 100000

theorem lawI : Keyed Try.prog 3 := int_keyed Try.underlying3
/-- How an element that is a map reads. -/
def mElem : Value → Option (DataW Unit × List MemPlace)
  | .map none => some (.lit (.int .i64 (-1)), [])
  | .map (some b) => some (.lit (.int .i64 (b : Int)), [])
  | _ => none
theorem mElem_inv {v : Value} {z : Int} {ps : List MemPlace} (h : mElem v = some (.lit (.int .i64 z), ps)) : (z = -1 ∧ v = .map none) ∨ ∃ b : Nat, z = b ∧ v = .map (some b) := by
  unfold mElem at h
  split at h
  · simp at h; exact .inl ⟨h.1.symm, rfl⟩
  · rename_i b
    simp at h; exact .inr ⟨b, h.1.symm, rfl⟩
  · cases h
theorem wf_nat {a : Nat} (h : a ≤ 100000) : (Lit.int .i64 (a : Int)).wf = true :=
  WalkArith.wf_i64 (by omega)
theorem key_nat {a : Nat} (h : a ≤ 100000) : keyOf Try.prog 3 (.int .i64 (a : Int)) = some (.int .i64 (a : Int)) := keyOf_int_mk Try.underlying3 (wf_nat h)

theorem owns_of_block {P : Program} {k : TypeId} {R : Value → Option (DataW Unit × List MemPlace)} {w w' : World} {b n : Nat} {D : DataW Unit} (h : w.ownsMap P k R b n D) (e : w'.heap[b]? = w.heap[b]?) : w'.ownsMap P k R b n D := by
  obtain ⟨es, clock, hb, F, hs, hD⟩ := h
  exact ⟨es, clock, e.trans hb, F, hs, hD⟩

/-- The block that an outer entry leads to; -1: there is none. -/
def enB : Option Nat → Int
  | none => -1
  | some g => (g : Int)
/-- Map bM leads from names to maps, whose keys are the names that E leads to. -/
structure ToSt (w : World) (bM N n lo : Nat) (β : Nat → Option Nat) (E : Nat → Nat → Prop) : Prop where
  o : ∃ D, w.ownsMap Try.prog 3 mElem bM n D ∧ ∀ a, a < N → D.atKey (.int .i64 (a : Int)) (.lit (.int .i64 (-1))) = .lit (.int .i64 (enB (β a)))
  i : ∀ a g, a < N → β a = some g → ∃ C : DataW Unit, w.ownsMap Try.prog 3 (plainElem Try.prog 3) g n C ∧ ∀ x : Int, Maps.has C (.int .i64 x) = true ↔ ∃ b : Nat, x = b ∧ E a b
  z : ∀ a, a < N → β a = none → ∀ b, ¬ E a b
  d : ∀ a a' g, a < N → a' < N → β a = some g → β a' = some g → a = a'
  ne : ∀ a g, a < N → β a = some g → g ≠ bM ∧ lo ≤ g
  lb : lo ≤ bM
section
variable {w w' : World} {bM N n lo : Nat} {β : Nat → Option Nat} {E E' : Nat → Nat → Prop}
theorem ToSt.lt (h : ToSt w bM N n lo β E) : bM < w.heap.size := by obtain ⟨D, hD, _⟩ := h.o; exact hD.lt
theorem ToSt.glt (h : ToSt w bM N n lo β E) {a g : Nat} (ha : a < N) (hg : β a = some g) : g < w.heap.size := by obtain ⟨C, hC, _⟩ := h.i a g ha hg; exact hC.lt
theorem ToSt.keep (h : ToSt w bM N n lo β E) (e : ∀ k : Nat, (k = bM ∨ ∃ a, a < N ∧ β a = some k) → w'.heap[k]? = w.heap[k]?) : ToSt w' bM N n lo β E := by
  obtain ⟨D, hD, hD2⟩ := h.o
  refine ⟨⟨D, owns_of_block hD (e _ (.inl rfl)), hD2⟩, fun a g ha hg => ?_, h.z, h.d, h.ne, h.lb⟩
  obtain ⟨C, hC, hC2⟩ := h.i a g ha hg
  exact ⟨C, owns_of_block hC (e _ (.inr ⟨a, ha, hg⟩)), hC2⟩
theorem ToSt.below (h : ToSt w bM N n lo β E) (hb : Below w.heap.size w w') : ToSt w' bM N n lo β E := h.keep (fun k hk => hb.block k (by rcases hk with rfl | ⟨a, ha, hg⟩; exact h.lt; exact h.glt ha hg))
theorem ToSt.mono (h : ToSt w bM N n lo β E) {n' : Nat} (hn : n ≤ n') : ToSt w bM N n' lo β E := by
  obtain ⟨D, hD, hD2⟩ := h.o
  refine ⟨⟨D, hD.mono hn, hD2⟩, fun a g ha hg => ?_, h.z, h.d, h.ne, h.lb⟩
  obtain ⟨C, hC, hC2⟩ := h.i a g ha hg
  exact ⟨C, hC.mono hn, hC2⟩
theorem ToSt.congr (h : ToSt w bM N n lo β E) (e : ∀ a b, a < N → (E a b ↔ E' a b)) : ToSt w bM N n lo β E' := by
  refine ⟨h.o, fun a g ha hg => ?_, fun a ha hz b q => h.z a ha hz b ((e a b ha).2 q), h.d, h.ne, h.lb⟩
  obtain ⟨C, hC, hC2⟩ := h.i a g ha hg
  exact ⟨C, hC, fun x => (hC2 x).trans ⟨fun ⟨b, e1, q⟩ => ⟨b, e1, (e a b ha).1 q⟩, fun ⟨b, e1, q⟩ => ⟨b, e1, (e a b ha).2 q⟩⟩⟩
/-- What a look at the outer map gives. -/
theorem ToSt.look (h : ToSt w bM N n lo β E) {a : Nat} (ha : a < N) (hN : N ≤ 1000) : (Instr.lookup 68 (.map (some bM)) (.int .i64 (a : Int)) false).run Try.prog w = .ok (.map (β a)) w := by
  obtain ⟨D, hD, hD2⟩ := h.o
  obtain ⟨v, ps, hrun, hv⟩ := hD.lookup (t := 68) (e := 70) lawI Try.underlying68 (z := .map none) (by rfl) (zd := .lit (.int .i64 (-1))) (zp := []) rfl (key_nat (a := a) (by omega))
  rw [hD2 a ha] at hv
  rw [hrun]
  rcases mElem_inv hv with ⟨e, rfl⟩ | ⟨b, e, rfl⟩
  · cases hb : β a with
    | none => rfl
    | some g => rw [hb] at e; (simp [enB] at e; try omega)
  · cases hb : β a with
    | none => rw [hb] at e; (simp [enB] at e; try omega)
    | some g => rw [hb] at e; simp [enB] at e; have e2 : b = g := by omega
                rw [e2]
/-- .. at an inner map: whether it is there or not, some number. -/
theorem ToSt.look2 (h : ToSt w bM N n lo β E) {a g b : Nat} (ha : a < N) (hg : β a = some g) (hb : b ≤ 1000) : ∃ c, (Instr.lookup 70 (.map (some g)) (.int .i64 (b : Int)) false).run Try.prog w = .ok (.int .i64 c) w ∧ (Lit.int .i64 c).wf = true := by
  obtain ⟨C, hC, _⟩ := h.i a g ha hg
  obtain ⟨c, hrun, _, hw⟩ := hC.lookup_int (t := 70) lawI Try.underlying70 Try.underlying3 (by rfl) (key_nat (a := b) (by omega))
  exact ⟨c, hrun, hw⟩
/-- A new inner map at a. -/
theorem ToSt.putO (h : ToSt w bM N n lo β E) {a : Nat} (ha : a < N) (hN : N ≤ 1000) (hn : n < 100000) (hz : β a = none) (hlo : lo ≤ w.heap.size) :
    ∃ w', (Instr.mapUpdate 68 (.map (some bM)) (.int .i64 (a : Int)) (.map (some w.heap.size))).run Try.prog (w.alloc (.map #[] 0)) = .ok () w' ∧ ToSt w' bM N (n + 1) lo (fun x => if x = a then some w.heap.size else β x) E ∧ (w.alloc (.map #[] 0)).grownBy w' (some bM) := by
  have hb0 : Below w.heap.size w (w.alloc (.map #[] 0)) := (Below.refl _ _).alloc (Nat.le_refl _) _
  have h1 := h.below hb0
  obtain ⟨D, hD, hD2⟩ := h1.o
  obtain ⟨w', hrun, hD', hg⟩ := hD.update (t := 68) (e := 70) lawI Try.underlying68 (by unfold maxLen; omega) (key_nat (a := a) (by omega)) (val := .map (some w.heap.size)) (d := .lit (.int .i64 (w.heap.size : Int))) (ps := []) rfl
  have hbl := h.lt
  have hmade : (w.alloc (.map #[] 0)).ownsMap Try.prog 3 (plainElem (H := Unit) Try.prog 3) w.heap.size 0 (.map []) := World.ownsMap_made _ _ _ _
  refine ⟨w', hrun, ⟨⟨_, hD', fun x hx => ?_⟩, fun x g hx hg2 => ?_, fun x hx hz2 b => ?_, fun x y g hx hy h2 h3 => ?_, fun x g hx h2 => ?_, h.lb⟩, hg⟩
  · by_cases e : x = a
    · subst e
      rw [if_pos rfl, atKey_put_same hD.isMap (by exact trivial)]
      rfl
    · rw [if_neg e, atKey_put_other (fun q => e (by injection q; omega))]
      exact hD2 x hx
  · by_cases e : x = a
    · subst e
      rw [if_pos rfl] at hg2
      cases hg2
      refine ⟨.map [], (hmade.kept hg (by simp; omega)).mono (Nat.zero_le _), fun y => ⟨fun q => (by simp [Maps.has] at q), fun ⟨b, _, q⟩ => absurd q (h.z x hx hz b)⟩⟩
    · rw [if_neg e] at hg2
      obtain ⟨C, hC, hC2⟩ := h1.i x g hx hg2
      exact ⟨C, (hC.kept hg (by simp; exact (h.ne x g hx hg2).1)).mono (Nat.le_succ _), hC2⟩
  · by_cases e : x = a
    · rw [if_pos e] at hz2; cases hz2
    · rw [if_neg e] at hz2; exact h.z x hx hz2 b
  · by_cases e : x = a
    · by_cases e2 : y = a
      · rw [e, e2]
      · rw [if_pos e] at h2; rw [if_neg e2] at h3; cases h2
        have := h.glt hy h3; omega
    · rw [if_neg e] at h2
      by_cases e2 : y = a
      · rw [if_pos e2] at h3; cases h3
        have := h.glt hx h2; omega
      · rw [if_neg e2] at h3; exact h.d x y g hx hy h2 h3
  · by_cases e : x = a
    · rw [if_pos e] at h2; cases h2; exact ⟨by omega, hlo⟩
    · rw [if_neg e] at h2; exact h.ne x g hx h2
/-- An entry of an inner map. -/
theorem ToSt.putI (h : ToSt w bM N n lo β E) {a g b : Nat} (ha : a < N) (hb : b ≤ 1000) (hn : n < 100000) (hg : β a = some g) {c : Int} (hw : (Lit.int .i64 c).wf = true) (hE : ∀ x y, x < N → (E' x y ↔ E x y ∨ (x = a ∧ y = b))) :
    ∃ w', (Instr.mapUpdate 70 (.map (some g)) (.int .i64 (b : Int)) (.int .i64 c)).run Try.prog w = .ok () w' ∧ ToSt w' bM N (n + 1) lo β E' ∧ w.grownBy w' (some g) := by
  obtain ⟨C, hC, hC2⟩ := h.i a g ha hg
  obtain ⟨w', hrun, hC', hgr⟩ := hC.update (t := 70) (e := 3) lawI Try.underlying70 (by unfold maxLen; omega) (key_nat (a := b) (by omega)) (val := .int .i64 c) (plainElem_int Try.underlying3 hw)
  obtain ⟨D, hD, hD2⟩ := h.o
  refine ⟨w', hrun, ⟨⟨D, (hD.kept hgr (by simp; exact (h.ne a g ha hg).1.symm)).mono (Nat.le_succ _), hD2⟩, fun x g' hx hg2 => ?_, fun x hx hz2 y q => ?_, h.d, h.ne, h.lb⟩, hgr⟩
  · by_cases e : x = a
    · subst e
      rw [hg] at hg2; cases hg2
      refine ⟨_, hC', fun y => ?_⟩
      by_cases e2 : y = (b : Int)
      · subst e2
        rw [has_put_same hC.isMap (by exact trivial)]
        exact ⟨fun _ => ⟨b, rfl, (hE x b hx).2 (.inr ⟨rfl, rfl⟩)⟩, fun _ => rfl⟩
      · rw [has_put_other (fun q => e2 (by injection q)), hC2 y]
        exact ⟨fun ⟨b', e1, q⟩ => ⟨b', e1, (hE x b' hx).2 (.inl q)⟩, fun ⟨b', e1, q⟩ => ⟨b', e1, by
          rcases (hE x b' hx).1 q with q | ⟨_, q⟩
          · exact q
          · subst q; exact absurd e1 e2⟩⟩
    · obtain ⟨C2, hC3, hC4⟩ := h.i x g' hx hg2
      have hne : g' ≠ g := fun q => e (h.d x a g hx ha (by rw [hg2, q]) hg)
      exact ⟨C2, (hC3.kept hgr (by simp; exact hne)).mono (Nat.le_succ _), fun y => (hC4 y).trans ⟨fun ⟨b', e1, q⟩ => ⟨b', e1, (hE x b' hx).2 (.inl q)⟩, fun ⟨b', e1, q⟩ => ⟨b', e1, by
          rcases (hE x b' hx).1 q with q | ⟨q, _⟩
          · exact q
          · exact absurd q e⟩⟩⟩
  · rcases (hE x y hx).1 q with q | ⟨q, _⟩
    · exact h.z x hx hz2 y q
    · subst q; rw [hg] at hz2; cases hz2
end

/-- The closure: is a symbol not as asked? -/
theorem loops1_any (s : Int) (ve ge N : Nat) (EM : List Bool) (w : World) (h : BlSt w ve ge N EM) (hs : s < 0 → (-1 - s).toNat < N) (hN : N ≤ 1000) (hs2 : s ≤ 1000) :
    Calls Try.prog 57 #[.int .i64 s, .pointer (some ⟨ve, 0, none⟩)] w fun e w' => e = .returned (.bool (!empS EM s)) ∧ w = w' := by
  unfold empS
  by_cases h0 : s < 0
  · have d1 : decide (0 ≤ s) = false := decide_eq_false (by omega)
    have d2 : decide (s < 0) = true := decide_eq_true h0
    obtain ⟨x, hx1⟩ : ∃ x : Nat, x = (-1 - s).toNat := ⟨_, rfl⟩
    have hx := hs h0
    rw [← hx1] at hx ⊢
    have hts : -1 - s = (x : Int) := by omega
    have zc := h.c
    have zb := h.b.bcell (k := x) (by rw [h.l]; exact hx)
    have HD := Lib.hid d2
    clear hx1 hs h d2
    generalize bth EM x = v at *
    go_enter Try.func57, Try.ntmps57
    go_wp2
    go_ret
    exact ⟨by rw [HD.out]; rfl, rfl⟩
  · have d1 : decide (0 ≤ s) = true := decide_eq_true (by omega)
    have d2 : decide (s < 0) = false := decide_eq_false h0
    rw [d2]
    clear d2
    go_enter Try.func57, Try.ntmps57
    go_wp2
    go_ret
    exact ⟨rfl, rfl⟩
theorem any_not_emp (EM : List Bool) (l : List Int) : (l.any fun s => !empS EM s) = !l.all (empS EM) := by
  induction l with
  | nil => rfl
  | cons x l ih => rw [List.any_cons, List.all_cons, ih, Bool.not_and]
end Go.Proofs.Ytgfchgnebpogjaa
