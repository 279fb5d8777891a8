/- The rows' iterator: a place of the production between. -/
import Derived.Test.YtiklbannoinioaaDoorQ22
namespace Go.Proofs.YtiklbannoinioaaDoor
open Go.RowKit Go.Shelf BigFrame Go.Maps
attribute [local go_sem] Oper.semAt_some
set_option linter.unusedVariables false
set_option linter.unusedSimpArgs false
set_option maxRecDepth 100000

section
variable (m : Nat) (S : Nat → Prop) (B c : Nat) (G : Gr) (Ap Al As : Option Addr) (np cp nl cl ns cs : Nat) (Ai : Option Addr) (ni ci : Nat) (inp : List Int) (C : Ct)
set_option maxHeartbeats 4000000 in
theorem rows_step (hk : GOk G) (O : List K3) (tr : K3 → List Tr) (p : Nat) (hp : p < np) (hn : ni ≤ 100) (at_ : Nat) (hat : at_ < (rtN G p).length) (i j : Nat) (hi : i ≤ ni) (hj : j ≤ ni) (b1 b2 b3 b4 b5 : Nat)
    (hT : nth (rtN G p) at_ < 0 → ∀ i' j', i' ≤ j' → j' ≤ ni → ∀ bc bx, IterC Tryd.prog m (Opn m O) (OpnX m) VT (PreT m S B c G Ap Al As np cp nl cl ns cs Ai ni ci inp C bc bx ((-1 - nth (rtN G p) at_).toNat, i', j')) 25 #[.pointer (some ⟨bc, 0, none⟩), .pointer (some ⟨bx, 0, none⟩)] (tr ((-1 - nth (rtN G p) at_).toNat, i', j')))
    (hR : ∀ i', i' ≤ ni → ∀ b1 b2 b3 b4 b5, IterC Tryd.prog m (Opn m O) (OpnX m) (VL ((rtN G p).length - (at_ + 1))) (PreR m S B c G Ap Al As np cp nl cl ns cs Ai ni ci inp C b1 b2 b3 b4 b5 p (at_ + 1) i' j) 37 #[.pointer (some ⟨b1, 0, none⟩), .pointer (some ⟨b2, 0, none⟩), .pointer (some ⟨b3, 0, none⟩), .pointer (some ⟨b4, 0, none⟩), .pointer (some ⟨b5, 0, none⟩)] (rowsT C inp (allOf tr) ((rtN G p).drop (at_ + 1)) i' j)) :
    IterC Tryd.prog m (Opn m O) (OpnX m) (VL ((rtN G p).length - at_)) (PreR m S B c G Ap Al As np cp nl cl ns cs Ai ni ci inp C b1 b2 b3 b4 b5 p at_ i j) 37 #[.pointer (some ⟨b1, 0, none⟩), .pointer (some ⟨b2, 0, none⟩), .pointer (some ⟨b3, 0, none⟩), .pointer (some ⟨b4, 0, none⟩), .pointer (some ⟨b5, 0, none⟩)] (rowsT C inp (allOf tr) ((rtN G p).drop at_) i j) := by
  intro l J Jx X R W hs hp0 hop sJ sJx hY h0
  obtain ⟨hst, hfx, z1, z2, z3, z4, z5⟩ := hp0
  have hpl : G.prods.length = np := hst.ch.gi.p.len.1
  obtain ⟨W1, hW1⟩ : ∃ W1, W1 = W.alloc (.cells #[.func (.yield l) #[] #[]] 97) := ⟨_, rfl⟩
  have hb1 : Below W.heap.size W W1 := by rw [hW1]; exact (Below.refl _ _).alloc (Nat.le_refl _) _
  have k1 : Kp (fun _ => False) W W1 := Kp.of hb1
  have hst1 := hst.own k1 (fun _ q => q.elim)
  obtain ⟨b, off, A', n', c', rfl, hb, y0, y1, e1, e2, e3, e4⟩ := hst1.ch.gi.p.rt hp
  have y3 := hst1.ch.g3
  have w1 := (hb1.cell (p := ⟨b1, 0, none⟩) (lt_cell z1)).trans z1
  have w2 := (hb1.cell (p := ⟨b2, 0, none⟩) (lt_cell z2)).trans z2
  have w3 := (hb1.cell (p := ⟨b3, 0, none⟩) (lt_cell z3)).trans z3
  have w4 := (hb1.cell (p := ⟨b4, 0, none⟩) (lt_cell z4)).trans z4
  have w5 := (hb1.cell (p := ⟨b5, 0, none⟩) (lt_cell z5)).trans z5
  have hl := rtN_len hk (p := p) (by omega)
  obtain ⟨rb, ro, rfl, hrb, hrc⟩ := e4.at_ (by omega)
  have zs0 := hrc at_ (by omega)
  have hsm := rtN_sym hk (p := p) (by omega) (s := nth (rtN G p) at_) (by rw [nth_get (by omega)]; exact List.getElem_mem _)
  have hdr : (rtN G p).drop at_ = nth (rtN G p) at_ :: (rtN G p).drop (at_ + 1) := by rw [List.drop_eq_getElem_cons (by omega), nth_get (by omega)]
  rw [hdr]
  obtain ⟨s, hs0⟩ : ∃ s, s = nth (rtN G p) at_ := ⟨_, rfl⟩
  rw [← hs0] at zs0 hsm hdr hT ⊢
  rw [hdr, rowsT_cons] at hY
  have hne : ¬ at_ = n' := by omega
  have d0 : ((at_ : Int) == (n' : Int)) = false := by simp; omega
  have hlt : at_ < n' := by omega
  unfold maxLen at e3
  have zsW : W.cell? ⟨rb, ro + at_, none⟩ = some (.int .i64 s) := (hb1.cell (p := ⟨rb, ro + at_, none⟩) (by have := hst.B; show rb < _; omega)).symm.trans zs0
  have rbW : S rb := hst.ch.lo rb hrb
  have HZ := Lib.hid (And.intro z1 (And.intro z2 (And.intro z3 (And.intro z4 (And.intro z5 zsW)))))
  clear zsW
  have HS := Lib.hid hs; have HST := Lib.hid hst; have HFX := Lib.hid hfx; have HT := Lib.hid hT; have HR := Lib.hid hR; have HY := Lib.hid hY; have HJ0 := Lib.hid h0; have HOP := Lib.hid hop; have SJ := Lib.hid sJ; have SJX := Lib.hid sJx; have HK1 := Lib.hid k1; have HW1 := Lib.hid hW1
  rw [hW1] at w1 w2 w3 w4 w5 y1 y3 zs0
  clear hs hst hst1 hfx hT hR hY h0 hop sJ sJx k1 z1 z2 z3 z4 z5 y0 hrc hdr hs0 e4 hW1 hb1
  refine callsIn_marks Tryd.func37 rfl ?_
  simp only [Tryd.ntmps37, List.size_toArray, List.length_cons, List.length_nil, Nat.reduceAdd, Nat.reduceSub, Array.replicate_succ, Array.replicate_zero, List.push_toArray, List.append_toArray, List.nil_append, List.cons_append]
  go_wp2_with fail
  go_quiet (fail)
  go_wp2_with fail
  obtain ⟨IV, hIV⟩ : ∃ IV : Nat → Act → World → Prop, IV = fun gk a w => ∃ k mb Ds X' R', gk = j + 1 - i - k ∧ RInv m O J (gapT C inp (allOf tr) s ((rtN G p).drop (at_ + 1)) i j) l i j X R W k mb Ds X' R' w ∧ ∃ u9 u31 u32 u33 u34 u35 u36 u37 u38 u39 u40 u41 u42 u43 u44 u45 u46 u47 u48 u49 u50 u51 u52 u53 u54 u55 u56 u57 u58 u59 u60 u61 u62 u63 u64 u65 u66 u67 u68 u69 u70 u71 u72 u73 u74 u75 u76, a = { tmps := #[Value.func (Fn.yield l) #[] #[], .pointer (some ⟨b1, 0, none⟩), .pointer (some ⟨b2, 0, none⟩), .pointer (some ⟨b3, 0, none⟩), .pointer (some ⟨b4, 0, none⟩), .pointer (some ⟨b5, 0, none⟩), .pointer (some ⟨W.heap.size, 0, none⟩), .slice (some ⟨rb, ro, none⟩) n' c', .pointer (some ⟨mb, 0, none⟩), u9, undef, undef, .pointer (some ⟨c, 0, none⟩), .pointer (some ⟨c, 0, none⟩), .pointer (some ⟨c, 0, none⟩), .pointer (some ⟨c, 3, none⟩), .slice (some ⟨b, off, none⟩) np cp, .int .i64 (p : Int), .pointer (some ⟨b, off + p * 3, none⟩), .pointer (some ⟨b, off + p * 3 + 1, none⟩), .slice (some ⟨rb, ro, none⟩) n' c', .int .i64 (at_ : Int), .slice (some ⟨rb, ro, none⟩) n' c', .int .i64 (n' : Int), .bool false, undef, undef, undef, undef, undef, .int .i64 (i : Int), u31, u32, u33, u34, u35, u36, u37, u38, u39, u40, u41, u42, u43, u44, u45, u46, u47, u48, u49, u50, u51, u52, u53, u54, u55, u56, u57, u58, u59, u60, u61, u62, u63, u64, u65, u66, u67, u68, u69, u70, u71, u72, u73, u74, u75, u76], defers := marks Ds } := ⟨_, rfl⟩
  have HIV := Lib.hid hIV
  clear hIV
  refine wp_loop_ghost_k IV (j + 1 - i) ?_ ?_
  · rw [HIV.out]
    refine ⟨0, W.heap.size + 1, [], X, R, by omega, ?_, ?_⟩
    · obtain ⟨W1', hW1'⟩ : ∃ W1', W1' = (W.alloc (.cells #[.func (.yield l) #[] #[]] 97)).drewN nq := ⟨_, rfl⟩
      have hz1 : W1'.heap.size = W.heap.size + 1 := by rw [hW1']; show (W.alloc _).heap.size = _; simp
      have hb1 : Below W.heap.size W W1' := by rw [hW1']; exact bel_dN ((Below.refl _ _).alloc (Nat.le_refl _) _) _
      have hc1 : W1'.cell? ⟨W.heap.size, 0, none⟩ = some (.func (.yield l) #[] #[]) := by rw [hW1']; show (W.alloc _).cell? _ = _; simp
      rw [← hW1']
      have hb2 : Below W.heap.size W (W1'.alloc (.cells #[.int .i64 (i : Int)] 3)) := hb1.alloc (by omega) _
      have k2 : Kp (fun _ => False) W (W1'.alloc (.cells #[.int .i64 (i : Int)] 3)) := Kp.of hb2
      have hz2 : (W1'.alloc (.cells #[.int .i64 (i : Int)] 3)).heap.size = W.heap.size + 2 := by simp [hz1]
      have hb3 : Below W1'.heap.size W1' (W1'.alloc (.cells #[.int .i64 (i : Int)] 3)) := (Below.refl _ _).alloc (Nat.le_refl _) _
      exact ⟨by omega, (Gro.refl HS.out).own (k2.mono fun _ _ q => q.elim), SJ.out.k HJ0.out HS.out (k2.mono fun _ _ q => q.elim), HOP.out.same (k2.block m HS.out.ms (fun q => q)), Mine.new HS.out (Nat.le_refl _) (by omega), (hb3.cell (p := ⟨W.heap.size, 0, none⟩) (by show W.heap.size < _; omega)).trans hc1, Mine.new HS.out (by omega) (by omega),
        by have := Blk.new W1' 3 [.int .i64 (i : Int)]; rw [hz1] at this; exact this, by omega, List.nodup_nil, fun D q => by cases q⟩
    · (repeat apply Exists.intro)
      rfl
  · intro gk a wr hI KJ KK hKJ hKK
    rw [HIV.out] at hI
    obtain ⟨k, mb, Ds, X', R', rfl, HI, u9, u31, u32, u33, u34, u35, u36, u37, u38, u39, u40, u41, u42, u43, u44, u45, u46, u47, u48, u49, u50, u51, u52, u53, u54, u55, u56, u57, u58, u59, u60, u61, u62, u63, u64, u65, u66, u67, u68, u69, u70, u71, u72, u73, u74, u75, u76, rfl⟩ := hI
    have HI0 := Lib.hid HI
    obtain ⟨mm, hmm⟩ : ∃ mm, mm = i + k := ⟨_, rfl⟩
    have HMM := Lib.hid hmm
    have hmk2 : i ≤ mm := by omega
    have hg := HI.g
    have hst := HST.out.gro hg
    have cellK : ∀ (q : Addr) (v : Value), W.cell? q = some v → q.block < W.heap.size → ¬ X q.block → q.block ≠ m → wr.cell? q = some v := fun q v h1 h2 h3 h4 => (World.cell?_of_block (a := q) (hg.same h2 h3 h4)).trans h1
    obtain ⟨f1, f2, f3, f4, f5⟩ := HFX.out
    obtain ⟨z1, z2, z3, z4, z5, zs⟩ := HZ.out
    have zc1 := cellK ⟨b1, 0, none⟩ _ z1 f1.1 f1.2.1 f1.2.2
    have zc2 := cellK ⟨b2, 0, none⟩ _ z2 f2.1 f2.2.1 f2.2.2
    have zc3 := cellK ⟨b3, 0, none⟩ _ z3 f3.1 f3.2.1 f3.2.2
    have zc4 := cellK ⟨b4, 0, none⟩ _ z4 f4.1 f4.2.1 f4.2.2
    have zc5 := cellK ⟨b5, 0, none⟩ _ z5 f5.1 f5.2.1 f5.2.2
    have hrbS := HST.out.lt rb rbW
    have zcs := cellK ⟨rb, ro + at_, none⟩ _ zs hrbS.1 hrbS.2.1 hrbS.2.2
    have zcm := HI.mc.cell (i := 0) rfl
    rw [← hmm] at zcm
    have HSTR := Lib.hid hst
    clear hmm HI hg hst cellK z1 z2 z3 z4 z5 zs f1 f2 f3 f4 f5
    by_cases q : mm ≤ j
    rotate_left
    · have dq : decide ((mm : Int) ≤ (j : Int)) = false := decide_eq_false (by omega)
      have HQ := Lib.hid q
      clear q
      as_aux_lemma =>
        go_wp2_with fail
        refine RInv.fin rfl HI0.out.g SJ.out SJX.out HI0.out.nd HI0.out.ds (.inl ⟨HI0.out.op, ?_⟩)
        have e : midsTo i k = mids i j := by
          have := HI0.out.kj
          have h1 := HMM.out
          have h2 := HQ.out
          rw [← midsTo_all, show k = j + 1 - i by omega]
        have h3 := HI0.out.jl
        rw [e] at h3
        rw [rowsT_cons]
        exact h3
    · have dq : decide ((mm : Int) ≤ (j : Int)) = true := decide_eq_true (by omega)
      have HP := Lib.hid (fun (q : Nat) => partStands_any _ _ _ _ _ _ _ _ _ _ Ai ni ci inp C S B c m s i mm (by omega) hmk2 (by omega) hn (wr.drewN q) HSTR.out.B (fun b q => (HSTR.out.lt b q).1) (HSTR.out.ch.bel (fun b q => (HSTR.out.lt b q).1) (bel_dN (Below.refl _ _) _)))
      have HO := Lib.hid (fun (q : Nat) => (of_any s i mm (by omega) (wr.drewN q)).mono (R' := fun e w' => e = .returned (partV s i mm) ∧ w' = wr.drewN q) (by rintro e w' ⟨rfl, rfl⟩; exact ⟨rfl, rfl⟩))
      have HRE : Hid (∀ w', Below wr.heap.size wr w' → Calls Tryd.prog 39 #[.pointer (some ⟨c, 0, none⟩), .int .i64 p, .int .i64 ((at_ : Int) + 1), .int .i64 mm, .int .i64 j] w' fun e w'' => e = .returned (.bool (restB C inp ((rtN G p).drop (at_ + 1)) mm j)) ∧ Below w'.heap.size w' w'') := Lib.hid (fun w' hb' =>
        rest_any _ _ _ _ _ _ _ _ _ _ Ai ni ci inp C hk S B c m p hp hn (n' - (at_ + 1)) (at_ + 1) (by rw [e1]; omega) mm j (by omega) hj w' (Nat.le_trans HSTR.out.B hb'.size) (fun b q => Nat.lt_of_lt_of_le (HSTR.out.lt b q).1 hb'.size) (HSTR.out.ch.bel (fun b q => (HSTR.out.lt b q).1) hb'))
      have FM : Hid (gapT C inp (allOf tr) s ((rtN G p).drop (at_ + 1)) i j mm = if stB C inp s i mm && restB C inp ((rtN G p).drop (at_ + 1)) mm j then (allOf tr s i mm).flatMap fun k => (rowsT C inp (allOf tr) ((rtN G p).drop (at_ + 1)) mm j).map (k :: ·) else []) := Lib.hid rfl
      by_cases q0 : 0 ≤ s
      · have ev := ((HP.out 0).1 q0).1
        have HSTD := Lib.hid (fun (q : Nat) => ((HP.out q).1 q0).2)
        rw [ev] at HO
        have HQ0 := Lib.hid q0
        clear HP ev q0
        cases e1 : stB C inp s i mm with
        | false =>
          as_aux_lemma =>
            rw [e1] at HSTD FM
            go_wp2_with fail
            go_quiet ((go_at_call 38; exact Calls.quiet_of_same (HO.out _)))
            go_wp2_with fail
            refine (HSTD.out nq).mono ?_
            rintro e w2 ⟨rfl, hb2⟩
            have hbw : Below wr.heap.size wr w2 := (bel_dN (Below.refl wr.heap.size wr) nq).trans hb2
            have yy1 := (hbw.cell (p := ⟨mb, 0, none⟩) HI0.out.mm.lt).trans zcm
            have HBW := Lib.hid hbw
            clear hb2 hbw
            go_wp2_with fail
            refine Handed.intro (j + 1 - i - (k + 1)) (by have := HMM.out; omega) (hKJ _ _ _ ?_)
            rw [HIV.out]
            refine ⟨k + 1, _, Ds, X', R', rfl, RInv.skip HI0.out HMM.out q SJ.out (HBW.out) (by rw [FM.out]; simp), ?_⟩
            (repeat apply Exists.intro)
            rfl
        | true =>
          rw [e1] at HSTD FM
          cases e2 : restB C inp ((rtN G p).drop (at_ + 1)) mm j with
          | false =>
            as_aux_lemma =>
              rw [e2] at HRE FM
              go_wp2_with fail
              go_quiet ((go_at_call 38; exact Calls.quiet_of_same (HO.out _)))
              go_wp2_with fail
              refine (HSTD.out nq).mono ?_
              rintro e w2 ⟨rfl, hb2⟩
              have hbw : Below wr.heap.size wr w2 := (bel_dN (Below.refl wr.heap.size wr) nq).trans hb2
              have yy0 := (hbw.cell (p := ⟨mb, 0, none⟩) HI0.out.mm.lt).trans zcm
              have yy1 := (hbw.cell (p := ⟨b1, 0, none⟩) (lt_cell zc1)).trans zc1
              have yy2 := (hbw.cell (p := ⟨b2, 0, none⟩) (lt_cell zc2)).trans zc2
              have yy3 := (hbw.cell (p := ⟨b3, 0, none⟩) (lt_cell zc3)).trans zc3
              have yy5 := (hbw.cell (p := ⟨b5, 0, none⟩) (lt_cell zc5)).trans zc5
              have HC := Lib.hid (HRE.out w2 hbw)
              have HBW := Lib.hid hbw
              clear hb2 hbw
              go_wp2_with fail
              refine HC.out.mono ?_
              rintro e w3 ⟨rfl, hb3⟩
              have hbw3 : Below wr.heap.size wr w3 := HBW.out.trans (hb3.mono HBW.out.size)
              have yy6 := (hbw3.cell (p := ⟨mb, 0, none⟩) HI0.out.mm.lt).trans zcm
              have HBW3 := Lib.hid hbw3
              clear hb3 hbw3
              go_wp2_with fail
              refine Handed.intro (j + 1 - i - (k + 1)) (by have := HMM.out; omega) (hKJ _ _ _ ?_)
              rw [HIV.out]
              refine ⟨k + 1, _, Ds, X', R', rfl, RInv.skip HI0.out HMM.out q SJ.out (HBW3.out) (by rw [FM.out]; simp), ?_⟩
              (repeat apply Exists.intro)
              rfl
          | true =>
            rw [e2] at HRE FM
            go_wp2_with fail
            go_quiet ((go_at_call 38; exact Calls.quiet_of_same (HO.out _)))
            go_wp2_with fail
            refine (HSTD.out nq).mono ?_
            rintro e w2 ⟨rfl, hb2⟩
            have hbw : Below wr.heap.size wr w2 := (bel_dN (Below.refl wr.heap.size wr) nq).trans hb2
            have yy0 := (hbw.cell (p := ⟨mb, 0, none⟩) HI0.out.mm.lt).trans zcm
            have yy1 := (hbw.cell (p := ⟨b1, 0, none⟩) (lt_cell zc1)).trans zc1
            have yy2 := (hbw.cell (p := ⟨b2, 0, none⟩) (lt_cell zc2)).trans zc2
            have yy3 := (hbw.cell (p := ⟨b3, 0, none⟩) (lt_cell zc3)).trans zc3
            have yy5 := (hbw.cell (p := ⟨b5, 0, none⟩) (lt_cell zc5)).trans zc5
            have HC := Lib.hid (HRE.out w2 hbw)
            have HBW := Lib.hid hbw
            clear hb2 hbw
            go_wp2_with fail
            refine HC.out.mono ?_
            rintro e w3 ⟨rfl, hb3⟩
            have hbw3 : Below wr.heap.size wr w3 := HBW.out.trans (hb3.mono HBW.out.size)
            have yy6 := (hbw3.cell (p := ⟨b1, 0, none⟩) (lt_cell zc1)).trans zc1
            have HBW3 := Lib.hid hbw3
            clear hb3 hbw3 yy0 yy1 yy2 yy3 yy5 HC HBW
            go_wp2_with fail
            refine (mkLeaf_any c s i mm w3).mono ?_
            rintro e w4 ⟨rfl, hw4⟩
            have hb4 : Below wr.heap.size wr w4 := by rw [hw4]; exact HBW3.out.alloc HBW3.out.size _
            have hpc : w4.cell? ⟨w3.heap.size, 1, none⟩ = some (.int .i64 (i : Int)) := by rw [hw4]; simp
            have hz4 : w3.heap.size < w4.heap.size := by rw [hw4]; simp
            have hit : IterC Tryd.prog m (Opn m O) (OpnX m) VT (PreLeaf m w3.heap.size i) 86 #[.pointer (some ⟨w3.heap.size, 0, none⟩)] (allOf tr s i mm) := by
              have := leaf_iter m w3.heap.size i O
              unfold allOf
              rw [if_pos HQ0.out]
              exact this
            have hpre : ∀ Y W1, (∀ k, Y k → X' k ∨ w4.heap.size ≤ k) → Below w4.heap.size w4 W1 → PreLeaf m w3.heap.size i () Y R' W1 := fun Y W1 _ hb => (hb.cell (p := ⟨w3.heap.size, 1, none⟩) hz4).trans hpc
            clear hw4 hpc hz4

            have HPRE := Lib.hid hpre; have HIT := Lib.hid hit; have HB4 := Lib.hid hb4
            clear hpre hit hb4
            go_wp2_with fail
            obtain ⟨I, hI⟩ : ∃ I : Inv (List Tr), I = fun (pre : List Tr) X2 R2 W2 => Gro m X' R' w4 X2 R2 W2 ∧ J ((midsTo i k).flatMap (gapT C inp (allOf tr) s ((rtN G p).drop (at_ + 1)) i j) ++ pre.flatMap (fun k => (rowsT C inp (allOf tr) ((rtN G p).drop (at_ + 1)) mm j).map (k :: ·))) X2 R2 W2 := ⟨_, rfl⟩
            obtain ⟨Ix, hIx⟩ : ∃ Ix : Inv Code, Ix = fun c X2 R2 W2 => c = .ret ∧ Gro m X' R' w4 X2 R2 W2 ∧ Jx () X2 R2 W2 := ⟨_, rfl⟩
            have hWw : W.heap.size ≤ w4.heap.size := Nat.le_trans HI0.out.g.kp.size HB4.out.size
            have k4 : Kp (fun _ => False) wr w4 := Kp.of HB4.out
            have sI : Stab m w4.heap.size I := by rw [hI]; exact stab_and (stab_gro (Nat.le_refl _)) (stab_at SJ.out hWw (fun (pre : List Tr) => (midsTo i k).flatMap (gapT C inp (allOf tr) s ((rtN G p).drop (at_ + 1)) i j) ++ pre.flatMap (fun k => (rowsT C inp (allOf tr) ((rtN G p).drop (at_ + 1)) mm j).map (k :: ·))))
            have sIx : Stab m w4.heap.size Ix := by rw [hIx]; exact stab_and (stab_pure _) (stab_and (stab_gro (Nat.le_refl _)) (stab_at SJX.out hWw (fun _ => ())))
            have sp4 := HI0.out.g.sep.keep (W' := w4) HB4.out.size
            have hi0 : I [] X' R' w4 := by
              rw [hI]
              refine ⟨Gro.refl sp4, ?_⟩
              rw [List.flatMap_nil, List.append_nil]
              exact SJ.out.k HI0.out.jl HI0.out.g.sep (k4.mono fun _ _ q => q.elim)
            have hop4 := HI0.out.op.same (k4.block m HI0.out.g.sep.ms (fun q => q))
            have HII := Lib.hid hI; have HIX := Lib.hid hIx; have SI := Lib.hid sI; have SIX := Lib.hid sIx; have HI00 := Lib.hid hi0; have SP4 := Lib.hid sp4; have HOP4 := Lib.hid hop4; have K4 := Lib.hid k4
            clear hI hIx sI sIx hi0 sp4 hop4 k4
            refine range_wp (m := m) (Op := Opn m O) (OpX := OpnX m) (V := VT) (X := X') (R := R') rfl (enters_of Tryd.func86 (by kernel_rfl) rfl) rfl HIT.out SP4.out (Opn_keep m O) (OpnX_keep m) VT_keep HOP4.out HPRE.out I Ix SI.out SIX.out HI00.out ?body ?done ?stop
            case body =>
              intro l2 pre X2 R2 R3 x v W2 hr
              obtain ⟨v0, rfl⟩ : ∃ v0, v = .pointer v0 := hr.v.ptr
              have HRN := Lib.hid hr
              clear hr
              have zw0 := HB4.out
              have mMine := HI0.out.mm
              gi_wp2_with fail
              refine ⟨Kp.of ((Below.refl _ _).alloc (Nat.le_refl _) _), fun W3 hk3 hr3 => ?_⟩
              have hi3 := hr3.i
              rw [HII.out] at hi3
              obtain ⟨g3, hj3⟩ := hi3
              obtain ⟨kb, hkb⟩ : ∃ kb, kb = W2.heap.size := ⟨_, rfl⟩
              have cellW : ∀ (q : Addr) (v : Value), wr.cell? q = some v → q.block < wr.heap.size → ¬ X' q.block → q.block ≠ m → W3.cell? q = some v := fun q v h1 h2 h3 h4 =>
                ((World.cell?_of_block (a := q) (g3.same (Nat.lt_of_lt_of_le h2 HB4.out.size) h3 h4)).trans (HB4.out.cell (p := q) h2)).trans h1
              have fxw : ∀ b, Fixd m X W b → b < wr.heap.size ∧ ¬ X' b ∧ b ≠ m := fun b hb => (hb.gro HI0.out.g).1
              obtain ⟨f1, f2, f3, f4, f5⟩ := HFX.out
              have u1 := cellW ⟨b1, 0, none⟩ _ zc1 (fxw _ f1).1 (fxw _ f1).2.1 (fxw _ f1).2.2
              have u2 := cellW ⟨b2, 0, none⟩ _ zc2 (fxw _ f2).1 (fxw _ f2).2.1 (fxw _ f2).2.2
              have u3 := cellW ⟨b3, 0, none⟩ _ zc3 (fxw _ f3).1 (fxw _ f3).2.1 (fxw _ f3).2.2
              have u5 := cellW ⟨b5, 0, none⟩ _ zc5 (fxw _ f5).1 (fxw _ f5).2.1 (fxw _ f5).2.2
              have um := cellW ⟨mb, 0, none⟩ _ zcm HI0.out.mm.lt HI0.out.mm.x HI0.out.mm.m
              have uy := cellW ⟨W.heap.size, 0, none⟩ _ HI0.out.yc HI0.out.yb.lt HI0.out.yb.x HI0.out.yb.m
              obtain ⟨r2, hl2⟩ := HRN.out.lp
              have hl2lt : l2 < W2.heap.size := (Array.getElem?_eq_some_iff.1 hl2).1
              have hkk : Blk W3 kb 34 [.pointer v0] := by
                have e := Blk.new W2 34 [.pointer v0]
                rw [hkb]
                exact (hk3.block W2.heap.size (by simp) (by omega)).trans e
              have hkM : Mine m X2 R3 W3 kb := by
                have hz : (W2.alloc (.cells #[.pointer v0] 34)).heap.size = W2.heap.size + 1 := by simp
                have := hk3.size
                exact Mine.new HRN.out.s (by omega) (by omega)
              have HYM : Hid (Mine m X2 R2 W3 W.heap.size) := Lib.hid ((HI0.out.yb.keep (W' := w4) HB4.out.size).gro g3)
              have HKK := Lib.hid hkk; have HKM := Lib.hid hkM; have HR3 := Lib.hid hr3; have HG3 := Lib.hid g3; have HJ3 := Lib.hid hj3; have HUY := Lib.hid uy
              have HMK : Hid (Calls Tryd.prog 27 #[.pointer (some ⟨c, 0, none⟩), .int .i64 p, .int .i64 ((at_ : Int) + 1), .int .i64 mm, .int .i64 j] W3 _) := Lib.hid (mkRows_any c p (at_ + 1) mm j W3)
              rw [← hkb]
              have HKB := Lib.hid hkb
              clear hkk hkM hr3 g3 hj3 uy hk3 hkb hl2 hl2lt cellW fxw f1 f2 f3 f4 f5 zw0 mMine
              have HST3 : Hid (Stc m S B c G (some ⟨b, off, none⟩) Al As np cp nl cl ns cs Ai ni ci inp C X2 W3) := Lib.hid ((HSTR.out.own K4.out (fun _ q => q.elim)).gro HG3.out)
              gi_wp2_with fail
              refine ⟨trivial, (CallsIn.inRound l2 (callsIn_wide.2 HMK.out)).mono ?_⟩
              rintro e W4 ⟨rfl, hb34, hz4, c1, c2, c3, c4, c5⟩
              have hl4 : ∃ r, W4.heap[l2]? = some (.loop r) := by
                obtain ⟨r, h⟩ := HR3.out.lp
                exact ⟨r, (hb34.block l2 (Array.getElem?_eq_some_iff.1 h).1).trans h⟩
              have sp5 : Sep m X2 R3 W4 := HR3.out.s.keep hb34.size
              have k34 : Kp (fun _ => False) W3 W4 := Kp.of hb34
              have hop5 : Opn m O W4 := HR3.out.op.same (k34.block m HR3.out.s.ms (fun q => q))
              have hpre2 : ∀ Y W1, (∀ k, Y k → X2 k ∨ W4.heap.size ≤ k) → Below W4.heap.size W4 W1 → PreR m S B c G (some ⟨b, off, none⟩) Al As np cp nl cl ns cs Ai ni ci inp C W3.heap.size (W3.heap.size + 1) (W3.heap.size + 2) (W3.heap.size + 3) (W3.heap.size + 4) p (at_ + 1) mm j () Y R3 W1 := fun Y W1 hY hb => by
                have hsx := HR3.out.s.xs
                have hms := HR3.out.s.ms
                have fx : ∀ b, W3.heap.size ≤ b → b < W4.heap.size → Fixd m Y W1 b := fun b h1 h2 => ⟨by have := hb.size; omega, fun e => by rcases hY b e with e | e; have := hsx b e; omega; omega, by omega⟩
                exact ⟨HST3.out.more (hb34.trans (hb.mono hb34.size)) hb34.size hY, ⟨fx _ (by omega) (by omega), fx _ (by omega) (by omega), fx _ (by omega) (by omega), fx _ (by omega) (by omega), fx _ (by omega) (by omega)⟩,
                  (hb.cell (p := ⟨W3.heap.size, 0, none⟩) (by show W3.heap.size < W4.heap.size; omega)).trans c1, (hb.cell (p := ⟨W3.heap.size + 1, 0, none⟩) (by show W3.heap.size + 1 < W4.heap.size; omega)).trans c2, (hb.cell (p := ⟨W3.heap.size + 2, 0, none⟩) (by show W3.heap.size + 2 < W4.heap.size; omega)).trans c3,
                  (hb.cell (p := ⟨W3.heap.size + 3, 0, none⟩) (by show W3.heap.size + 3 < W4.heap.size; omega)).trans c4, (hb.cell (p := ⟨W3.heap.size + 4, 0, none⟩) (by show W3.heap.size + 4 < W4.heap.size; omega)).trans c5⟩
              have hWw3 : W.heap.size ≤ W4.heap.size := Nat.le_trans hWw (Nat.le_trans HG3.out.kp.size hb34.size)
              obtain ⟨BL, hBL⟩ : ∃ BL : List (List Tr), BL = (midsTo i k).flatMap (gapT C inp (allOf tr) s ((rtN G p).drop (at_ + 1)) i j) ++ pre.flatMap (fun k => (rowsT C inp (allOf tr) ((rtN G p).drop (at_ + 1)) mm j).map (k :: ·)) := ⟨_, rfl⟩
              obtain ⟨I2, hI2⟩ : ∃ I2 : Inv (List (List Tr)), I2 = fun (pre2 : List (List Tr)) X5 R5 W5 => Gro m X2 R3 W4 X5 R5 W5 ∧ J (BL ++ pre2.map (x :: ·)) X5 R5 W5 := ⟨_, rfl⟩
              obtain ⟨Ix2, hIx2⟩ : ∃ Ix2 : Inv Code, Ix2 = fun c X5 R5 W5 => c = .ret ∧ Gro m X2 R3 W4 X5 R5 W5 ∧ Jx () X5 R5 W5 := ⟨_, rfl⟩
              have sI2 : Stab m W4.heap.size I2 := by rw [hI2]; exact stab_and (stab_gro (Nat.le_refl _)) (stab_at SJ.out hWw3 (fun (pre2 : List (List Tr)) => BL ++ pre2.map (x :: ·)))
              have sIx2 : Stab m W4.heap.size Ix2 := by rw [hIx2]; exact stab_and (stab_pure _) (stab_and (stab_gro (Nat.le_refl _)) (stab_at SJX.out hWw3 (fun _ => ())))
              have hi20 : I2 [] X2 R3 W4 := by
                rw [hI2]
                refine ⟨Gro.refl sp5, ?_⟩
                rw [List.map_nil, List.append_nil, hBL]
                exact SJ.out _ _ _ _ _ _ HJ3.out HR3.out.s HR3.out.rr (fun k q => (HR3.out.rn k q).elim .inl (fun q => .inr (Nat.le_trans hWw q))) (k34.mono fun _ _ q => q.elim)
              have HI2 := Lib.hid hI2; have HIX2 := Lib.hid hIx2; have SI2 := Lib.hid sI2; have SIX2 := Lib.hid sIx2; have HI20 := Lib.hid hi20; have SP5 := Lib.hid sp5; have HOP5 := Lib.hid hop5; have K34 := Lib.hid k34; have HPRE2 := Lib.hid hpre2; have HBL := Lib.hid hBL; have HL4 := Lib.hid hl4; have HB34 := Lib.hid hb34
              clear hI2 hIx2 sI2 sIx2 hi20 sp5 hop5 k34 hpre2 hBL hb34 hz4 c1 c2 c3 c4 c5
              obtain ⟨r4, hl4⟩ := hl4
              gi_wp2_with fail
              refine range_in (m := m) (Op := Opn m O) (OpX := OpnX m) (V := VL ((rtN G p).length - (at_ + 1))) (X := X2) (R := R3) hl4 rfl (enters_of Tryd.func37 (by kernel_rfl) rfl) rfl (HR.out mm (by omega) W3.heap.size (W3.heap.size + 1) (W3.heap.size + 2) (W3.heap.size + 3) (W3.heap.size + 4)) SP5.out (Opn_keep m O) (OpnX_keep m) (VL_keep _) HOP5.out HPRE2.out I2 Ix2 SI2.out SIX2.out HI20.out ?body2 ?done2 ?stop2
              case body2 =>
                intro l5 pre2 X5 R5 R6 ys vv W5 hr5
                obtain ⟨hyl, A5, ca, rfl, q1, q2, q3⟩ := hr5.v
                have HYL := Lib.hid hyl
                clear hr5 q3 hyl
                gi_wp2_with fail
                refine ⟨Kp.refl _ _, fun W6 hk6 hr6 => ?_⟩
                have hi6 := hr6.i
                rw [HI2.out] at hi6
                obtain ⟨g6, hj6⟩ := hi6
                have sm6 : ∀ k, k < W3.heap.size → ¬ X2 k → k ≠ m → W6.heap[k]? = W3.heap[k]? := fun k h1 h2 h3 => (g6.same (Nat.lt_of_lt_of_le h1 HB34.out.size) h2 h3).trans (HB34.out.block k h1)
                have y1 : W6.cell? ⟨W.heap.size, 0, none⟩ = some (.func (.yield l) #[] #[]) := (World.cell?_of_block (a := ⟨W.heap.size, 0, none⟩) (sm6 _ HYM.out.lt HYM.out.x HYM.out.m)).trans HUY.out
                have y2 : W6.cell? ⟨kb, 0, none⟩ = some (.pointer v0) := (World.cell?_of_block (a := ⟨kb, 0, none⟩) (sm6 _ HKM.out.lt HKM.out.x HKM.out.m)).trans (HKK.out.cell (i := 0) rfl)
                have hx6 : TrIn W6 R6 (.pointer v0) x := TrIn.keep (fun k q => sm6 k (HR3.out.s.rs k q) (fun e => HR3.out.s.xr k e q) (fun e => HR3.out.s.rm (e ▸ q))) (fun k q => hr6.rr k (g6.r1 k q)) HR3.out.v
                obtain ⟨w7, hw7⟩ : ∃ w7, w7 = W6.drew := ⟨_, rfl⟩
                have k67 : Kp (fun _ => False) W6 w7 := by rw [hw7]; exact (Kp.refl _ _).draw
                have hs67 : w7.heap.size = W6.heap.size := by rw [hw7]; rfl
                have y1' : w7.cell? ⟨W.heap.size, 0, none⟩ = some (.func (.yield l) #[] #[]) := by rw [hw7]; exact y1
                have y2' : w7.cell? ⟨kb, 0, none⟩ = some (.pointer v0) := by rw [hw7]; exact y2
                have y7a : (w7.alloc (.cells #[.pointer v0] 34)).cell? ⟨W.heap.size, 0, none⟩ = some (.func (.yield l) #[] #[]) := cell_oldA w7 _ _ _ y1' (lt_cell y1')
                obtain ⟨v', w8, happ, hb8, hv8⟩ := cons_row w7 R6 v0 x ys A5 ((rtN G p).length - (at_ + 1)) ca (VL_keep _ W6 w7 R6 _ _ hr6.v (fun k q => by rw [hw7]; rfl)) (TrIn.keep (fun k q => by rw [hw7]; rfl) (fun _ q => q) hx6) (by rw [hs67]; exact hr6.s.rs) (by omega)
                have k78 : Kp (fun _ => False) w7 w8 := Kp.of hb8
                have y8 : w8.cell? ⟨W.heap.size, 0, none⟩ = some (.func (.yield l) #[] #[]) := (hb8.cell (p := ⟨W.heap.size, 0, none⟩) (lt_cell y1')).trans y1'
                have k68 : Kp (fun _ => False) W6 w8 := k67.trans k78
                have hbs := hb8.size
                rw [hs67] at hbs
                obtain ⟨R8, hR8⟩ : ∃ R8 : Nat → Prop, R8 = fun k => R6 k ∨ (w7.heap.size ≤ k ∧ k < w8.heap.size) := ⟨_, rfl⟩
                rw [← hR8] at hv8
                have hWw6 : W4.heap.size ≤ W6.heap.size := g6.kp.size
                have s58 : Sep m X5 R8 w8 := hr6.s.more (fun k q => by
                  rw [hR8] at q
                  rcases q with q | q
                  · exact .inl q
                  · exact .inr ⟨q.2, fun e => by have := hr6.s.xs k e; omega, fun e => by have := hr6.s.ms; omega⟩) k68.size
                have hrr8 : ∀ k, R5 k → R8 k := fun k q => by rw [hR8]; exact .inl (hr6.rr k q)
                have hrn8 : ∀ k, R8 k → R5 k ∨ W4.heap.size ≤ k := fun k q => by
                  rw [hR8] at q
                  rcases q with q | q
                  · exact hr6.rn k q
                  · exact .inr (by omega)
                have hj8 := (stab_at SJ.out (Nat.le_refl _) (fun (u : Unit) => BL ++ pre2.map (x :: ·))).k (s := ()) hj6 (hr6.s.more (W1 := W6) (R1 := R5) (fun k q => .inl (hr6.rr k q)) (Nat.le_refl _)) (k68.mono fun _ _ q => q.elim)
                have hop8 := hr6.op.same (k68.block m hr6.s.ms (fun q => q))
                have hcn : (rtN G p).length - (at_ + 1) + 1 = (rtN G p).length - at_ := by omega
                rw [hcn] at hv8
                have hpf8 : (BL ++ pre2.map (x :: ·) ++ [x :: ys]) <+: (mids i j).flatMap (gapT C inp (allOf tr) s ((rtN G p).drop (at_ + 1)) i j) := by
                  rw [HBL.out]
                  simp only [List.append_assoc]
                  refine flat_pf (mids_pf (k := k) (by have := HMM.out; omega)) ?_
                  rw [← HMM.out, FM.out]
                  simp only [Bool.and_self, if_true]
                  exact flat_pf (f := fun k => (rowsT C inp (allOf tr) ((rtN G p).drop (at_ + 1)) mm j).map (k :: ·)) HR3.out.pf (map_pf (x :: ·) hr6.pf)
                have hy8 := HY.out (BL ++ pre2.map (x :: ·)) X5 R5 R8 (x :: ys) v' w8 hpf8 hj8 s58 hrr8 (fun k q => (hrn8 k q).elim .inl (fun q => .inr (Nat.le_trans hWw3 q))) hop8 hv8
                have HG8 : Hid (∀ X' R' W', Gro m X5 R8 w8 X' R' W' → Gro m X5 R6 W6 X' R' W' ∧ Gro m X2 R3 W4 X' R' W') := Lib.hid (fun X' R' W' g => ⟨(Gro.refl hr6.s).step (k68.mono fun _ _ q => q.elim) (fun k q => by rw [hR8]; exact .inl q) (fun k q => by rw [hR8] at q; rcases q with q | q; exact .inl q; exact .inr (by omega)) g, g6.step (k68.mono fun _ _ q => q.elim) hrr8 hrn8 g⟩)
                obtain ⟨fn, tmps, assign, body, hy1, hRR⟩ := hy8
                have HRR := Lib.hid hRR; have HAP := Lib.hid happ
                clear happ hRR hop8 hj8 hrn8 hrr8 s58 hR8 k68 k78 hx6 sm6 hj6 g6 hr6 hk6 hbs hv8 hb8 k67 hcn y1 y2
                gi_wp2_with fail
                refine wpIn_region_any (by kernel_rfl) ?_
                change wpAnyIn _ _ _ _ _ _ _ _ _ W6.drew
                rw [← hw7]
                clear hw7 hs67
                refine wpAnyIn_ready (rs := [0, 1, 3]) (by kernel_rfl) (by simp) ?_
                refine AllReadyIn.cons rfl (fun K hK => ?_) (AllReadyIn.cons rfl (fun K hK => ?_) (AllReadyIn.cons rfl (fun K hK => ?_) (AllReadyIn.nil)))
                · go_simp
                  refine hK _ _ ?_
                  clear hK K
                  refine wpAnyIn_ready (rs := [1, 3]) (by kernel_rfl) (by simp) ?_
                  refine AllReadyIn.cons rfl (fun K hK => ?_) (AllReadyIn.cons rfl (fun K hK => ?_) (AllReadyIn.nil))
                  · go_simp
                    refine hK _ _ ?_
                    clear hK K
                    refine wpAnyIn_ready (rs := [2, 3]) (by kernel_rfl) (by simp) ?_
                    refine AllReadyIn.cons rfl (fun K hK => ?_) (AllReadyIn.cons rfl (fun K hK => ?_) (AllReadyIn.nil))
                    · go_simp
                      refine hK _ _ ?_
                      clear hK K
                      refine wpAnyIn_ready (rs := [3]) (by kernel_rfl) (by simp) ?_
                      refine AllReadyIn.cons rfl (fun K hK => ?_) (AllReadyIn.nil)
                      · go_simp
                        refine hK _ _ ?_
                        clear hK K
                        refine wpAnyIn_ready (rs := [4]) (by kernel_rfl) (by simp) ?_
                        refine AllReadyIn.cons rfl (fun K hK => ?_) (AllReadyIn.nil)
                        · refine step_append_in rfl _ _ _ rfl _ _ _ rfl rfl HAP.out (hK _ _ ?_)
                          clear hK K
                          refine wpAnyIn_ready (rs := [5]) (by kernel_rfl) (by simp) ?_
                          refine AllReadyIn.cons rfl (fun K hK => ?_) AllReadyIn.nil
                          go_simp
                          refine (roundIn_in HRR.out).mono ?_
                          rintro e W' ⟨X', R', g, (⟨rfl, hop', hj⟩ | ⟨rfl, hop', hj⟩)⟩
                          · refine hK _ _ ?_
                            clear hK K
                            refine wpAnyIn_ready (rs := [6]) (by kernel_rfl) (by simp) ?_
                            refine AllReadyIn.cons rfl (fun K hK => ?_) AllReadyIn.nil
                            go_simp
                            refine hK _ _ ?_
                            clear hK K
                            refine wpAnyIn_done (by kernel_rfl) ?_ _
                            have HJ := Lib.hid hj; have HGG := Lib.hid (HG8.out X' R' W' g); have HOO := Lib.hid hop'
                            clear hj g hop'
                            gi_wp2_with fail
                            exact ⟨X', R', HGG.out.1, HOO.out, by rw [HI2.out]; exact ⟨HGG.out.2, by rw [List.map_append, ← List.append_assoc]; exact HJ.out⟩⟩
                          · refine hK _ _ ?_
                            clear hK K
                            refine wpAnyIn_ready (rs := [6]) (by kernel_rfl) (by simp) ?_
                            refine AllReadyIn.cons rfl (fun K hK => ?_) AllReadyIn.nil
                            go_simp
                            refine hK _ _ ?_
                            clear hK K
                            refine wpAnyIn_done (by kernel_rfl) ?_ _
                            have HJ := Lib.hid hj; have HGG := Lib.hid (HG8.out X' R' W' g); have HOO := Lib.hid hop'
                            clear hj g hop'
                            gi_wp2_with fail
                            exact ⟨X', R', HGG.out.1, HOO.out, by rw [HIX2.out]; exact ⟨rfl, HGG.out.2, HJ.out⟩⟩
                    · go_simp
                      refine hK _ _ ?_
                      clear hK K
                      refine wpAnyIn_ready (rs := [2]) (by kernel_rfl) (by simp) ?_
                      refine AllReadyIn.cons rfl (fun K hK => ?_) (AllReadyIn.nil)
                      · go_simp
                        refine hK _ _ ?_
                        clear hK K
                        refine wpAnyIn_ready (rs := [4]) (by kernel_rfl) (by simp) ?_
                        refine AllReadyIn.cons rfl (fun K hK => ?_) (AllReadyIn.nil)
                        · refine step_append_in rfl _ _ _ rfl _ _ _ rfl rfl HAP.out (hK _ _ ?_)
                          clear hK K
                          refine wpAnyIn_ready (rs := [5]) (by kernel_rfl) (by simp) ?_
                          refine AllReadyIn.cons rfl (fun K hK => ?_) AllReadyIn.nil
                          go_simp
                          refine (roundIn_in HRR.out).mono ?_
                          rintro e W' ⟨X', R', g, (⟨rfl, hop', hj⟩ | ⟨rfl, hop', hj⟩)⟩
                          · refine hK _ _ ?_
                            clear hK K
                            refine wpAnyIn_ready (rs := [6]) (by kernel_rfl) (by simp) ?_
                            refine AllReadyIn.cons rfl (fun K hK => ?_) AllReadyIn.nil
                            go_simp
                            refine hK _ _ ?_
                            clear hK K
                            refine wpAnyIn_done (by kernel_rfl) ?_ _
                            have HJ := Lib.hid hj; have HGG := Lib.hid (HG8.out X' R' W' g); have HOO := Lib.hid hop'
                            clear hj g hop'
                            gi_wp2_with fail
                            exact ⟨X', R', HGG.out.1, HOO.out, by rw [HI2.out]; exact ⟨HGG.out.2, by rw [List.map_append, ← List.append_assoc]; exact HJ.out⟩⟩
                          · refine hK _ _ ?_
                            clear hK K
                            refine wpAnyIn_ready (rs := [6]) (by kernel_rfl) (by simp) ?_
                            refine AllReadyIn.cons rfl (fun K hK => ?_) AllReadyIn.nil
                            go_simp
                            refine hK _ _ ?_
                            clear hK K
                            refine wpAnyIn_done (by kernel_rfl) ?_ _
                            have HJ := Lib.hid hj; have HGG := Lib.hid (HG8.out X' R' W' g); have HOO := Lib.hid hop'
                            clear hj g hop'
                            gi_wp2_with fail
                            exact ⟨X', R', HGG.out.1, HOO.out, by rw [HIX2.out]; exact ⟨rfl, HGG.out.2, HJ.out⟩⟩
                  · go_simp
                    refine hK _ _ ?_
                    clear hK K
                    refine wpAnyIn_ready (rs := [1]) (by kernel_rfl) (by simp) ?_
                    refine AllReadyIn.cons rfl (fun K hK => ?_) (AllReadyIn.nil)
                    · go_simp
                      refine hK _ _ ?_
                      clear hK K
                      refine wpAnyIn_ready (rs := [2]) (by kernel_rfl) (by simp) ?_
                      refine AllReadyIn.cons rfl (fun K hK => ?_) (AllReadyIn.nil)
                      · go_simp
                        refine hK _ _ ?_
                        clear hK K
                        refine wpAnyIn_ready (rs := [4]) (by kernel_rfl) (by simp) ?_
                        refine AllReadyIn.cons rfl (fun K hK => ?_) (AllReadyIn.nil)
                        · refine step_append_in rfl _ _ _ rfl _ _ _ rfl rfl HAP.out (hK _ _ ?_)
                          clear hK K
                          refine wpAnyIn_ready (rs := [5]) (by kernel_rfl) (by simp) ?_
                          refine AllReadyIn.cons rfl (fun K hK => ?_) AllReadyIn.nil
                          go_simp
                          refine (roundIn_in HRR.out).mono ?_
                          rintro e W' ⟨X', R', g, (⟨rfl, hop', hj⟩ | ⟨rfl, hop', hj⟩)⟩
                          · refine hK _ _ ?_
                            clear hK K
                            refine wpAnyIn_ready (rs := [6]) (by kernel_rfl) (by simp) ?_
                            refine AllReadyIn.cons rfl (fun K hK => ?_) AllReadyIn.nil
                            go_simp
                            refine hK _ _ ?_
                            clear hK K
                            refine wpAnyIn_done (by kernel_rfl) ?_ _
                            have HJ := Lib.hid hj; have HGG := Lib.hid (HG8.out X' R' W' g); have HOO := Lib.hid hop'
                            clear hj g hop'
                            gi_wp2_with fail
                            exact ⟨X', R', HGG.out.1, HOO.out, by rw [HI2.out]; exact ⟨HGG.out.2, by rw [List.map_append, ← List.append_assoc]; exact HJ.out⟩⟩
                          · refine hK _ _ ?_
                            clear hK K
                            refine wpAnyIn_ready (rs := [6]) (by kernel_rfl) (by simp) ?_
                            refine AllReadyIn.cons rfl (fun K hK => ?_) AllReadyIn.nil
                            go_simp
                            refine hK _ _ ?_
                            clear hK K
                            refine wpAnyIn_done (by kernel_rfl) ?_ _
                            have HJ := Lib.hid hj; have HGG := Lib.hid (HG8.out X' R' W' g); have HOO := Lib.hid hop'
                            clear hj g hop'
                            gi_wp2_with fail
                            exact ⟨X', R', HGG.out.1, HOO.out, by rw [HIX2.out]; exact ⟨rfl, HGG.out.2, HJ.out⟩⟩
                · go_simp
                  refine hK _ _ ?_
                  clear hK K
                  refine wpAnyIn_ready (rs := [0, 2, 3]) (by kernel_rfl) (by simp) ?_
                  refine AllReadyIn.cons rfl (fun K hK => ?_) (AllReadyIn.cons rfl (fun K hK => ?_) (AllReadyIn.cons rfl (fun K hK => ?_) (AllReadyIn.nil)))
                  · go_simp
                    refine hK _ _ ?_
                    clear hK K
                    refine wpAnyIn_ready (rs := [2, 3]) (by kernel_rfl) (by simp) ?_
                    refine AllReadyIn.cons rfl (fun K hK => ?_) (AllReadyIn.cons rfl (fun K hK => ?_) (AllReadyIn.nil))
                    · go_simp
                      refine hK _ _ ?_
                      clear hK K
                      refine wpAnyIn_ready (rs := [3]) (by kernel_rfl) (by simp) ?_
                      refine AllReadyIn.cons rfl (fun K hK => ?_) (AllReadyIn.nil)
                      · go_simp
                        refine hK _ _ ?_
                        clear hK K
                        refine wpAnyIn_ready (rs := [4]) (by kernel_rfl) (by simp) ?_
                        refine AllReadyIn.cons rfl (fun K hK => ?_) (AllReadyIn.nil)
                        · refine step_append_in rfl _ _ _ rfl _ _ _ rfl rfl HAP.out (hK _ _ ?_)
                          clear hK K
                          refine wpAnyIn_ready (rs := [5]) (by kernel_rfl) (by simp) ?_
                          refine AllReadyIn.cons rfl (fun K hK => ?_) AllReadyIn.nil
                          go_simp
                          refine (roundIn_in HRR.out).mono ?_
                          rintro e W' ⟨X', R', g, (⟨rfl, hop', hj⟩ | ⟨rfl, hop', hj⟩)⟩
                          · refine hK _ _ ?_
                            clear hK K
                            refine wpAnyIn_ready (rs := [6]) (by kernel_rfl) (by simp) ?_
                            refine AllReadyIn.cons rfl (fun K hK => ?_) AllReadyIn.nil
                            go_simp
                            refine hK _ _ ?_
                            clear hK K
                            refine wpAnyIn_done (by kernel_rfl) ?_ _
                            have HJ := Lib.hid hj; have HGG := Lib.hid (HG8.out X' R' W' g); have HOO := Lib.hid hop'
                            clear hj g hop'
                            gi_wp2_with fail
                            exact ⟨X', R', HGG.out.1, HOO.out, by rw [HI2.out]; exact ⟨HGG.out.2, by rw [List.map_append, ← List.append_assoc]; exact HJ.out⟩⟩
                          · refine hK _ _ ?_
                            clear hK K
                            refine wpAnyIn_ready (rs := [6]) (by kernel_rfl) (by simp) ?_
                            refine AllReadyIn.cons rfl (fun K hK => ?_) AllReadyIn.nil
                            go_simp
                            refine hK _ _ ?_
                            clear hK K
                            refine wpAnyIn_done (by kernel_rfl) ?_ _
                            have HJ := Lib.hid hj; have HGG := Lib.hid (HG8.out X' R' W' g); have HOO := Lib.hid hop'
                            clear hj g hop'
                            gi_wp2_with fail
                            exact ⟨X', R', HGG.out.1, HOO.out, by rw [HIX2.out]; exact ⟨rfl, HGG.out.2, HJ.out⟩⟩
                    · go_simp
                      refine hK _ _ ?_
                      clear hK K
                      refine wpAnyIn_ready (rs := [2]) (by kernel_rfl) (by simp) ?_
                      refine AllReadyIn.cons rfl (fun K hK => ?_) (AllReadyIn.nil)
                      · go_simp
                        refine hK _ _ ?_
                        clear hK K
                        refine wpAnyIn_ready (rs := [4]) (by kernel_rfl) (by simp) ?_
                        refine AllReadyIn.cons rfl (fun K hK => ?_) (AllReadyIn.nil)
                        · refine step_append_in rfl _ _ _ rfl _ _ _ rfl rfl HAP.out (hK _ _ ?_)
                          clear hK K
                          refine wpAnyIn_ready (rs := [5]) (by kernel_rfl) (by simp) ?_
                          refine AllReadyIn.cons rfl (fun K hK => ?_) AllReadyIn.nil
                          go_simp
                          refine (roundIn_in HRR.out).mono ?_
                          rintro e W' ⟨X', R', g, (⟨rfl, hop', hj⟩ | ⟨rfl, hop', hj⟩)⟩
                          · refine hK _ _ ?_
                            clear hK K
                            refine wpAnyIn_ready (rs := [6]) (by kernel_rfl) (by simp) ?_
                            refine AllReadyIn.cons rfl (fun K hK => ?_) AllReadyIn.nil
                            go_simp
                            refine hK _ _ ?_
                            clear hK K
                            refine wpAnyIn_done (by kernel_rfl) ?_ _
                            have HJ := Lib.hid hj; have HGG := Lib.hid (HG8.out X' R' W' g); have HOO := Lib.hid hop'
                            clear hj g hop'
                            gi_wp2_with fail
                            exact ⟨X', R', HGG.out.1, HOO.out, by rw [HI2.out]; exact ⟨HGG.out.2, by rw [List.map_append, ← List.append_assoc]; exact HJ.out⟩⟩
                          · refine hK _ _ ?_
                            clear hK K
                            refine wpAnyIn_ready (rs := [6]) (by kernel_rfl) (by simp) ?_
                            refine AllReadyIn.cons rfl (fun K hK => ?_) AllReadyIn.nil
                            go_simp
                            refine hK _ _ ?_
                            clear hK K
                            refine wpAnyIn_done (by kernel_rfl) ?_ _
                            have HJ := Lib.hid hj; have HGG := Lib.hid (HG8.out X' R' W' g); have HOO := Lib.hid hop'
                            clear hj g hop'
                            gi_wp2_with fail
                            exact ⟨X', R', HGG.out.1, HOO.out, by rw [HIX2.out]; exact ⟨rfl, HGG.out.2, HJ.out⟩⟩
                  · go_simp
                    refine hK _ _ ?_
                    clear hK K
                    refine wpAnyIn_ready (rs := [0, 3]) (by kernel_rfl) (by simp) ?_
                    refine AllReadyIn.cons rfl (fun K hK => ?_) (AllReadyIn.cons rfl (fun K hK => ?_) (AllReadyIn.nil))
                    · go_simp
                      refine hK _ _ ?_
                      clear hK K
                      refine wpAnyIn_ready (rs := [3]) (by kernel_rfl) (by simp) ?_
                      refine AllReadyIn.cons rfl (fun K hK => ?_) (AllReadyIn.nil)
                      · go_simp
                        refine hK _ _ ?_
                        clear hK K
                        refine wpAnyIn_ready (rs := [4]) (by kernel_rfl) (by simp) ?_
                        refine AllReadyIn.cons rfl (fun K hK => ?_) (AllReadyIn.nil)
                        · refine step_append_in rfl _ _ _ rfl _ _ _ rfl rfl HAP.out (hK _ _ ?_)
                          clear hK K
                          refine wpAnyIn_ready (rs := [5]) (by kernel_rfl) (by simp) ?_
                          refine AllReadyIn.cons rfl (fun K hK => ?_) AllReadyIn.nil
                          go_simp
                          refine (roundIn_in HRR.out).mono ?_
                          rintro e W' ⟨X', R', g, (⟨rfl, hop', hj⟩ | ⟨rfl, hop', hj⟩)⟩
                          · refine hK _ _ ?_
                            clear hK K
                            refine wpAnyIn_ready (rs := [6]) (by kernel_rfl) (by simp) ?_
                            refine AllReadyIn.cons rfl (fun K hK => ?_) AllReadyIn.nil
                            go_simp
                            refine hK _ _ ?_
                            clear hK K
                            refine wpAnyIn_done (by kernel_rfl) ?_ _
                            have HJ := Lib.hid hj; have HGG := Lib.hid (HG8.out X' R' W' g); have HOO := Lib.hid hop'
                            clear hj g hop'
                            gi_wp2_with fail
                            exact ⟨X', R', HGG.out.1, HOO.out, by rw [HI2.out]; exact ⟨HGG.out.2, by rw [List.map_append, ← List.append_assoc]; exact HJ.out⟩⟩
                          · refine hK _ _ ?_
                            clear hK K
                            refine wpAnyIn_ready (rs := [6]) (by kernel_rfl) (by simp) ?_
                            refine AllReadyIn.cons rfl (fun K hK => ?_) AllReadyIn.nil
                            go_simp
                            refine hK _ _ ?_
                            clear hK K
                            refine wpAnyIn_done (by kernel_rfl) ?_ _
                            have HJ := Lib.hid hj; have HGG := Lib.hid (HG8.out X' R' W' g); have HOO := Lib.hid hop'
                            clear hj g hop'
                            gi_wp2_with fail
                            exact ⟨X', R', HGG.out.1, HOO.out, by rw [HIX2.out]; exact ⟨rfl, HGG.out.2, HJ.out⟩⟩
                    · go_simp
                      refine hK _ _ ?_
                      clear hK K
                      refine wpAnyIn_ready (rs := [0, 4]) (by kernel_rfl) (by simp) ?_
                      refine AllReadyIn.cons rfl (fun K hK => ?_) (AllReadyIn.cons rfl (fun K hK => ?_) (AllReadyIn.nil))
                      · go_simp
                        refine hK _ _ ?_
                        clear hK K
                        refine wpAnyIn_ready (rs := [4]) (by kernel_rfl) (by simp) ?_
                        refine AllReadyIn.cons rfl (fun K hK => ?_) (AllReadyIn.nil)
                        · refine step_append_in rfl _ _ _ rfl _ _ _ rfl rfl HAP.out (hK _ _ ?_)
                          clear hK K
                          refine wpAnyIn_ready (rs := [5]) (by kernel_rfl) (by simp) ?_
                          refine AllReadyIn.cons rfl (fun K hK => ?_) AllReadyIn.nil
                          go_simp
                          refine (roundIn_in HRR.out).mono ?_
                          rintro e W' ⟨X', R', g, (⟨rfl, hop', hj⟩ | ⟨rfl, hop', hj⟩)⟩
                          · refine hK _ _ ?_
                            clear hK K
                            refine wpAnyIn_ready (rs := [6]) (by kernel_rfl) (by simp) ?_
                            refine AllReadyIn.cons rfl (fun K hK => ?_) AllReadyIn.nil
                            go_simp
                            refine hK _ _ ?_
                            clear hK K
                            refine wpAnyIn_done (by kernel_rfl) ?_ _
                            have HJ := Lib.hid hj; have HGG := Lib.hid (HG8.out X' R' W' g); have HOO := Lib.hid hop'
                            clear hj g hop'
                            gi_wp2_with fail
                            exact ⟨X', R', HGG.out.1, HOO.out, by rw [HI2.out]; exact ⟨HGG.out.2, by rw [List.map_append, ← List.append_assoc]; exact HJ.out⟩⟩
                          · refine hK _ _ ?_
                            clear hK K
                            refine wpAnyIn_ready (rs := [6]) (by kernel_rfl) (by simp) ?_
                            refine AllReadyIn.cons rfl (fun K hK => ?_) AllReadyIn.nil
                            go_simp
                            refine hK _ _ ?_
                            clear hK K
                            refine wpAnyIn_done (by kernel_rfl) ?_ _
                            have HJ := Lib.hid hj; have HGG := Lib.hid (HG8.out X' R' W' g); have HOO := Lib.hid hop'
                            clear hj g hop'
                            gi_wp2_with fail
                            exact ⟨X', R', HGG.out.1, HOO.out, by rw [HIX2.out]; exact ⟨rfl, HGG.out.2, HJ.out⟩⟩
                      · refine step_append_in rfl _ _ _ rfl _ _ _ rfl rfl HAP.out (hK _ _ ?_)
                        clear hK K
                        refine wpAnyIn_ready (rs := [0]) (by kernel_rfl) (by simp) ?_
                        refine AllReadyIn.cons rfl (fun K hK => ?_) (AllReadyIn.nil)
                        · go_simp
                          refine hK _ _ ?_
                          clear hK K
                          refine wpAnyIn_ready (rs := [5]) (by kernel_rfl) (by simp) ?_
                          refine AllReadyIn.cons rfl (fun K hK => ?_) AllReadyIn.nil
                          go_simp
                          refine (roundIn_in HRR.out).mono ?_
                          rintro e W' ⟨X', R', g, (⟨rfl, hop', hj⟩ | ⟨rfl, hop', hj⟩)⟩
                          · refine hK _ _ ?_
                            clear hK K
                            refine wpAnyIn_ready (rs := [6]) (by kernel_rfl) (by simp) ?_
                            refine AllReadyIn.cons rfl (fun K hK => ?_) AllReadyIn.nil
                            go_simp
                            refine hK _ _ ?_
                            clear hK K
                            refine wpAnyIn_done (by kernel_rfl) ?_ _
                            have HJ := Lib.hid hj; have HGG := Lib.hid (HG8.out X' R' W' g); have HOO := Lib.hid hop'
                            clear hj g hop'
                            gi_wp2_with fail
                            exact ⟨X', R', HGG.out.1, HOO.out, by rw [HI2.out]; exact ⟨HGG.out.2, by rw [List.map_append, ← List.append_assoc]; exact HJ.out⟩⟩
                          · refine hK _ _ ?_
                            clear hK K
                            refine wpAnyIn_ready (rs := [6]) (by kernel_rfl) (by simp) ?_
                            refine AllReadyIn.cons rfl (fun K hK => ?_) AllReadyIn.nil
                            go_simp
                            refine hK _ _ ?_
                            clear hK K
                            refine wpAnyIn_done (by kernel_rfl) ?_ _
                            have HJ := Lib.hid hj; have HGG := Lib.hid (HG8.out X' R' W' g); have HOO := Lib.hid hop'
                            clear hj g hop'
                            gi_wp2_with fail
                            exact ⟨X', R', HGG.out.1, HOO.out, by rw [HIX2.out]; exact ⟨rfl, HGG.out.2, HJ.out⟩⟩
                  · go_simp
                    refine hK _ _ ?_
                    clear hK K
                    refine wpAnyIn_ready (rs := [0, 2]) (by kernel_rfl) (by simp) ?_
                    refine AllReadyIn.cons rfl (fun K hK => ?_) (AllReadyIn.cons rfl (fun K hK => ?_) (AllReadyIn.nil))
                    · go_simp
                      refine hK _ _ ?_
                      clear hK K
                      refine wpAnyIn_ready (rs := [2]) (by kernel_rfl) (by simp) ?_
                      refine AllReadyIn.cons rfl (fun K hK => ?_) (AllReadyIn.nil)
                      · go_simp
                        refine hK _ _ ?_
                        clear hK K
                        refine wpAnyIn_ready (rs := [4]) (by kernel_rfl) (by simp) ?_
                        refine AllReadyIn.cons rfl (fun K hK => ?_) (AllReadyIn.nil)
                        · refine step_append_in rfl _ _ _ rfl _ _ _ rfl rfl HAP.out (hK _ _ ?_)
                          clear hK K
                          refine wpAnyIn_ready (rs := [5]) (by kernel_rfl) (by simp) ?_
                          refine AllReadyIn.cons rfl (fun K hK => ?_) AllReadyIn.nil
                          go_simp
                          refine (roundIn_in HRR.out).mono ?_
                          rintro e W' ⟨X', R', g, (⟨rfl, hop', hj⟩ | ⟨rfl, hop', hj⟩)⟩
                          · refine hK _ _ ?_
                            clear hK K
                            refine wpAnyIn_ready (rs := [6]) (by kernel_rfl) (by simp) ?_
                            refine AllReadyIn.cons rfl (fun K hK => ?_) AllReadyIn.nil
                            go_simp
                            refine hK _ _ ?_
                            clear hK K
                            refine wpAnyIn_done (by kernel_rfl) ?_ _
                            have HJ := Lib.hid hj; have HGG := Lib.hid (HG8.out X' R' W' g); have HOO := Lib.hid hop'
                            clear hj g hop'
                            gi_wp2_with fail
                            exact ⟨X', R', HGG.out.1, HOO.out, by rw [HI2.out]; exact ⟨HGG.out.2, by rw [List.map_append, ← List.append_assoc]; exact HJ.out⟩⟩
                          · refine hK _ _ ?_
                            clear hK K
                            refine wpAnyIn_ready (rs := [6]) (by kernel_rfl) (by simp) ?_
                            refine AllReadyIn.cons rfl (fun K hK => ?_) AllReadyIn.nil
                            go_simp
                            refine hK _ _ ?_
                            clear hK K
                            refine wpAnyIn_done (by kernel_rfl) ?_ _
                            have HJ := Lib.hid hj; have HGG := Lib.hid (HG8.out X' R' W' g); have HOO := Lib.hid hop'
                            clear hj g hop'
                            gi_wp2_with fail
                            exact ⟨X', R', HGG.out.1, HOO.out, by rw [HIX2.out]; exact ⟨rfl, HGG.out.2, HJ.out⟩⟩
                    · go_simp
                      refine hK _ _ ?_
                      clear hK K
                      refine wpAnyIn_ready (rs := [0, 4]) (by kernel_rfl) (by simp) ?_
                      refine AllReadyIn.cons rfl (fun K hK => ?_) (AllReadyIn.cons rfl (fun K hK => ?_) (AllReadyIn.nil))
                      · go_simp
                        refine hK _ _ ?_
                        clear hK K
                        refine wpAnyIn_ready (rs := [4]) (by kernel_rfl) (by simp) ?_
                        refine AllReadyIn.cons rfl (fun K hK => ?_) (AllReadyIn.nil)
                        · refine step_append_in rfl _ _ _ rfl _ _ _ rfl rfl HAP.out (hK _ _ ?_)
                          clear hK K
                          refine wpAnyIn_ready (rs := [5]) (by kernel_rfl) (by simp) ?_
                          refine AllReadyIn.cons rfl (fun K hK => ?_) AllReadyIn.nil
                          go_simp
                          refine (roundIn_in HRR.out).mono ?_
                          rintro e W' ⟨X', R', g, (⟨rfl, hop', hj⟩ | ⟨rfl, hop', hj⟩)⟩
                          · refine hK _ _ ?_
                            clear hK K
                            refine wpAnyIn_ready (rs := [6]) (by kernel_rfl) (by simp) ?_
                            refine AllReadyIn.cons rfl (fun K hK => ?_) AllReadyIn.nil
                            go_simp
                            refine hK _ _ ?_
                            clear hK K
                            refine wpAnyIn_done (by kernel_rfl) ?_ _
                            have HJ := Lib.hid hj; have HGG := Lib.hid (HG8.out X' R' W' g); have HOO := Lib.hid hop'
                            clear hj g hop'
                            gi_wp2_with fail
                            exact ⟨X', R', HGG.out.1, HOO.out, by rw [HI2.out]; exact ⟨HGG.out.2, by rw [List.map_append, ← List.append_assoc]; exact HJ.out⟩⟩
                          · refine hK _ _ ?_
                            clear hK K
                            refine wpAnyIn_ready (rs := [6]) (by kernel_rfl) (by simp) ?_
                            refine AllReadyIn.cons rfl (fun K hK => ?_) AllReadyIn.nil
                            go_simp
                            refine hK _ _ ?_
                            clear hK K
                            refine wpAnyIn_done (by kernel_rfl) ?_ _
                            have HJ := Lib.hid hj; have HGG := Lib.hid (HG8.out X' R' W' g); have HOO := Lib.hid hop'
                            clear hj g hop'
                            gi_wp2_with fail
                            exact ⟨X', R', HGG.out.1, HOO.out, by rw [HIX2.out]; exact ⟨rfl, HGG.out.2, HJ.out⟩⟩
                      · refine step_append_in rfl _ _ _ rfl _ _ _ rfl rfl HAP.out (hK _ _ ?_)
                        clear hK K
                        refine wpAnyIn_ready (rs := [0]) (by kernel_rfl) (by simp) ?_
                        refine AllReadyIn.cons rfl (fun K hK => ?_) (AllReadyIn.nil)
                        · go_simp
                          refine hK _ _ ?_
                          clear hK K
                          refine wpAnyIn_ready (rs := [5]) (by kernel_rfl) (by simp) ?_
                          refine AllReadyIn.cons rfl (fun K hK => ?_) AllReadyIn.nil
                          go_simp
                          refine (roundIn_in HRR.out).mono ?_
                          rintro e W' ⟨X', R', g, (⟨rfl, hop', hj⟩ | ⟨rfl, hop', hj⟩)⟩
                          · refine hK _ _ ?_
                            clear hK K
                            refine wpAnyIn_ready (rs := [6]) (by kernel_rfl) (by simp) ?_
                            refine AllReadyIn.cons rfl (fun K hK => ?_) AllReadyIn.nil
                            go_simp
                            refine hK _ _ ?_
                            clear hK K
                            refine wpAnyIn_done (by kernel_rfl) ?_ _
                            have HJ := Lib.hid hj; have HGG := Lib.hid (HG8.out X' R' W' g); have HOO := Lib.hid hop'
                            clear hj g hop'
                            gi_wp2_with fail
                            exact ⟨X', R', HGG.out.1, HOO.out, by rw [HI2.out]; exact ⟨HGG.out.2, by rw [List.map_append, ← List.append_assoc]; exact HJ.out⟩⟩
                          · refine hK _ _ ?_
                            clear hK K
                            refine wpAnyIn_ready (rs := [6]) (by kernel_rfl) (by simp) ?_
                            refine AllReadyIn.cons rfl (fun K hK => ?_) AllReadyIn.nil
                            go_simp
                            refine hK _ _ ?_
                            clear hK K
                            refine wpAnyIn_done (by kernel_rfl) ?_ _
                            have HJ := Lib.hid hj; have HGG := Lib.hid (HG8.out X' R' W' g); have HOO := Lib.hid hop'
                            clear hj g hop'
                            gi_wp2_with fail
                            exact ⟨X', R', HGG.out.1, HOO.out, by rw [HIX2.out]; exact ⟨rfl, HGG.out.2, HJ.out⟩⟩
                · go_simp
                  refine hK _ _ ?_
                  clear hK K
                  refine wpAnyIn_ready (rs := [0, 1]) (by kernel_rfl) (by simp) ?_
                  refine AllReadyIn.cons rfl (fun K hK => ?_) (AllReadyIn.cons rfl (fun K hK => ?_) (AllReadyIn.nil))
                  · go_simp
                    refine hK _ _ ?_
                    clear hK K
                    refine wpAnyIn_ready (rs := [1]) (by kernel_rfl) (by simp) ?_
                    refine AllReadyIn.cons rfl (fun K hK => ?_) (AllReadyIn.nil)
                    · go_simp
                      refine hK _ _ ?_
                      clear hK K
                      refine wpAnyIn_ready (rs := [2]) (by kernel_rfl) (by simp) ?_
                      refine AllReadyIn.cons rfl (fun K hK => ?_) (AllReadyIn.nil)
                      · go_simp
                        refine hK _ _ ?_
                        clear hK K
                        refine wpAnyIn_ready (rs := [4]) (by kernel_rfl) (by simp) ?_
                        refine AllReadyIn.cons rfl (fun K hK => ?_) (AllReadyIn.nil)
                        · refine step_append_in rfl _ _ _ rfl _ _ _ rfl rfl HAP.out (hK _ _ ?_)
                          clear hK K
                          refine wpAnyIn_ready (rs := [5]) (by kernel_rfl) (by simp) ?_
                          refine AllReadyIn.cons rfl (fun K hK => ?_) AllReadyIn.nil
                          go_simp
                          refine (roundIn_in HRR.out).mono ?_
                          rintro e W' ⟨X', R', g, (⟨rfl, hop', hj⟩ | ⟨rfl, hop', hj⟩)⟩
                          · refine hK _ _ ?_
                            clear hK K
                            refine wpAnyIn_ready (rs := [6]) (by kernel_rfl) (by simp) ?_
                            refine AllReadyIn.cons rfl (fun K hK => ?_) AllReadyIn.nil
                            go_simp
                            refine hK _ _ ?_
                            clear hK K
                            refine wpAnyIn_done (by kernel_rfl) ?_ _
                            have HJ := Lib.hid hj; have HGG := Lib.hid (HG8.out X' R' W' g); have HOO := Lib.hid hop'
                            clear hj g hop'
                            gi_wp2_with fail
                            exact ⟨X', R', HGG.out.1, HOO.out, by rw [HI2.out]; exact ⟨HGG.out.2, by rw [List.map_append, ← List.append_assoc]; exact HJ.out⟩⟩
                          · refine hK _ _ ?_
                            clear hK K
                            refine wpAnyIn_ready (rs := [6]) (by kernel_rfl) (by simp) ?_
                            refine AllReadyIn.cons rfl (fun K hK => ?_) AllReadyIn.nil
                            go_simp
                            refine hK _ _ ?_
                            clear hK K
                            refine wpAnyIn_done (by kernel_rfl) ?_ _
                            have HJ := Lib.hid hj; have HGG := Lib.hid (HG8.out X' R' W' g); have HOO := Lib.hid hop'
                            clear hj g hop'
                            gi_wp2_with fail
                            exact ⟨X', R', HGG.out.1, HOO.out, by rw [HIX2.out]; exact ⟨rfl, HGG.out.2, HJ.out⟩⟩
                  · go_simp
                    refine hK _ _ ?_
                    clear hK K
                    refine wpAnyIn_ready (rs := [0, 2]) (by kernel_rfl) (by simp) ?_
                    refine AllReadyIn.cons rfl (fun K hK => ?_) (AllReadyIn.cons rfl (fun K hK => ?_) (AllReadyIn.nil))
                    · go_simp
                      refine hK _ _ ?_
                      clear hK K
                      refine wpAnyIn_ready (rs := [2]) (by kernel_rfl) (by simp) ?_
                      refine AllReadyIn.cons rfl (fun K hK => ?_) (AllReadyIn.nil)
                      · go_simp
                        refine hK _ _ ?_
                        clear hK K
                        refine wpAnyIn_ready (rs := [4]) (by kernel_rfl) (by simp) ?_
                        refine AllReadyIn.cons rfl (fun K hK => ?_) (AllReadyIn.nil)
                        · refine step_append_in rfl _ _ _ rfl _ _ _ rfl rfl HAP.out (hK _ _ ?_)
                          clear hK K
                          refine wpAnyIn_ready (rs := [5]) (by kernel_rfl) (by simp) ?_
                          refine AllReadyIn.cons rfl (fun K hK => ?_) AllReadyIn.nil
                          go_simp
                          refine (roundIn_in HRR.out).mono ?_
                          rintro e W' ⟨X', R', g, (⟨rfl, hop', hj⟩ | ⟨rfl, hop', hj⟩)⟩
                          · refine hK _ _ ?_
                            clear hK K
                            refine wpAnyIn_ready (rs := [6]) (by kernel_rfl) (by simp) ?_
                            refine AllReadyIn.cons rfl (fun K hK => ?_) AllReadyIn.nil
                            go_simp
                            refine hK _ _ ?_
                            clear hK K
                            refine wpAnyIn_done (by kernel_rfl) ?_ _
                            have HJ := Lib.hid hj; have HGG := Lib.hid (HG8.out X' R' W' g); have HOO := Lib.hid hop'
                            clear hj g hop'
                            gi_wp2_with fail
                            exact ⟨X', R', HGG.out.1, HOO.out, by rw [HI2.out]; exact ⟨HGG.out.2, by rw [List.map_append, ← List.append_assoc]; exact HJ.out⟩⟩
                          · refine hK _ _ ?_
                            clear hK K
                            refine wpAnyIn_ready (rs := [6]) (by kernel_rfl) (by simp) ?_
                            refine AllReadyIn.cons rfl (fun K hK => ?_) AllReadyIn.nil
                            go_simp
                            refine hK _ _ ?_
                            clear hK K
                            refine wpAnyIn_done (by kernel_rfl) ?_ _
                            have HJ := Lib.hid hj; have HGG := Lib.hid (HG8.out X' R' W' g); have HOO := Lib.hid hop'
                            clear hj g hop'
                            gi_wp2_with fail
                            exact ⟨X', R', HGG.out.1, HOO.out, by rw [HIX2.out]; exact ⟨rfl, HGG.out.2, HJ.out⟩⟩
                    · go_simp
                      refine hK _ _ ?_
                      clear hK K
                      refine wpAnyIn_ready (rs := [0, 4]) (by kernel_rfl) (by simp) ?_
                      refine AllReadyIn.cons rfl (fun K hK => ?_) (AllReadyIn.cons rfl (fun K hK => ?_) (AllReadyIn.nil))
                      · go_simp
                        refine hK _ _ ?_
                        clear hK K
                        refine wpAnyIn_ready (rs := [4]) (by kernel_rfl) (by simp) ?_
                        refine AllReadyIn.cons rfl (fun K hK => ?_) (AllReadyIn.nil)
                        · refine step_append_in rfl _ _ _ rfl _ _ _ rfl rfl HAP.out (hK _ _ ?_)
                          clear hK K
                          refine wpAnyIn_ready (rs := [5]) (by kernel_rfl) (by simp) ?_
                          refine AllReadyIn.cons rfl (fun K hK => ?_) AllReadyIn.nil
                          go_simp
                          refine (roundIn_in HRR.out).mono ?_
                          rintro e W' ⟨X', R', g, (⟨rfl, hop', hj⟩ | ⟨rfl, hop', hj⟩)⟩
                          · refine hK _ _ ?_
                            clear hK K
                            refine wpAnyIn_ready (rs := [6]) (by kernel_rfl) (by simp) ?_
                            refine AllReadyIn.cons rfl (fun K hK => ?_) AllReadyIn.nil
                            go_simp
                            refine hK _ _ ?_
                            clear hK K
                            refine wpAnyIn_done (by kernel_rfl) ?_ _
                            have HJ := Lib.hid hj; have HGG := Lib.hid (HG8.out X' R' W' g); have HOO := Lib.hid hop'
                            clear hj g hop'
                            gi_wp2_with fail
                            exact ⟨X', R', HGG.out.1, HOO.out, by rw [HI2.out]; exact ⟨HGG.out.2, by rw [List.map_append, ← List.append_assoc]; exact HJ.out⟩⟩
                          · refine hK _ _ ?_
                            clear hK K
                            refine wpAnyIn_ready (rs := [6]) (by kernel_rfl) (by simp) ?_
                            refine AllReadyIn.cons rfl (fun K hK => ?_) AllReadyIn.nil
                            go_simp
                            refine hK _ _ ?_
                            clear hK K
                            refine wpAnyIn_done (by kernel_rfl) ?_ _
                            have HJ := Lib.hid hj; have HGG := Lib.hid (HG8.out X' R' W' g); have HOO := Lib.hid hop'
                            clear hj g hop'
                            gi_wp2_with fail
                            exact ⟨X', R', HGG.out.1, HOO.out, by rw [HIX2.out]; exact ⟨rfl, HGG.out.2, HJ.out⟩⟩
                      · refine step_append_in rfl _ _ _ rfl _ _ _ rfl rfl HAP.out (hK _ _ ?_)
                        clear hK K
                        refine wpAnyIn_ready (rs := [0]) (by kernel_rfl) (by simp) ?_
                        refine AllReadyIn.cons rfl (fun K hK => ?_) (AllReadyIn.nil)
                        · go_simp
                          refine hK _ _ ?_
                          clear hK K
                          refine wpAnyIn_ready (rs := [5]) (by kernel_rfl) (by simp) ?_
                          refine AllReadyIn.cons rfl (fun K hK => ?_) AllReadyIn.nil
                          go_simp
                          refine (roundIn_in HRR.out).mono ?_
                          rintro e W' ⟨X', R', g, (⟨rfl, hop', hj⟩ | ⟨rfl, hop', hj⟩)⟩
                          · refine hK _ _ ?_
                            clear hK K
                            refine wpAnyIn_ready (rs := [6]) (by kernel_rfl) (by simp) ?_
                            refine AllReadyIn.cons rfl (fun K hK => ?_) AllReadyIn.nil
                            go_simp
                            refine hK _ _ ?_
                            clear hK K
                            refine wpAnyIn_done (by kernel_rfl) ?_ _
                            have HJ := Lib.hid hj; have HGG := Lib.hid (HG8.out X' R' W' g); have HOO := Lib.hid hop'
                            clear hj g hop'
                            gi_wp2_with fail
                            exact ⟨X', R', HGG.out.1, HOO.out, by rw [HI2.out]; exact ⟨HGG.out.2, by rw [List.map_append, ← List.append_assoc]; exact HJ.out⟩⟩
                          · refine hK _ _ ?_
                            clear hK K
                            refine wpAnyIn_ready (rs := [6]) (by kernel_rfl) (by simp) ?_
                            refine AllReadyIn.cons rfl (fun K hK => ?_) AllReadyIn.nil
                            go_simp
                            refine hK _ _ ?_
                            clear hK K
                            refine wpAnyIn_done (by kernel_rfl) ?_ _
                            have HJ := Lib.hid hj; have HGG := Lib.hid (HG8.out X' R' W' g); have HOO := Lib.hid hop'
                            clear hj g hop'
                            gi_wp2_with fail
                            exact ⟨X', R', HGG.out.1, HOO.out, by rw [HIX2.out]; exact ⟨rfl, HGG.out.2, HJ.out⟩⟩
              case done2 =>
                intro X5 R5 W5 g5 op5 i5
                rw [HI2.out] at i5
                have HJ := Lib.hid i5.2; have HO5 := Lib.hid op5
                have HGA := Lib.hid ((Gro.refl HR3.out.s).step (K34.out.mono fun _ _ q => q.elim) (fun _ q => q) (fun _ q => .inl q) g5)
                have HGB := Lib.hid (HG3.out.step (K34.out.mono fun _ _ q => q.elim) HR3.out.rr HR3.out.rn g5)
                clear i5 op5 g5
                gi_wp2_with fail
                exact ⟨X5, R5, HGA.out, HO5.out, by
                  rw [HII.out]
                  refine ⟨HGB.out, ?_⟩
                  have h := HJ.out
                  rw [HBL.out] at h
                  rw [List.flatMap_append, List.flatMap_cons, List.flatMap_nil, List.append_nil, ← List.append_assoc]
                  exact h⟩
              case stop2 =>
                intro c5 X5 R5 W5 g5 op5 i5
                rw [HIX2.out] at i5
                obtain ⟨rfl, g6, hj⟩ := i5
                have HJ := Lib.hid hj; have HO5 := Lib.hid op5
                have HGA := Lib.hid ((Gro.refl HR3.out.s).step (K34.out.mono fun _ _ q => q.elim) (fun _ q => q) (fun _ q => .inl q) g5)
                have HGB := Lib.hid (HG3.out.step (K34.out.mono fun _ _ q => q.elim) HR3.out.rr HR3.out.rn g5)
                clear g6 hj op5 g5
                gi_wp2_with fail
                exact ⟨X5, R5, HGA.out, HO5.out, by rw [HIX.out]; exact ⟨rfl, HGB.out, HJ.out⟩⟩
            case done =>
              intro D X5 R5 W5 hD hDh hDx hDr g5 op5 i5
              rw [HII.out] at i5
              obtain ⟨n1, n2, n3, n4⟩ := HI0.out.next' HMM.out q SJ.out K4.out g5 hD hDh hDx hDr (by
                have h := FM.out
                simp only [Bool.and_self, if_true] at h
                rw [h]
                exact i5.2) op5
              have zmb : W5.cell? ⟨mb, 0, none⟩ = some (.int .i64 (mm : Int)) := ((World.cell?_of_block (a := ⟨mb, 0, none⟩) ((g5.same (Nat.lt_of_lt_of_le HI0.out.mm.lt HB4.out.size) HI0.out.mm.x HI0.out.mm.m).trans (HB4.out.block mb HI0.out.mm.lt)))).trans zcm
              have HN1 := Lib.hid n1
              clear n1 n2 n3 n4 i5 g5 op5 hD hDh hDx hDr
              go_wp2_with fail
              refine Handed.intro (j + 1 - i - (k + 1)) (by have := HMM.out; omega) (hKJ _ _ _ ?_)
              rw [HIV.out]
              refine ⟨k + 1, _, D :: Ds, X5, R5, rfl, HN1.out, ?_⟩
              (repeat apply Exists.intro)
              rfl
            case stop =>
              intro D c5 X5 R5 W5 hD hDh hDx hDr g5 op5 i5
              rw [HIX.out] at i5
              obtain ⟨rfl, g6, hj⟩ := i5
              have G : Gro m X R W X5 R5 W5 := HI0.out.g.step (K4.out.mono fun _ _ q => q.elim) (fun _ q => q) (fun _ q => .inl q) g5
              have mk : ∀ b, Mine m X' R' wr b → Mine m X5 R5 W5 b ∧ W5.heap[b]? = wr.heap[b]? := fun b hb => ⟨(hb.keep HB4.out.size).gro g5, (g5.same (Nat.lt_of_lt_of_le hb.lt HB4.out.size) hb.x hb.m).trans (HB4.out.block b hb.lt)⟩
              have hds : ∀ D' ∈ D :: Ds, Mine m X5 R5 W5 D' ∧ W5.heap[D']? = some (.deferred (some [])) ∧ W.heap.size ≤ D' := fun D' q => by
                rcases List.mem_cons.1 q with rfl | q
                · exact ⟨⟨(Array.getElem?_eq_some_iff.1 hDh).1, hDx, hDr, fun e => by have := HI0.out.g.sep.ms; have := HB4.out.size; omega⟩, hDh, by omega⟩
                · obtain ⟨q1, q2, q3⟩ := HI0.out.ds D' q
                  obtain ⟨q4, q5⟩ := mk D' q1
                  exact ⟨q4, q5.trans q2, q3⟩
              have hnd : (D :: Ds).Nodup := List.nodup_cons.2 ⟨fun q => by have := (HI0.out.ds D q).1.lt; have := HB4.out.size; omega, HI0.out.nd⟩
              have HFIN := Lib.hid (And.intro G (And.intro op5 (And.intro hds (And.intro hnd hj))))
              clear G mk hds hnd hj g6 g5 op5 hD hDh hDx hDr
              go_wp2_with fail
              exact RInv.fin (Ds := D :: Ds) rfl HFIN.out.1 SJ.out SJX.out HFIN.out.2.2.2.1 HFIN.out.2.2.1 (.inr ⟨HFIN.out.2.1, HFIN.out.2.2.2.2⟩)
      · obtain ⟨a, ha⟩ : ∃ a : Nat, a = (-1 - s).toNat := ⟨_, rfl⟩
        have ev : partV s i mm = .iface 46 (.agg #[.int .i64 (a : Int), .int .i64 (i : Int), .int .i64 (mm : Int)]) := by obtain ⟨a', h1, h2, _⟩ := (HP.out 0).2 q0; rw [h2, h1.out, ha]
        have HSTD := Lib.hid (fun (q : Nat) => (show Calls Tryd.prog 82 #[.agg #[.int .i64 (a : Int), .int .i64 (i : Int), .int .i64 (mm : Int)], .pointer (some ⟨c, 0, none⟩)] (wr.drewN q) fun e w' => e = .returned (.bool (stB C inp s i mm)) ∧ Below (wr.drewN q).heap.size (wr.drewN q) w' by obtain ⟨a', h1, _, h3⟩ := (HP.out q).2 q0; rw [ha, ← h1.out]; exact h3))
        have HAA := Lib.hid ha
        clear ha
        rw [ev] at HO
        have HQ0 := Lib.hid q0
        clear HP ev q0
        cases e1 : stB C inp s i mm with
        | false =>
          as_aux_lemma =>
            rw [e1] at HSTD FM
            go_wp2_with fail
            go_quiet ((go_at_call 38; exact Calls.quiet_of_same (HO.out _)))
            go_wp2_with fail
            refine (HSTD.out nq).mono ?_
            rintro e w2 ⟨rfl, hb2⟩
            have hbw : Below wr.heap.size wr w2 := (bel_dN (Below.refl wr.heap.size wr) nq).trans hb2
            have yy1 := (hbw.cell (p := ⟨mb, 0, none⟩) HI0.out.mm.lt).trans zcm
            have HBW := Lib.hid hbw
            clear hb2 hbw
            go_wp2_with fail
            refine Handed.intro (j + 1 - i - (k + 1)) (by have := HMM.out; omega) (hKJ _ _ _ ?_)
            rw [HIV.out]
            refine ⟨k + 1, _, Ds, X', R', rfl, RInv.skip HI0.out HMM.out q SJ.out (HBW.out) (by rw [FM.out]; simp), ?_⟩
            (repeat apply Exists.intro)
            rfl
        | true =>
          rw [e1] at HSTD FM
          cases e2 : restB C inp ((rtN G p).drop (at_ + 1)) mm j with
          | false =>
            as_aux_lemma =>
              rw [e2] at HRE FM
              go_wp2_with fail
              go_quiet ((go_at_call 38; exact Calls.quiet_of_same (HO.out _)))
              go_wp2_with fail
              refine (HSTD.out nq).mono ?_
              rintro e w2 ⟨rfl, hb2⟩
              have hbw : Below wr.heap.size wr w2 := (bel_dN (Below.refl wr.heap.size wr) nq).trans hb2
              have yy0 := (hbw.cell (p := ⟨mb, 0, none⟩) HI0.out.mm.lt).trans zcm
              have yy1 := (hbw.cell (p := ⟨b1, 0, none⟩) (lt_cell zc1)).trans zc1
              have yy2 := (hbw.cell (p := ⟨b2, 0, none⟩) (lt_cell zc2)).trans zc2
              have yy3 := (hbw.cell (p := ⟨b3, 0, none⟩) (lt_cell zc3)).trans zc3
              have yy5 := (hbw.cell (p := ⟨b5, 0, none⟩) (lt_cell zc5)).trans zc5
              have HC := Lib.hid (HRE.out w2 hbw)
              have HBW := Lib.hid hbw
              clear hb2 hbw
              go_wp2_with fail
              refine HC.out.mono ?_
              rintro e w3 ⟨rfl, hb3⟩
              have hbw3 : Below wr.heap.size wr w3 := HBW.out.trans (hb3.mono HBW.out.size)
              have yy6 := (hbw3.cell (p := ⟨mb, 0, none⟩) HI0.out.mm.lt).trans zcm
              have HBW3 := Lib.hid hbw3
              clear hb3 hbw3
              go_wp2_with fail
              refine Handed.intro (j + 1 - i - (k + 1)) (by have := HMM.out; omega) (hKJ _ _ _ ?_)
              rw [HIV.out]
              refine ⟨k + 1, _, Ds, X', R', rfl, RInv.skip HI0.out HMM.out q SJ.out (HBW3.out) (by rw [FM.out]; simp), ?_⟩
              (repeat apply Exists.intro)
              rfl
          | true =>
            rw [e2] at HRE FM
            go_wp2_with fail
            go_quiet ((go_at_call 38; exact Calls.quiet_of_same (HO.out _)))
            go_wp2_with fail
            refine (HSTD.out nq).mono ?_
            rintro e w2 ⟨rfl, hb2⟩
            have hbw : Below wr.heap.size wr w2 := (bel_dN (Below.refl wr.heap.size wr) nq).trans hb2
            have yy0 := (hbw.cell (p := ⟨mb, 0, none⟩) HI0.out.mm.lt).trans zcm
            have yy1 := (hbw.cell (p := ⟨b1, 0, none⟩) (lt_cell zc1)).trans zc1
            have yy2 := (hbw.cell (p := ⟨b2, 0, none⟩) (lt_cell zc2)).trans zc2
            have yy3 := (hbw.cell (p := ⟨b3, 0, none⟩) (lt_cell zc3)).trans zc3
            have yy5 := (hbw.cell (p := ⟨b5, 0, none⟩) (lt_cell zc5)).trans zc5
            have HC := Lib.hid (HRE.out w2 hbw)
            have HBW := Lib.hid hbw
            clear hb2 hbw
            go_wp2_with fail
            refine HC.out.mono ?_
            rintro e w3 ⟨rfl, hb3⟩
            have hbw3 : Below wr.heap.size wr w3 := HBW.out.trans (hb3.mono HBW.out.size)
            have yy6 := (hbw3.cell (p := ⟨b1, 0, none⟩) (lt_cell zc1)).trans zc1
            have HBW3 := Lib.hid hbw3
            clear hb3 hbw3 yy0 yy1 yy2 yy3 yy5 HC HBW
            go_wp2_with fail
            refine (mkSpan_any c a i mm w3).mono ?_
            rintro e w4 ⟨rfl, hb34, hz4, hp0, hp1, hp2, hp3⟩
            have hb4 : Below wr.heap.size wr w4 := HBW3.out.trans (hb34.mono HBW3.out.size)
            have hsx : ∀ k, X' k → k < wr.heap.size := HI0.out.g.sep.xs
            have hms : m < wr.heap.size := HI0.out.g.sep.ms
            have hbz := HBW3.out.size
            have hit : IterC Tryd.prog m (Opn m O) (OpnX m) VT (PreT m S B c G (some ⟨b, off, none⟩) Al As np cp nl cl ns cs Ai ni ci inp C (w3.heap.size + 1) (w3.heap.size + 2) (a, i, mm)) 25 #[.pointer (some ⟨w3.heap.size + 1, 0, none⟩), .pointer (some ⟨w3.heap.size + 2, 0, none⟩)] (allOf tr s i mm) := by
              have h1 := HQ0.out
              have := HT.out (by omega) i mm hmk2 (by omega) (w3.heap.size + 1) (w3.heap.size + 2)
              unfold allOf
              rw [if_neg (by omega), HAA.out]
              exact this
            have hpre : ∀ Y W1, (∀ k, Y k → X' k ∨ w4.heap.size ≤ k) → Below w4.heap.size w4 W1 → PreT m S B c G (some ⟨b, off, none⟩) Al As np cp nl cl ns cs Ai ni ci inp C (w3.heap.size + 1) (w3.heap.size + 2) (a, i, mm) () Y R' W1 := fun Y W1 hY hb => by
              have fx : ∀ b, w3.heap.size ≤ b → b < w4.heap.size → Fixd m Y W1 b := fun b h1 h2 => ⟨by have := hb.size; omega, fun e => by rcases hY b e with e | e; have := hsx b e; omega; omega, by omega⟩
              exact ⟨HSTR.out.more (hb4.trans (hb.mono hb4.size)) hb4.size hY, fx _ (by omega) (by omega), fx _ (by omega) (by omega), (hb.cell (p := ⟨w3.heap.size + 1, 0, none⟩) (by show w3.heap.size + 1 < w4.heap.size; omega)).trans hp0,
                (hb.cell (p := ⟨w3.heap.size + 2, 0, none⟩) (by show w3.heap.size + 2 < w4.heap.size; omega)).trans hp1, (hb.cell (p := ⟨w3.heap.size + 2, 1, none⟩) (by show w3.heap.size + 2 < w4.heap.size; omega)).trans hp2, (hb.cell (p := ⟨w3.heap.size + 2, 2, none⟩) (by show w3.heap.size + 2 < w4.heap.size; omega)).trans hp3⟩
            clear hb34 hp0 hp1 hp2 hp3 hz4 hsx hms hbz
            have HPRE := Lib.hid hpre; have HIT := Lib.hid hit; have HB4 := Lib.hid hb4
            clear hpre hit hb4
            go_wp2_with fail
            obtain ⟨I, hI⟩ : ∃ I : Inv (List Tr), I = fun (pre : List Tr) X2 R2 W2 => Gro m X' R' w4 X2 R2 W2 ∧ J ((midsTo i k).flatMap (gapT C inp (allOf tr) s ((rtN G p).drop (at_ + 1)) i j) ++ pre.flatMap (fun k => (rowsT C inp (allOf tr) ((rtN G p).drop (at_ + 1)) mm j).map (k :: ·))) X2 R2 W2 := ⟨_, rfl⟩
            obtain ⟨Ix, hIx⟩ : ∃ Ix : Inv Code, Ix = fun c X2 R2 W2 => c = .ret ∧ Gro m X' R' w4 X2 R2 W2 ∧ Jx () X2 R2 W2 := ⟨_, rfl⟩
            have hWw : W.heap.size ≤ w4.heap.size := Nat.le_trans HI0.out.g.kp.size HB4.out.size
            have k4 : Kp (fun _ => False) wr w4 := Kp.of HB4.out
            have sI : Stab m w4.heap.size I := by rw [hI]; exact stab_and (stab_gro (Nat.le_refl _)) (stab_at SJ.out hWw (fun (pre : List Tr) => (midsTo i k).flatMap (gapT C inp (allOf tr) s ((rtN G p).drop (at_ + 1)) i j) ++ pre.flatMap (fun k => (rowsT C inp (allOf tr) ((rtN G p).drop (at_ + 1)) mm j).map (k :: ·))))
            have sIx : Stab m w4.heap.size Ix := by rw [hIx]; exact stab_and (stab_pure _) (stab_and (stab_gro (Nat.le_refl _)) (stab_at SJX.out hWw (fun _ => ())))
            have sp4 := HI0.out.g.sep.keep (W' := w4) HB4.out.size
            have hi0 : I [] X' R' w4 := by
              rw [hI]
              refine ⟨Gro.refl sp4, ?_⟩
              rw [List.flatMap_nil, List.append_nil]
              exact SJ.out.k HI0.out.jl HI0.out.g.sep (k4.mono fun _ _ q => q.elim)
            have hop4 := HI0.out.op.same (k4.block m HI0.out.g.sep.ms (fun q => q))
            have HII := Lib.hid hI; have HIX := Lib.hid hIx; have SI := Lib.hid sI; have SIX := Lib.hid sIx; have HI00 := Lib.hid hi0; have SP4 := Lib.hid sp4; have HOP4 := Lib.hid hop4; have K4 := Lib.hid k4
            clear hI hIx sI sIx hi0 sp4 hop4 k4
            refine range_wp (m := m) (Op := Opn m O) (OpX := OpnX m) (V := VT) (X := X') (R := R') rfl (enters_of Tryd.func25 (by kernel_rfl) rfl) rfl HIT.out SP4.out (Opn_keep m O) (OpnX_keep m) VT_keep HOP4.out HPRE.out I Ix SI.out SIX.out HI00.out ?body ?done ?stop
            case body =>
              intro l2 pre X2 R2 R3 x v W2 hr
              obtain ⟨v0, rfl⟩ : ∃ v0, v = .pointer v0 := hr.v.ptr
              have HRN := Lib.hid hr
              clear hr
              have zw0 := HB4.out
              have mMine := HI0.out.mm
              gi_wp2_with fail
              refine ⟨Kp.of ((Below.refl _ _).alloc (Nat.le_refl _) _), fun W3 hk3 hr3 => ?_⟩
              have hi3 := hr3.i
              rw [HII.out] at hi3
              obtain ⟨g3, hj3⟩ := hi3
              obtain ⟨kb, hkb⟩ : ∃ kb, kb = W2.heap.size := ⟨_, rfl⟩
              have cellW : ∀ (q : Addr) (v : Value), wr.cell? q = some v → q.block < wr.heap.size → ¬ X' q.block → q.block ≠ m → W3.cell? q = some v := fun q v h1 h2 h3 h4 =>
                ((World.cell?_of_block (a := q) (g3.same (Nat.lt_of_lt_of_le h2 HB4.out.size) h3 h4)).trans (HB4.out.cell (p := q) h2)).trans h1
              have fxw : ∀ b, Fixd m X W b → b < wr.heap.size ∧ ¬ X' b ∧ b ≠ m := fun b hb => (hb.gro HI0.out.g).1
              obtain ⟨f1, f2, f3, f4, f5⟩ := HFX.out
              have u1 := cellW ⟨b1, 0, none⟩ _ zc1 (fxw _ f1).1 (fxw _ f1).2.1 (fxw _ f1).2.2
              have u2 := cellW ⟨b2, 0, none⟩ _ zc2 (fxw _ f2).1 (fxw _ f2).2.1 (fxw _ f2).2.2
              have u3 := cellW ⟨b3, 0, none⟩ _ zc3 (fxw _ f3).1 (fxw _ f3).2.1 (fxw _ f3).2.2
              have u5 := cellW ⟨b5, 0, none⟩ _ zc5 (fxw _ f5).1 (fxw _ f5).2.1 (fxw _ f5).2.2
              have um := cellW ⟨mb, 0, none⟩ _ zcm HI0.out.mm.lt HI0.out.mm.x HI0.out.mm.m
              have uy := cellW ⟨W.heap.size, 0, none⟩ _ HI0.out.yc HI0.out.yb.lt HI0.out.yb.x HI0.out.yb.m
              obtain ⟨r2, hl2⟩ := HRN.out.lp
              have hl2lt : l2 < W2.heap.size := (Array.getElem?_eq_some_iff.1 hl2).1
              have hkk : Blk W3 kb 34 [.pointer v0] := by
                have e := Blk.new W2 34 [.pointer v0]
                rw [hkb]
                exact (hk3.block W2.heap.size (by simp) (by omega)).trans e
              have hkM : Mine m X2 R3 W3 kb := by
                have hz : (W2.alloc (.cells #[.pointer v0] 34)).heap.size = W2.heap.size + 1 := by simp
                have := hk3.size
                exact Mine.new HRN.out.s (by omega) (by omega)
              have HYM : Hid (Mine m X2 R2 W3 W.heap.size) := Lib.hid ((HI0.out.yb.keep (W' := w4) HB4.out.size).gro g3)
              have HKK := Lib.hid hkk; have HKM := Lib.hid hkM; have HR3 := Lib.hid hr3; have HG3 := Lib.hid g3; have HJ3 := Lib.hid hj3; have HUY := Lib.hid uy
              have HMK : Hid (Calls Tryd.prog 27 #[.pointer (some ⟨c, 0, none⟩), .int .i64 p, .int .i64 ((at_ : Int) + 1), .int .i64 mm, .int .i64 j] W3 _) := Lib.hid (mkRows_any c p (at_ + 1) mm j W3)
              rw [← hkb]
              have HKB := Lib.hid hkb
              clear hkk hkM hr3 g3 hj3 uy hk3 hkb hl2 hl2lt cellW fxw f1 f2 f3 f4 f5 zw0 mMine
              have HST3 : Hid (Stc m S B c G (some ⟨b, off, none⟩) Al As np cp nl cl ns cs Ai ni ci inp C X2 W3) := Lib.hid ((HSTR.out.own K4.out (fun _ q => q.elim)).gro HG3.out)
              gi_wp2_with fail
              refine ⟨trivial, (CallsIn.inRound l2 (callsIn_wide.2 HMK.out)).mono ?_⟩
              rintro e W4 ⟨rfl, hb34, hz4, c1, c2, c3, c4, c5⟩
              have hl4 : ∃ r, W4.heap[l2]? = some (.loop r) := by
                obtain ⟨r, h⟩ := HR3.out.lp
                exact ⟨r, (hb34.block l2 (Array.getElem?_eq_some_iff.1 h).1).trans h⟩
              have sp5 : Sep m X2 R3 W4 := HR3.out.s.keep hb34.size
              have k34 : Kp (fun _ => False) W3 W4 := Kp.of hb34
              have hop5 : Opn m O W4 := HR3.out.op.same (k34.block m HR3.out.s.ms (fun q => q))
              have hpre2 : ∀ Y W1, (∀ k, Y k → X2 k ∨ W4.heap.size ≤ k) → Below W4.heap.size W4 W1 → PreR m S B c G (some ⟨b, off, none⟩) Al As np cp nl cl ns cs Ai ni ci inp C W3.heap.size (W3.heap.size + 1) (W3.heap.size + 2) (W3.heap.size + 3) (W3.heap.size + 4) p (at_ + 1) mm j () Y R3 W1 := fun Y W1 hY hb => by
                have hsx := HR3.out.s.xs
                have hms := HR3.out.s.ms
                have fx : ∀ b, W3.heap.size ≤ b → b < W4.heap.size → Fixd m Y W1 b := fun b h1 h2 => ⟨by have := hb.size; omega, fun e => by rcases hY b e with e | e; have := hsx b e; omega; omega, by omega⟩
                exact ⟨HST3.out.more (hb34.trans (hb.mono hb34.size)) hb34.size hY, ⟨fx _ (by omega) (by omega), fx _ (by omega) (by omega), fx _ (by omega) (by omega), fx _ (by omega) (by omega), fx _ (by omega) (by omega)⟩,
                  (hb.cell (p := ⟨W3.heap.size, 0, none⟩) (by show W3.heap.size < W4.heap.size; omega)).trans c1, (hb.cell (p := ⟨W3.heap.size + 1, 0, none⟩) (by show W3.heap.size + 1 < W4.heap.size; omega)).trans c2, (hb.cell (p := ⟨W3.heap.size + 2, 0, none⟩) (by show W3.heap.size + 2 < W4.heap.size; omega)).trans c3,
                  (hb.cell (p := ⟨W3.heap.size + 3, 0, none⟩) (by show W3.heap.size + 3 < W4.heap.size; omega)).trans c4, (hb.cell (p := ⟨W3.heap.size + 4, 0, none⟩) (by show W3.heap.size + 4 < W4.heap.size; omega)).trans c5⟩
              have hWw3 : W.heap.size ≤ W4.heap.size := Nat.le_trans hWw (Nat.le_trans HG3.out.kp.size hb34.size)
              obtain ⟨BL, hBL⟩ : ∃ BL : List (List Tr), BL = (midsTo i k).flatMap (gapT C inp (allOf tr) s ((rtN G p).drop (at_ + 1)) i j) ++ pre.flatMap (fun k => (rowsT C inp (allOf tr) ((rtN G p).drop (at_ + 1)) mm j).map (k :: ·)) := ⟨_, rfl⟩
              obtain ⟨I2, hI2⟩ : ∃ I2 : Inv (List (List Tr)), I2 = fun (pre2 : List (List Tr)) X5 R5 W5 => Gro m X2 R3 W4 X5 R5 W5 ∧ J (BL ++ pre2.map (x :: ·)) X5 R5 W5 := ⟨_, rfl⟩
              obtain ⟨Ix2, hIx2⟩ : ∃ Ix2 : Inv Code, Ix2 = fun c X5 R5 W5 => c = .ret ∧ Gro m X2 R3 W4 X5 R5 W5 ∧ Jx () X5 R5 W5 := ⟨_, rfl⟩
              have sI2 : Stab m W4.heap.size I2 := by rw [hI2]; exact stab_and (stab_gro (Nat.le_refl _)) (stab_at SJ.out hWw3 (fun (pre2 : List (List Tr)) => BL ++ pre2.map (x :: ·)))
              have sIx2 : Stab m W4.heap.size Ix2 := by rw [hIx2]; exact stab_and (stab_pure _) (stab_and (stab_gro (Nat.le_refl _)) (stab_at SJX.out hWw3 (fun _ => ())))
              have hi20 : I2 [] X2 R3 W4 := by
                rw [hI2]
                refine ⟨Gro.refl sp5, ?_⟩
                rw [List.map_nil, List.append_nil, hBL]
                exact SJ.out _ _ _ _ _ _ HJ3.out HR3.out.s HR3.out.rr (fun k q => (HR3.out.rn k q).elim .inl (fun q => .inr (Nat.le_trans hWw q))) (k34.mono fun _ _ q => q.elim)
              have HI2 := Lib.hid hI2; have HIX2 := Lib.hid hIx2; have SI2 := Lib.hid sI2; have SIX2 := Lib.hid sIx2; have HI20 := Lib.hid hi20; have SP5 := Lib.hid sp5; have HOP5 := Lib.hid hop5; have K34 := Lib.hid k34; have HPRE2 := Lib.hid hpre2; have HBL := Lib.hid hBL; have HL4 := Lib.hid hl4; have HB34 := Lib.hid hb34
              clear hI2 hIx2 sI2 sIx2 hi20 sp5 hop5 k34 hpre2 hBL hb34 hz4 c1 c2 c3 c4 c5
              obtain ⟨r4, hl4⟩ := hl4
              gi_wp2_with fail
              refine range_in (m := m) (Op := Opn m O) (OpX := OpnX m) (V := VL ((rtN G p).length - (at_ + 1))) (X := X2) (R := R3) hl4 rfl (enters_of Tryd.func37 (by kernel_rfl) rfl) rfl (HR.out mm (by omega) W3.heap.size (W3.heap.size + 1) (W3.heap.size + 2) (W3.heap.size + 3) (W3.heap.size + 4)) SP5.out (Opn_keep m O) (OpnX_keep m) (VL_keep _) HOP5.out HPRE2.out I2 Ix2 SI2.out SIX2.out HI20.out ?body2 ?done2 ?stop2
              case body2 =>
                intro l5 pre2 X5 R5 R6 ys vv W5 hr5
                obtain ⟨hyl, A5, ca, rfl, q1, q2, q3⟩ := hr5.v
                have HYL := Lib.hid hyl
                clear hr5 q3 hyl
                gi_wp2_with fail
                refine ⟨Kp.refl _ _, fun W6 hk6 hr6 => ?_⟩
                have hi6 := hr6.i
                rw [HI2.out] at hi6
                obtain ⟨g6, hj6⟩ := hi6
                have sm6 : ∀ k, k < W3.heap.size → ¬ X2 k → k ≠ m → W6.heap[k]? = W3.heap[k]? := fun k h1 h2 h3 => (g6.same (Nat.lt_of_lt_of_le h1 HB34.out.size) h2 h3).trans (HB34.out.block k h1)
                have y1 : W6.cell? ⟨W.heap.size, 0, none⟩ = some (.func (.yield l) #[] #[]) := (World.cell?_of_block (a := ⟨W.heap.size, 0, none⟩) (sm6 _ HYM.out.lt HYM.out.x HYM.out.m)).trans HUY.out
                have y2 : W6.cell? ⟨kb, 0, none⟩ = some (.pointer v0) := (World.cell?_of_block (a := ⟨kb, 0, none⟩) (sm6 _ HKM.out.lt HKM.out.x HKM.out.m)).trans (HKK.out.cell (i := 0) rfl)
                have hx6 : TrIn W6 R6 (.pointer v0) x := TrIn.keep (fun k q => sm6 k (HR3.out.s.rs k q) (fun e => HR3.out.s.xr k e q) (fun e => HR3.out.s.rm (e ▸ q))) (fun k q => hr6.rr k (g6.r1 k q)) HR3.out.v
                obtain ⟨w7, hw7⟩ : ∃ w7, w7 = W6.drew := ⟨_, rfl⟩
                have k67 : Kp (fun _ => False) W6 w7 := by rw [hw7]; exact (Kp.refl _ _).draw
                have hs67 : w7.heap.size = W6.heap.size := by rw [hw7]; rfl
                have y1' : w7.cell? ⟨W.heap.size, 0, none⟩ = some (.func (.yield l) #[] #[]) := by rw [hw7]; exact y1
                have y2' : w7.cell? ⟨kb, 0, none⟩ = some (.pointer v0) := by rw [hw7]; exact y2
                have y7a : (w7.alloc (.cells #[.pointer v0] 34)).cell? ⟨W.heap.size, 0, none⟩ = some (.func (.yield l) #[] #[]) := cell_oldA w7 _ _ _ y1' (lt_cell y1')
                obtain ⟨v', w8, happ, hb8, hv8⟩ := cons_row w7 R6 v0 x ys A5 ((rtN G p).length - (at_ + 1)) ca (VL_keep _ W6 w7 R6 _ _ hr6.v (fun k q => by rw [hw7]; rfl)) (TrIn.keep (fun k q => by rw [hw7]; rfl) (fun _ q => q) hx6) (by rw [hs67]; exact hr6.s.rs) (by omega)
                have k78 : Kp (fun _ => False) w7 w8 := Kp.of hb8
                have y8 : w8.cell? ⟨W.heap.size, 0, none⟩ = some (.func (.yield l) #[] #[]) := (hb8.cell (p := ⟨W.heap.size, 0, none⟩) (lt_cell y1')).trans y1'
                have k68 : Kp (fun _ => False) W6 w8 := k67.trans k78
                have hbs := hb8.size
                rw [hs67] at hbs
                obtain ⟨R8, hR8⟩ : ∃ R8 : Nat → Prop, R8 = fun k => R6 k ∨ (w7.heap.size ≤ k ∧ k < w8.heap.size) := ⟨_, rfl⟩
                rw [← hR8] at hv8
                have hWw6 : W4.heap.size ≤ W6.heap.size := g6.kp.size
                have s58 : Sep m X5 R8 w8 := hr6.s.more (fun k q => by
                  rw [hR8] at q
                  rcases q with q | q
                  · exact .inl q
                  · exact .inr ⟨q.2, fun e => by have := hr6.s.xs k e; omega, fun e => by have := hr6.s.ms; omega⟩) k68.size
                have hrr8 : ∀ k, R5 k → R8 k := fun k q => by rw [hR8]; exact .inl (hr6.rr k q)
                have hrn8 : ∀ k, R8 k → R5 k ∨ W4.heap.size ≤ k := fun k q => by
                  rw [hR8] at q
                  rcases q with q | q
                  · exact hr6.rn k q
                  · exact .inr (by omega)
                have hj8 := (stab_at SJ.out (Nat.le_refl _) (fun (u : Unit) => BL ++ pre2.map (x :: ·))).k (s := ()) hj6 (hr6.s.more (W1 := W6) (R1 := R5) (fun k q => .inl (hr6.rr k q)) (Nat.le_refl _)) (k68.mono fun _ _ q => q.elim)
                have hop8 := hr6.op.same (k68.block m hr6.s.ms (fun q => q))
                have hcn : (rtN G p).length - (at_ + 1) + 1 = (rtN G p).length - at_ := by omega
                rw [hcn] at hv8
                have hpf8 : (BL ++ pre2.map (x :: ·) ++ [x :: ys]) <+: (mids i j).flatMap (gapT C inp (allOf tr) s ((rtN G p).drop (at_ + 1)) i j) := by
                  rw [HBL.out]
                  simp only [List.append_assoc]
                  refine flat_pf (mids_pf (k := k) (by have := HMM.out; omega)) ?_
                  rw [← HMM.out, FM.out]
                  simp only [Bool.and_self, if_true]
                  exact flat_pf (f := fun k => (rowsT C inp (allOf tr) ((rtN G p).drop (at_ + 1)) mm j).map (k :: ·)) HR3.out.pf (map_pf (x :: ·) hr6.pf)
                have hy8 := HY.out (BL ++ pre2.map (x :: ·)) X5 R5 R8 (x :: ys) v' w8 hpf8 hj8 s58 hrr8 (fun k q => (hrn8 k q).elim .inl (fun q => .inr (Nat.le_trans hWw3 q))) hop8 hv8
                have HG8 : Hid (∀ X' R' W', Gro m X5 R8 w8 X' R' W' → Gro m X5 R6 W6 X' R' W' ∧ Gro m X2 R3 W4 X' R' W') := Lib.hid (fun X' R' W' g => ⟨(Gro.refl hr6.s).step (k68.mono fun _ _ q => q.elim) (fun k q => by rw [hR8]; exact .inl q) (fun k q => by rw [hR8] at q; rcases q with q | q; exact .inl q; exact .inr (by omega)) g, g6.step (k68.mono fun _ _ q => q.elim) hrr8 hrn8 g⟩)
                obtain ⟨fn, tmps, assign, body, hy1, hRR⟩ := hy8
                have HRR := Lib.hid hRR; have HAP := Lib.hid happ
                clear happ hRR hop8 hj8 hrn8 hrr8 s58 hR8 k68 k78 hx6 sm6 hj6 g6 hr6 hk6 hbs hv8 hb8 k67 hcn y1 y2
                gi_wp2_with fail
                refine wpIn_region_any (by kernel_rfl) ?_
                change wpAnyIn _ _ _ _ _ _ _ _ _ W6.drew
                rw [← hw7]
                clear hw7 hs67
                refine wpAnyIn_ready (rs := [0, 1, 3]) (by kernel_rfl) (by simp) ?_
                refine AllReadyIn.cons rfl (fun K hK => ?_) (AllReadyIn.cons rfl (fun K hK => ?_) (AllReadyIn.cons rfl (fun K hK => ?_) (AllReadyIn.nil)))
                · go_simp
                  refine hK _ _ ?_
                  clear hK K
                  refine wpAnyIn_ready (rs := [1, 3]) (by kernel_rfl) (by simp) ?_
                  refine AllReadyIn.cons rfl (fun K hK => ?_) (AllReadyIn.cons rfl (fun K hK => ?_) (AllReadyIn.nil))
                  · go_simp
                    refine hK _ _ ?_
                    clear hK K
                    refine wpAnyIn_ready (rs := [2, 3]) (by kernel_rfl) (by simp) ?_
                    refine AllReadyIn.cons rfl (fun K hK => ?_) (AllReadyIn.cons rfl (fun K hK => ?_) (AllReadyIn.nil))
                    · go_simp
                      refine hK _ _ ?_
                      clear hK K
                      refine wpAnyIn_ready (rs := [3]) (by kernel_rfl) (by simp) ?_
                      refine AllReadyIn.cons rfl (fun K hK => ?_) (AllReadyIn.nil)
                      · go_simp
                        refine hK _ _ ?_
                        clear hK K
                        refine wpAnyIn_ready (rs := [4]) (by kernel_rfl) (by simp) ?_
                        refine AllReadyIn.cons rfl (fun K hK => ?_) (AllReadyIn.nil)
                        · refine step_append_in rfl _ _ _ rfl _ _ _ rfl rfl HAP.out (hK _ _ ?_)
                          clear hK K
                          refine wpAnyIn_ready (rs := [5]) (by kernel_rfl) (by simp) ?_
                          refine AllReadyIn.cons rfl (fun K hK => ?_) AllReadyIn.nil
                          go_simp
                          refine (roundIn_in HRR.out).mono ?_
                          rintro e W' ⟨X', R', g, (⟨rfl, hop', hj⟩ | ⟨rfl, hop', hj⟩)⟩
                          · refine hK _ _ ?_
                            clear hK K
                            refine wpAnyIn_ready (rs := [6]) (by kernel_rfl) (by simp) ?_
                            refine AllReadyIn.cons rfl (fun K hK => ?_) AllReadyIn.nil
                            go_simp
                            refine hK _ _ ?_
                            clear hK K
                            refine wpAnyIn_done (by kernel_rfl) ?_ _
                            have HJ := Lib.hid hj; have HGG := Lib.hid (HG8.out X' R' W' g); have HOO := Lib.hid hop'
                            clear hj g hop'
                            gi_wp2_with fail
                            exact ⟨X', R', HGG.out.1, HOO.out, by rw [HI2.out]; exact ⟨HGG.out.2, by rw [List.map_append, ← List.append_assoc]; exact HJ.out⟩⟩
                          · refine hK _ _ ?_
                            clear hK K
                            refine wpAnyIn_ready (rs := [6]) (by kernel_rfl) (by simp) ?_
                            refine AllReadyIn.cons rfl (fun K hK => ?_) AllReadyIn.nil
                            go_simp
                            refine hK _ _ ?_
                            clear hK K
                            refine wpAnyIn_done (by kernel_rfl) ?_ _
                            have HJ := Lib.hid hj; have HGG := Lib.hid (HG8.out X' R' W' g); have HOO := Lib.hid hop'
                            clear hj g hop'
                            gi_wp2_with fail
                            exact ⟨X', R', HGG.out.1, HOO.out, by rw [HIX2.out]; exact ⟨rfl, HGG.out.2, HJ.out⟩⟩
                    · go_simp
                      refine hK _ _ ?_
                      clear hK K
                      refine wpAnyIn_ready (rs := [2]) (by kernel_rfl) (by simp) ?_
                      refine AllReadyIn.cons rfl (fun K hK => ?_) (AllReadyIn.nil)
                      · go_simp
                        refine hK _ _ ?_
                        clear hK K
                        refine wpAnyIn_ready (rs := [4]) (by kernel_rfl) (by simp) ?_
                        refine AllReadyIn.cons rfl (fun K hK => ?_) (AllReadyIn.nil)
                        · refine step_append_in rfl _ _ _ rfl _ _ _ rfl rfl HAP.out (hK _ _ ?_)
                          clear hK K
                          refine wpAnyIn_ready (rs := [5]) (by kernel_rfl) (by simp) ?_
                          refine AllReadyIn.cons rfl (fun K hK => ?_) AllReadyIn.nil
                          go_simp
                          refine (roundIn_in HRR.out).mono ?_
                          rintro e W' ⟨X', R', g, (⟨rfl, hop', hj⟩ | ⟨rfl, hop', hj⟩)⟩
                          · refine hK _ _ ?_
                            clear hK K
                            refine wpAnyIn_ready (rs := [6]) (by kernel_rfl) (by simp) ?_
                            refine AllReadyIn.cons rfl (fun K hK => ?_) AllReadyIn.nil
                            go_simp
                            refine hK _ _ ?_
                            clear hK K
                            refine wpAnyIn_done (by kernel_rfl) ?_ _
                            have HJ := Lib.hid hj; have HGG := Lib.hid (HG8.out X' R' W' g); have HOO := Lib.hid hop'
                            clear hj g hop'
                            gi_wp2_with fail
                            exact ⟨X', R', HGG.out.1, HOO.out, by rw [HI2.out]; exact ⟨HGG.out.2, by rw [List.map_append, ← List.append_assoc]; exact HJ.out⟩⟩
                          · refine hK _ _ ?_
                            clear hK K
                            refine wpAnyIn_ready (rs := [6]) (by kernel_rfl) (by simp) ?_
                            refine AllReadyIn.cons rfl (fun K hK => ?_) AllReadyIn.nil
                            go_simp
                            refine hK _ _ ?_
                            clear hK K
                            refine wpAnyIn_done (by kernel_rfl) ?_ _
                            have HJ := Lib.hid hj; have HGG := Lib.hid (HG8.out X' R' W' g); have HOO := Lib.hid hop'
                            clear hj g hop'
                            gi_wp2_with fail
                            exact ⟨X', R', HGG.out.1, HOO.out, by rw [HIX2.out]; exact ⟨rfl, HGG.out.2, HJ.out⟩⟩
                  · go_simp
                    refine hK _ _ ?_
                    clear hK K
                    refine wpAnyIn_ready (rs := [1]) (by kernel_rfl) (by simp) ?_
                    refine AllReadyIn.cons rfl (fun K hK => ?_) (AllReadyIn.nil)
                    · go_simp
                      refine hK _ _ ?_
                      clear hK K
                      refine wpAnyIn_ready (rs := [2]) (by kernel_rfl) (by simp) ?_
                      refine AllReadyIn.cons rfl (fun K hK => ?_) (AllReadyIn.nil)
                      · go_simp
                        refine hK _ _ ?_
                        clear hK K
                        refine wpAnyIn_ready (rs := [4]) (by kernel_rfl) (by simp) ?_
                        refine AllReadyIn.cons rfl (fun K hK => ?_) (AllReadyIn.nil)
                        · refine step_append_in rfl _ _ _ rfl _ _ _ rfl rfl HAP.out (hK _ _ ?_)
                          clear hK K
                          refine wpAnyIn_ready (rs := [5]) (by kernel_rfl) (by simp) ?_
                          refine AllReadyIn.cons rfl (fun K hK => ?_) AllReadyIn.nil
                          go_simp
                          refine (roundIn_in HRR.out).mono ?_
                          rintro e W' ⟨X', R', g, (⟨rfl, hop', hj⟩ | ⟨rfl, hop', hj⟩)⟩
                          · refine hK _ _ ?_
                            clear hK K
                            refine wpAnyIn_ready (rs := [6]) (by kernel_rfl) (by simp) ?_
                            refine AllReadyIn.cons rfl (fun K hK => ?_) AllReadyIn.nil
                            go_simp
                            refine hK _ _ ?_
                            clear hK K
                            refine wpAnyIn_done (by kernel_rfl) ?_ _
                            have HJ := Lib.hid hj; have HGG := Lib.hid (HG8.out X' R' W' g); have HOO := Lib.hid hop'
                            clear hj g hop'
                            gi_wp2_with fail
                            exact ⟨X', R', HGG.out.1, HOO.out, by rw [HI2.out]; exact ⟨HGG.out.2, by rw [List.map_append, ← List.append_assoc]; exact HJ.out⟩⟩
                          · refine hK _ _ ?_
                            clear hK K
                            refine wpAnyIn_ready (rs := [6]) (by kernel_rfl) (by simp) ?_
                            refine AllReadyIn.cons rfl (fun K hK => ?_) AllReadyIn.nil
                            go_simp
                            refine hK _ _ ?_
                            clear hK K
                            refine wpAnyIn_done (by kernel_rfl) ?_ _
                            have HJ := Lib.hid hj; have HGG := Lib.hid (HG8.out X' R' W' g); have HOO := Lib.hid hop'
                            clear hj g hop'
                            gi_wp2_with fail
                            exact ⟨X', R', HGG.out.1, HOO.out, by rw [HIX2.out]; exact ⟨rfl, HGG.out.2, HJ.out⟩⟩
                · go_simp
                  refine hK _ _ ?_
                  clear hK K
                  refine wpAnyIn_ready (rs := [0, 2, 3]) (by kernel_rfl) (by simp) ?_
                  refine AllReadyIn.cons rfl (fun K hK => ?_) (AllReadyIn.cons rfl (fun K hK => ?_) (AllReadyIn.cons rfl (fun K hK => ?_) (AllReadyIn.nil)))
                  · go_simp
                    refine hK _ _ ?_
                    clear hK K
                    refine wpAnyIn_ready (rs := [2, 3]) (by kernel_rfl) (by simp) ?_
                    refine AllReadyIn.cons rfl (fun K hK => ?_) (AllReadyIn.cons rfl (fun K hK => ?_) (AllReadyIn.nil))
                    · go_simp
                      refine hK _ _ ?_
                      clear hK K
                      refine wpAnyIn_ready (rs := [3]) (by kernel_rfl) (by simp) ?_
                      refine AllReadyIn.cons rfl (fun K hK => ?_) (AllReadyIn.nil)
                      · go_simp
                        refine hK _ _ ?_
                        clear hK K
                        refine wpAnyIn_ready (rs := [4]) (by kernel_rfl) (by simp) ?_
                        refine AllReadyIn.cons rfl (fun K hK => ?_) (AllReadyIn.nil)
                        · refine step_append_in rfl _ _ _ rfl _ _ _ rfl rfl HAP.out (hK _ _ ?_)
                          clear hK K
                          refine wpAnyIn_ready (rs := [5]) (by kernel_rfl) (by simp) ?_
                          refine AllReadyIn.cons rfl (fun K hK => ?_) AllReadyIn.nil
                          go_simp
                          refine (roundIn_in HRR.out).mono ?_
                          rintro e W' ⟨X', R', g, (⟨rfl, hop', hj⟩ | ⟨rfl, hop', hj⟩)⟩
                          · refine hK _ _ ?_
                            clear hK K
                            refine wpAnyIn_ready (rs := [6]) (by kernel_rfl) (by simp) ?_
                            refine AllReadyIn.cons rfl (fun K hK => ?_) AllReadyIn.nil
                            go_simp
                            refine hK _ _ ?_
                            clear hK K
                            refine wpAnyIn_done (by kernel_rfl) ?_ _
                            have HJ := Lib.hid hj; have HGG := Lib.hid (HG8.out X' R' W' g); have HOO := Lib.hid hop'
                            clear hj g hop'
                            gi_wp2_with fail
                            exact ⟨X', R', HGG.out.1, HOO.out, by rw [HI2.out]; exact ⟨HGG.out.2, by rw [List.map_append, ← List.append_assoc]; exact HJ.out⟩⟩
                          · refine hK _ _ ?_
                            clear hK K
                            refine wpAnyIn_ready (rs := [6]) (by kernel_rfl) (by simp) ?_
                            refine AllReadyIn.cons rfl (fun K hK => ?_) AllReadyIn.nil
                            go_simp
                            refine hK _ _ ?_
                            clear hK K
                            refine wpAnyIn_done (by kernel_rfl) ?_ _
                            have HJ := Lib.hid hj; have HGG := Lib.hid (HG8.out X' R' W' g); have HOO := Lib.hid hop'
                            clear hj g hop'
                            gi_wp2_with fail
                            exact ⟨X', R', HGG.out.1, HOO.out, by rw [HIX2.out]; exact ⟨rfl, HGG.out.2, HJ.out⟩⟩
                    · go_simp
                      refine hK _ _ ?_
                      clear hK K
                      refine wpAnyIn_ready (rs := [2]) (by kernel_rfl) (by simp) ?_
                      refine AllReadyIn.cons rfl (fun K hK => ?_) (AllReadyIn.nil)
                      · go_simp
                        refine hK _ _ ?_
                        clear hK K
                        refine wpAnyIn_ready (rs := [4]) (by kernel_rfl) (by simp) ?_
                        refine AllReadyIn.cons rfl (fun K hK => ?_) (AllReadyIn.nil)
                        · refine step_append_in rfl _ _ _ rfl _ _ _ rfl rfl HAP.out (hK _ _ ?_)
                          clear hK K
                          refine wpAnyIn_ready (rs := [5]) (by kernel_rfl) (by simp) ?_
                          refine AllReadyIn.cons rfl (fun K hK => ?_) AllReadyIn.nil
                          go_simp
                          refine (roundIn_in HRR.out).mono ?_
                          rintro e W' ⟨X', R', g, (⟨rfl, hop', hj⟩ | ⟨rfl, hop', hj⟩)⟩
                          · refine hK _ _ ?_
                            clear hK K
                            refine wpAnyIn_ready (rs := [6]) (by kernel_rfl) (by simp) ?_
                            refine AllReadyIn.cons rfl (fun K hK => ?_) AllReadyIn.nil
                            go_simp
                            refine hK _ _ ?_
                            clear hK K
                            refine wpAnyIn_done (by kernel_rfl) ?_ _
                            have HJ := Lib.hid hj; have HGG := Lib.hid (HG8.out X' R' W' g); have HOO := Lib.hid hop'
                            clear hj g hop'
                            gi_wp2_with fail
                            exact ⟨X', R', HGG.out.1, HOO.out, by rw [HI2.out]; exact ⟨HGG.out.2, by rw [List.map_append, ← List.append_assoc]; exact HJ.out⟩⟩
                          · refine hK _ _ ?_
                            clear hK K
                            refine wpAnyIn_ready (rs := [6]) (by kernel_rfl) (by simp) ?_
                            refine AllReadyIn.cons rfl (fun K hK => ?_) AllReadyIn.nil
                            go_simp
                            refine hK _ _ ?_
                            clear hK K
                            refine wpAnyIn_done (by kernel_rfl) ?_ _
                            have HJ := Lib.hid hj; have HGG := Lib.hid (HG8.out X' R' W' g); have HOO := Lib.hid hop'
                            clear hj g hop'
                            gi_wp2_with fail
                            exact ⟨X', R', HGG.out.1, HOO.out, by rw [HIX2.out]; exact ⟨rfl, HGG.out.2, HJ.out⟩⟩
                  · go_simp
                    refine hK _ _ ?_
                    clear hK K
                    refine wpAnyIn_ready (rs := [0, 3]) (by kernel_rfl) (by simp) ?_
                    refine AllReadyIn.cons rfl (fun K hK => ?_) (AllReadyIn.cons rfl (fun K hK => ?_) (AllReadyIn.nil))
                    · go_simp
                      refine hK _ _ ?_
                      clear hK K
                      refine wpAnyIn_ready (rs := [3]) (by kernel_rfl) (by simp) ?_
                      refine AllReadyIn.cons rfl (fun K hK => ?_) (AllReadyIn.nil)
                      · go_simp
                        refine hK _ _ ?_
                        clear hK K
                        refine wpAnyIn_ready (rs := [4]) (by kernel_rfl) (by simp) ?_
                        refine AllReadyIn.cons rfl (fun K hK => ?_) (AllReadyIn.nil)
                        · refine step_append_in rfl _ _ _ rfl _ _ _ rfl rfl HAP.out (hK _ _ ?_)
                          clear hK K
                          refine wpAnyIn_ready (rs := [5]) (by kernel_rfl) (by simp) ?_
                          refine AllReadyIn.cons rfl (fun K hK => ?_) AllReadyIn.nil
                          go_simp
                          refine (roundIn_in HRR.out).mono ?_
                          rintro e W' ⟨X', R', g, (⟨rfl, hop', hj⟩ | ⟨rfl, hop', hj⟩)⟩
                          · refine hK _ _ ?_
                            clear hK K
                            refine wpAnyIn_ready (rs := [6]) (by kernel_rfl) (by simp) ?_
                            refine AllReadyIn.cons rfl (fun K hK => ?_) AllReadyIn.nil
                            go_simp
                            refine hK _ _ ?_
                            clear hK K
                            refine wpAnyIn_done (by kernel_rfl) ?_ _
                            have HJ := Lib.hid hj; have HGG := Lib.hid (HG8.out X' R' W' g); have HOO := Lib.hid hop'
                            clear hj g hop'
                            gi_wp2_with fail
                            exact ⟨X', R', HGG.out.1, HOO.out, by rw [HI2.out]; exact ⟨HGG.out.2, by rw [List.map_append, ← List.append_assoc]; exact HJ.out⟩⟩
                          · refine hK _ _ ?_
                            clear hK K
                            refine wpAnyIn_ready (rs := [6]) (by kernel_rfl) (by simp) ?_
                            refine AllReadyIn.cons rfl (fun K hK => ?_) AllReadyIn.nil
                            go_simp
                            refine hK _ _ ?_
                            clear hK K
                            refine wpAnyIn_done (by kernel_rfl) ?_ _
                            have HJ := Lib.hid hj; have HGG := Lib.hid (HG8.out X' R' W' g); have HOO := Lib.hid hop'
                            clear hj g hop'
                            gi_wp2_with fail
                            exact ⟨X', R', HGG.out.1, HOO.out, by rw [HIX2.out]; exact ⟨rfl, HGG.out.2, HJ.out⟩⟩
                    · go_simp
                      refine hK _ _ ?_
                      clear hK K
                      refine wpAnyIn_ready (rs := [0, 4]) (by kernel_rfl) (by simp) ?_
                      refine AllReadyIn.cons rfl (fun K hK => ?_) (AllReadyIn.cons rfl (fun K hK => ?_) (AllReadyIn.nil))
                      · go_simp
                        refine hK _ _ ?_
                        clear hK K
                        refine wpAnyIn_ready (rs := [4]) (by kernel_rfl) (by simp) ?_
                        refine AllReadyIn.cons rfl (fun K hK => ?_) (AllReadyIn.nil)
                        · refine step_append_in rfl _ _ _ rfl _ _ _ rfl rfl HAP.out (hK _ _ ?_)
                          clear hK K
                          refine wpAnyIn_ready (rs := [5]) (by kernel_rfl) (by simp) ?_
                          refine AllReadyIn.cons rfl (fun K hK => ?_) AllReadyIn.nil
                          go_simp
                          refine (roundIn_in HRR.out).mono ?_
                          rintro e W' ⟨X', R', g, (⟨rfl, hop', hj⟩ | ⟨rfl, hop', hj⟩)⟩
                          · refine hK _ _ ?_
                            clear hK K
                            refine wpAnyIn_ready (rs := [6]) (by kernel_rfl) (by simp) ?_
                            refine AllReadyIn.cons rfl (fun K hK => ?_) AllReadyIn.nil
                            go_simp
                            refine hK _ _ ?_
                            clear hK K
                            refine wpAnyIn_done (by kernel_rfl) ?_ _
                            have HJ := Lib.hid hj; have HGG := Lib.hid (HG8.out X' R' W' g); have HOO := Lib.hid hop'
                            clear hj g hop'
                            gi_wp2_with fail
                            exact ⟨X', R', HGG.out.1, HOO.out, by rw [HI2.out]; exact ⟨HGG.out.2, by rw [List.map_append, ← List.append_assoc]; exact HJ.out⟩⟩
                          · refine hK _ _ ?_
                            clear hK K
                            refine wpAnyIn_ready (rs := [6]) (by kernel_rfl) (by simp) ?_
                            refine AllReadyIn.cons rfl (fun K hK => ?_) AllReadyIn.nil
                            go_simp
                            refine hK _ _ ?_
                            clear hK K
                            refine wpAnyIn_done (by kernel_rfl) ?_ _
                            have HJ := Lib.hid hj; have HGG := Lib.hid (HG8.out X' R' W' g); have HOO := Lib.hid hop'
                            clear hj g hop'
                            gi_wp2_with fail
                            exact ⟨X', R', HGG.out.1, HOO.out, by rw [HIX2.out]; exact ⟨rfl, HGG.out.2, HJ.out⟩⟩
                      · refine step_append_in rfl _ _ _ rfl _ _ _ rfl rfl HAP.out (hK _ _ ?_)
                        clear hK K
                        refine wpAnyIn_ready (rs := [0]) (by kernel_rfl) (by simp) ?_
                        refine AllReadyIn.cons rfl (fun K hK => ?_) (AllReadyIn.nil)
                        · go_simp
                          refine hK _ _ ?_
                          clear hK K
                          refine wpAnyIn_ready (rs := [5]) (by kernel_rfl) (by simp) ?_
                          refine AllReadyIn.cons rfl (fun K hK => ?_) AllReadyIn.nil
                          go_simp
                          refine (roundIn_in HRR.out).mono ?_
                          rintro e W' ⟨X', R', g, (⟨rfl, hop', hj⟩ | ⟨rfl, hop', hj⟩)⟩
                          · refine hK _ _ ?_
                            clear hK K
                            refine wpAnyIn_ready (rs := [6]) (by kernel_rfl) (by simp) ?_
                            refine AllReadyIn.cons rfl (fun K hK => ?_) AllReadyIn.nil
                            go_simp
                            refine hK _ _ ?_
                            clear hK K
                            refine wpAnyIn_done (by kernel_rfl) ?_ _
                            have HJ := Lib.hid hj; have HGG := Lib.hid (HG8.out X' R' W' g); have HOO := Lib.hid hop'
                            clear hj g hop'
                            gi_wp2_with fail
                            exact ⟨X', R', HGG.out.1, HOO.out, by rw [HI2.out]; exact ⟨HGG.out.2, by rw [List.map_append, ← List.append_assoc]; exact HJ.out⟩⟩
                          · refine hK _ _ ?_
                            clear hK K
                            refine wpAnyIn_ready (rs := [6]) (by kernel_rfl) (by simp) ?_
                            refine AllReadyIn.cons rfl (fun K hK => ?_) AllReadyIn.nil
                            go_simp
                            refine hK _ _ ?_
                            clear hK K
                            refine wpAnyIn_done (by kernel_rfl) ?_ _
                            have HJ := Lib.hid hj; have HGG := Lib.hid (HG8.out X' R' W' g); have HOO := Lib.hid hop'
                            clear hj g hop'
                            gi_wp2_with fail
                            exact ⟨X', R', HGG.out.1, HOO.out, by rw [HIX2.out]; exact ⟨rfl, HGG.out.2, HJ.out⟩⟩
                  · go_simp
                    refine hK _ _ ?_
                    clear hK K
                    refine wpAnyIn_ready (rs := [0, 2]) (by kernel_rfl) (by simp) ?_
                    refine AllReadyIn.cons rfl (fun K hK => ?_) (AllReadyIn.cons rfl (fun K hK => ?_) (AllReadyIn.nil))
                    · go_simp
                      refine hK _ _ ?_
                      clear hK K
                      refine wpAnyIn_ready (rs := [2]) (by kernel_rfl) (by simp) ?_
                      refine AllReadyIn.cons rfl (fun K hK => ?_) (AllReadyIn.nil)
                      · go_simp
                        refine hK _ _ ?_
                        clear hK K
                        refine wpAnyIn_ready (rs := [4]) (by kernel_rfl) (by simp) ?_
                        refine AllReadyIn.cons rfl (fun K hK => ?_) (AllReadyIn.nil)
                        · refine step_append_in rfl _ _ _ rfl _ _ _ rfl rfl HAP.out (hK _ _ ?_)
                          clear hK K
                          refine wpAnyIn_ready (rs := [5]) (by kernel_rfl) (by simp) ?_
                          refine AllReadyIn.cons rfl (fun K hK => ?_) AllReadyIn.nil
                          go_simp
                          refine (roundIn_in HRR.out).mono ?_
                          rintro e W' ⟨X', R', g, (⟨rfl, hop', hj⟩ | ⟨rfl, hop', hj⟩)⟩
                          · refine hK _ _ ?_
                            clear hK K
                            refine wpAnyIn_ready (rs := [6]) (by kernel_rfl) (by simp) ?_
                            refine AllReadyIn.cons rfl (fun K hK => ?_) AllReadyIn.nil
                            go_simp
                            refine hK _ _ ?_
                            clear hK K
                            refine wpAnyIn_done (by kernel_rfl) ?_ _
                            have HJ := Lib.hid hj; have HGG := Lib.hid (HG8.out X' R' W' g); have HOO := Lib.hid hop'
                            clear hj g hop'
                            gi_wp2_with fail
                            exact ⟨X', R', HGG.out.1, HOO.out, by rw [HI2.out]; exact ⟨HGG.out.2, by rw [List.map_append, ← List.append_assoc]; exact HJ.out⟩⟩
                          · refine hK _ _ ?_
                            clear hK K
                            refine wpAnyIn_ready (rs := [6]) (by kernel_rfl) (by simp) ?_
                            refine AllReadyIn.cons rfl (fun K hK => ?_) AllReadyIn.nil
                            go_simp
                            refine hK _ _ ?_
                            clear hK K
                            refine wpAnyIn_done (by kernel_rfl) ?_ _
                            have HJ := Lib.hid hj; have HGG := Lib.hid (HG8.out X' R' W' g); have HOO := Lib.hid hop'
                            clear hj g hop'
                            gi_wp2_with fail
                            exact ⟨X', R', HGG.out.1, HOO.out, by rw [HIX2.out]; exact ⟨rfl, HGG.out.2, HJ.out⟩⟩
                    · go_simp
                      refine hK _ _ ?_
                      clear hK K
                      refine wpAnyIn_ready (rs := [0, 4]) (by kernel_rfl) (by simp) ?_
                      refine AllReadyIn.cons rfl (fun K hK => ?_) (AllReadyIn.cons rfl (fun K hK => ?_) (AllReadyIn.nil))
                      · go_simp
                        refine hK _ _ ?_
                        clear hK K
                        refine wpAnyIn_ready (rs := [4]) (by kernel_rfl) (by simp) ?_
                        refine AllReadyIn.cons rfl (fun K hK => ?_) (AllReadyIn.nil)
                        · refine step_append_in rfl _ _ _ rfl _ _ _ rfl rfl HAP.out (hK _ _ ?_)
                          clear hK K
                          refine wpAnyIn_ready (rs := [5]) (by kernel_rfl) (by simp) ?_
                          refine AllReadyIn.cons rfl (fun K hK => ?_) AllReadyIn.nil
                          go_simp
                          refine (roundIn_in HRR.out).mono ?_
                          rintro e W' ⟨X', R', g, (⟨rfl, hop', hj⟩ | ⟨rfl, hop', hj⟩)⟩
                          · refine hK _ _ ?_
                            clear hK K
                            refine wpAnyIn_ready (rs := [6]) (by kernel_rfl) (by simp) ?_
                            refine AllReadyIn.cons rfl (fun K hK => ?_) AllReadyIn.nil
                            go_simp
                            refine hK _ _ ?_
                            clear hK K
                            refine wpAnyIn_done (by kernel_rfl) ?_ _
                            have HJ := Lib.hid hj; have HGG := Lib.hid (HG8.out X' R' W' g); have HOO := Lib.hid hop'
                            clear hj g hop'
                            gi_wp2_with fail
                            exact ⟨X', R', HGG.out.1, HOO.out, by rw [HI2.out]; exact ⟨HGG.out.2, by rw [List.map_append, ← List.append_assoc]; exact HJ.out⟩⟩
                          · refine hK _ _ ?_
                            clear hK K
                            refine wpAnyIn_ready (rs := [6]) (by kernel_rfl) (by simp) ?_
                            refine AllReadyIn.cons rfl (fun K hK => ?_) AllReadyIn.nil
                            go_simp
                            refine hK _ _ ?_
                            clear hK K
                            refine wpAnyIn_done (by kernel_rfl) ?_ _
                            have HJ := Lib.hid hj; have HGG := Lib.hid (HG8.out X' R' W' g); have HOO := Lib.hid hop'
                            clear hj g hop'
                            gi_wp2_with fail
                            exact ⟨X', R', HGG.out.1, HOO.out, by rw [HIX2.out]; exact ⟨rfl, HGG.out.2, HJ.out⟩⟩
                      · refine step_append_in rfl _ _ _ rfl _ _ _ rfl rfl HAP.out (hK _ _ ?_)
                        clear hK K
                        refine wpAnyIn_ready (rs := [0]) (by kernel_rfl) (by simp) ?_
                        refine AllReadyIn.cons rfl (fun K hK => ?_) (AllReadyIn.nil)
                        · go_simp
                          refine hK _ _ ?_
                          clear hK K
                          refine wpAnyIn_ready (rs := [5]) (by kernel_rfl) (by simp) ?_
                          refine AllReadyIn.cons rfl (fun K hK => ?_) AllReadyIn.nil
                          go_simp
                          refine (roundIn_in HRR.out).mono ?_
                          rintro e W' ⟨X', R', g, (⟨rfl, hop', hj⟩ | ⟨rfl, hop', hj⟩)⟩
                          · refine hK _ _ ?_
                            clear hK K
                            refine wpAnyIn_ready (rs := [6]) (by kernel_rfl) (by simp) ?_
                            refine AllReadyIn.cons rfl (fun K hK => ?_) AllReadyIn.nil
                            go_simp
                            refine hK _ _ ?_
                            clear hK K
                            refine wpAnyIn_done (by kernel_rfl) ?_ _
                            have HJ := Lib.hid hj; have HGG := Lib.hid (HG8.out X' R' W' g); have HOO := Lib.hid hop'
                            clear hj g hop'
                            gi_wp2_with fail
                            exact ⟨X', R', HGG.out.1, HOO.out, by rw [HI2.out]; exact ⟨HGG.out.2, by rw [List.map_append, ← List.append_assoc]; exact HJ.out⟩⟩
                          · refine hK _ _ ?_
                            clear hK K
                            refine wpAnyIn_ready (rs := [6]) (by kernel_rfl) (by simp) ?_
                            refine AllReadyIn.cons rfl (fun K hK => ?_) AllReadyIn.nil
                            go_simp
                            refine hK _ _ ?_
                            clear hK K
                            refine wpAnyIn_done (by kernel_rfl) ?_ _
                            have HJ := Lib.hid hj; have HGG := Lib.hid (HG8.out X' R' W' g); have HOO := Lib.hid hop'
                            clear hj g hop'
                            gi_wp2_with fail
                            exact ⟨X', R', HGG.out.1, HOO.out, by rw [HIX2.out]; exact ⟨rfl, HGG.out.2, HJ.out⟩⟩
                · go_simp
                  refine hK _ _ ?_
                  clear hK K
                  refine wpAnyIn_ready (rs := [0, 1]) (by kernel_rfl) (by simp) ?_
                  refine AllReadyIn.cons rfl (fun K hK => ?_) (AllReadyIn.cons rfl (fun K hK => ?_) (AllReadyIn.nil))
                  · go_simp
                    refine hK _ _ ?_
                    clear hK K
                    refine wpAnyIn_ready (rs := [1]) (by kernel_rfl) (by simp) ?_
                    refine AllReadyIn.cons rfl (fun K hK => ?_) (AllReadyIn.nil)
                    · go_simp
                      refine hK _ _ ?_
                      clear hK K
                      refine wpAnyIn_ready (rs := [2]) (by kernel_rfl) (by simp) ?_
                      refine AllReadyIn.cons rfl (fun K hK => ?_) (AllReadyIn.nil)
                      · go_simp
                        refine hK _ _ ?_
                        clear hK K
                        refine wpAnyIn_ready (rs := [4]) (by kernel_rfl) (by simp) ?_
                        refine AllReadyIn.cons rfl (fun K hK => ?_) (AllReadyIn.nil)
                        · refine step_append_in rfl _ _ _ rfl _ _ _ rfl rfl HAP.out (hK _ _ ?_)
                          clear hK K
                          refine wpAnyIn_ready (rs := [5]) (by kernel_rfl) (by simp) ?_
                          refine AllReadyIn.cons rfl (fun K hK => ?_) AllReadyIn.nil
                          go_simp
                          refine (roundIn_in HRR.out).mono ?_
                          rintro e W' ⟨X', R', g, (⟨rfl, hop', hj⟩ | ⟨rfl, hop', hj⟩)⟩
                          · refine hK _ _ ?_
                            clear hK K
                            refine wpAnyIn_ready (rs := [6]) (by kernel_rfl) (by simp) ?_
                            refine AllReadyIn.cons rfl (fun K hK => ?_) AllReadyIn.nil
                            go_simp
                            refine hK _ _ ?_
                            clear hK K
                            refine wpAnyIn_done (by kernel_rfl) ?_ _
                            have HJ := Lib.hid hj; have HGG := Lib.hid (HG8.out X' R' W' g); have HOO := Lib.hid hop'
                            clear hj g hop'
                            gi_wp2_with fail
                            exact ⟨X', R', HGG.out.1, HOO.out, by rw [HI2.out]; exact ⟨HGG.out.2, by rw [List.map_append, ← List.append_assoc]; exact HJ.out⟩⟩
                          · refine hK _ _ ?_
                            clear hK K
                            refine wpAnyIn_ready (rs := [6]) (by kernel_rfl) (by simp) ?_
                            refine AllReadyIn.cons rfl (fun K hK => ?_) AllReadyIn.nil
                            go_simp
                            refine hK _ _ ?_
                            clear hK K
                            refine wpAnyIn_done (by kernel_rfl) ?_ _
                            have HJ := Lib.hid hj; have HGG := Lib.hid (HG8.out X' R' W' g); have HOO := Lib.hid hop'
                            clear hj g hop'
                            gi_wp2_with fail
                            exact ⟨X', R', HGG.out.1, HOO.out, by rw [HIX2.out]; exact ⟨rfl, HGG.out.2, HJ.out⟩⟩
                  · go_simp
                    refine hK _ _ ?_
                    clear hK K
                    refine wpAnyIn_ready (rs := [0, 2]) (by kernel_rfl) (by simp) ?_
                    refine AllReadyIn.cons rfl (fun K hK => ?_) (AllReadyIn.cons rfl (fun K hK => ?_) (AllReadyIn.nil))
                    · go_simp
                      refine hK _ _ ?_
                      clear hK K
                      refine wpAnyIn_ready (rs := [2]) (by kernel_rfl) (by simp) ?_
                      refine AllReadyIn.cons rfl (fun K hK => ?_) (AllReadyIn.nil)
                      · go_simp
                        refine hK _ _ ?_
                        clear hK K
                        refine wpAnyIn_ready (rs := [4]) (by kernel_rfl) (by simp) ?_
                        refine AllReadyIn.cons rfl (fun K hK => ?_) (AllReadyIn.nil)
                        · refine step_append_in rfl _ _ _ rfl _ _ _ rfl rfl HAP.out (hK _ _ ?_)
                          clear hK K
                          refine wpAnyIn_ready (rs := [5]) (by kernel_rfl) (by simp) ?_
                          refine AllReadyIn.cons rfl (fun K hK => ?_) AllReadyIn.nil
                          go_simp
                          refine (roundIn_in HRR.out).mono ?_
                          rintro e W' ⟨X', R', g, (⟨rfl, hop', hj⟩ | ⟨rfl, hop', hj⟩)⟩
                          · refine hK _ _ ?_
                            clear hK K
                            refine wpAnyIn_ready (rs := [6]) (by kernel_rfl) (by simp) ?_
                            refine AllReadyIn.cons rfl (fun K hK => ?_) AllReadyIn.nil
                            go_simp
                            refine hK _ _ ?_
                            clear hK K
                            refine wpAnyIn_done (by kernel_rfl) ?_ _
                            have HJ := Lib.hid hj; have HGG := Lib.hid (HG8.out X' R' W' g); have HOO := Lib.hid hop'
                            clear hj g hop'
                            gi_wp2_with fail
                            exact ⟨X', R', HGG.out.1, HOO.out, by rw [HI2.out]; exact ⟨HGG.out.2, by rw [List.map_append, ← List.append_assoc]; exact HJ.out⟩⟩
                          · refine hK _ _ ?_
                            clear hK K
                            refine wpAnyIn_ready (rs := [6]) (by kernel_rfl) (by simp) ?_
                            refine AllReadyIn.cons rfl (fun K hK => ?_) AllReadyIn.nil
                            go_simp
                            refine hK _ _ ?_
                            clear hK K
                            refine wpAnyIn_done (by kernel_rfl) ?_ _
                            have HJ := Lib.hid hj; have HGG := Lib.hid (HG8.out X' R' W' g); have HOO := Lib.hid hop'
                            clear hj g hop'
                            gi_wp2_with fail
                            exact ⟨X', R', HGG.out.1, HOO.out, by rw [HIX2.out]; exact ⟨rfl, HGG.out.2, HJ.out⟩⟩
                    · go_simp
                      refine hK _ _ ?_
                      clear hK K
                      refine wpAnyIn_ready (rs := [0, 4]) (by kernel_rfl) (by simp) ?_
                      refine AllReadyIn.cons rfl (fun K hK => ?_) (AllReadyIn.cons rfl (fun K hK => ?_) (AllReadyIn.nil))
                      · go_simp
                        refine hK _ _ ?_
                        clear hK K
                        refine wpAnyIn_ready (rs := [4]) (by kernel_rfl) (by simp) ?_
                        refine AllReadyIn.cons rfl (fun K hK => ?_) (AllReadyIn.nil)
                        · refine step_append_in rfl _ _ _ rfl _ _ _ rfl rfl HAP.out (hK _ _ ?_)
                          clear hK K
                          refine wpAnyIn_ready (rs := [5]) (by kernel_rfl) (by simp) ?_
                          refine AllReadyIn.cons rfl (fun K hK => ?_) AllReadyIn.nil
                          go_simp
                          refine (roundIn_in HRR.out).mono ?_
                          rintro e W' ⟨X', R', g, (⟨rfl, hop', hj⟩ | ⟨rfl, hop', hj⟩)⟩
                          · refine hK _ _ ?_
                            clear hK K
                            refine wpAnyIn_ready (rs := [6]) (by kernel_rfl) (by simp) ?_
                            refine AllReadyIn.cons rfl (fun K hK => ?_) AllReadyIn.nil
                            go_simp
                            refine hK _ _ ?_
                            clear hK K
                            refine wpAnyIn_done (by kernel_rfl) ?_ _
                            have HJ := Lib.hid hj; have HGG := Lib.hid (HG8.out X' R' W' g); have HOO := Lib.hid hop'
                            clear hj g hop'
                            gi_wp2_with fail
                            exact ⟨X', R', HGG.out.1, HOO.out, by rw [HI2.out]; exact ⟨HGG.out.2, by rw [List.map_append, ← List.append_assoc]; exact HJ.out⟩⟩
                          · refine hK _ _ ?_
                            clear hK K
                            refine wpAnyIn_ready (rs := [6]) (by kernel_rfl) (by simp) ?_
                            refine AllReadyIn.cons rfl (fun K hK => ?_) AllReadyIn.nil
                            go_simp
                            refine hK _ _ ?_
                            clear hK K
                            refine wpAnyIn_done (by kernel_rfl) ?_ _
                            have HJ := Lib.hid hj; have HGG := Lib.hid (HG8.out X' R' W' g); have HOO := Lib.hid hop'
                            clear hj g hop'
                            gi_wp2_with fail
                            exact ⟨X', R', HGG.out.1, HOO.out, by rw [HIX2.out]; exact ⟨rfl, HGG.out.2, HJ.out⟩⟩
                      · refine step_append_in rfl _ _ _ rfl _ _ _ rfl rfl HAP.out (hK _ _ ?_)
                        clear hK K
                        refine wpAnyIn_ready (rs := [0]) (by kernel_rfl) (by simp) ?_
                        refine AllReadyIn.cons rfl (fun K hK => ?_) (AllReadyIn.nil)
                        · go_simp
                          refine hK _ _ ?_
                          clear hK K
                          refine wpAnyIn_ready (rs := [5]) (by kernel_rfl) (by simp) ?_
                          refine AllReadyIn.cons rfl (fun K hK => ?_) AllReadyIn.nil
                          go_simp
                          refine (roundIn_in HRR.out).mono ?_
                          rintro e W' ⟨X', R', g, (⟨rfl, hop', hj⟩ | ⟨rfl, hop', hj⟩)⟩
                          · refine hK _ _ ?_
                            clear hK K
                            refine wpAnyIn_ready (rs := [6]) (by kernel_rfl) (by simp) ?_
                            refine AllReadyIn.cons rfl (fun K hK => ?_) AllReadyIn.nil
                            go_simp
                            refine hK _ _ ?_
                            clear hK K
                            refine wpAnyIn_done (by kernel_rfl) ?_ _
                            have HJ := Lib.hid hj; have HGG := Lib.hid (HG8.out X' R' W' g); have HOO := Lib.hid hop'
                            clear hj g hop'
                            gi_wp2_with fail
                            exact ⟨X', R', HGG.out.1, HOO.out, by rw [HI2.out]; exact ⟨HGG.out.2, by rw [List.map_append, ← List.append_assoc]; exact HJ.out⟩⟩
                          · refine hK _ _ ?_
                            clear hK K
                            refine wpAnyIn_ready (rs := [6]) (by kernel_rfl) (by simp) ?_
                            refine AllReadyIn.cons rfl (fun K hK => ?_) AllReadyIn.nil
                            go_simp
                            refine hK _ _ ?_
                            clear hK K
                            refine wpAnyIn_done (by kernel_rfl) ?_ _
                            have HJ := Lib.hid hj; have HGG := Lib.hid (HG8.out X' R' W' g); have HOO := Lib.hid hop'
                            clear hj g hop'
                            gi_wp2_with fail
                            exact ⟨X', R', HGG.out.1, HOO.out, by rw [HIX2.out]; exact ⟨rfl, HGG.out.2, HJ.out⟩⟩
              case done2 =>
                intro X5 R5 W5 g5 op5 i5
                rw [HI2.out] at i5
                have HJ := Lib.hid i5.2; have HO5 := Lib.hid op5
                have HGA := Lib.hid ((Gro.refl HR3.out.s).step (K34.out.mono fun _ _ q => q.elim) (fun _ q => q) (fun _ q => .inl q) g5)
                have HGB := Lib.hid (HG3.out.step (K34.out.mono fun _ _ q => q.elim) HR3.out.rr HR3.out.rn g5)
                clear i5 op5 g5
                gi_wp2_with fail
                exact ⟨X5, R5, HGA.out, HO5.out, by
                  rw [HII.out]
                  refine ⟨HGB.out, ?_⟩
                  have h := HJ.out
                  rw [HBL.out] at h
                  rw [List.flatMap_append, List.flatMap_cons, List.flatMap_nil, List.append_nil, ← List.append_assoc]
                  exact h⟩
              case stop2 =>
                intro c5 X5 R5 W5 g5 op5 i5
                rw [HIX2.out] at i5
                obtain ⟨rfl, g6, hj⟩ := i5
                have HJ := Lib.hid hj; have HO5 := Lib.hid op5
                have HGA := Lib.hid ((Gro.refl HR3.out.s).step (K34.out.mono fun _ _ q => q.elim) (fun _ q => q) (fun _ q => .inl q) g5)
                have HGB := Lib.hid (HG3.out.step (K34.out.mono fun _ _ q => q.elim) HR3.out.rr HR3.out.rn g5)
                clear g6 hj op5 g5
                gi_wp2_with fail
                exact ⟨X5, R5, HGA.out, HO5.out, by rw [HIX.out]; exact ⟨rfl, HGB.out, HJ.out⟩⟩
            case done =>
              intro D X5 R5 W5 hD hDh hDx hDr g5 op5 i5
              rw [HII.out] at i5
              obtain ⟨n1, n2, n3, n4⟩ := HI0.out.next' HMM.out q SJ.out K4.out g5 hD hDh hDx hDr (by
                have h := FM.out
                simp only [Bool.and_self, if_true] at h
                rw [h]
                exact i5.2) op5
              have zmb : W5.cell? ⟨mb, 0, none⟩ = some (.int .i64 (mm : Int)) := ((World.cell?_of_block (a := ⟨mb, 0, none⟩) ((g5.same (Nat.lt_of_lt_of_le HI0.out.mm.lt HB4.out.size) HI0.out.mm.x HI0.out.mm.m).trans (HB4.out.block mb HI0.out.mm.lt)))).trans zcm
              have HN1 := Lib.hid n1
              clear n1 n2 n3 n4 i5 g5 op5 hD hDh hDx hDr
              go_wp2_with fail
              refine Handed.intro (j + 1 - i - (k + 1)) (by have := HMM.out; omega) (hKJ _ _ _ ?_)
              rw [HIV.out]
              refine ⟨k + 1, _, D :: Ds, X5, R5, rfl, HN1.out, ?_⟩
              (repeat apply Exists.intro)
              rfl
            case stop =>
              intro D c5 X5 R5 W5 hD hDh hDx hDr g5 op5 i5
              rw [HIX.out] at i5
              obtain ⟨rfl, g6, hj⟩ := i5
              have G : Gro m X R W X5 R5 W5 := HI0.out.g.step (K4.out.mono fun _ _ q => q.elim) (fun _ q => q) (fun _ q => .inl q) g5
              have mk : ∀ b, Mine m X' R' wr b → Mine m X5 R5 W5 b ∧ W5.heap[b]? = wr.heap[b]? := fun b hb => ⟨(hb.keep HB4.out.size).gro g5, (g5.same (Nat.lt_of_lt_of_le hb.lt HB4.out.size) hb.x hb.m).trans (HB4.out.block b hb.lt)⟩
              have hds : ∀ D' ∈ D :: Ds, Mine m X5 R5 W5 D' ∧ W5.heap[D']? = some (.deferred (some [])) ∧ W.heap.size ≤ D' := fun D' q => by
                rcases List.mem_cons.1 q with rfl | q
                · exact ⟨⟨(Array.getElem?_eq_some_iff.1 hDh).1, hDx, hDr, fun e => by have := HI0.out.g.sep.ms; have := HB4.out.size; omega⟩, hDh, by omega⟩
                · obtain ⟨q1, q2, q3⟩ := HI0.out.ds D' q
                  obtain ⟨q4, q5⟩ := mk D' q1
                  exact ⟨q4, q5.trans q2, q3⟩
              have hnd : (D :: Ds).Nodup := List.nodup_cons.2 ⟨fun q => by have := (HI0.out.ds D q).1.lt; have := HB4.out.size; omega, HI0.out.nd⟩
              have HFIN := Lib.hid (And.intro G (And.intro op5 (And.intro hds (And.intro hnd hj))))
              clear G mk hds hnd hj g6 g5 op5 hD hDh hDx hDr
              go_wp2_with fail
              exact RInv.fin (Ds := D :: Ds) rfl HFIN.out.1 SJ.out SJX.out HFIN.out.2.2.2.1 HFIN.out.2.2.1 (.inr ⟨HFIN.out.2.1, HFIN.out.2.2.2.2⟩)
end
end Go.Proofs.YtiklbannoinioaaDoor
