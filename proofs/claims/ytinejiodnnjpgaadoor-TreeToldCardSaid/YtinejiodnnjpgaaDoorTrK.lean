/- The document's leaves at a node of a name; leaves whole. -/
import Derived.Test.YtinejiodnnjpgaaDoorTrL
namespace Go.Proofs.YtinejiodnnjpgaaDoor
open Go.RowKit BigFrame
set_option linter.unusedVariables false
set_option linter.unusedSimpArgs false
set_option maxRecDepth 100000

set_option maxHeartbeats 4000000 in
theorem leaves_node (G : Gr) (Ap Al As : Option Addr) (np cp nl cl ns cs : Nat) (hk : GOk G) (B : Nat) (A : Option Addr) (n c : Nat) (l : List Int) (hl : l.length = n) (hn : n ≤ 100) (N : Nat) (ih : ∀ (t : Tr), szT t ≤ N → ∀ (v : Value) (s : Int) (at_ : Nat) (w : World), B ≤ w.heap.size → GrIn w B G Ap Al As np cp nl cl ns cs → TrB w B v t → RdI w B A l → at_ ≤ n → -1000 ≤ s → s ≤ 1000 →
    Calls Tryd.prog 27 #[.agg #[.int .i64 G.terms, .int .i64 G.names, .int .i64 G.start, .slice Ap np cp, .slice Al nl cl, .slice As ns cs], v, .int .i64 s, .slice A n c, .int .i64 at_] w fun e w' => e = .returned (.int .i64 (optI (lvT G l t s at_))) ∧ Below w.heap.size w w')
    (p tok : Int) (ks : List Tr) (h : 1 + szL ks ≤ N + 1) (v : Value) (s : Int) (at_ : Nat) (w : World) (hB : B ≤ w.heap.size) (hG : GrIn w B G Ap Al As np cp nl cl ns cs) (hT : TrB w B v (.node p tok ks)) (hI : RdI w B A l) (hat : at_ ≤ n) (hs1 : -1000 ≤ s) (hs2 : s ≤ 1000) (hs : ¬ 0 ≤ s) :
    Calls Tryd.prog 27 #[.agg #[.int .i64 G.terms, .int .i64 G.names, .int .i64 G.start, .slice Ap np cp, .slice Al nl cl, .slice As ns cs], v, .int .i64 s, .slice A n c, .int .i64 at_] w fun e w' => e = .returned (.int .i64 (optI (lvT G l (.node p tok ks) s at_))) ∧ Below w.heap.size w w' := by
  obtain ⟨hb0, hs0, gb⟩ := gbox w G Ap Al As np cp nl cl ns cs
  obtain ⟨hp1, hp2⟩ := hG.p.len
  obtain ⟨b, A2, c2, rfl, hb, zp, zt, zk, hk1, hk2, hks⟩ := hT.node_inv
  have hG1 := hG.below (hb0.mono hB)
  have tr := fun (q : Addr) (z : q.block < B) => hb0.cell (p := q) (Nat.lt_of_lt_of_le z hB)
  have zp1 := (tr ⟨b, 0, none⟩ hb).trans zp
  have zt1 := (tr ⟨b, 1, none⟩ hb).trans zt
  have zk1 := (tr ⟨b, 2, none⟩ hb).trans zk
  have HLL := Lib.hid hl; have HIH := Lib.hid ih; have HSZ := Lib.hid h
  have HGW := Lib.hid hG
  have HI := Lib.hid hI; have HKS := Lib.hid hks; have HG := Lib.hid hG1; have HB0 := Lib.hid hb0; have HGB := Lib.hid gb; have HP1 := Lib.hid hp1
  have hg3 := gb.c3
  have hkl : ks.length ≤ N := by have := szL_len ks; omega
  unfold maxLen at hp2 hk2
  clear ih h hI hks hG hG1 hb0 gb hp1 tr hl zp zt zk hT
  have HLV := Lib.hid (show lvT G l (.node p tok ks) s at_ = if nodeOk G p tok ks.length s then lvL G l ks (prodAt G p).2.1 at_ else none by rw [lvT, if_neg hs])
  by_cases q1 : p < 0
  · as_aux_lemma =>
      have d1 : decide (p < 0) = true := decide_eq_true q1
      have HN := Lib.hid (show optI (lvT G l (.node p tok ks) s at_) = -1 by rw [HLV.out, if_neg (fun q => by have := q.1; omega)]; rfl)
      clear HLV
      go_enter Tryd.func27, Tryd.ntmps27
      go_wp2_with fail
      go_quiet (fail)
      go_wp2_with fail
      go_ret
      exact ⟨ret_eq (by rw [HN.out]; rfl), HB0.out.trans (bel_dn _ _ _)⟩
  have d1 : decide (p < 0) = false := decide_eq_false q1
  by_cases q2 : (np : Int) ≤ p
  · as_aux_lemma =>
      have d2 : decide ((np : Int) ≤ p) = true := decide_eq_true q2
      have HN := Lib.hid (show optI (lvT G l (.node p tok ks) s at_) = -1 by rw [HLV.out, if_neg (fun q => by have := q.2.1; have := HP1.out; omega)]; rfl)
      clear HLV
      go_enter Tryd.func27, Tryd.ntmps27
      go_wp2_with fail
      go_quiet (fail)
      go_wp2_with fail
      go_ret
      exact ⟨ret_eq (by rw [HN.out]; rfl), HB0.out.trans (bel_dn _ _ _)⟩
  have d2 : decide ((np : Int) ≤ p) = false := decide_eq_false q2
  by_cases q3 : tok = 0
  rotate_left
  · as_aux_lemma =>
      have d3 : (tok != (0 : Int)) = true := by simpa using q3
      have HN := Lib.hid (show optI (lvT G l (.node p tok ks) s at_) = -1 by rw [HLV.out, if_neg (fun q => q3 q.2.2.1)]; rfl)
      clear HLV
      go_enter Tryd.func27, Tryd.ntmps27
      go_wp2_with fail
      go_quiet (fail)
      go_wp2_with fail
      go_ret
      exact ⟨ret_eq (by rw [HN.out]; rfl), HB0.out.trans (bel_dn _ _ _)⟩
  subst q3
  obtain ⟨pn, rfl⟩ := Int.eq_ofNat_of_zero_le (show 0 ≤ p by omega)
  have hpn : pn < np := by omega
  have d2n : decide (np ≤ pn) = false := decide_eq_false (by omega)
  have hwr : IntKind.i64.wrap (-1 - s) = -1 - s := by simp [IntKind.wrap, IntKind.bits, IntKind.signed]; omega
  obtain ⟨pb, po, rfl, hpb, hpc⟩ := HG.out.p.at_ (by omega)
  obtain ⟨x, r, y, A3, n3, c3, e0, e1, e2, e3, e4, e5, e6, e7⟩ := hpc pn hpn
  have hpa := prodAt_of e0
  have HPR := Lib.hid (hk.pr _ (List.mem_of_getElem? e0))
  have HPA := Lib.hid hpa; have HR7 := Lib.hid e7; have HE4 := Lib.hid e4
  unfold maxLen at e6
  clear hpc hpa e0 e3 e7 e4 q1 q2
  by_cases q4 : x = -1 - s
  rotate_left
  · as_aux_lemma =>
      have d4 : (x != -1 - s) = true := by simpa using q4
      have HN := Lib.hid (show optI (lvT G l (.node (pn : Int) 0 ks) s at_) = -1 by rw [HLV.out, if_neg (fun q => q4 (by have := q.2.2.2.1; rw [HPA.out] at this; exact this))]; rfl)
      clear HLV
      go_enter Tryd.func27, Tryd.ntmps27
      go_wp2_with fail
      go_quiet (fail)
      go_wp2_with fail
      go_ret
      exact ⟨ret_eq (by rw [HN.out]; rfl), HB0.out.trans (bel_dn _ _ _)⟩
  by_cases q5 : n3 = ks.length
  rotate_left
  · as_aux_lemma =>
      have d4 : (x != -1 - s) = false := by simpa using q4
      have d5 : ((n3 : Int) != (ks.length : Int)) = true := by simp; omega
      clear q4
      have HN := Lib.hid (show optI (lvT G l (.node (pn : Int) 0 ks) s at_) = -1 by rw [HLV.out, if_neg (fun q => q5 (by have := q.2.2.2.2; rw [HPA.out, HE4.out] at this; exact this))]; rfl)
      clear HLV
      go_enter Tryd.func27, Tryd.ntmps27
      go_wp2_with fail
      go_quiet (fail)
      go_wp2_with fail
      go_ret
      exact ⟨ret_eq (by rw [HN.out]; rfl), HB0.out.trans (bel_dn _ _ _)⟩
  have HN := Lib.hid (show lvT G l (.node (pn : Int) 0 ks) s at_ = lvL G l ks r at_ by rw [HLV.out, if_pos ⟨Int.natCast_nonneg _, by rw [HP1.out]; omega, rfl, by rw [HPA.out]; exact q4, by rw [HPA.out, HE4.out]; exact q5⟩, HPA.out])
  have d4 : (x != -1 - s) = false := by simpa using q4
  have d5 : ((n3 : Int) != (ks.length : Int)) = false := by simp; omega
  have HQ5 := Lib.hid q5
  clear HLV q4 q5
  go_enter Tryd.func27, Tryd.ntmps27
  go_wp2_with fail
  go_quiet (fail)
  go_wp2_with fail
  obtain ⟨w1, hw1⟩ : ∃ w1, w1 = (w.alloc (.cells #[.int .i64 G.terms, .int .i64 G.names, .int .i64 G.start, .slice (some ⟨pb, po, none⟩) np cp, .slice Al nl cl, .slice As ns cs] 34)).drewN nq := ⟨_, rfl⟩
  have HB1 : Hid (Below w.heap.size w w1) := Lib.hid (by rw [hw1]; exact HB0.out.trans (bel_dn _ _ _))
  have HS1 : Hid (w1.heap.size = w.heap.size + 1) := Lib.hid (by rw [hw1]; exact hs0)
  have HGX : Hid (GrBox w1 w.heap.size G (some ⟨pb, po, none⟩) Al As np cp nl cl ns cs) := Lib.hid (by rw [hw1]; exact HGB.out.below (bel_dn _ _ (w.heap.size + 1)) (Nat.lt_succ_self _))
  have y2 : w1.cell? ⟨b, 2, none⟩ = some (.slice A2 ks.length c2) := by rw [hw1]; exact zk1
  have y0 : w1.cell? ⟨b, 0, none⟩ = some (.int .i64 (pn : Int)) := by rw [hw1]; exact zp1
  have y3 : w1.cell? ⟨pb, po + pn * 3 + 1, none⟩ = some (.slice A3 n3 c3) := by rw [hw1]; exact e2
  have HR8 : Hid (RdI w1 B A3 r) := Lib.hid (by rw [hw1]; exact HR7.out.below (bel_dn _ _ B))
  rw [← hw1]
  have HY2 := Lib.hid y2; have HY0 := Lib.hid y0; have HY3 := Lib.hid y3
  clear hw1 hs0 zk1 zp1 e2 HR7 HGB HB0 hg3 zt1 e1 HG y2 y0 y3
  go_loopw [4, 11] (fun a i wr => ∃ (j at' : Nat), j ≤ ks.length ∧ i = .int .i64 (j : Int) ∧ a = .int .i64 (at' : Int) ∧ at' ≤ n ∧ Hid (lvL G l (ks.drop j) (r.drop j) at' = lvL G l ks r at_) ∧ Hid (Below w1.heap.size w1 wr)) (fun _ i _ => ks.length - (intOf i).toNat)
  case atStart => exact ⟨0, at_, Nat.zero_le _, rfl, rfl, hat, rfl, Below.refl _ _⟩
  case round =>
    as_aux_lemma =>
      obtain ⟨j, at', hj, rfl, rfl, hat', HE, HB⟩ := hrel
      by_cases hlt : j < ks.length
      · as_aux_lemma =>
          obtain ⟨k, hkk⟩ : ∃ k, ks[j]? = some k := ⟨ks[j], List.getElem?_eq_getElem hlt⟩
          obtain ⟨kb, ko, rfl, hkb, hkc⟩ := HKS.out (by omega)
          obtain ⟨u, zu, hu⟩ := hkc j k hkk
          have HR9 := HR8.out
          obtain ⟨rb, ro, rfl, hrb, hrc⟩ := HR9.at_ (by rw [HE4.out, HQ5.out]; omega)
          have zr := hrc j (by rw [HE4.out, HQ5.out]; exact hlt)
          have hsz : szT k ≤ N := by
            have h1 := szL_mem (List.mem_of_getElem? hkk)
            have h2 := HSZ.out
            omega
          have hsb := HPR.out.s (nth r j) (by rw [nth_get (by rw [HE4.out, HQ5.out]; exact hlt)]; exact List.getElem_mem _)
          have hn1 := hk.n1
          have ht1 := hk.t1
          have HST := Lib.hid (HE.out.symm.trans (lvL_step G l ks r j at' k hkk (by rw [HE4.out, HQ5.out])))
          have HLE := Lib.hid (fun a => lvT_le G l k (nth r j) at' a (by rw [HLL.out]; exact hat'))
          obtain ⟨pu, rfl⟩ := hu.ptr
          have hbw : Below w.heap.size w wr := HB1.out.trans (HB.out.mono (by rw [HS1.out]; omega))
          have hbd : Below w.heap.size w wr.drew := hbw.trans ⟨rfl, rfl, rfl, Nat.le_refl _, fun _ _ => rfl⟩
          have HBD := Lib.hid hbd
          have trw := fun (q : Addr) (z : q.block < B) => hbd.cell (p := q) (Nat.lt_of_lt_of_le z hB)
          obtain ⟨w2, hw2⟩ : ∃ w2, w2 = wr.drew := ⟨_, rfl⟩
          have tr1 : ∀ q : Addr, q.block < w1.heap.size → w2.cell? q = w1.cell? q := fun q z => by rw [hw2]; exact HB.out.cell (p := q) z
          have hBw : B < w1.heap.size := by rw [HS1.out]; omega
          have zw := (tr1 ⟨w.heap.size, 0, none⟩ (by rw [HS1.out]; exact Nat.lt_succ_self _)).trans HGX.out.c0
          have zw1 := (tr1 ⟨w.heap.size, 1, none⟩ (by rw [HS1.out]; exact Nat.lt_succ_self _)).trans HGX.out.c1
          have zw2 := (tr1 ⟨w.heap.size, 2, none⟩ (by rw [HS1.out]; exact Nat.lt_succ_self _)).trans HGX.out.c2
          have zw3 := (tr1 ⟨w.heap.size, 3, none⟩ (by rw [HS1.out]; exact Nat.lt_succ_self _)).trans HGX.out.c3
          have zw4 := (tr1 ⟨w.heap.size, 4, none⟩ (by rw [HS1.out]; exact Nat.lt_succ_self _)).trans HGX.out.c4
          have zw5 := (tr1 ⟨w.heap.size, 5, none⟩ (by rw [HS1.out]; exact Nat.lt_succ_self _)).trans HGX.out.c5
          have zb2 := (tr1 ⟨b, 2, none⟩ (Nat.lt_trans hb hBw)).trans HY2.out
          have zb0 := (tr1 ⟨b, 0, none⟩ (Nat.lt_trans hb hBw)).trans HY0.out
          have zp1 := (tr1 ⟨pb, po + pn * 3 + 1, none⟩ (Nat.lt_trans hpb hBw)).trans HY3.out
          have zrj := (tr1 ⟨rb, ro + j, none⟩ (Nat.lt_trans hrb hBw)).trans zr
          have zuj := (trw ⟨kb, ko + j, none⟩ hkb).trans zu
          rw [← hw2] at zuj trw
          have zwr := (HB.out.cell (p := ⟨b, 2, none⟩) (Nat.lt_trans hb hBw)).trans HY2.out
          have hcall := HIH.out k hsz (.pointer pu) (nth r j) at' w2 (by rw [hw2]; exact Nat.le_trans hB hbd.size) (by rw [hw2]; exact HGW.out.below (hbd.mono hB)) (by rw [hw2]; exact TrB.below hu (hbd.mono hB)) (by rw [hw2]; exact HI.out.below (hbd.mono hB)) hat' (by omega) (by omega)
          have HC := Lib.hid hcall
          have HB2 : Hid (Below w1.heap.size w1 w2) := Lib.hid (by rw [hw2]; exact HB.out.trans ⟨rfl, rfl, rfl, Nat.le_refl _, fun _ _ => rfl⟩)
          have hkl2 : j < ks.length := hlt
          have d6 : j < n3 := by rw [HQ5.out]; exact hlt
          generalize nth r j = sj at *
          generalize lvT G l k sj at' = o at *
          clear hkc hu zr hrc hcall zu hsz hsb hn1 ht1 HR9 HR8 HIH HGW HI HKS HSZ HPR hbw hbd trw tr1 HE HB hkk HBD HGX
          go_wp2_with fail
          refine wp_region_still_tail 22 (by kernel_rfl) (by kernel_rfl) ?_
          simp only [List.take_succ_cons, List.take_zero, List.drop_succ_cons, List.drop_zero]
          change wpStill _ _ wr.drew (fun a' => wpList _ _ _ _ a' wr.drew) _ _
          rw [← hw2]
          clear hw2
          refine wpStill_of_quiet _ _ ?_
          repeat (first | go_big_quiet_skip | (go_big_quiet_want; go_big_quiet_op; go_big_quiet_on))
          refine wpQuiet_nil ?_
          go_wp2_with fail
          refine HC.out.mono ?_
          rintro e w5 ⟨rfl, hb5⟩
          have HB5 : Hid (Below w1.heap.size w1 w5) := Lib.hid (HB2.out.trans (hb5.mono HB2.out.size))
          clear hb5
          cases o
          · as_aux_lemma =>
              have HZ : Hid (lvL G l ks r at_ = none) := Lib.hid HST.out
              simp only [optI]
              go_wp2
              go_ret
              exact ⟨ret_eq (by rw [HN.out, HZ.out]; rfl), HB1.out.trans (HB5.out.mono (by rw [HS1.out]; omega))⟩
          · rename_i a
            as_aux_lemma =>
              have HZ : Hid (lvL G l (ks.drop (j + 1)) (r.drop (j + 1)) a = lvL G l ks r at_) := Lib.hid HST.out.symm
              have hal : a ≤ n := by have := HLE.out a rfl; rw [HLL.out] at this; exact this
              simp only [optI]
              go_wp2
              go_roundw
              case rel => exact ⟨j + 1, a, by omega, by go_num, rfl, hal, HZ, HB5⟩
              case measure => simp [intOf]; omega
      · as_aux_lemma =>
          have hje : j = ks.length := by omega
          have HZ : Hid (lvL G l ks r at_ = some at') := Lib.hid (by rw [← HE.out, hje, List.drop_length, lvL])
          have hBw : B < w1.heap.size := by rw [HS1.out]; omega
          have zwr := (HB.out.cell (p := ⟨b, 2, none⟩) (Nat.lt_trans hb hBw)).trans HY2.out
          clear hje HE hBw
          go_wp2
          go_ret
          exact ⟨ret_eq (by rw [HN.out, HZ.out]; rfl), HB1.out.trans (HB.out.mono (by rw [HS1.out]; omega))⟩
end Go.Proofs.YtinejiodnnjpgaaDoor
