/- The program's Sound. -/
import Derived.Test.YtinejiodnnjpgaaDoorTrY
import Derived.Test.YtinejiodnnjpgaaDoorGrP
namespace Go.Proofs.YtinejiodnnjpgaaDoor
open Go.RowKit BigFrame
set_option linter.unusedVariables false
set_option linter.unusedSimpArgs false
set_option maxRecDepth 100000

theorem sound_nil (G : Gr) (Ap Al As : Option Addr) (np cp nl cl ns cs : Nat) (l : List Int) (A : Option Addr) (n c q : Nat) (s : Int) (at_ : Nat) (w : World) (hQ : Blk w q 3 [.int .i64 (at_ : Int)]) :
    Calls Tryd.prog 29 #[.agg #[.int .i64 G.terms, .int .i64 G.names, .int .i64 G.start, .slice Ap np cp, .slice Al nl cl, .slice As ns cs], .pointer none, .int .i64 s, .slice A n c, .pointer (some ⟨q, 0, none⟩)] w (SdEnd q (lvT G l .nil s at_) w) := by
  obtain ⟨hb0, hs0, gb⟩ := gbox w G Ap Al As np cp nl cl ns cs
  have HB0 := Lib.hid hb0; have HQ := Lib.hid hQ
  have HN := Lib.hid (show lvT G l .nil s at_ = none by rw [lvT])
  clear hb0 gb hs0 hQ
  rw [HN.out]
  go_enter Tryd.func29, Tryd.ntmps29
  go_wp2_with fail
  go_ret
  exact sd_ret rfl rfl ⟨at_, (fun b e => by cases e), (HQ.out.alloc _)⟩ ((Kp.of HB0.out))
theorem sound_any (G : Gr) (Ap Al As : Option Addr) (np cp nl cl ns cs : Nat) (hk : GOk G) (B q : Nat) (hq : B ≤ q) (A : Option Addr) (n c : Nat) (l : List Int) (hl : l.length = n) (hn : n ≤ 100) : ∀ (N : Nat), N ≤ 100000 → ∀ (t : Tr), szT t ≤ N → ∀ (v : Value) (s : Int) (at_ : Nat) (w : World), Blk w q 3 [.int .i64 (at_ : Int)] → B ≤ w.heap.size → GrIn w B G Ap Al As np cp nl cl ns cs → TrB w B v t → RdI w B A l → at_ ≤ n → -1000 ≤ s → s ≤ 1000 →
    Calls Tryd.prog 29 #[.agg #[.int .i64 G.terms, .int .i64 G.names, .int .i64 G.start, .slice Ap np cp, .slice Al nl cl, .slice As ns cs], v, .int .i64 s, .slice A n c, .pointer (some ⟨q, 0, none⟩)] w (SdEnd q (lvT G l t s at_) w) := by
  intro N
  induction N with
  | zero => intro _ t h; have := szT_pos t; omega
  | succ N ih =>
    intro hN t h v s at_ w hQ hB hG hT hI hat hs1 hs2
    cases t with
    | nil =>
      obtain rfl := hT.nil_inv
      exact sound_nil G Ap Al As np cp nl cl ns cs l A n c q s at_ w hQ
    | node p tok ks =>
      rw [szT] at h
      by_cases hs : 0 ≤ s
      · exact sound_leaf G Ap Al As np cp nl cl ns cs hk B q hq A n c l hl hn p tok ks v s at_ w hQ hB hT hI hat hs1 hs2 (by have := szL_len ks; omega) hs
      · exact sound_node G Ap Al As np cp nl cl ns cs hk B q hq A n c l hl hn N (ih (by omega)) p tok ks (by omega) v s at_ w hQ hB hG hT hI hat hs1 hs2 hs

set_option maxHeartbeats 4000000 in
theorem psound_any (G : Gr) (Ap Al As : Option Addr) (np cp nl cl ns cs : Nat) (B : Nat) (A : Option Addr) (n c : Nat) (l : List Int) (hl : l.length = n) (hn : n ≤ 100) (t : Tr) (ht : szT t ≤ 100000) (v : Value) (w : World) (hB : B ≤ w.heap.size) (hG : GrIn w B G Ap Al As np cp nl cl ns cs) (hT : TrB w B v t) (hI : RdI w B A l) :
    Calls Tryd.prog 12 #[.agg #[.int .i64 G.terms, .int .i64 G.names, .int .i64 G.start, .slice Ap np cp, .slice Al nl cl, .slice As ns cs], v, .slice A n c] w fun e w' => e = .returned (.bool (okB G && soundB G t l)) ∧ Below w.heap.size w w' := by
  obtain ⟨hb0, hs0, gb⟩ := gbox w G Ap Al As np cp nl cl ns cs
  have hG1 := hG.below (hb0.mono hB)
  have hC := ok_any G Ap Al As np cp nl cl ns cs (w.alloc (.cells #[.int .i64 G.terms, .int .i64 G.names, .int .i64 G.start, .slice Ap np cp, .slice Al nl cl, .slice As ns cs] 34)) B (by rw [hs0]; omega) hG1
  rw [hs0] at hC
  have HC := Lib.hid hC
  have HB0 := Lib.hid hb0; have HGB := Lib.hid gb; have HG := Lib.hid hG; have HT := Lib.hid hT; have HI := Lib.hid hI; have HS0 := Lib.hid hs0
  clear hG hT hI hb0 gb hG1 hC hs0
  by_cases hk : GOk G
  rotate_left
  · have HK := Lib.hid (okB_f hk)
    rw [HK.out] at HC
    rw [HK.out]
    clear hk
    go_enter Tryd.func12, Tryd.ntmps12
    go_wp2_with fail
    generalize w.alloc (.cells #[.int .i64 G.terms, .int .i64 G.names, .int .i64 G.start, .slice Ap np cp, .slice Al nl cl, .slice As ns cs] 34) = W0 at *
    refine HC.out.mono ?_
    rintro e w1 ⟨rfl, hb1⟩
    go_wp2
    go_ret
    exact ⟨rfl, HB0.out.trans (hb1.mono (Nat.le_succ _))⟩
  · as_aux_lemma =>
      have HK := Lib.hid (okB_t hk)
      rw [HK.out] at HC
      rw [HK.out]
      have h1 := hk.s0; have h2 := hk.s1; have h3 := hk.n1
      have HD := Lib.hid (fun (q : Nat) (hq : B ≤ q) (w : World) (hQ : Blk w q 3 [.int .i64 ((0 : Nat) : Int)]) (hB : B ≤ w.heap.size) (hG : GrIn w B G Ap Al As np cp nl cl ns cs) (hT : TrB w B v t) (hI : RdI w B A l) => sound_any G Ap Al As np cp nl cl ns cs hk B q hq A n c l hl hn 100000 (by decide) t ht v (-1 - G.start) 0 w hQ hB hG hT hI (Nat.zero_le _) (by omega) (by omega))
      have HS : Hid (soundB G t l = decide (lvT G l t (-1 - G.start) 0 = some n)) := Lib.hid (by unfold soundB; rw [hl])
      clear hk
      go_enter Tryd.func12, Tryd.ntmps12
      go_wp2_with fail
      generalize w.alloc (.cells #[.int .i64 G.terms, .int .i64 G.names, .int .i64 G.start, .slice Ap np cp, .slice Al nl cl, .slice As ns cs] 34) = W0 at *
      refine HC.out.mono ?_
      rintro e w1 ⟨rfl, hb1⟩
      have hba : Below (w.heap.size + 1) W0 (w1.alloc (.cells #[.int .i64 0] 3)) := hb1.alloc (by have := hb1.size; have := HS0.out; omega) _
      have hsz : (w1.alloc (.cells #[.int .i64 0] 3)).heap.size = w1.heap.size + 1 := by simp
      have hw1 : w.heap.size + 1 ≤ w1.heap.size := by have := hb1.size; have := HS0.out; omega
      obtain ⟨c0, c1, c2', c3, c4, c5⟩ := HGB.out.below hba (Nat.lt_succ_self _)
      have hb2 : Below B w (w1.alloc (.cells #[.int .i64 0] 3)) := (HB0.out.mono hB).trans (hba.mono (by omega))
      have HE := Lib.hid (HD.out w1.heap.size (by omega) (w1.alloc (.cells #[.int .i64 0] 3)) (Blk.new w1 3 [.int .i64 0]) (by rw [hsz]; omega) (HG.out.below hb2) (TrB.below HT.out hb2) (HI.out.below hb2))
      have HA := Lib.hid hba; have HW1 := Lib.hid hw1; have HSZ := Lib.hid hsz
      clear hba hb2 HD HGB HG HT HI HC hsz hw1 hb1
      generalize lvT G l t (-1 - G.start) 0 = o at *
      go_wp2_with fail
      refine HE.out.mono ?_
      rintro e w5 ⟨rfl, ⟨a5, ha5, hb5⟩, hk5⟩
      have hfin : Below w.heap.size w w5 := HB0.out.trans ((HA.out.mono (Nat.le_succ _)).trans (hk5.bel (by rw [HSZ.out]; have := HW1.out; omega) (fun k hk e => by have := HW1.out; omega)))
      have HF := Lib.hid hfin
      have zq := hb5.cell (i := 0) rfl
      clear hk5 hb5 hfin c0 c1 c2' c3 c4 c5
      cases o
      · as_aux_lemma =>
          have HN : Hid (soundB G t l = false) := Lib.hid (by rw [HS.out]; rfl)
          simp only [Option.isSome_none]
          go_wp2
          go_ret
          rw [HN.out]
          exact ⟨rfl, HF.out⟩
      · rename_i a
        have hae : a5 = a := ha5 a rfl
        subst hae
        clear ha5
        simp only [Option.isSome_some]
        by_cases q : a5 = n
        · as_aux_lemma =>
            subst q
            have HN : Hid (soundB G t l = true) := Lib.hid (by rw [HS.out]; exact decide_eq_true rfl)
            go_wp2
            go_ret
            rw [HN.out]
            exact ⟨ret_eq (by simp), HF.out⟩
        · as_aux_lemma =>
            have HN : Hid (soundB G t l = false) := Lib.hid (by rw [HS.out]; exact decide_eq_false (fun e => q (Option.some.inj e)))
            have d1 : ((a5 : Int) == (n : Int)) = false := by rw [beq_eq_false_iff_ne]; omega
            have d2 : (a5 == n) = false := by rw [beq_eq_false_iff_ne]; exact q
            go_wp2
            go_ret
            rw [HN.out]
            exact ⟨ret_eq (by simp), HF.out⟩
end Go.Proofs.YtinejiodnnjpgaaDoor
