/- newChart: the chart of a grammar and of words. -/
import Derived.Test.YtiklbannoinioaaDoorQ12
namespace Go.Proofs.YtiklbannoinioaaDoor
open Go.RowKit BigFrame Go.Maps
set_option linter.unusedVariables false
set_option linter.unusedSimpArgs false
set_option maxRecDepth 100000

theorem run_mapS (w : World) : (Instr.makeMap 56 none).run Tryd.prog w = .ok (.map (some w.heap.size)) (w.alloc (.map #[] 0)) := run_makeMap _ w
theorem run_mapN (w : World) : (Instr.makeMap 57 none).run Tryd.prog w = .ok (.map (some w.heap.size)) (w.alloc (.map #[] 0)) := run_makeMap _ w
theorem run_mapI (w : World) : (Instr.makeMap 69 none).run Tryd.prog w = .ok (.map (some w.heap.size)) (w.alloc (.map #[] 0)) := run_makeMap _ w
theorem mk_rwN {n : Nat} {k : Int} (hn : n ≤ 1000) (hk : k = (n : Int)) (w : World) : (Instr.makeSlice 54 (.int .i64 k) (.int .i64 k)).run Tryd.prog w = .ok (.slice (some ⟨w.heap.size, 0, none⟩) n n) (w.alloc (.cells (zs (.slice none 0 0) n) 23)) := mk_row elRw1 rfl .i64 .i64 n k hk (by omega) (by omega) w
theorem newChart_no (G : Gr) (Ap Al As : Option Addr) (np cp nl cl ns cs : Nat) (Ai : Option Addr) (ni ci : Nat) (w : World) (B : Nat) (hB : B ≤ w.heap.size) (hG : GrIn w B G Ap Al As np cp nl cl ns cs) (hno : ¬ (okB G = true ∧ ni ≤ 60)) (hm : ni ≤ maxLen) :
    Calls Tryd.prog 15 #[.agg #[.int .i64 G.terms, .int .i64 G.names, .int .i64 G.start, .slice Ap np cp, .slice Al nl cl, .slice As ns cs], .slice Ai ni ci] w fun e w' => e = .returned (.pointer none) ∧ Below w.heap.size w w' := by
  unfold maxLen at hm
  obtain ⟨hb0, hs0, gb⟩ := gbox w G Ap Al As np cp nl cl ns cs
  have hc := ok_any G Ap Al As np cp nl cl ns cs (w.alloc (.cells #[.int .i64 G.terms, .int .i64 G.names, .int .i64 G.start, .slice Ap np cp, .slice Al nl cl, .slice As ns cs] 25)) B (Nat.le_trans hB hb0.size) (hG.below (hb0.mono hB))
  have HC := Lib.hid hc; have HB0 := Lib.hid hb0
  have hc0 := gb.c0; have hc1 := gb.c1; have hc2 := gb.c2; have hc3 := gb.c3; have hc4 := gb.c4; have hc5 := gb.c5
  clear hc hb0 gb hG hB
  by_cases q : okB G = true
  · have q2 : ¬ ni ≤ 60 := fun h => hno ⟨q, h⟩
    rw [q] at HC
    have d : decide ((60 : Int) < (ni : Int)) = true := decide_eq_true (by omega)
    clear q hno
    go_enter Tryd.func15, Tryd.ntmps15
    go_wp2_with fail
    refine HC.out.mono ?_
    rintro e w1 ⟨rfl, hb1⟩
    have HF := Lib.hid (HB0.out.trans (hb1.mono HB0.out.size))
    clear hb1 HC
    go_wp2_with fail
    go_ret
    exact ⟨rfl, HF.out⟩
  · have q2 : okB G = false := by simpa using q
    rw [q2] at HC
    clear q hno
    go_enter Tryd.func15, Tryd.ntmps15
    go_wp2_with fail
    refine HC.out.mono ?_
    rintro e w1 ⟨rfl, hb1⟩
    have HF := Lib.hid (HB0.out.trans (hb1.mono HB0.out.size))
    clear hb1 HC
    go_wp2_with fail
    go_ret
    exact ⟨rfl, HF.out⟩

/-- Any of these may come. -/
theorem manyS {P : Program} {md : Region.Mode} {Q : Exit → Act → World → Prop} {S : World → Prop} {w : World} {l : List Oper} {a : Act} {listed : Array Bool} (f : Nat) (is : List Nat) (hB : decide (Region.ready md l.toArray listed = is) = true) (hne : is ≠ []) (hl : ∀ i ∈ is, i < l.length)
    (h : ∀ i ∈ is, wpList P l.toArray (Exit.then (fun a' w' => S w' ∧ wpAnyS P md l.toArray Q S f (listed.setIfInBounds i true) a' w') Q) ((l.drop i).take 1) a w) : wpAnyS P md l.toArray Q S (f + 1) listed a w := by
  have hr := of_decide_eq_true hB
  refine ⟨by rw [hr]; exact hne, fun k hk => ?_⟩
  rw [hr] at hk
  have hk2 := hl k hk
  have hop : l.toArray[k]? = some (l[k]'hk2) := by simp
  refine wpOp_of_list hop ?_
  have h1 : (l.drop k).take 1 = [l[k]'hk2] := by rw [List.drop_eq_getElem_cons hk2]; rfl
  rw [← h1]
  exact h k hk
/-- A chart just made. -/
structure NcA (w2 w3 : World) (bn m1 m2 m3 c nN : Nat) (G : Gr) (Ap Al As : Option Addr) (np cp nl cl ns cs : Nat) (Ai : Option Addr) (ni ci : Nat) : Prop where
  bel : Below w2.heap.size w2 w3
  kn : Blk w3 bn 23 (List.replicate nN (.slice none 0 0))
  k1 : KMap 46 zeroV w3 m1 0 (fun _ => none)
  k2 : KMap 46 noneV w3 m2 0 (fun _ => none)
  k3 : KMap 46 zeroV w3 m3 0 (fun _ => none)
  kc : Blk w3 c 59 (chC G Ap Al As np cp nl cl ns cs Ai ni ci (.slice (some ⟨bn, 0, none⟩) nN nN) (.slice none 0 0) m1 m2 m3)
  ne : m1 ≠ m2 ∧ m1 ≠ m3 ∧ m2 ≠ m3
  lo : w2.heap.size ≤ bn ∧ w2.heap.size ≤ m1 ∧ w2.heap.size ≤ m2 ∧ w2.heap.size ≤ m3 ∧ w2.heap.size ≤ c

/-- A chart made and filled. -/
structure NewC (w w' : World) (B c m2 m3 nN : Nat) (G : Gr) (Ap Al As : Option Addr) (np cp nl cl ns cs : Nat) (Ai : Option Addr) (ni ci : Nat) (inp : List Int) (I : Nat → List K3) (L : List K3) : Prop where
  ex : ∃ bn bi base1 base2 m1 cb vs ss b3 nz, NcT w' B c bn bi base1 base2 m1 m2 m3 nN cb vs ss G Ap Al As np cp nl cl ns cs Ai ni ci inp ∧ FilT w' b3 m1 ss (ni + 1) nz I L ∧ (m1 ≠ m2 ∧ m1 ≠ m3 ∧ w.heap.size < m1) ∧ ∀ p ∈ ss, m2 < p.2 ∧ m3 < p.2 ∧ w.heap.size < p.1
  fi : Filled G inp I (ni + 1) L
  ne : m2 ≠ m3
  lo : w.heap.size < c ∧ w.heap.size < m2 ∧ w.heap.size < m3

set_option maxHeartbeats 8000000 in
theorem newChart_any (G : Gr) (Ap Al As : Option Addr) (np cp nl cl ns cs : Nat) (Ai : Option Addr) (ni ci nN : Nat) (inp : List Int) (w : World) (B : Nat) (hB : B ≤ w.heap.size) (hG : GrIn w B G Ap Al As np cp nl cl ns cs) (hk : GOk G) (hn : ni ≤ 60) (hm : ni ≤ ci ∧ ci ≤ maxLen) (hli : inp.length = ni) (hri : RdI w B Ai inp) (hnN : G.names = (nN : Int)) :
    Calls Tryd.prog 15 #[.agg #[.int .i64 G.terms, .int .i64 G.names, .int .i64 G.start, .slice Ap np cp, .slice Al nl cl, .slice As ns cs], .slice Ai ni ci] w fun e w' => ∃ c m2 m3 I L, e = .returned (.pointer (some ⟨c, 0, none⟩)) ∧ Below w.heap.size w w' ∧ NewC w w' B c m2 m3 nN G Ap Al As np cp nl cl ns cs Ai ni ci inp I L := by
  obtain ⟨hb0, hs0, gb⟩ := gbox w G Ap Al As np cp nl cl ns cs
  have hc := ok_any G Ap Al As np cp nl cl ns cs (w.alloc (.cells #[.int .i64 G.terms, .int .i64 G.names, .int .i64 G.start, .slice Ap np cp, .slice Al nl cl, .slice As ns cs] 25)) B (Nat.le_trans hB hb0.size) (hG.below (hb0.mono hB))
  have HC := Lib.hid hc; have HB0 := Lib.hid hb0; have HGB := Lib.hid gb; have HG := Lib.hid hG; have HK := Lib.hid hk; have HM := Lib.hid hm; have HLI := Lib.hid hli; have HRI := Lib.hid hri; have HB := Lib.hid hB; have HNN := Lib.hid hnN
  have hn1 : nN ≤ 300 := by have := hk.n1; omega
  have hs0' := Lib.hid hs0
  unfold maxLen at hm
  clear hc hb0 hG hB hli hri hs0 hnN
  rw [okB_t hk] at HC
  have d : decide ((60 : Int) < (ni : Int)) = false := decide_eq_false (by omega)
  have hc0 := gb.c0; have hc1 := gb.c1; have hc2 := gb.c2; have hc3 := gb.c3; have hc4 := gb.c4; have hc5 := gb.c5
  clear gb hk
  go_enter Tryd.func15, Tryd.ntmps15
  go_wp2_with fail
  refine HC.out.mono ?_
  rintro e w2 ⟨rfl, hb1⟩
  have hb2 := HB0.out.trans (hb1.mono HB0.out.size)
  have gb2 : GrBox w2 w.heap.size G Ap Al As np cp nl cl ns cs := HGB.out.below hb1 (by rw [hs0'.out]; omega)
  have HB2 := Lib.hid hb2
  have hz2 : w.heap.size < w2.heap.size := by have := hb1.size; rw [hs0'.out] at this; omega
  clear hb1 hb2 HC HGB hc0 hc1 hc2 hc3 hc4 hc5 hm
  have HZ2 := Lib.hid hz2
  have hc0 := gb2.c0; have hc1 := gb2.c1; have hc2 := gb2.c2; have hc3 := gb2.c3; have hc4 := gb2.c4; have hc5 := gb2.c5
  clear gb2
  go_wp2_with fail
  have hms := run_mapS
  have hmn := run_mapN
  have hmk := fun w => mk_rwN (n := nN) (by omega) HNN.out w
  obtain ⟨wd, hwd⟩ : ∃ wd, wd = w2.drew := ⟨_, rfl⟩
  have hbd : Below w2.heap.size w2 wd := by rw [hwd]; exact (Below.refl _ _).drew
  have HBD := Lib.hid hbd
  have k0 : ∀ Z : WB w2.heap.size wd, Z.val.cell? ⟨w.heap.size, 0, none⟩ = some (.int .i64 G.terms) := fun Z => (Z.bel.cell (p := ⟨w.heap.size, 0, none⟩) hz2).trans ((hbd.cell (p := ⟨w.heap.size, 0, none⟩) hz2).trans hc0)
  have k1 : ∀ Z : WB w2.heap.size wd, Z.val.cell? ⟨w.heap.size, 1, none⟩ = some (.int .i64 G.names) := fun Z => (Z.bel.cell (p := ⟨w.heap.size, 1, none⟩) hz2).trans ((hbd.cell (p := ⟨w.heap.size, 1, none⟩) hz2).trans hc1)
  have k2 : ∀ Z : WB w2.heap.size wd, Z.val.cell? ⟨w.heap.size, 2, none⟩ = some (.int .i64 G.start) := fun Z => (Z.bel.cell (p := ⟨w.heap.size, 2, none⟩) hz2).trans ((hbd.cell (p := ⟨w.heap.size, 2, none⟩) hz2).trans hc2)
  have k3 : ∀ Z : WB w2.heap.size wd, Z.val.cell? ⟨w.heap.size, 3, none⟩ = some (.slice Ap np cp) := fun Z => (Z.bel.cell (p := ⟨w.heap.size, 3, none⟩) hz2).trans ((hbd.cell (p := ⟨w.heap.size, 3, none⟩) hz2).trans hc3)
  have k4 : ∀ Z : WB w2.heap.size wd, Z.val.cell? ⟨w.heap.size, 4, none⟩ = some (.slice Al nl cl) := fun Z => (Z.bel.cell (p := ⟨w.heap.size, 4, none⟩) hz2).trans ((hbd.cell (p := ⟨w.heap.size, 4, none⟩) hz2).trans hc4)
  have k5 : ∀ Z : WB w2.heap.size wd, Z.val.cell? ⟨w.heap.size, 5, none⟩ = some (.slice As ns cs) := fun Z => (Z.bel.cell (p := ⟨w.heap.size, 5, none⟩) hz2).trans ((hbd.cell (p := ⟨w.heap.size, 5, none⟩) hz2).trans hc5)
  have HN300 := Lib.hid hn1
  have hk0 : w.heap.size < w2.heap.size := hz2
  have HC3 := Lib.hid hc3
  clear hn1 hc0 hc1 hc2 hc3 hc4 hc5 hbd hz2
  refine wp_post (fun a a' w' => ∃ bn m1 m2 m3 c : Nat, a' = ⟨#[Value.agg #[Value.int .i64 G.terms, Value.int .i64 G.names, Value.int .i64 G.start, Value.slice Ap np cp, Value.slice Al nl cl, Value.slice As ns cs], Value.slice Ai ni ci, Value.pointer (some ⟨w.heap.size, 0, none⟩), undef, Value.pointer none, Value.pointer (some ⟨c, 0, none⟩), undef, undef, undef, Value.agg #[Value.int .i64 G.terms, Value.int .i64 G.names, Value.int .i64 G.start, Value.slice Ap np cp, Value.slice Al nl cl, Value.slice As ns cs], Value.bool true, Value.bool false, Value.bool false, Value.slice Ai ni ci, Value.int .i64 (ni : Int), Value.bool false, Value.bool false, Value.agg #[Value.int .i64 G.terms, Value.int .i64 G.names, Value.int .i64 G.start, Value.slice Ap np cp, Value.slice Al nl cl, Value.slice As ns cs], Value.slice Ai ni ci, Value.pointer (some ⟨w.heap.size, 1, none⟩), Value.int .i64 G.names, Value.slice (some ⟨bn, 0, none⟩) nN nN, Value.map (some m1), Value.map (some m2), Value.map (some m3), Value.agg #[Value.int .i64 G.terms, Value.int .i64 G.names, Value.int .i64 G.start, Value.slice Ap np cp, Value.slice Al nl cl, Value.slice As ns cs, Value.slice Ai ni ci, Value.slice (some ⟨bn, 0, none⟩) nN nN, Value.slice none 0 0, Value.map (some m1), Value.map (some m2), Value.map (some m3), Value.bool false], Value.pointer (some ⟨c, 0, none⟩), undef, undef, undef, undef, undef, undef, undef, undef, undef, undef, undef, undef, undef, undef, undef, undef, undef, undef, undef, undef, undef, undef, undef, undef, undef, undef, undef, undef, undef, undef, undef, undef, undef, undef, undef, undef, undef, undef, undef, undef, undef, undef, undef, undef, undef, undef, undef, undef, undef, undef, undef, undef, undef, undef, undef, undef, undef, undef], []⟩ ∧ NcA w2 w' bn m1 m2 m3 c nN G Ap Al As np cp nl cl ns cs Ai ni ci) ?_ ?_
  · focus
      refine wp_region_S (fun w' => ∃ X : WB w2.heap.size wd, w' = X.val) (by kernel_rfl) ?_
      rw [← hwd]
      clear hwd
      show wpAnyS _ _ _ _ _ (7 + 4) _ _ _
      refine takeS 7 0 4 (by kernel_rfl) (by kernel_rfl) (fun _ _ _ _ _ h => nomatch h.1) ⟨⟨_, Below.refl _ _⟩, rfl⟩ ?_
      simp only [List.take_succ_cons, List.take_zero, List.drop_succ_cons, List.drop_zero]
      repeat (first | go_big_quiet_skip | (go_big_quiet_want; go_big_quiet_op; go_big_quiet_on))
      refine wpQuiet_nil ?_
      clear k0 k1 k2 k3 k4 k5
      refine manyS 6 [4, 5, 6, 7] (by kernel_rfl) (by decide) (by decide) ?_
      refine List.forall_mem_cons.2 ⟨?_, List.forall_mem_cons.2 ⟨?_, List.forall_mem_cons.2 ⟨?_, List.forall_mem_cons.2 ⟨?_, fun _ h => nomatch h⟩⟩⟩⟩
      · focus
          simp only [List.take_succ_cons, List.take_zero, List.drop_succ_cons, List.drop_zero]
          go_wp2_with fail
          obtain ⟨y1, hy1⟩ : ∃ y1, y1 = wd.alloc (.cells (zs (.slice none 0 0) nN) 23) := ⟨_, rfl⟩
          have hby1 : Below wd.heap.size wd y1 := by rw [hy1]; exact (Below.refl _ _).alloc (Nat.le_refl _) _
          have Hzy1 : Hid (y1.heap.size = wd.heap.size + 1) := Lib.hid (by rw [hy1]; simp)
          have K4y1 : Hid (Blk y1 wd.heap.size 23 (List.replicate nN (.slice none 0 0))) := Lib.hid (by rw [hy1]; exact Blk.made wd _ _ nN)
          have HSy1 : Hid (w2.heap.size ≤ y1.heap.size) := Lib.hid (Nat.le_trans HBD.out.size hby1.size)
          have HBy1 : Hid (Below w2.heap.size wd y1) := Lib.hid ((Below.refl w2.heap.size wd).trans (hby1.mono HBD.out.size))
          rw [← hy1]
          clear hy1 hby1
          refine ⟨⟨WB.mk _ HBy1.out, rfl⟩, ?_⟩
          refine manyS 5 [5, 6, 7] (by kernel_rfl) (by decide) (by decide) ?_
          refine List.forall_mem_cons.2 ⟨?_, List.forall_mem_cons.2 ⟨?_, List.forall_mem_cons.2 ⟨?_, fun _ h => nomatch h⟩⟩⟩
          · focus
              simp only [List.take_succ_cons, List.take_zero, List.drop_succ_cons, List.drop_zero]
              go_wp2_with fail
              obtain ⟨y2, hy2⟩ : ∃ y2, y2 = y1.alloc (.map #[] 0) := ⟨_, rfl⟩
              have hby2 : Below y1.heap.size y1 y2 := by rw [hy2]; exact (Below.refl _ _).alloc (Nat.le_refl _) _
              have Hzy2 : Hid (y2.heap.size = y1.heap.size + 1) := Lib.hid (by rw [hy2]; simp)
              have K5y2 : Hid (KMap 46 zeroV y2 y1.heap.size 0 (fun _ => none)) := Lib.hid (by rw [hy2]; exact KMap.made _ (zd := _) rfl y1)
              have K4y2 := Lib.hid (K4y1.out.below' hby2)
              have HSy2 : Hid (w2.heap.size ≤ y2.heap.size) := Lib.hid (Nat.le_trans HSy1.out hby2.size)
              have HBy2 : Hid (Below w2.heap.size wd y2) := Lib.hid (HBy1.out.trans (hby2.mono HSy1.out))
              rw [← hy2]
              clear hy2 hby2
              refine ⟨⟨WB.mk _ HBy2.out, rfl⟩, ?_⟩
              refine manyS 4 [6, 7] (by kernel_rfl) (by decide) (by decide) ?_
              refine List.forall_mem_cons.2 ⟨?_, List.forall_mem_cons.2 ⟨?_, fun _ h => nomatch h⟩⟩
              · focus
                  simp only [List.take_succ_cons, List.take_zero, List.drop_succ_cons, List.drop_zero]
                  go_wp2_with fail
                  obtain ⟨y3, hy3⟩ : ∃ y3, y3 = y2.alloc (.map #[] 0) := ⟨_, rfl⟩
                  have hby3 : Below y2.heap.size y2 y3 := by rw [hy3]; exact (Below.refl _ _).alloc (Nat.le_refl _) _
                  have Hzy3 : Hid (y3.heap.size = y2.heap.size + 1) := Lib.hid (by rw [hy3]; simp)
                  have K6y3 : Hid (KMap 46 noneV y3 y2.heap.size 0 (fun _ => none)) := Lib.hid (by rw [hy3]; exact KMap.made _ (zd := _) rfl y2)
                  have K4y3 := Lib.hid (K4y2.out.below' hby3)
                  have K5y3 := Lib.hid (KMap.keep K5y2.out (Kp.of (S := fun _ => False) hby3) (fun q => q))
                  have HSy3 : Hid (w2.heap.size ≤ y3.heap.size) := Lib.hid (Nat.le_trans HSy2.out hby3.size)
                  have HBy3 : Hid (Below w2.heap.size wd y3) := Lib.hid (HBy2.out.trans (hby3.mono HSy2.out))
                  rw [← hy3]
                  clear hy3 hby3
                  refine ⟨⟨WB.mk _ HBy3.out, rfl⟩, ?_⟩
                  refine manyS 3 [7] (by kernel_rfl) (by decide) (by decide) ?_
                  refine List.forall_mem_cons.2 ⟨?_, fun _ h => nomatch h⟩
                  · focus
                      simp only [List.take_succ_cons, List.take_zero, List.drop_succ_cons, List.drop_zero]
                      go_wp2_with fail
                      obtain ⟨y4, hy4⟩ : ∃ y4, y4 = y3.alloc (.map #[] 0) := ⟨_, rfl⟩
                      have hby4 : Below y3.heap.size y3 y4 := by rw [hy4]; exact (Below.refl _ _).alloc (Nat.le_refl _) _
                      have Hzy4 : Hid (y4.heap.size = y3.heap.size + 1) := Lib.hid (by rw [hy4]; simp)
                      have K7y4 : Hid (KMap 46 zeroV y4 y3.heap.size 0 (fun _ => none)) := Lib.hid (by rw [hy4]; exact KMap.made _ (zd := _) rfl y3)
                      have K4y4 := Lib.hid (K4y3.out.below' hby4)
                      have K5y4 := Lib.hid (KMap.keep K5y3.out (Kp.of (S := fun _ => False) hby4) (fun q => q))
                      have K6y4 := Lib.hid (KMap.keep K6y3.out (Kp.of (S := fun _ => False) hby4) (fun q => q))
                      have HSy4 : Hid (w2.heap.size ≤ y4.heap.size) := Lib.hid (Nat.le_trans HSy3.out hby4.size)
                      have HBy4 : Hid (Below w2.heap.size wd y4) := Lib.hid (HBy3.out.trans (hby4.mono HSy3.out))
                      rw [← hy4]
                      clear hy4 hby4
                      refine ⟨⟨WB.mk _ HBy4.out, rfl⟩, ?_⟩
                      show wpAnyS _ _ _ _ _ (2 + 1) _ _ _
                      refine takeS 2 8 1 (by kernel_rfl) (by kernel_rfl) (fun _ _ _ _ _ h => nomatch h.1) ⟨⟨_, HBy4.out⟩, rfl⟩ ?_
                      simp only [List.take_succ_cons, List.take_zero, List.drop_succ_cons, List.drop_zero]
                      repeat (first | go_big_quiet_skip | (go_big_quiet_want; go_big_quiet_op; go_big_quiet_on))
                      refine wpQuiet_nil ?_
                      refine oneS 1 9 (by kernel_rfl) (by decide) ?_
                      simp only [List.take_succ_cons, List.take_zero, List.drop_succ_cons, List.drop_zero]
                      go_wp2_with fail
                      obtain ⟨y5, hy5⟩ : ∃ y5, y5 = y4.alloc (.cells (chC G Ap Al As np cp nl cl ns cs Ai ni ci (.slice (some ⟨wd.heap.size, 0, none⟩) nN nN) (.slice none 0 0) y1.heap.size y2.heap.size y3.heap.size).toArray 59) := ⟨_, rfl⟩
                      have hby5 : Below y4.heap.size y4 y5 := by rw [hy5]; exact (Below.refl _ _).alloc (Nat.le_refl _) _
                      have Kcy5 : Blk y5 y4.heap.size 59 (chC G Ap Al As np cp nl cl ns cs Ai ni ci (.slice (some ⟨wd.heap.size, 0, none⟩) nN nN) (.slice none 0 0) y1.heap.size y2.heap.size y3.heap.size) := by rw [hy5]; exact Blk.new y4 _ _
                      have HBy5 := HBD.out.trans ((HBy4.out).trans (hby5.mono HSy4.out))
                      have HF : Hid (NcA w2 y5 wd.heap.size y1.heap.size y2.heap.size y3.heap.size y4.heap.size nN G Ap Al As np cp nl cl ns cs Ai ni ci) := Lib.hid ⟨HBy5, K4y4.out.below' hby5, KMap.keep K5y4.out (Kp.of (S := fun _ => False) hby5) (fun q => q), KMap.keep K6y4.out (Kp.of (S := fun _ => False) hby5) (fun q => q), KMap.keep K7y4.out (Kp.of (S := fun _ => False) hby5) (fun q => q), Kcy5, by have := Hzy1.out; have := Hzy2.out; have := Hzy3.out; have := Hzy4.out; have := HBD.out.size; omega, by have := Hzy1.out; have := Hzy2.out; have := Hzy3.out; have := Hzy4.out; have := HBD.out.size; omega⟩
                      have HBX : Hid (Below w2.heap.size wd y5) := Lib.hid ((HBy4.out).trans (hby5.mono HSy4.out))
                      unfold chC at hy5
                      rw [← hy5]
                      clear hy5 hby5 Kcy5 HBy5
                      refine ⟨⟨WB.mk _ HBX.out, rfl⟩, ?_⟩
                      refine oneS 0 10 (by kernel_rfl) (by decide) ?_
                      simp only [List.take_succ_cons, List.take_zero, List.drop_succ_cons, List.drop_zero]
                      go_wp2_with fail
                      refine ⟨⟨WB.mk _ HBX.out, rfl⟩, ?_⟩
                      refine endS (by kernel_rfl) ?_
                      exact ⟨rfl, _, _, _, _, _, rfl, HF.out⟩
              · focus
                  simp only [List.take_succ_cons, List.take_zero, List.drop_succ_cons, List.drop_zero]
                  go_wp2_with fail
                  obtain ⟨y3, hy3⟩ : ∃ y3, y3 = y2.alloc (.map #[] 0) := ⟨_, rfl⟩
                  have hby3 : Below y2.heap.size y2 y3 := by rw [hy3]; exact (Below.refl _ _).alloc (Nat.le_refl _) _
                  have Hzy3 : Hid (y3.heap.size = y2.heap.size + 1) := Lib.hid (by rw [hy3]; simp)
                  have K7y3 : Hid (KMap 46 zeroV y3 y2.heap.size 0 (fun _ => none)) := Lib.hid (by rw [hy3]; exact KMap.made _ (zd := _) rfl y2)
                  have K4y3 := Lib.hid (K4y2.out.below' hby3)
                  have K5y3 := Lib.hid (KMap.keep K5y2.out (Kp.of (S := fun _ => False) hby3) (fun q => q))
                  have HSy3 : Hid (w2.heap.size ≤ y3.heap.size) := Lib.hid (Nat.le_trans HSy2.out hby3.size)
                  have HBy3 : Hid (Below w2.heap.size wd y3) := Lib.hid (HBy2.out.trans (hby3.mono HSy2.out))
                  rw [← hy3]
                  clear hy3 hby3
                  refine ⟨⟨WB.mk _ HBy3.out, rfl⟩, ?_⟩
                  refine manyS 3 [6] (by kernel_rfl) (by decide) (by decide) ?_
                  refine List.forall_mem_cons.2 ⟨?_, fun _ h => nomatch h⟩
                  · focus
                      simp only [List.take_succ_cons, List.take_zero, List.drop_succ_cons, List.drop_zero]
                      go_wp2_with fail
                      obtain ⟨y4, hy4⟩ : ∃ y4, y4 = y3.alloc (.map #[] 0) := ⟨_, rfl⟩
                      have hby4 : Below y3.heap.size y3 y4 := by rw [hy4]; exact (Below.refl _ _).alloc (Nat.le_refl _) _
                      have Hzy4 : Hid (y4.heap.size = y3.heap.size + 1) := Lib.hid (by rw [hy4]; simp)
                      have K6y4 : Hid (KMap 46 noneV y4 y3.heap.size 0 (fun _ => none)) := Lib.hid (by rw [hy4]; exact KMap.made _ (zd := _) rfl y3)
                      have K4y4 := Lib.hid (K4y3.out.below' hby4)
                      have K5y4 := Lib.hid (KMap.keep K5y3.out (Kp.of (S := fun _ => False) hby4) (fun q => q))
                      have K7y4 := Lib.hid (KMap.keep K7y3.out (Kp.of (S := fun _ => False) hby4) (fun q => q))
                      have HSy4 : Hid (w2.heap.size ≤ y4.heap.size) := Lib.hid (Nat.le_trans HSy3.out hby4.size)
                      have HBy4 : Hid (Below w2.heap.size wd y4) := Lib.hid (HBy3.out.trans (hby4.mono HSy3.out))
                      rw [← hy4]
                      clear hy4 hby4
                      refine ⟨⟨WB.mk _ HBy4.out, rfl⟩, ?_⟩
                      show wpAnyS _ _ _ _ _ (2 + 1) _ _ _
                      refine takeS 2 8 1 (by kernel_rfl) (by kernel_rfl) (fun _ _ _ _ _ h => nomatch h.1) ⟨⟨_, HBy4.out⟩, rfl⟩ ?_
                      simp only [List.take_succ_cons, List.take_zero, List.drop_succ_cons, List.drop_zero]
                      repeat (first | go_big_quiet_skip | (go_big_quiet_want; go_big_quiet_op; go_big_quiet_on))
                      refine wpQuiet_nil ?_
                      refine oneS 1 9 (by kernel_rfl) (by decide) ?_
                      simp only [List.take_succ_cons, List.take_zero, List.drop_succ_cons, List.drop_zero]
                      go_wp2_with fail
                      obtain ⟨y5, hy5⟩ : ∃ y5, y5 = y4.alloc (.cells (chC G Ap Al As np cp nl cl ns cs Ai ni ci (.slice (some ⟨wd.heap.size, 0, none⟩) nN nN) (.slice none 0 0) y1.heap.size y3.heap.size y2.heap.size).toArray 59) := ⟨_, rfl⟩
                      have hby5 : Below y4.heap.size y4 y5 := by rw [hy5]; exact (Below.refl _ _).alloc (Nat.le_refl _) _
                      have Kcy5 : Blk y5 y4.heap.size 59 (chC G Ap Al As np cp nl cl ns cs Ai ni ci (.slice (some ⟨wd.heap.size, 0, none⟩) nN nN) (.slice none 0 0) y1.heap.size y3.heap.size y2.heap.size) := by rw [hy5]; exact Blk.new y4 _ _
                      have HBy5 := HBD.out.trans ((HBy4.out).trans (hby5.mono HSy4.out))
                      have HF : Hid (NcA w2 y5 wd.heap.size y1.heap.size y3.heap.size y2.heap.size y4.heap.size nN G Ap Al As np cp nl cl ns cs Ai ni ci) := Lib.hid ⟨HBy5, K4y4.out.below' hby5, KMap.keep K5y4.out (Kp.of (S := fun _ => False) hby5) (fun q => q), KMap.keep K6y4.out (Kp.of (S := fun _ => False) hby5) (fun q => q), KMap.keep K7y4.out (Kp.of (S := fun _ => False) hby5) (fun q => q), Kcy5, by have := Hzy1.out; have := Hzy2.out; have := Hzy3.out; have := Hzy4.out; have := HBD.out.size; omega, by have := Hzy1.out; have := Hzy2.out; have := Hzy3.out; have := Hzy4.out; have := HBD.out.size; omega⟩
                      have HBX : Hid (Below w2.heap.size wd y5) := Lib.hid ((HBy4.out).trans (hby5.mono HSy4.out))
                      unfold chC at hy5
                      rw [← hy5]
                      clear hy5 hby5 Kcy5 HBy5
                      refine ⟨⟨WB.mk _ HBX.out, rfl⟩, ?_⟩
                      refine oneS 0 10 (by kernel_rfl) (by decide) ?_
                      simp only [List.take_succ_cons, List.take_zero, List.drop_succ_cons, List.drop_zero]
                      go_wp2_with fail
                      refine ⟨⟨WB.mk _ HBX.out, rfl⟩, ?_⟩
                      refine endS (by kernel_rfl) ?_
                      exact ⟨rfl, _, _, _, _, _, rfl, HF.out⟩
          · focus
              simp only [List.take_succ_cons, List.take_zero, List.drop_succ_cons, List.drop_zero]
              go_wp2_with fail
              obtain ⟨y2, hy2⟩ : ∃ y2, y2 = y1.alloc (.map #[] 0) := ⟨_, rfl⟩
              have hby2 : Below y1.heap.size y1 y2 := by rw [hy2]; exact (Below.refl _ _).alloc (Nat.le_refl _) _
              have Hzy2 : Hid (y2.heap.size = y1.heap.size + 1) := Lib.hid (by rw [hy2]; simp)
              have K6y2 : Hid (KMap 46 noneV y2 y1.heap.size 0 (fun _ => none)) := Lib.hid (by rw [hy2]; exact KMap.made _ (zd := _) rfl y1)
              have K4y2 := Lib.hid (K4y1.out.below' hby2)
              have HSy2 : Hid (w2.heap.size ≤ y2.heap.size) := Lib.hid (Nat.le_trans HSy1.out hby2.size)
              have HBy2 : Hid (Below w2.heap.size wd y2) := Lib.hid (HBy1.out.trans (hby2.mono HSy1.out))
              rw [← hy2]
              clear hy2 hby2
              refine ⟨⟨WB.mk _ HBy2.out, rfl⟩, ?_⟩
              refine manyS 4 [5, 7] (by kernel_rfl) (by decide) (by decide) ?_
              refine List.forall_mem_cons.2 ⟨?_, List.forall_mem_cons.2 ⟨?_, fun _ h => nomatch h⟩⟩
              · focus
                  simp only [List.take_succ_cons, List.take_zero, List.drop_succ_cons, List.drop_zero]
                  go_wp2_with fail
                  obtain ⟨y3, hy3⟩ : ∃ y3, y3 = y2.alloc (.map #[] 0) := ⟨_, rfl⟩
                  have hby3 : Below y2.heap.size y2 y3 := by rw [hy3]; exact (Below.refl _ _).alloc (Nat.le_refl _) _
                  have Hzy3 : Hid (y3.heap.size = y2.heap.size + 1) := Lib.hid (by rw [hy3]; simp)
                  have K5y3 : Hid (KMap 46 zeroV y3 y2.heap.size 0 (fun _ => none)) := Lib.hid (by rw [hy3]; exact KMap.made _ (zd := _) rfl y2)
                  have K4y3 := Lib.hid (K4y2.out.below' hby3)
                  have K6y3 := Lib.hid (KMap.keep K6y2.out (Kp.of (S := fun _ => False) hby3) (fun q => q))
                  have HSy3 : Hid (w2.heap.size ≤ y3.heap.size) := Lib.hid (Nat.le_trans HSy2.out hby3.size)
                  have HBy3 : Hid (Below w2.heap.size wd y3) := Lib.hid (HBy2.out.trans (hby3.mono HSy2.out))
                  rw [← hy3]
                  clear hy3 hby3
                  refine ⟨⟨WB.mk _ HBy3.out, rfl⟩, ?_⟩
                  refine manyS 3 [7] (by kernel_rfl) (by decide) (by decide) ?_
                  refine List.forall_mem_cons.2 ⟨?_, fun _ h => nomatch h⟩
                  · focus
                      simp only [List.take_succ_cons, List.take_zero, List.drop_succ_cons, List.drop_zero]
                      go_wp2_with fail
                      obtain ⟨y4, hy4⟩ : ∃ y4, y4 = y3.alloc (.map #[] 0) := ⟨_, rfl⟩
                      have hby4 : Below y3.heap.size y3 y4 := by rw [hy4]; exact (Below.refl _ _).alloc (Nat.le_refl _) _
                      have Hzy4 : Hid (y4.heap.size = y3.heap.size + 1) := Lib.hid (by rw [hy4]; simp)
                      have K7y4 : Hid (KMap 46 zeroV y4 y3.heap.size 0 (fun _ => none)) := Lib.hid (by rw [hy4]; exact KMap.made _ (zd := _) rfl y3)
                      have K4y4 := Lib.hid (K4y3.out.below' hby4)
                      have K6y4 := Lib.hid (KMap.keep K6y3.out (Kp.of (S := fun _ => False) hby4) (fun q => q))
                      have K5y4 := Lib.hid (KMap.keep K5y3.out (Kp.of (S := fun _ => False) hby4) (fun q => q))
                      have HSy4 : Hid (w2.heap.size ≤ y4.heap.size) := Lib.hid (Nat.le_trans HSy3.out hby4.size)
                      have HBy4 : Hid (Below w2.heap.size wd y4) := Lib.hid (HBy3.out.trans (hby4.mono HSy3.out))
                      rw [← hy4]
                      clear hy4 hby4
                      refine ⟨⟨WB.mk _ HBy4.out, rfl⟩, ?_⟩
                      show wpAnyS _ _ _ _ _ (2 + 1) _ _ _
                      refine takeS 2 8 1 (by kernel_rfl) (by kernel_rfl) (fun _ _ _ _ _ h => nomatch h.1) ⟨⟨_, HBy4.out⟩, rfl⟩ ?_
                      simp only [List.take_succ_cons, List.take_zero, List.drop_succ_cons, List.drop_zero]
                      repeat (first | go_big_quiet_skip | (go_big_quiet_want; go_big_quiet_op; go_big_quiet_on))
                      refine wpQuiet_nil ?_
                      refine oneS 1 9 (by kernel_rfl) (by decide) ?_
                      simp only [List.take_succ_cons, List.take_zero, List.drop_succ_cons, List.drop_zero]
                      go_wp2_with fail
                      obtain ⟨y5, hy5⟩ : ∃ y5, y5 = y4.alloc (.cells (chC G Ap Al As np cp nl cl ns cs Ai ni ci (.slice (some ⟨wd.heap.size, 0, none⟩) nN nN) (.slice none 0 0) y2.heap.size y1.heap.size y3.heap.size).toArray 59) := ⟨_, rfl⟩
                      have hby5 : Below y4.heap.size y4 y5 := by rw [hy5]; exact (Below.refl _ _).alloc (Nat.le_refl _) _
                      have Kcy5 : Blk y5 y4.heap.size 59 (chC G Ap Al As np cp nl cl ns cs Ai ni ci (.slice (some ⟨wd.heap.size, 0, none⟩) nN nN) (.slice none 0 0) y2.heap.size y1.heap.size y3.heap.size) := by rw [hy5]; exact Blk.new y4 _ _
                      have HBy5 := HBD.out.trans ((HBy4.out).trans (hby5.mono HSy4.out))
                      have HF : Hid (NcA w2 y5 wd.heap.size y2.heap.size y1.heap.size y3.heap.size y4.heap.size nN G Ap Al As np cp nl cl ns cs Ai ni ci) := Lib.hid ⟨HBy5, K4y4.out.below' hby5, KMap.keep K5y4.out (Kp.of (S := fun _ => False) hby5) (fun q => q), KMap.keep K6y4.out (Kp.of (S := fun _ => False) hby5) (fun q => q), KMap.keep K7y4.out (Kp.of (S := fun _ => False) hby5) (fun q => q), Kcy5, by have := Hzy1.out; have := Hzy2.out; have := Hzy3.out; have := Hzy4.out; have := HBD.out.size; omega, by have := Hzy1.out; have := Hzy2.out; have := Hzy3.out; have := Hzy4.out; have := HBD.out.size; omega⟩
                      have HBX : Hid (Below w2.heap.size wd y5) := Lib.hid ((HBy4.out).trans (hby5.mono HSy4.out))
                      unfold chC at hy5
                      rw [← hy5]
                      clear hy5 hby5 Kcy5 HBy5
                      refine ⟨⟨WB.mk _ HBX.out, rfl⟩, ?_⟩
                      refine oneS 0 10 (by kernel_rfl) (by decide) ?_
                      simp only [List.take_succ_cons, List.take_zero, List.drop_succ_cons, List.drop_zero]
                      go_wp2_with fail
                      refine ⟨⟨WB.mk _ HBX.out, rfl⟩, ?_⟩
                      refine endS (by kernel_rfl) ?_
                      exact ⟨rfl, _, _, _, _, _, rfl, HF.out⟩
              · focus
                  simp only [List.take_succ_cons, List.take_zero, List.drop_succ_cons, List.drop_zero]
                  go_wp2_with fail
                  obtain ⟨y3, hy3⟩ : ∃ y3, y3 = y2.alloc (.map #[] 0) := ⟨_, rfl⟩
                  have hby3 : Below y2.heap.size y2 y3 := by rw [hy3]; exact (Below.refl _ _).alloc (Nat.le_refl _) _
                  have Hzy3 : Hid (y3.heap.size = y2.heap.size + 1) := Lib.hid (by rw [hy3]; simp)
                  have K7y3 : Hid (KMap 46 zeroV y3 y2.heap.size 0 (fun _ => none)) := Lib.hid (by rw [hy3]; exact KMap.made _ (zd := _) rfl y2)
                  have K4y3 := Lib.hid (K4y2.out.below' hby3)
                  have K6y3 := Lib.hid (KMap.keep K6y2.out (Kp.of (S := fun _ => False) hby3) (fun q => q))
                  have HSy3 : Hid (w2.heap.size ≤ y3.heap.size) := Lib.hid (Nat.le_trans HSy2.out hby3.size)
                  have HBy3 : Hid (Below w2.heap.size wd y3) := Lib.hid (HBy2.out.trans (hby3.mono HSy2.out))
                  rw [← hy3]
                  clear hy3 hby3
                  refine ⟨⟨WB.mk _ HBy3.out, rfl⟩, ?_⟩
                  refine manyS 3 [5] (by kernel_rfl) (by decide) (by decide) ?_
                  refine List.forall_mem_cons.2 ⟨?_, fun _ h => nomatch h⟩
                  · focus
                      simp only [List.take_succ_cons, List.take_zero, List.drop_succ_cons, List.drop_zero]
                      go_wp2_with fail
                      obtain ⟨y4, hy4⟩ : ∃ y4, y4 = y3.alloc (.map #[] 0) := ⟨_, rfl⟩
                      have hby4 : Below y3.heap.size y3 y4 := by rw [hy4]; exact (Below.refl _ _).alloc (Nat.le_refl _) _
                      have Hzy4 : Hid (y4.heap.size = y3.heap.size + 1) := Lib.hid (by rw [hy4]; simp)
                      have K5y4 : Hid (KMap 46 zeroV y4 y3.heap.size 0 (fun _ => none)) := Lib.hid (by rw [hy4]; exact KMap.made _ (zd := _) rfl y3)
                      have K4y4 := Lib.hid (K4y3.out.below' hby4)
                      have K6y4 := Lib.hid (KMap.keep K6y3.out (Kp.of (S := fun _ => False) hby4) (fun q => q))
                      have K7y4 := Lib.hid (KMap.keep K7y3.out (Kp.of (S := fun _ => False) hby4) (fun q => q))
                      have HSy4 : Hid (w2.heap.size ≤ y4.heap.size) := Lib.hid (Nat.le_trans HSy3.out hby4.size)
                      have HBy4 : Hid (Below w2.heap.size wd y4) := Lib.hid (HBy3.out.trans (hby4.mono HSy3.out))
                      rw [← hy4]
                      clear hy4 hby4
                      refine ⟨⟨WB.mk _ HBy4.out, rfl⟩, ?_⟩
                      show wpAnyS _ _ _ _ _ (2 + 1) _ _ _
                      refine takeS 2 8 1 (by kernel_rfl) (by kernel_rfl) (fun _ _ _ _ _ h => nomatch h.1) ⟨⟨_, HBy4.out⟩, rfl⟩ ?_
                      simp only [List.take_succ_cons, List.take_zero, List.drop_succ_cons, List.drop_zero]
                      repeat (first | go_big_quiet_skip | (go_big_quiet_want; go_big_quiet_op; go_big_quiet_on))
                      refine wpQuiet_nil ?_
                      refine oneS 1 9 (by kernel_rfl) (by decide) ?_
                      simp only [List.take_succ_cons, List.take_zero, List.drop_succ_cons, List.drop_zero]
                      go_wp2_with fail
                      obtain ⟨y5, hy5⟩ : ∃ y5, y5 = y4.alloc (.cells (chC G Ap Al As np cp nl cl ns cs Ai ni ci (.slice (some ⟨wd.heap.size, 0, none⟩) nN nN) (.slice none 0 0) y3.heap.size y1.heap.size y2.heap.size).toArray 59) := ⟨_, rfl⟩
                      have hby5 : Below y4.heap.size y4 y5 := by rw [hy5]; exact (Below.refl _ _).alloc (Nat.le_refl _) _
                      have Kcy5 : Blk y5 y4.heap.size 59 (chC G Ap Al As np cp nl cl ns cs Ai ni ci (.slice (some ⟨wd.heap.size, 0, none⟩) nN nN) (.slice none 0 0) y3.heap.size y1.heap.size y2.heap.size) := by rw [hy5]; exact Blk.new y4 _ _
                      have HBy5 := HBD.out.trans ((HBy4.out).trans (hby5.mono HSy4.out))
                      have HF : Hid (NcA w2 y5 wd.heap.size y3.heap.size y1.heap.size y2.heap.size y4.heap.size nN G Ap Al As np cp nl cl ns cs Ai ni ci) := Lib.hid ⟨HBy5, K4y4.out.below' hby5, KMap.keep K5y4.out (Kp.of (S := fun _ => False) hby5) (fun q => q), KMap.keep K6y4.out (Kp.of (S := fun _ => False) hby5) (fun q => q), KMap.keep K7y4.out (Kp.of (S := fun _ => False) hby5) (fun q => q), Kcy5, by have := Hzy1.out; have := Hzy2.out; have := Hzy3.out; have := Hzy4.out; have := HBD.out.size; omega, by have := Hzy1.out; have := Hzy2.out; have := Hzy3.out; have := Hzy4.out; have := HBD.out.size; omega⟩
                      have HBX : Hid (Below w2.heap.size wd y5) := Lib.hid ((HBy4.out).trans (hby5.mono HSy4.out))
                      unfold chC at hy5
                      rw [← hy5]
                      clear hy5 hby5 Kcy5 HBy5
                      refine ⟨⟨WB.mk _ HBX.out, rfl⟩, ?_⟩
                      refine oneS 0 10 (by kernel_rfl) (by decide) ?_
                      simp only [List.take_succ_cons, List.take_zero, List.drop_succ_cons, List.drop_zero]
                      go_wp2_with fail
                      refine ⟨⟨WB.mk _ HBX.out, rfl⟩, ?_⟩
                      refine endS (by kernel_rfl) ?_
                      exact ⟨rfl, _, _, _, _, _, rfl, HF.out⟩
          · focus
              simp only [List.take_succ_cons, List.take_zero, List.drop_succ_cons, List.drop_zero]
              go_wp2_with fail
              obtain ⟨y2, hy2⟩ : ∃ y2, y2 = y1.alloc (.map #[] 0) := ⟨_, rfl⟩
              have hby2 : Below y1.heap.size y1 y2 := by rw [hy2]; exact (Below.refl _ _).alloc (Nat.le_refl _) _
              have Hzy2 : Hid (y2.heap.size = y1.heap.size + 1) := Lib.hid (by rw [hy2]; simp)
              have K7y2 : Hid (KMap 46 zeroV y2 y1.heap.size 0 (fun _ => none)) := Lib.hid (by rw [hy2]; exact KMap.made _ (zd := _) rfl y1)
              have K4y2 := Lib.hid (K4y1.out.below' hby2)
              have HSy2 : Hid (w2.heap.size ≤ y2.heap.size) := Lib.hid (Nat.le_trans HSy1.out hby2.size)
              have HBy2 : Hid (Below w2.heap.size wd y2) := Lib.hid (HBy1.out.trans (hby2.mono HSy1.out))
              rw [← hy2]
              clear hy2 hby2
              refine ⟨⟨WB.mk _ HBy2.out, rfl⟩, ?_⟩
              refine manyS 4 [5, 6] (by kernel_rfl) (by decide) (by decide) ?_
              refine List.forall_mem_cons.2 ⟨?_, List.forall_mem_cons.2 ⟨?_, fun _ h => nomatch h⟩⟩
              · focus
                  simp only [List.take_succ_cons, List.take_zero, List.drop_succ_cons, List.drop_zero]
                  go_wp2_with fail
                  obtain ⟨y3, hy3⟩ : ∃ y3, y3 = y2.alloc (.map #[] 0) := ⟨_, rfl⟩
                  have hby3 : Below y2.heap.size y2 y3 := by rw [hy3]; exact (Below.refl _ _).alloc (Nat.le_refl _) _
                  have Hzy3 : Hid (y3.heap.size = y2.heap.size + 1) := Lib.hid (by rw [hy3]; simp)
                  have K5y3 : Hid (KMap 46 zeroV y3 y2.heap.size 0 (fun _ => none)) := Lib.hid (by rw [hy3]; exact KMap.made _ (zd := _) rfl y2)
                  have K4y3 := Lib.hid (K4y2.out.below' hby3)
                  have K7y3 := Lib.hid (KMap.keep K7y2.out (Kp.of (S := fun _ => False) hby3) (fun q => q))
                  have HSy3 : Hid (w2.heap.size ≤ y3.heap.size) := Lib.hid (Nat.le_trans HSy2.out hby3.size)
                  have HBy3 : Hid (Below w2.heap.size wd y3) := Lib.hid (HBy2.out.trans (hby3.mono HSy2.out))
                  rw [← hy3]
                  clear hy3 hby3
                  refine ⟨⟨WB.mk _ HBy3.out, rfl⟩, ?_⟩
                  refine manyS 3 [6] (by kernel_rfl) (by decide) (by decide) ?_
                  refine List.forall_mem_cons.2 ⟨?_, fun _ h => nomatch h⟩
                  · focus
                      simp only [List.take_succ_cons, List.take_zero, List.drop_succ_cons, List.drop_zero]
                      go_wp2_with fail
                      obtain ⟨y4, hy4⟩ : ∃ y4, y4 = y3.alloc (.map #[] 0) := ⟨_, rfl⟩
                      have hby4 : Below y3.heap.size y3 y4 := by rw [hy4]; exact (Below.refl _ _).alloc (Nat.le_refl _) _
                      have Hzy4 : Hid (y4.heap.size = y3.heap.size + 1) := Lib.hid (by rw [hy4]; simp)
                      have K6y4 : Hid (KMap 46 noneV y4 y3.heap.size 0 (fun _ => none)) := Lib.hid (by rw [hy4]; exact KMap.made _ (zd := _) rfl y3)
                      have K4y4 := Lib.hid (K4y3.out.below' hby4)
                      have K7y4 := Lib.hid (KMap.keep K7y3.out (Kp.of (S := fun _ => False) hby4) (fun q => q))
                      have K5y4 := Lib.hid (KMap.keep K5y3.out (Kp.of (S := fun _ => False) hby4) (fun q => q))
                      have HSy4 : Hid (w2.heap.size ≤ y4.heap.size) := Lib.hid (Nat.le_trans HSy3.out hby4.size)
                      have HBy4 : Hid (Below w2.heap.size wd y4) := Lib.hid (HBy3.out.trans (hby4.mono HSy3.out))
                      rw [← hy4]
                      clear hy4 hby4
                      refine ⟨⟨WB.mk _ HBy4.out, rfl⟩, ?_⟩
                      show wpAnyS _ _ _ _ _ (2 + 1) _ _ _
                      refine takeS 2 8 1 (by kernel_rfl) (by kernel_rfl) (fun _ _ _ _ _ h => nomatch h.1) ⟨⟨_, HBy4.out⟩, rfl⟩ ?_
                      simp only [List.take_succ_cons, List.take_zero, List.drop_succ_cons, List.drop_zero]
                      repeat (first | go_big_quiet_skip | (go_big_quiet_want; go_big_quiet_op; go_big_quiet_on))
                      refine wpQuiet_nil ?_
                      refine oneS 1 9 (by kernel_rfl) (by decide) ?_
                      simp only [List.take_succ_cons, List.take_zero, List.drop_succ_cons, List.drop_zero]
                      go_wp2_with fail
                      obtain ⟨y5, hy5⟩ : ∃ y5, y5 = y4.alloc (.cells (chC G Ap Al As np cp nl cl ns cs Ai ni ci (.slice (some ⟨wd.heap.size, 0, none⟩) nN nN) (.slice none 0 0) y2.heap.size y3.heap.size y1.heap.size).toArray 59) := ⟨_, rfl⟩
                      have hby5 : Below y4.heap.size y4 y5 := by rw [hy5]; exact (Below.refl _ _).alloc (Nat.le_refl _) _
                      have Kcy5 : Blk y5 y4.heap.size 59 (chC G Ap Al As np cp nl cl ns cs Ai ni ci (.slice (some ⟨wd.heap.size, 0, none⟩) nN nN) (.slice none 0 0) y2.heap.size y3.heap.size y1.heap.size) := by rw [hy5]; exact Blk.new y4 _ _
                      have HBy5 := HBD.out.trans ((HBy4.out).trans (hby5.mono HSy4.out))
                      have HF : Hid (NcA w2 y5 wd.heap.size y2.heap.size y3.heap.size y1.heap.size y4.heap.size nN G Ap Al As np cp nl cl ns cs Ai ni ci) := Lib.hid ⟨HBy5, K4y4.out.below' hby5, KMap.keep K5y4.out (Kp.of (S := fun _ => False) hby5) (fun q => q), KMap.keep K6y4.out (Kp.of (S := fun _ => False) hby5) (fun q => q), KMap.keep K7y4.out (Kp.of (S := fun _ => False) hby5) (fun q => q), Kcy5, by have := Hzy1.out; have := Hzy2.out; have := Hzy3.out; have := Hzy4.out; have := HBD.out.size; omega, by have := Hzy1.out; have := Hzy2.out; have := Hzy3.out; have := Hzy4.out; have := HBD.out.size; omega⟩
                      have HBX : Hid (Below w2.heap.size wd y5) := Lib.hid ((HBy4.out).trans (hby5.mono HSy4.out))
                      unfold chC at hy5
                      rw [← hy5]
                      clear hy5 hby5 Kcy5 HBy5
                      refine ⟨⟨WB.mk _ HBX.out, rfl⟩, ?_⟩
                      refine oneS 0 10 (by kernel_rfl) (by decide) ?_
                      simp only [List.take_succ_cons, List.take_zero, List.drop_succ_cons, List.drop_zero]
                      go_wp2_with fail
                      refine ⟨⟨WB.mk _ HBX.out, rfl⟩, ?_⟩
                      refine endS (by kernel_rfl) ?_
                      exact ⟨rfl, _, _, _, _, _, rfl, HF.out⟩
              · focus
                  simp only [List.take_succ_cons, List.take_zero, List.drop_succ_cons, List.drop_zero]
                  go_wp2_with fail
                  obtain ⟨y3, hy3⟩ : ∃ y3, y3 = y2.alloc (.map #[] 0) := ⟨_, rfl⟩
                  have hby3 : Below y2.heap.size y2 y3 := by rw [hy3]; exact (Below.refl _ _).alloc (Nat.le_refl _) _
                  have Hzy3 : Hid (y3.heap.size = y2.heap.size + 1) := Lib.hid (by rw [hy3]; simp)
                  have K6y3 : Hid (KMap 46 noneV y3 y2.heap.size 0 (fun _ => none)) := Lib.hid (by rw [hy3]; exact KMap.made _ (zd := _) rfl y2)
                  have K4y3 := Lib.hid (K4y2.out.below' hby3)
                  have K7y3 := Lib.hid (KMap.keep K7y2.out (Kp.of (S := fun _ => False) hby3) (fun q => q))
                  have HSy3 : Hid (w2.heap.size ≤ y3.heap.size) := Lib.hid (Nat.le_trans HSy2.out hby3.size)
                  have HBy3 : Hid (Below w2.heap.size wd y3) := Lib.hid (HBy2.out.trans (hby3.mono HSy2.out))
                  rw [← hy3]
                  clear hy3 hby3
                  refine ⟨⟨WB.mk _ HBy3.out, rfl⟩, ?_⟩
                  refine manyS 3 [5] (by kernel_rfl) (by decide) (by decide) ?_
                  refine List.forall_mem_cons.2 ⟨?_, fun _ h => nomatch h⟩
                  · focus
                      simp only [List.take_succ_cons, List.take_zero, List.drop_succ_cons, List.drop_zero]
                      go_wp2_with fail
                      obtain ⟨y4, hy4⟩ : ∃ y4, y4 = y3.alloc (.map #[] 0) := ⟨_, rfl⟩
                      have hby4 : Below y3.heap.size y3 y4 := by rw [hy4]; exact (Below.refl _ _).alloc (Nat.le_refl _) _
                      have Hzy4 : Hid (y4.heap.size = y3.heap.size + 1) := Lib.hid (by rw [hy4]; simp)
                      have K5y4 : Hid (KMap 46 zeroV y4 y3.heap.size 0 (fun _ => none)) := Lib.hid (by rw [hy4]; exact KMap.made _ (zd := _) rfl y3)
                      have K4y4 := Lib.hid (K4y3.out.below' hby4)
                      have K7y4 := Lib.hid (KMap.keep K7y3.out (Kp.of (S := fun _ => False) hby4) (fun q => q))
                      have K6y4 := Lib.hid (KMap.keep K6y3.out (Kp.of (S := fun _ => False) hby4) (fun q => q))
                      have HSy4 : Hid (w2.heap.size ≤ y4.heap.size) := Lib.hid (Nat.le_trans HSy3.out hby4.size)
                      have HBy4 : Hid (Below w2.heap.size wd y4) := Lib.hid (HBy3.out.trans (hby4.mono HSy3.out))
                      rw [← hy4]
                      clear hy4 hby4
                      refine ⟨⟨WB.mk _ HBy4.out, rfl⟩, ?_⟩
                      show wpAnyS _ _ _ _ _ (2 + 1) _ _ _
                      refine takeS 2 8 1 (by kernel_rfl) (by kernel_rfl) (fun _ _ _ _ _ h => nomatch h.1) ⟨⟨_, HBy4.out⟩, rfl⟩ ?_
                      simp only [List.take_succ_cons, List.take_zero, List.drop_succ_cons, List.drop_zero]
                      repeat (first | go_big_quiet_skip | (go_big_quiet_want; go_big_quiet_op; go_big_quiet_on))
                      refine wpQuiet_nil ?_
                      refine oneS 1 9 (by kernel_rfl) (by decide) ?_
                      simp only [List.take_succ_cons, List.take_zero, List.drop_succ_cons, List.drop_zero]
                      go_wp2_with fail
                      obtain ⟨y5, hy5⟩ : ∃ y5, y5 = y4.alloc (.cells (chC G Ap Al As np cp nl cl ns cs Ai ni ci (.slice (some ⟨wd.heap.size, 0, none⟩) nN nN) (.slice none 0 0) y3.heap.size y2.heap.size y1.heap.size).toArray 59) := ⟨_, rfl⟩
                      have hby5 : Below y4.heap.size y4 y5 := by rw [hy5]; exact (Below.refl _ _).alloc (Nat.le_refl _) _
                      have Kcy5 : Blk y5 y4.heap.size 59 (chC G Ap Al As np cp nl cl ns cs Ai ni ci (.slice (some ⟨wd.heap.size, 0, none⟩) nN nN) (.slice none 0 0) y3.heap.size y2.heap.size y1.heap.size) := by rw [hy5]; exact Blk.new y4 _ _
                      have HBy5 := HBD.out.trans ((HBy4.out).trans (hby5.mono HSy4.out))
                      have HF : Hid (NcA w2 y5 wd.heap.size y3.heap.size y2.heap.size y1.heap.size y4.heap.size nN G Ap Al As np cp nl cl ns cs Ai ni ci) := Lib.hid ⟨HBy5, K4y4.out.below' hby5, KMap.keep K5y4.out (Kp.of (S := fun _ => False) hby5) (fun q => q), KMap.keep K6y4.out (Kp.of (S := fun _ => False) hby5) (fun q => q), KMap.keep K7y4.out (Kp.of (S := fun _ => False) hby5) (fun q => q), Kcy5, by have := Hzy1.out; have := Hzy2.out; have := Hzy3.out; have := Hzy4.out; have := HBD.out.size; omega, by have := Hzy1.out; have := Hzy2.out; have := Hzy3.out; have := Hzy4.out; have := HBD.out.size; omega⟩
                      have HBX : Hid (Below w2.heap.size wd y5) := Lib.hid ((HBy4.out).trans (hby5.mono HSy4.out))
                      unfold chC at hy5
                      rw [← hy5]
                      clear hy5 hby5 Kcy5 HBy5
                      refine ⟨⟨WB.mk _ HBX.out, rfl⟩, ?_⟩
                      refine oneS 0 10 (by kernel_rfl) (by decide) ?_
                      simp only [List.take_succ_cons, List.take_zero, List.drop_succ_cons, List.drop_zero]
                      go_wp2_with fail
                      refine ⟨⟨WB.mk _ HBX.out, rfl⟩, ?_⟩
                      refine endS (by kernel_rfl) ?_
                      exact ⟨rfl, _, _, _, _, _, rfl, HF.out⟩
      · focus
          simp only [List.take_succ_cons, List.take_zero, List.drop_succ_cons, List.drop_zero]
          go_wp2_with fail
          obtain ⟨y1, hy1⟩ : ∃ y1, y1 = wd.alloc (.map #[] 0) := ⟨_, rfl⟩
          have hby1 : Below wd.heap.size wd y1 := by rw [hy1]; exact (Below.refl _ _).alloc (Nat.le_refl _) _
          have Hzy1 : Hid (y1.heap.size = wd.heap.size + 1) := Lib.hid (by rw [hy1]; simp)
          have K5y1 : Hid (KMap 46 zeroV y1 wd.heap.size 0 (fun _ => none)) := Lib.hid (by rw [hy1]; exact KMap.made _ (zd := _) rfl wd)
          have HSy1 : Hid (w2.heap.size ≤ y1.heap.size) := Lib.hid (Nat.le_trans HBD.out.size hby1.size)
          have HBy1 : Hid (Below w2.heap.size wd y1) := Lib.hid ((Below.refl w2.heap.size wd).trans (hby1.mono HBD.out.size))
          rw [← hy1]
          clear hy1 hby1
          refine ⟨⟨WB.mk _ HBy1.out, rfl⟩, ?_⟩
          refine manyS 5 [4, 6, 7] (by kernel_rfl) (by decide) (by decide) ?_
          refine List.forall_mem_cons.2 ⟨?_, List.forall_mem_cons.2 ⟨?_, List.forall_mem_cons.2 ⟨?_, fun _ h => nomatch h⟩⟩⟩
          · focus
              simp only [List.take_succ_cons, List.take_zero, List.drop_succ_cons, List.drop_zero]
              go_wp2_with fail
              obtain ⟨y2, hy2⟩ : ∃ y2, y2 = y1.alloc (.cells (zs (.slice none 0 0) nN) 23) := ⟨_, rfl⟩
              have hby2 : Below y1.heap.size y1 y2 := by rw [hy2]; exact (Below.refl _ _).alloc (Nat.le_refl _) _
              have Hzy2 : Hid (y2.heap.size = y1.heap.size + 1) := Lib.hid (by rw [hy2]; simp)
              have K4y2 : Hid (Blk y2 y1.heap.size 23 (List.replicate nN (.slice none 0 0))) := Lib.hid (by rw [hy2]; exact Blk.made y1 _ _ nN)
              have K5y2 := Lib.hid (KMap.keep K5y1.out (Kp.of (S := fun _ => False) hby2) (fun q => q))
              have HSy2 : Hid (w2.heap.size ≤ y2.heap.size) := Lib.hid (Nat.le_trans HSy1.out hby2.size)
              have HBy2 : Hid (Below w2.heap.size wd y2) := Lib.hid (HBy1.out.trans (hby2.mono HSy1.out))
              rw [← hy2]
              clear hy2 hby2
              refine ⟨⟨WB.mk _ HBy2.out, rfl⟩, ?_⟩
              refine manyS 4 [6, 7] (by kernel_rfl) (by decide) (by decide) ?_
              refine List.forall_mem_cons.2 ⟨?_, List.forall_mem_cons.2 ⟨?_, fun _ h => nomatch h⟩⟩
              · focus
                  simp only [List.take_succ_cons, List.take_zero, List.drop_succ_cons, List.drop_zero]
                  go_wp2_with fail
                  obtain ⟨y3, hy3⟩ : ∃ y3, y3 = y2.alloc (.map #[] 0) := ⟨_, rfl⟩
                  have hby3 : Below y2.heap.size y2 y3 := by rw [hy3]; exact (Below.refl _ _).alloc (Nat.le_refl _) _
                  have Hzy3 : Hid (y3.heap.size = y2.heap.size + 1) := Lib.hid (by rw [hy3]; simp)
                  have K6y3 : Hid (KMap 46 noneV y3 y2.heap.size 0 (fun _ => none)) := Lib.hid (by rw [hy3]; exact KMap.made _ (zd := _) rfl y2)
                  have K5y3 := Lib.hid (KMap.keep K5y2.out (Kp.of (S := fun _ => False) hby3) (fun q => q))
                  have K4y3 := Lib.hid (K4y2.out.below' hby3)
                  have HSy3 : Hid (w2.heap.size ≤ y3.heap.size) := Lib.hid (Nat.le_trans HSy2.out hby3.size)
                  have HBy3 : Hid (Below w2.heap.size wd y3) := Lib.hid (HBy2.out.trans (hby3.mono HSy2.out))
                  rw [← hy3]
                  clear hy3 hby3
                  refine ⟨⟨WB.mk _ HBy3.out, rfl⟩, ?_⟩
                  refine manyS 3 [7] (by kernel_rfl) (by decide) (by decide) ?_
                  refine List.forall_mem_cons.2 ⟨?_, fun _ h => nomatch h⟩
                  · focus
                      simp only [List.take_succ_cons, List.take_zero, List.drop_succ_cons, List.drop_zero]
                      go_wp2_with fail
                      obtain ⟨y4, hy4⟩ : ∃ y4, y4 = y3.alloc (.map #[] 0) := ⟨_, rfl⟩
                      have hby4 : Below y3.heap.size y3 y4 := by rw [hy4]; exact (Below.refl _ _).alloc (Nat.le_refl _) _
                      have Hzy4 : Hid (y4.heap.size = y3.heap.size + 1) := Lib.hid (by rw [hy4]; simp)
                      have K7y4 : Hid (KMap 46 zeroV y4 y3.heap.size 0 (fun _ => none)) := Lib.hid (by rw [hy4]; exact KMap.made _ (zd := _) rfl y3)
                      have K5y4 := Lib.hid (KMap.keep K5y3.out (Kp.of (S := fun _ => False) hby4) (fun q => q))
                      have K4y4 := Lib.hid (K4y3.out.below' hby4)
                      have K6y4 := Lib.hid (KMap.keep K6y3.out (Kp.of (S := fun _ => False) hby4) (fun q => q))
                      have HSy4 : Hid (w2.heap.size ≤ y4.heap.size) := Lib.hid (Nat.le_trans HSy3.out hby4.size)
                      have HBy4 : Hid (Below w2.heap.size wd y4) := Lib.hid (HBy3.out.trans (hby4.mono HSy3.out))
                      rw [← hy4]
                      clear hy4 hby4
                      refine ⟨⟨WB.mk _ HBy4.out, rfl⟩, ?_⟩
                      show wpAnyS _ _ _ _ _ (2 + 1) _ _ _
                      refine takeS 2 8 1 (by kernel_rfl) (by kernel_rfl) (fun _ _ _ _ _ h => nomatch h.1) ⟨⟨_, HBy4.out⟩, rfl⟩ ?_
                      simp only [List.take_succ_cons, List.take_zero, List.drop_succ_cons, List.drop_zero]
                      repeat (first | go_big_quiet_skip | (go_big_quiet_want; go_big_quiet_op; go_big_quiet_on))
                      refine wpQuiet_nil ?_
                      refine oneS 1 9 (by kernel_rfl) (by decide) ?_
                      simp only [List.take_succ_cons, List.take_zero, List.drop_succ_cons, List.drop_zero]
                      go_wp2_with fail
                      obtain ⟨y5, hy5⟩ : ∃ y5, y5 = y4.alloc (.cells (chC G Ap Al As np cp nl cl ns cs Ai ni ci (.slice (some ⟨y1.heap.size, 0, none⟩) nN nN) (.slice none 0 0) wd.heap.size y2.heap.size y3.heap.size).toArray 59) := ⟨_, rfl⟩
                      have hby5 : Below y4.heap.size y4 y5 := by rw [hy5]; exact (Below.refl _ _).alloc (Nat.le_refl _) _
                      have Kcy5 : Blk y5 y4.heap.size 59 (chC G Ap Al As np cp nl cl ns cs Ai ni ci (.slice (some ⟨y1.heap.size, 0, none⟩) nN nN) (.slice none 0 0) wd.heap.size y2.heap.size y3.heap.size) := by rw [hy5]; exact Blk.new y4 _ _
                      have HBy5 := HBD.out.trans ((HBy4.out).trans (hby5.mono HSy4.out))
                      have HF : Hid (NcA w2 y5 y1.heap.size wd.heap.size y2.heap.size y3.heap.size y4.heap.size nN G Ap Al As np cp nl cl ns cs Ai ni ci) := Lib.hid ⟨HBy5, K4y4.out.below' hby5, KMap.keep K5y4.out (Kp.of (S := fun _ => False) hby5) (fun q => q), KMap.keep K6y4.out (Kp.of (S := fun _ => False) hby5) (fun q => q), KMap.keep K7y4.out (Kp.of (S := fun _ => False) hby5) (fun q => q), Kcy5, by have := Hzy1.out; have := Hzy2.out; have := Hzy3.out; have := Hzy4.out; have := HBD.out.size; omega, by have := Hzy1.out; have := Hzy2.out; have := Hzy3.out; have := Hzy4.out; have := HBD.out.size; omega⟩
                      have HBX : Hid (Below w2.heap.size wd y5) := Lib.hid ((HBy4.out).trans (hby5.mono HSy4.out))
                      unfold chC at hy5
                      rw [← hy5]
                      clear hy5 hby5 Kcy5 HBy5
                      refine ⟨⟨WB.mk _ HBX.out, rfl⟩, ?_⟩
                      refine oneS 0 10 (by kernel_rfl) (by decide) ?_
                      simp only [List.take_succ_cons, List.take_zero, List.drop_succ_cons, List.drop_zero]
                      go_wp2_with fail
                      refine ⟨⟨WB.mk _ HBX.out, rfl⟩, ?_⟩
                      refine endS (by kernel_rfl) ?_
                      exact ⟨rfl, _, _, _, _, _, rfl, HF.out⟩
              · focus
                  simp only [List.take_succ_cons, List.take_zero, List.drop_succ_cons, List.drop_zero]
                  go_wp2_with fail
                  obtain ⟨y3, hy3⟩ : ∃ y3, y3 = y2.alloc (.map #[] 0) := ⟨_, rfl⟩
                  have hby3 : Below y2.heap.size y2 y3 := by rw [hy3]; exact (Below.refl _ _).alloc (Nat.le_refl _) _
                  have Hzy3 : Hid (y3.heap.size = y2.heap.size + 1) := Lib.hid (by rw [hy3]; simp)
                  have K7y3 : Hid (KMap 46 zeroV y3 y2.heap.size 0 (fun _ => none)) := Lib.hid (by rw [hy3]; exact KMap.made _ (zd := _) rfl y2)
                  have K5y3 := Lib.hid (KMap.keep K5y2.out (Kp.of (S := fun _ => False) hby3) (fun q => q))
                  have K4y3 := Lib.hid (K4y2.out.below' hby3)
                  have HSy3 : Hid (w2.heap.size ≤ y3.heap.size) := Lib.hid (Nat.le_trans HSy2.out hby3.size)
                  have HBy3 : Hid (Below w2.heap.size wd y3) := Lib.hid (HBy2.out.trans (hby3.mono HSy2.out))
                  rw [← hy3]
                  clear hy3 hby3
                  refine ⟨⟨WB.mk _ HBy3.out, rfl⟩, ?_⟩
                  refine manyS 3 [6] (by kernel_rfl) (by decide) (by decide) ?_
                  refine List.forall_mem_cons.2 ⟨?_, fun _ h => nomatch h⟩
                  · focus
                      simp only [List.take_succ_cons, List.take_zero, List.drop_succ_cons, List.drop_zero]
                      go_wp2_with fail
                      obtain ⟨y4, hy4⟩ : ∃ y4, y4 = y3.alloc (.map #[] 0) := ⟨_, rfl⟩
                      have hby4 : Below y3.heap.size y3 y4 := by rw [hy4]; exact (Below.refl _ _).alloc (Nat.le_refl _) _
                      have Hzy4 : Hid (y4.heap.size = y3.heap.size + 1) := Lib.hid (by rw [hy4]; simp)
                      have K6y4 : Hid (KMap 46 noneV y4 y3.heap.size 0 (fun _ => none)) := Lib.hid (by rw [hy4]; exact KMap.made _ (zd := _) rfl y3)
                      have K5y4 := Lib.hid (KMap.keep K5y3.out (Kp.of (S := fun _ => False) hby4) (fun q => q))
                      have K4y4 := Lib.hid (K4y3.out.below' hby4)
                      have K7y4 := Lib.hid (KMap.keep K7y3.out (Kp.of (S := fun _ => False) hby4) (fun q => q))
                      have HSy4 : Hid (w2.heap.size ≤ y4.heap.size) := Lib.hid (Nat.le_trans HSy3.out hby4.size)
                      have HBy4 : Hid (Below w2.heap.size wd y4) := Lib.hid (HBy3.out.trans (hby4.mono HSy3.out))
                      rw [← hy4]
                      clear hy4 hby4
                      refine ⟨⟨WB.mk _ HBy4.out, rfl⟩, ?_⟩
                      show wpAnyS _ _ _ _ _ (2 + 1) _ _ _
                      refine takeS 2 8 1 (by kernel_rfl) (by kernel_rfl) (fun _ _ _ _ _ h => nomatch h.1) ⟨⟨_, HBy4.out⟩, rfl⟩ ?_
                      simp only [List.take_succ_cons, List.take_zero, List.drop_succ_cons, List.drop_zero]
                      repeat (first | go_big_quiet_skip | (go_big_quiet_want; go_big_quiet_op; go_big_quiet_on))
                      refine wpQuiet_nil ?_
                      refine oneS 1 9 (by kernel_rfl) (by decide) ?_
                      simp only [List.take_succ_cons, List.take_zero, List.drop_succ_cons, List.drop_zero]
                      go_wp2_with fail
                      obtain ⟨y5, hy5⟩ : ∃ y5, y5 = y4.alloc (.cells (chC G Ap Al As np cp nl cl ns cs Ai ni ci (.slice (some ⟨y1.heap.size, 0, none⟩) nN nN) (.slice none 0 0) wd.heap.size y3.heap.size y2.heap.size).toArray 59) := ⟨_, rfl⟩
                      have hby5 : Below y4.heap.size y4 y5 := by rw [hy5]; exact (Below.refl _ _).alloc (Nat.le_refl _) _
                      have Kcy5 : Blk y5 y4.heap.size 59 (chC G Ap Al As np cp nl cl ns cs Ai ni ci (.slice (some ⟨y1.heap.size, 0, none⟩) nN nN) (.slice none 0 0) wd.heap.size y3.heap.size y2.heap.size) := by rw [hy5]; exact Blk.new y4 _ _
                      have HBy5 := HBD.out.trans ((HBy4.out).trans (hby5.mono HSy4.out))
                      have HF : Hid (NcA w2 y5 y1.heap.size wd.heap.size y3.heap.size y2.heap.size y4.heap.size nN G Ap Al As np cp nl cl ns cs Ai ni ci) := Lib.hid ⟨HBy5, K4y4.out.below' hby5, KMap.keep K5y4.out (Kp.of (S := fun _ => False) hby5) (fun q => q), KMap.keep K6y4.out (Kp.of (S := fun _ => False) hby5) (fun q => q), KMap.keep K7y4.out (Kp.of (S := fun _ => False) hby5) (fun q => q), Kcy5, by have := Hzy1.out; have := Hzy2.out; have := Hzy3.out; have := Hzy4.out; have := HBD.out.size; omega, by have := Hzy1.out; have := Hzy2.out; have := Hzy3.out; have := Hzy4.out; have := HBD.out.size; omega⟩
                      have HBX : Hid (Below w2.heap.size wd y5) := Lib.hid ((HBy4.out).trans (hby5.mono HSy4.out))
                      unfold chC at hy5
                      rw [← hy5]
                      clear hy5 hby5 Kcy5 HBy5
                      refine ⟨⟨WB.mk _ HBX.out, rfl⟩, ?_⟩
                      refine oneS 0 10 (by kernel_rfl) (by decide) ?_
                      simp only [List.take_succ_cons, List.take_zero, List.drop_succ_cons, List.drop_zero]
                      go_wp2_with fail
                      refine ⟨⟨WB.mk _ HBX.out, rfl⟩, ?_⟩
                      refine endS (by kernel_rfl) ?_
                      exact ⟨rfl, _, _, _, _, _, rfl, HF.out⟩
          · focus
              simp only [List.take_succ_cons, List.take_zero, List.drop_succ_cons, List.drop_zero]
              go_wp2_with fail
              obtain ⟨y2, hy2⟩ : ∃ y2, y2 = y1.alloc (.map #[] 0) := ⟨_, rfl⟩
              have hby2 : Below y1.heap.size y1 y2 := by rw [hy2]; exact (Below.refl _ _).alloc (Nat.le_refl _) _
              have Hzy2 : Hid (y2.heap.size = y1.heap.size + 1) := Lib.hid (by rw [hy2]; simp)
              have K6y2 : Hid (KMap 46 noneV y2 y1.heap.size 0 (fun _ => none)) := Lib.hid (by rw [hy2]; exact KMap.made _ (zd := _) rfl y1)
              have K5y2 := Lib.hid (KMap.keep K5y1.out (Kp.of (S := fun _ => False) hby2) (fun q => q))
              have HSy2 : Hid (w2.heap.size ≤ y2.heap.size) := Lib.hid (Nat.le_trans HSy1.out hby2.size)
              have HBy2 : Hid (Below w2.heap.size wd y2) := Lib.hid (HBy1.out.trans (hby2.mono HSy1.out))
              rw [← hy2]
              clear hy2 hby2
              refine ⟨⟨WB.mk _ HBy2.out, rfl⟩, ?_⟩
              refine manyS 4 [4, 7] (by kernel_rfl) (by decide) (by decide) ?_
              refine List.forall_mem_cons.2 ⟨?_, List.forall_mem_cons.2 ⟨?_, fun _ h => nomatch h⟩⟩
              · focus
                  simp only [List.take_succ_cons, List.take_zero, List.drop_succ_cons, List.drop_zero]
                  go_wp2_with fail
                  obtain ⟨y3, hy3⟩ : ∃ y3, y3 = y2.alloc (.cells (zs (.slice none 0 0) nN) 23) := ⟨_, rfl⟩
                  have hby3 : Below y2.heap.size y2 y3 := by rw [hy3]; exact (Below.refl _ _).alloc (Nat.le_refl _) _
                  have Hzy3 : Hid (y3.heap.size = y2.heap.size + 1) := Lib.hid (by rw [hy3]; simp)
                  have K4y3 : Hid (Blk y3 y2.heap.size 23 (List.replicate nN (.slice none 0 0))) := Lib.hid (by rw [hy3]; exact Blk.made y2 _ _ nN)
                  have K5y3 := Lib.hid (KMap.keep K5y2.out (Kp.of (S := fun _ => False) hby3) (fun q => q))
                  have K6y3 := Lib.hid (KMap.keep K6y2.out (Kp.of (S := fun _ => False) hby3) (fun q => q))
                  have HSy3 : Hid (w2.heap.size ≤ y3.heap.size) := Lib.hid (Nat.le_trans HSy2.out hby3.size)
                  have HBy3 : Hid (Below w2.heap.size wd y3) := Lib.hid (HBy2.out.trans (hby3.mono HSy2.out))
                  rw [← hy3]
                  clear hy3 hby3
                  refine ⟨⟨WB.mk _ HBy3.out, rfl⟩, ?_⟩
                  refine manyS 3 [7] (by kernel_rfl) (by decide) (by decide) ?_
                  refine List.forall_mem_cons.2 ⟨?_, fun _ h => nomatch h⟩
                  · focus
                      simp only [List.take_succ_cons, List.take_zero, List.drop_succ_cons, List.drop_zero]
                      go_wp2_with fail
                      obtain ⟨y4, hy4⟩ : ∃ y4, y4 = y3.alloc (.map #[] 0) := ⟨_, rfl⟩
                      have hby4 : Below y3.heap.size y3 y4 := by rw [hy4]; exact (Below.refl _ _).alloc (Nat.le_refl _) _
                      have Hzy4 : Hid (y4.heap.size = y3.heap.size + 1) := Lib.hid (by rw [hy4]; simp)
                      have K7y4 : Hid (KMap 46 zeroV y4 y3.heap.size 0 (fun _ => none)) := Lib.hid (by rw [hy4]; exact KMap.made _ (zd := _) rfl y3)
                      have K5y4 := Lib.hid (KMap.keep K5y3.out (Kp.of (S := fun _ => False) hby4) (fun q => q))
                      have K6y4 := Lib.hid (KMap.keep K6y3.out (Kp.of (S := fun _ => False) hby4) (fun q => q))
                      have K4y4 := Lib.hid (K4y3.out.below' hby4)
                      have HSy4 : Hid (w2.heap.size ≤ y4.heap.size) := Lib.hid (Nat.le_trans HSy3.out hby4.size)
                      have HBy4 : Hid (Below w2.heap.size wd y4) := Lib.hid (HBy3.out.trans (hby4.mono HSy3.out))
                      rw [← hy4]
                      clear hy4 hby4
                      refine ⟨⟨WB.mk _ HBy4.out, rfl⟩, ?_⟩
                      show wpAnyS _ _ _ _ _ (2 + 1) _ _ _
                      refine takeS 2 8 1 (by kernel_rfl) (by kernel_rfl) (fun _ _ _ _ _ h => nomatch h.1) ⟨⟨_, HBy4.out⟩, rfl⟩ ?_
                      simp only [List.take_succ_cons, List.take_zero, List.drop_succ_cons, List.drop_zero]
                      repeat (first | go_big_quiet_skip | (go_big_quiet_want; go_big_quiet_op; go_big_quiet_on))
                      refine wpQuiet_nil ?_
                      refine oneS 1 9 (by kernel_rfl) (by decide) ?_
                      simp only [List.take_succ_cons, List.take_zero, List.drop_succ_cons, List.drop_zero]
                      go_wp2_with fail
                      obtain ⟨y5, hy5⟩ : ∃ y5, y5 = y4.alloc (.cells (chC G Ap Al As np cp nl cl ns cs Ai ni ci (.slice (some ⟨y2.heap.size, 0, none⟩) nN nN) (.slice none 0 0) wd.heap.size y1.heap.size y3.heap.size).toArray 59) := ⟨_, rfl⟩
                      have hby5 : Below y4.heap.size y4 y5 := by rw [hy5]; exact (Below.refl _ _).alloc (Nat.le_refl _) _
                      have Kcy5 : Blk y5 y4.heap.size 59 (chC G Ap Al As np cp nl cl ns cs Ai ni ci (.slice (some ⟨y2.heap.size, 0, none⟩) nN nN) (.slice none 0 0) wd.heap.size y1.heap.size y3.heap.size) := by rw [hy5]; exact Blk.new y4 _ _
                      have HBy5 := HBD.out.trans ((HBy4.out).trans (hby5.mono HSy4.out))
                      have HF : Hid (NcA w2 y5 y2.heap.size wd.heap.size y1.heap.size y3.heap.size y4.heap.size nN G Ap Al As np cp nl cl ns cs Ai ni ci) := Lib.hid ⟨HBy5, K4y4.out.below' hby5, KMap.keep K5y4.out (Kp.of (S := fun _ => False) hby5) (fun q => q), KMap.keep K6y4.out (Kp.of (S := fun _ => False) hby5) (fun q => q), KMap.keep K7y4.out (Kp.of (S := fun _ => False) hby5) (fun q => q), Kcy5, by have := Hzy1.out; have := Hzy2.out; have := Hzy3.out; have := Hzy4.out; have := HBD.out.size; omega, by have := Hzy1.out; have := Hzy2.out; have := Hzy3.out; have := Hzy4.out; have := HBD.out.size; omega⟩
                      have HBX : Hid (Below w2.heap.size wd y5) := Lib.hid ((HBy4.out).trans (hby5.mono HSy4.out))
                      unfold chC at hy5
                      rw [← hy5]
                      clear hy5 hby5 Kcy5 HBy5
                      refine ⟨⟨WB.mk _ HBX.out, rfl⟩, ?_⟩
                      refine oneS 0 10 (by kernel_rfl) (by decide) ?_
                      simp only [List.take_succ_cons, List.take_zero, List.drop_succ_cons, List.drop_zero]
                      go_wp2_with fail
                      refine ⟨⟨WB.mk _ HBX.out, rfl⟩, ?_⟩
                      refine endS (by kernel_rfl) ?_
                      exact ⟨rfl, _, _, _, _, _, rfl, HF.out⟩
              · focus
                  simp only [List.take_succ_cons, List.take_zero, List.drop_succ_cons, List.drop_zero]
                  go_wp2_with fail
                  obtain ⟨y3, hy3⟩ : ∃ y3, y3 = y2.alloc (.map #[] 0) := ⟨_, rfl⟩
                  have hby3 : Below y2.heap.size y2 y3 := by rw [hy3]; exact (Below.refl _ _).alloc (Nat.le_refl _) _
                  have Hzy3 : Hid (y3.heap.size = y2.heap.size + 1) := Lib.hid (by rw [hy3]; simp)
                  have K7y3 : Hid (KMap 46 zeroV y3 y2.heap.size 0 (fun _ => none)) := Lib.hid (by rw [hy3]; exact KMap.made _ (zd := _) rfl y2)
                  have K5y3 := Lib.hid (KMap.keep K5y2.out (Kp.of (S := fun _ => False) hby3) (fun q => q))
                  have K6y3 := Lib.hid (KMap.keep K6y2.out (Kp.of (S := fun _ => False) hby3) (fun q => q))
                  have HSy3 : Hid (w2.heap.size ≤ y3.heap.size) := Lib.hid (Nat.le_trans HSy2.out hby3.size)
                  have HBy3 : Hid (Below w2.heap.size wd y3) := Lib.hid (HBy2.out.trans (hby3.mono HSy2.out))
                  rw [← hy3]
                  clear hy3 hby3
                  refine ⟨⟨WB.mk _ HBy3.out, rfl⟩, ?_⟩
                  refine manyS 3 [4] (by kernel_rfl) (by decide) (by decide) ?_
                  refine List.forall_mem_cons.2 ⟨?_, fun _ h => nomatch h⟩
                  · focus
                      simp only [List.take_succ_cons, List.take_zero, List.drop_succ_cons, List.drop_zero]
                      go_wp2_with fail
                      obtain ⟨y4, hy4⟩ : ∃ y4, y4 = y3.alloc (.cells (zs (.slice none 0 0) nN) 23) := ⟨_, rfl⟩
                      have hby4 : Below y3.heap.size y3 y4 := by rw [hy4]; exact (Below.refl _ _).alloc (Nat.le_refl _) _
                      have Hzy4 : Hid (y4.heap.size = y3.heap.size + 1) := Lib.hid (by rw [hy4]; simp)
                      have K4y4 : Hid (Blk y4 y3.heap.size 23 (List.replicate nN (.slice none 0 0))) := Lib.hid (by rw [hy4]; exact Blk.made y3 _ _ nN)
                      have K5y4 := Lib.hid (KMap.keep K5y3.out (Kp.of (S := fun _ => False) hby4) (fun q => q))
                      have K6y4 := Lib.hid (KMap.keep K6y3.out (Kp.of (S := fun _ => False) hby4) (fun q => q))
                      have K7y4 := Lib.hid (KMap.keep K7y3.out (Kp.of (S := fun _ => False) hby4) (fun q => q))
                      have HSy4 : Hid (w2.heap.size ≤ y4.heap.size) := Lib.hid (Nat.le_trans HSy3.out hby4.size)
                      have HBy4 : Hid (Below w2.heap.size wd y4) := Lib.hid (HBy3.out.trans (hby4.mono HSy3.out))
                      rw [← hy4]
                      clear hy4 hby4
                      refine ⟨⟨WB.mk _ HBy4.out, rfl⟩, ?_⟩
                      show wpAnyS _ _ _ _ _ (2 + 1) _ _ _
                      refine takeS 2 8 1 (by kernel_rfl) (by kernel_rfl) (fun _ _ _ _ _ h => nomatch h.1) ⟨⟨_, HBy4.out⟩, rfl⟩ ?_
                      simp only [List.take_succ_cons, List.take_zero, List.drop_succ_cons, List.drop_zero]
                      repeat (first | go_big_quiet_skip | (go_big_quiet_want; go_big_quiet_op; go_big_quiet_on))
                      refine wpQuiet_nil ?_
                      refine oneS 1 9 (by kernel_rfl) (by decide) ?_
                      simp only [List.take_succ_cons, List.take_zero, List.drop_succ_cons, List.drop_zero]
                      go_wp2_with fail
                      obtain ⟨y5, hy5⟩ : ∃ y5, y5 = y4.alloc (.cells (chC G Ap Al As np cp nl cl ns cs Ai ni ci (.slice (some ⟨y3.heap.size, 0, none⟩) nN nN) (.slice none 0 0) wd.heap.size y1.heap.size y2.heap.size).toArray 59) := ⟨_, rfl⟩
                      have hby5 : Below y4.heap.size y4 y5 := by rw [hy5]; exact (Below.refl _ _).alloc (Nat.le_refl _) _
                      have Kcy5 : Blk y5 y4.heap.size 59 (chC G Ap Al As np cp nl cl ns cs Ai ni ci (.slice (some ⟨y3.heap.size, 0, none⟩) nN nN) (.slice none 0 0) wd.heap.size y1.heap.size y2.heap.size) := by rw [hy5]; exact Blk.new y4 _ _
                      have HBy5 := HBD.out.trans ((HBy4.out).trans (hby5.mono HSy4.out))
                      have HF : Hid (NcA w2 y5 y3.heap.size wd.heap.size y1.heap.size y2.heap.size y4.heap.size nN G Ap Al As np cp nl cl ns cs Ai ni ci) := Lib.hid ⟨HBy5, K4y4.out.below' hby5, KMap.keep K5y4.out (Kp.of (S := fun _ => False) hby5) (fun q => q), KMap.keep K6y4.out (Kp.of (S := fun _ => False) hby5) (fun q => q), KMap.keep K7y4.out (Kp.of (S := fun _ => False) hby5) (fun q => q), Kcy5, by have := Hzy1.out; have := Hzy2.out; have := Hzy3.out; have := Hzy4.out; have := HBD.out.size; omega, by have := Hzy1.out; have := Hzy2.out; have := Hzy3.out; have := Hzy4.out; have := HBD.out.size; omega⟩
                      have HBX : Hid (Below w2.heap.size wd y5) := Lib.hid ((HBy4.out).trans (hby5.mono HSy4.out))
                      unfold chC at hy5
                      rw [← hy5]
                      clear hy5 hby5 Kcy5 HBy5
                      refine ⟨⟨WB.mk _ HBX.out, rfl⟩, ?_⟩
                      refine oneS 0 10 (by kernel_rfl) (by decide) ?_
                      simp only [List.take_succ_cons, List.take_zero, List.drop_succ_cons, List.drop_zero]
                      go_wp2_with fail
                      refine ⟨⟨WB.mk _ HBX.out, rfl⟩, ?_⟩
                      refine endS (by kernel_rfl) ?_
                      exact ⟨rfl, _, _, _, _, _, rfl, HF.out⟩
          · focus
              simp only [List.take_succ_cons, List.take_zero, List.drop_succ_cons, List.drop_zero]
              go_wp2_with fail
              obtain ⟨y2, hy2⟩ : ∃ y2, y2 = y1.alloc (.map #[] 0) := ⟨_, rfl⟩
              have hby2 : Below y1.heap.size y1 y2 := by rw [hy2]; exact (Below.refl _ _).alloc (Nat.le_refl _) _
              have Hzy2 : Hid (y2.heap.size = y1.heap.size + 1) := Lib.hid (by rw [hy2]; simp)
              have K7y2 : Hid (KMap 46 zeroV y2 y1.heap.size 0 (fun _ => none)) := Lib.hid (by rw [hy2]; exact KMap.made _ (zd := _) rfl y1)
              have K5y2 := Lib.hid (KMap.keep K5y1.out (Kp.of (S := fun _ => False) hby2) (fun q => q))
              have HSy2 : Hid (w2.heap.size ≤ y2.heap.size) := Lib.hid (Nat.le_trans HSy1.out hby2.size)
              have HBy2 : Hid (Below w2.heap.size wd y2) := Lib.hid (HBy1.out.trans (hby2.mono HSy1.out))
              rw [← hy2]
              clear hy2 hby2
              refine ⟨⟨WB.mk _ HBy2.out, rfl⟩, ?_⟩
              refine manyS 4 [4, 6] (by kernel_rfl) (by decide) (by decide) ?_
              refine List.forall_mem_cons.2 ⟨?_, List.forall_mem_cons.2 ⟨?_, fun _ h => nomatch h⟩⟩
              · focus
                  simp only [List.take_succ_cons, List.take_zero, List.drop_succ_cons, List.drop_zero]
                  go_wp2_with fail
                  obtain ⟨y3, hy3⟩ : ∃ y3, y3 = y2.alloc (.cells (zs (.slice none 0 0) nN) 23) := ⟨_, rfl⟩
                  have hby3 : Below y2.heap.size y2 y3 := by rw [hy3]; exact (Below.refl _ _).alloc (Nat.le_refl _) _
                  have Hzy3 : Hid (y3.heap.size = y2.heap.size + 1) := Lib.hid (by rw [hy3]; simp)
                  have K4y3 : Hid (Blk y3 y2.heap.size 23 (List.replicate nN (.slice none 0 0))) := Lib.hid (by rw [hy3]; exact Blk.made y2 _ _ nN)
                  have K5y3 := Lib.hid (KMap.keep K5y2.out (Kp.of (S := fun _ => False) hby3) (fun q => q))
                  have K7y3 := Lib.hid (KMap.keep K7y2.out (Kp.of (S := fun _ => False) hby3) (fun q => q))
                  have HSy3 : Hid (w2.heap.size ≤ y3.heap.size) := Lib.hid (Nat.le_trans HSy2.out hby3.size)
                  have HBy3 : Hid (Below w2.heap.size wd y3) := Lib.hid (HBy2.out.trans (hby3.mono HSy2.out))
                  rw [← hy3]
                  clear hy3 hby3
                  refine ⟨⟨WB.mk _ HBy3.out, rfl⟩, ?_⟩
                  refine manyS 3 [6] (by kernel_rfl) (by decide) (by decide) ?_
                  refine List.forall_mem_cons.2 ⟨?_, fun _ h => nomatch h⟩
                  · focus
                      simp only [List.take_succ_cons, List.take_zero, List.drop_succ_cons, List.drop_zero]
                      go_wp2_with fail
                      obtain ⟨y4, hy4⟩ : ∃ y4, y4 = y3.alloc (.map #[] 0) := ⟨_, rfl⟩
                      have hby4 : Below y3.heap.size y3 y4 := by rw [hy4]; exact (Below.refl _ _).alloc (Nat.le_refl _) _
                      have Hzy4 : Hid (y4.heap.size = y3.heap.size + 1) := Lib.hid (by rw [hy4]; simp)
                      have K6y4 : Hid (KMap 46 noneV y4 y3.heap.size 0 (fun _ => none)) := Lib.hid (by rw [hy4]; exact KMap.made _ (zd := _) rfl y3)
                      have K5y4 := Lib.hid (KMap.keep K5y3.out (Kp.of (S := fun _ => False) hby4) (fun q => q))
                      have K7y4 := Lib.hid (KMap.keep K7y3.out (Kp.of (S := fun _ => False) hby4) (fun q => q))
                      have K4y4 := Lib.hid (K4y3.out.below' hby4)
                      have HSy4 : Hid (w2.heap.size ≤ y4.heap.size) := Lib.hid (Nat.le_trans HSy3.out hby4.size)
                      have HBy4 : Hid (Below w2.heap.size wd y4) := Lib.hid (HBy3.out.trans (hby4.mono HSy3.out))
                      rw [← hy4]
                      clear hy4 hby4
                      refine ⟨⟨WB.mk _ HBy4.out, rfl⟩, ?_⟩
                      show wpAnyS _ _ _ _ _ (2 + 1) _ _ _
                      refine takeS 2 8 1 (by kernel_rfl) (by kernel_rfl) (fun _ _ _ _ _ h => nomatch h.1) ⟨⟨_, HBy4.out⟩, rfl⟩ ?_
                      simp only [List.take_succ_cons, List.take_zero, List.drop_succ_cons, List.drop_zero]
                      repeat (first | go_big_quiet_skip | (go_big_quiet_want; go_big_quiet_op; go_big_quiet_on))
                      refine wpQuiet_nil ?_
                      refine oneS 1 9 (by kernel_rfl) (by decide) ?_
                      simp only [List.take_succ_cons, List.take_zero, List.drop_succ_cons, List.drop_zero]
                      go_wp2_with fail
                      obtain ⟨y5, hy5⟩ : ∃ y5, y5 = y4.alloc (.cells (chC G Ap Al As np cp nl cl ns cs Ai ni ci (.slice (some ⟨y2.heap.size, 0, none⟩) nN nN) (.slice none 0 0) wd.heap.size y3.heap.size y1.heap.size).toArray 59) := ⟨_, rfl⟩
                      have hby5 : Below y4.heap.size y4 y5 := by rw [hy5]; exact (Below.refl _ _).alloc (Nat.le_refl _) _
                      have Kcy5 : Blk y5 y4.heap.size 59 (chC G Ap Al As np cp nl cl ns cs Ai ni ci (.slice (some ⟨y2.heap.size, 0, none⟩) nN nN) (.slice none 0 0) wd.heap.size y3.heap.size y1.heap.size) := by rw [hy5]; exact Blk.new y4 _ _
                      have HBy5 := HBD.out.trans ((HBy4.out).trans (hby5.mono HSy4.out))
                      have HF : Hid (NcA w2 y5 y2.heap.size wd.heap.size y3.heap.size y1.heap.size y4.heap.size nN G Ap Al As np cp nl cl ns cs Ai ni ci) := Lib.hid ⟨HBy5, K4y4.out.below' hby5, KMap.keep K5y4.out (Kp.of (S := fun _ => False) hby5) (fun q => q), KMap.keep K6y4.out (Kp.of (S := fun _ => False) hby5) (fun q => q), KMap.keep K7y4.out (Kp.of (S := fun _ => False) hby5) (fun q => q), Kcy5, by have := Hzy1.out; have := Hzy2.out; have := Hzy3.out; have := Hzy4.out; have := HBD.out.size; omega, by have := Hzy1.out; have := Hzy2.out; have := Hzy3.out; have := Hzy4.out; have := HBD.out.size; omega⟩
                      have HBX : Hid (Below w2.heap.size wd y5) := Lib.hid ((HBy4.out).trans (hby5.mono HSy4.out))
                      unfold chC at hy5
                      rw [← hy5]
                      clear hy5 hby5 Kcy5 HBy5
                      refine ⟨⟨WB.mk _ HBX.out, rfl⟩, ?_⟩
                      refine oneS 0 10 (by kernel_rfl) (by decide) ?_
                      simp only [List.take_succ_cons, List.take_zero, List.drop_succ_cons, List.drop_zero]
                      go_wp2_with fail
                      refine ⟨⟨WB.mk _ HBX.out, rfl⟩, ?_⟩
                      refine endS (by kernel_rfl) ?_
                      exact ⟨rfl, _, _, _, _, _, rfl, HF.out⟩
              · focus
                  simp only [List.take_succ_cons, List.take_zero, List.drop_succ_cons, List.drop_zero]
                  go_wp2_with fail
                  obtain ⟨y3, hy3⟩ : ∃ y3, y3 = y2.alloc (.map #[] 0) := ⟨_, rfl⟩
                  have hby3 : Below y2.heap.size y2 y3 := by rw [hy3]; exact (Below.refl _ _).alloc (Nat.le_refl _) _
                  have Hzy3 : Hid (y3.heap.size = y2.heap.size + 1) := Lib.hid (by rw [hy3]; simp)
                  have K6y3 : Hid (KMap 46 noneV y3 y2.heap.size 0 (fun _ => none)) := Lib.hid (by rw [hy3]; exact KMap.made _ (zd := _) rfl y2)
                  have K5y3 := Lib.hid (KMap.keep K5y2.out (Kp.of (S := fun _ => False) hby3) (fun q => q))
                  have K7y3 := Lib.hid (KMap.keep K7y2.out (Kp.of (S := fun _ => False) hby3) (fun q => q))
                  have HSy3 : Hid (w2.heap.size ≤ y3.heap.size) := Lib.hid (Nat.le_trans HSy2.out hby3.size)
                  have HBy3 : Hid (Below w2.heap.size wd y3) := Lib.hid (HBy2.out.trans (hby3.mono HSy2.out))
                  rw [← hy3]
                  clear hy3 hby3
                  refine ⟨⟨WB.mk _ HBy3.out, rfl⟩, ?_⟩
                  refine manyS 3 [4] (by kernel_rfl) (by decide) (by decide) ?_
                  refine List.forall_mem_cons.2 ⟨?_, fun _ h => nomatch h⟩
                  · focus
                      simp only [List.take_succ_cons, List.take_zero, List.drop_succ_cons, List.drop_zero]
                      go_wp2_with fail
                      obtain ⟨y4, hy4⟩ : ∃ y4, y4 = y3.alloc (.cells (zs (.slice none 0 0) nN) 23) := ⟨_, rfl⟩
                      have hby4 : Below y3.heap.size y3 y4 := by rw [hy4]; exact (Below.refl _ _).alloc (Nat.le_refl _) _
                      have Hzy4 : Hid (y4.heap.size = y3.heap.size + 1) := Lib.hid (by rw [hy4]; simp)
                      have K4y4 : Hid (Blk y4 y3.heap.size 23 (List.replicate nN (.slice none 0 0))) := Lib.hid (by rw [hy4]; exact Blk.made y3 _ _ nN)
                      have K5y4 := Lib.hid (KMap.keep K5y3.out (Kp.of (S := fun _ => False) hby4) (fun q => q))
                      have K7y4 := Lib.hid (KMap.keep K7y3.out (Kp.of (S := fun _ => False) hby4) (fun q => q))
                      have K6y4 := Lib.hid (KMap.keep K6y3.out (Kp.of (S := fun _ => False) hby4) (fun q => q))
                      have HSy4 : Hid (w2.heap.size ≤ y4.heap.size) := Lib.hid (Nat.le_trans HSy3.out hby4.size)
                      have HBy4 : Hid (Below w2.heap.size wd y4) := Lib.hid (HBy3.out.trans (hby4.mono HSy3.out))
                      rw [← hy4]
                      clear hy4 hby4
                      refine ⟨⟨WB.mk _ HBy4.out, rfl⟩, ?_⟩
                      show wpAnyS _ _ _ _ _ (2 + 1) _ _ _
                      refine takeS 2 8 1 (by kernel_rfl) (by kernel_rfl) (fun _ _ _ _ _ h => nomatch h.1) ⟨⟨_, HBy4.out⟩, rfl⟩ ?_
                      simp only [List.take_succ_cons, List.take_zero, List.drop_succ_cons, List.drop_zero]
                      repeat (first | go_big_quiet_skip | (go_big_quiet_want; go_big_quiet_op; go_big_quiet_on))
                      refine wpQuiet_nil ?_
                      refine oneS 1 9 (by kernel_rfl) (by decide) ?_
                      simp only [List.take_succ_cons, List.take_zero, List.drop_succ_cons, List.drop_zero]
                      go_wp2_with fail
                      obtain ⟨y5, hy5⟩ : ∃ y5, y5 = y4.alloc (.cells (chC G Ap Al As np cp nl cl ns cs Ai ni ci (.slice (some ⟨y3.heap.size, 0, none⟩) nN nN) (.slice none 0 0) wd.heap.size y2.heap.size y1.heap.size).toArray 59) := ⟨_, rfl⟩
                      have hby5 : Below y4.heap.size y4 y5 := by rw [hy5]; exact (Below.refl _ _).alloc (Nat.le_refl _) _
                      have Kcy5 : Blk y5 y4.heap.size 59 (chC G Ap Al As np cp nl cl ns cs Ai ni ci (.slice (some ⟨y3.heap.size, 0, none⟩) nN nN) (.slice none 0 0) wd.heap.size y2.heap.size y1.heap.size) := by rw [hy5]; exact Blk.new y4 _ _
                      have HBy5 := HBD.out.trans ((HBy4.out).trans (hby5.mono HSy4.out))
                      have HF : Hid (NcA w2 y5 y3.heap.size wd.heap.size y2.heap.size y1.heap.size y4.heap.size nN G Ap Al As np cp nl cl ns cs Ai ni ci) := Lib.hid ⟨HBy5, K4y4.out.below' hby5, KMap.keep K5y4.out (Kp.of (S := fun _ => False) hby5) (fun q => q), KMap.keep K6y4.out (Kp.of (S := fun _ => False) hby5) (fun q => q), KMap.keep K7y4.out (Kp.of (S := fun _ => False) hby5) (fun q => q), Kcy5, by have := Hzy1.out; have := Hzy2.out; have := Hzy3.out; have := Hzy4.out; have := HBD.out.size; omega, by have := Hzy1.out; have := Hzy2.out; have := Hzy3.out; have := Hzy4.out; have := HBD.out.size; omega⟩
                      have HBX : Hid (Below w2.heap.size wd y5) := Lib.hid ((HBy4.out).trans (hby5.mono HSy4.out))
                      unfold chC at hy5
                      rw [← hy5]
                      clear hy5 hby5 Kcy5 HBy5
                      refine ⟨⟨WB.mk _ HBX.out, rfl⟩, ?_⟩
                      refine oneS 0 10 (by kernel_rfl) (by decide) ?_
                      simp only [List.take_succ_cons, List.take_zero, List.drop_succ_cons, List.drop_zero]
                      go_wp2_with fail
                      refine ⟨⟨WB.mk _ HBX.out, rfl⟩, ?_⟩
                      refine endS (by kernel_rfl) ?_
                      exact ⟨rfl, _, _, _, _, _, rfl, HF.out⟩
      · focus
          simp only [List.take_succ_cons, List.take_zero, List.drop_succ_cons, List.drop_zero]
          go_wp2_with fail
          obtain ⟨y1, hy1⟩ : ∃ y1, y1 = wd.alloc (.map #[] 0) := ⟨_, rfl⟩
          have hby1 : Below wd.heap.size wd y1 := by rw [hy1]; exact (Below.refl _ _).alloc (Nat.le_refl _) _
          have Hzy1 : Hid (y1.heap.size = wd.heap.size + 1) := Lib.hid (by rw [hy1]; simp)
          have K6y1 : Hid (KMap 46 noneV y1 wd.heap.size 0 (fun _ => none)) := Lib.hid (by rw [hy1]; exact KMap.made _ (zd := _) rfl wd)
          have HSy1 : Hid (w2.heap.size ≤ y1.heap.size) := Lib.hid (Nat.le_trans HBD.out.size hby1.size)
          have HBy1 : Hid (Below w2.heap.size wd y1) := Lib.hid ((Below.refl w2.heap.size wd).trans (hby1.mono HBD.out.size))
          rw [← hy1]
          clear hy1 hby1
          refine ⟨⟨WB.mk _ HBy1.out, rfl⟩, ?_⟩
          refine manyS 5 [4, 5, 7] (by kernel_rfl) (by decide) (by decide) ?_
          refine List.forall_mem_cons.2 ⟨?_, List.forall_mem_cons.2 ⟨?_, List.forall_mem_cons.2 ⟨?_, fun _ h => nomatch h⟩⟩⟩
          · focus
              simp only [List.take_succ_cons, List.take_zero, List.drop_succ_cons, List.drop_zero]
              go_wp2_with fail
              obtain ⟨y2, hy2⟩ : ∃ y2, y2 = y1.alloc (.cells (zs (.slice none 0 0) nN) 23) := ⟨_, rfl⟩
              have hby2 : Below y1.heap.size y1 y2 := by rw [hy2]; exact (Below.refl _ _).alloc (Nat.le_refl _) _
              have Hzy2 : Hid (y2.heap.size = y1.heap.size + 1) := Lib.hid (by rw [hy2]; simp)
              have K4y2 : Hid (Blk y2 y1.heap.size 23 (List.replicate nN (.slice none 0 0))) := Lib.hid (by rw [hy2]; exact Blk.made y1 _ _ nN)
              have K6y2 := Lib.hid (KMap.keep K6y1.out (Kp.of (S := fun _ => False) hby2) (fun q => q))
              have HSy2 : Hid (w2.heap.size ≤ y2.heap.size) := Lib.hid (Nat.le_trans HSy1.out hby2.size)
              have HBy2 : Hid (Below w2.heap.size wd y2) := Lib.hid (HBy1.out.trans (hby2.mono HSy1.out))
              rw [← hy2]
              clear hy2 hby2
              refine ⟨⟨WB.mk _ HBy2.out, rfl⟩, ?_⟩
              refine manyS 4 [5, 7] (by kernel_rfl) (by decide) (by decide) ?_
              refine List.forall_mem_cons.2 ⟨?_, List.forall_mem_cons.2 ⟨?_, fun _ h => nomatch h⟩⟩
              · focus
                  simp only [List.take_succ_cons, List.take_zero, List.drop_succ_cons, List.drop_zero]
                  go_wp2_with fail
                  obtain ⟨y3, hy3⟩ : ∃ y3, y3 = y2.alloc (.map #[] 0) := ⟨_, rfl⟩
                  have hby3 : Below y2.heap.size y2 y3 := by rw [hy3]; exact (Below.refl _ _).alloc (Nat.le_refl _) _
                  have Hzy3 : Hid (y3.heap.size = y2.heap.size + 1) := Lib.hid (by rw [hy3]; simp)
                  have K5y3 : Hid (KMap 46 zeroV y3 y2.heap.size 0 (fun _ => none)) := Lib.hid (by rw [hy3]; exact KMap.made _ (zd := _) rfl y2)
                  have K6y3 := Lib.hid (KMap.keep K6y2.out (Kp.of (S := fun _ => False) hby3) (fun q => q))
                  have K4y3 := Lib.hid (K4y2.out.below' hby3)
                  have HSy3 : Hid (w2.heap.size ≤ y3.heap.size) := Lib.hid (Nat.le_trans HSy2.out hby3.size)
                  have HBy3 : Hid (Below w2.heap.size wd y3) := Lib.hid (HBy2.out.trans (hby3.mono HSy2.out))
                  rw [← hy3]
                  clear hy3 hby3
                  refine ⟨⟨WB.mk _ HBy3.out, rfl⟩, ?_⟩
                  refine manyS 3 [7] (by kernel_rfl) (by decide) (by decide) ?_
                  refine List.forall_mem_cons.2 ⟨?_, fun _ h => nomatch h⟩
                  · focus
                      simp only [List.take_succ_cons, List.take_zero, List.drop_succ_cons, List.drop_zero]
                      go_wp2_with fail
                      obtain ⟨y4, hy4⟩ : ∃ y4, y4 = y3.alloc (.map #[] 0) := ⟨_, rfl⟩
                      have hby4 : Below y3.heap.size y3 y4 := by rw [hy4]; exact (Below.refl _ _).alloc (Nat.le_refl _) _
                      have Hzy4 : Hid (y4.heap.size = y3.heap.size + 1) := Lib.hid (by rw [hy4]; simp)
                      have K7y4 : Hid (KMap 46 zeroV y4 y3.heap.size 0 (fun _ => none)) := Lib.hid (by rw [hy4]; exact KMap.made _ (zd := _) rfl y3)
                      have K6y4 := Lib.hid (KMap.keep K6y3.out (Kp.of (S := fun _ => False) hby4) (fun q => q))
                      have K4y4 := Lib.hid (K4y3.out.below' hby4)
                      have K5y4 := Lib.hid (KMap.keep K5y3.out (Kp.of (S := fun _ => False) hby4) (fun q => q))
                      have HSy4 : Hid (w2.heap.size ≤ y4.heap.size) := Lib.hid (Nat.le_trans HSy3.out hby4.size)
                      have HBy4 : Hid (Below w2.heap.size wd y4) := Lib.hid (HBy3.out.trans (hby4.mono HSy3.out))
                      rw [← hy4]
                      clear hy4 hby4
                      refine ⟨⟨WB.mk _ HBy4.out, rfl⟩, ?_⟩
                      show wpAnyS _ _ _ _ _ (2 + 1) _ _ _
                      refine takeS 2 8 1 (by kernel_rfl) (by kernel_rfl) (fun _ _ _ _ _ h => nomatch h.1) ⟨⟨_, HBy4.out⟩, rfl⟩ ?_
                      simp only [List.take_succ_cons, List.take_zero, List.drop_succ_cons, List.drop_zero]
                      repeat (first | go_big_quiet_skip | (go_big_quiet_want; go_big_quiet_op; go_big_quiet_on))
                      refine wpQuiet_nil ?_
                      refine oneS 1 9 (by kernel_rfl) (by decide) ?_
                      simp only [List.take_succ_cons, List.take_zero, List.drop_succ_cons, List.drop_zero]
                      go_wp2_with fail
                      obtain ⟨y5, hy5⟩ : ∃ y5, y5 = y4.alloc (.cells (chC G Ap Al As np cp nl cl ns cs Ai ni ci (.slice (some ⟨y1.heap.size, 0, none⟩) nN nN) (.slice none 0 0) y2.heap.size wd.heap.size y3.heap.size).toArray 59) := ⟨_, rfl⟩
                      have hby5 : Below y4.heap.size y4 y5 := by rw [hy5]; exact (Below.refl _ _).alloc (Nat.le_refl _) _
                      have Kcy5 : Blk y5 y4.heap.size 59 (chC G Ap Al As np cp nl cl ns cs Ai ni ci (.slice (some ⟨y1.heap.size, 0, none⟩) nN nN) (.slice none 0 0) y2.heap.size wd.heap.size y3.heap.size) := by rw [hy5]; exact Blk.new y4 _ _
                      have HBy5 := HBD.out.trans ((HBy4.out).trans (hby5.mono HSy4.out))
                      have HF : Hid (NcA w2 y5 y1.heap.size y2.heap.size wd.heap.size y3.heap.size y4.heap.size nN G Ap Al As np cp nl cl ns cs Ai ni ci) := Lib.hid ⟨HBy5, K4y4.out.below' hby5, KMap.keep K5y4.out (Kp.of (S := fun _ => False) hby5) (fun q => q), KMap.keep K6y4.out (Kp.of (S := fun _ => False) hby5) (fun q => q), KMap.keep K7y4.out (Kp.of (S := fun _ => False) hby5) (fun q => q), Kcy5, by have := Hzy1.out; have := Hzy2.out; have := Hzy3.out; have := Hzy4.out; have := HBD.out.size; omega, by have := Hzy1.out; have := Hzy2.out; have := Hzy3.out; have := Hzy4.out; have := HBD.out.size; omega⟩
                      have HBX : Hid (Below w2.heap.size wd y5) := Lib.hid ((HBy4.out).trans (hby5.mono HSy4.out))
                      unfold chC at hy5
                      rw [← hy5]
                      clear hy5 hby5 Kcy5 HBy5
                      refine ⟨⟨WB.mk _ HBX.out, rfl⟩, ?_⟩
                      refine oneS 0 10 (by kernel_rfl) (by decide) ?_
                      simp only [List.take_succ_cons, List.take_zero, List.drop_succ_cons, List.drop_zero]
                      go_wp2_with fail
                      refine ⟨⟨WB.mk _ HBX.out, rfl⟩, ?_⟩
                      refine endS (by kernel_rfl) ?_
                      exact ⟨rfl, _, _, _, _, _, rfl, HF.out⟩
              · focus
                  simp only [List.take_succ_cons, List.take_zero, List.drop_succ_cons, List.drop_zero]
                  go_wp2_with fail
                  obtain ⟨y3, hy3⟩ : ∃ y3, y3 = y2.alloc (.map #[] 0) := ⟨_, rfl⟩
                  have hby3 : Below y2.heap.size y2 y3 := by rw [hy3]; exact (Below.refl _ _).alloc (Nat.le_refl _) _
                  have Hzy3 : Hid (y3.heap.size = y2.heap.size + 1) := Lib.hid (by rw [hy3]; simp)
                  have K7y3 : Hid (KMap 46 zeroV y3 y2.heap.size 0 (fun _ => none)) := Lib.hid (by rw [hy3]; exact KMap.made _ (zd := _) rfl y2)
                  have K6y3 := Lib.hid (KMap.keep K6y2.out (Kp.of (S := fun _ => False) hby3) (fun q => q))
                  have K4y3 := Lib.hid (K4y2.out.below' hby3)
                  have HSy3 : Hid (w2.heap.size ≤ y3.heap.size) := Lib.hid (Nat.le_trans HSy2.out hby3.size)
                  have HBy3 : Hid (Below w2.heap.size wd y3) := Lib.hid (HBy2.out.trans (hby3.mono HSy2.out))
                  rw [← hy3]
                  clear hy3 hby3
                  refine ⟨⟨WB.mk _ HBy3.out, rfl⟩, ?_⟩
                  refine manyS 3 [5] (by kernel_rfl) (by decide) (by decide) ?_
                  refine List.forall_mem_cons.2 ⟨?_, fun _ h => nomatch h⟩
                  · focus
                      simp only [List.take_succ_cons, List.take_zero, List.drop_succ_cons, List.drop_zero]
                      go_wp2_with fail
                      obtain ⟨y4, hy4⟩ : ∃ y4, y4 = y3.alloc (.map #[] 0) := ⟨_, rfl⟩
                      have hby4 : Below y3.heap.size y3 y4 := by rw [hy4]; exact (Below.refl _ _).alloc (Nat.le_refl _) _
                      have Hzy4 : Hid (y4.heap.size = y3.heap.size + 1) := Lib.hid (by rw [hy4]; simp)
                      have K5y4 : Hid (KMap 46 zeroV y4 y3.heap.size 0 (fun _ => none)) := Lib.hid (by rw [hy4]; exact KMap.made _ (zd := _) rfl y3)
                      have K6y4 := Lib.hid (KMap.keep K6y3.out (Kp.of (S := fun _ => False) hby4) (fun q => q))
                      have K4y4 := Lib.hid (K4y3.out.below' hby4)
                      have K7y4 := Lib.hid (KMap.keep K7y3.out (Kp.of (S := fun _ => False) hby4) (fun q => q))
                      have HSy4 : Hid (w2.heap.size ≤ y4.heap.size) := Lib.hid (Nat.le_trans HSy3.out hby4.size)
                      have HBy4 : Hid (Below w2.heap.size wd y4) := Lib.hid (HBy3.out.trans (hby4.mono HSy3.out))
                      rw [← hy4]
                      clear hy4 hby4
                      refine ⟨⟨WB.mk _ HBy4.out, rfl⟩, ?_⟩
                      show wpAnyS _ _ _ _ _ (2 + 1) _ _ _
                      refine takeS 2 8 1 (by kernel_rfl) (by kernel_rfl) (fun _ _ _ _ _ h => nomatch h.1) ⟨⟨_, HBy4.out⟩, rfl⟩ ?_
                      simp only [List.take_succ_cons, List.take_zero, List.drop_succ_cons, List.drop_zero]
                      repeat (first | go_big_quiet_skip | (go_big_quiet_want; go_big_quiet_op; go_big_quiet_on))
                      refine wpQuiet_nil ?_
                      refine oneS 1 9 (by kernel_rfl) (by decide) ?_
                      simp only [List.take_succ_cons, List.take_zero, List.drop_succ_cons, List.drop_zero]
                      go_wp2_with fail
                      obtain ⟨y5, hy5⟩ : ∃ y5, y5 = y4.alloc (.cells (chC G Ap Al As np cp nl cl ns cs Ai ni ci (.slice (some ⟨y1.heap.size, 0, none⟩) nN nN) (.slice none 0 0) y3.heap.size wd.heap.size y2.heap.size).toArray 59) := ⟨_, rfl⟩
                      have hby5 : Below y4.heap.size y4 y5 := by rw [hy5]; exact (Below.refl _ _).alloc (Nat.le_refl _) _
                      have Kcy5 : Blk y5 y4.heap.size 59 (chC G Ap Al As np cp nl cl ns cs Ai ni ci (.slice (some ⟨y1.heap.size, 0, none⟩) nN nN) (.slice none 0 0) y3.heap.size wd.heap.size y2.heap.size) := by rw [hy5]; exact Blk.new y4 _ _
                      have HBy5 := HBD.out.trans ((HBy4.out).trans (hby5.mono HSy4.out))
                      have HF : Hid (NcA w2 y5 y1.heap.size y3.heap.size wd.heap.size y2.heap.size y4.heap.size nN G Ap Al As np cp nl cl ns cs Ai ni ci) := Lib.hid ⟨HBy5, K4y4.out.below' hby5, KMap.keep K5y4.out (Kp.of (S := fun _ => False) hby5) (fun q => q), KMap.keep K6y4.out (Kp.of (S := fun _ => False) hby5) (fun q => q), KMap.keep K7y4.out (Kp.of (S := fun _ => False) hby5) (fun q => q), Kcy5, by have := Hzy1.out; have := Hzy2.out; have := Hzy3.out; have := Hzy4.out; have := HBD.out.size; omega, by have := Hzy1.out; have := Hzy2.out; have := Hzy3.out; have := Hzy4.out; have := HBD.out.size; omega⟩
                      have HBX : Hid (Below w2.heap.size wd y5) := Lib.hid ((HBy4.out).trans (hby5.mono HSy4.out))
                      unfold chC at hy5
                      rw [← hy5]
                      clear hy5 hby5 Kcy5 HBy5
                      refine ⟨⟨WB.mk _ HBX.out, rfl⟩, ?_⟩
                      refine oneS 0 10 (by kernel_rfl) (by decide) ?_
                      simp only [List.take_succ_cons, List.take_zero, List.drop_succ_cons, List.drop_zero]
                      go_wp2_with fail
                      refine ⟨⟨WB.mk _ HBX.out, rfl⟩, ?_⟩
                      refine endS (by kernel_rfl) ?_
                      exact ⟨rfl, _, _, _, _, _, rfl, HF.out⟩
          · focus
              simp only [List.take_succ_cons, List.take_zero, List.drop_succ_cons, List.drop_zero]
              go_wp2_with fail
              obtain ⟨y2, hy2⟩ : ∃ y2, y2 = y1.alloc (.map #[] 0) := ⟨_, rfl⟩
              have hby2 : Below y1.heap.size y1 y2 := by rw [hy2]; exact (Below.refl _ _).alloc (Nat.le_refl _) _
              have Hzy2 : Hid (y2.heap.size = y1.heap.size + 1) := Lib.hid (by rw [hy2]; simp)
              have K5y2 : Hid (KMap 46 zeroV y2 y1.heap.size 0 (fun _ => none)) := Lib.hid (by rw [hy2]; exact KMap.made _ (zd := _) rfl y1)
              have K6y2 := Lib.hid (KMap.keep K6y1.out (Kp.of (S := fun _ => False) hby2) (fun q => q))
              have HSy2 : Hid (w2.heap.size ≤ y2.heap.size) := Lib.hid (Nat.le_trans HSy1.out hby2.size)
              have HBy2 : Hid (Below w2.heap.size wd y2) := Lib.hid (HBy1.out.trans (hby2.mono HSy1.out))
              rw [← hy2]
              clear hy2 hby2
              refine ⟨⟨WB.mk _ HBy2.out, rfl⟩, ?_⟩
              refine manyS 4 [4, 7] (by kernel_rfl) (by decide) (by decide) ?_
              refine List.forall_mem_cons.2 ⟨?_, List.forall_mem_cons.2 ⟨?_, fun _ h => nomatch h⟩⟩
              · focus
                  simp only [List.take_succ_cons, List.take_zero, List.drop_succ_cons, List.drop_zero]
                  go_wp2_with fail
                  obtain ⟨y3, hy3⟩ : ∃ y3, y3 = y2.alloc (.cells (zs (.slice none 0 0) nN) 23) := ⟨_, rfl⟩
                  have hby3 : Below y2.heap.size y2 y3 := by rw [hy3]; exact (Below.refl _ _).alloc (Nat.le_refl _) _
                  have Hzy3 : Hid (y3.heap.size = y2.heap.size + 1) := Lib.hid (by rw [hy3]; simp)
                  have K4y3 : Hid (Blk y3 y2.heap.size 23 (List.replicate nN (.slice none 0 0))) := Lib.hid (by rw [hy3]; exact Blk.made y2 _ _ nN)
                  have K6y3 := Lib.hid (KMap.keep K6y2.out (Kp.of (S := fun _ => False) hby3) (fun q => q))
                  have K5y3 := Lib.hid (KMap.keep K5y2.out (Kp.of (S := fun _ => False) hby3) (fun q => q))
                  have HSy3 : Hid (w2.heap.size ≤ y3.heap.size) := Lib.hid (Nat.le_trans HSy2.out hby3.size)
                  have HBy3 : Hid (Below w2.heap.size wd y3) := Lib.hid (HBy2.out.trans (hby3.mono HSy2.out))
                  rw [← hy3]
                  clear hy3 hby3
                  refine ⟨⟨WB.mk _ HBy3.out, rfl⟩, ?_⟩
                  refine manyS 3 [7] (by kernel_rfl) (by decide) (by decide) ?_
                  refine List.forall_mem_cons.2 ⟨?_, fun _ h => nomatch h⟩
                  · focus
                      simp only [List.take_succ_cons, List.take_zero, List.drop_succ_cons, List.drop_zero]
                      go_wp2_with fail
                      obtain ⟨y4, hy4⟩ : ∃ y4, y4 = y3.alloc (.map #[] 0) := ⟨_, rfl⟩
                      have hby4 : Below y3.heap.size y3 y4 := by rw [hy4]; exact (Below.refl _ _).alloc (Nat.le_refl _) _
                      have Hzy4 : Hid (y4.heap.size = y3.heap.size + 1) := Lib.hid (by rw [hy4]; simp)
                      have K7y4 : Hid (KMap 46 zeroV y4 y3.heap.size 0 (fun _ => none)) := Lib.hid (by rw [hy4]; exact KMap.made _ (zd := _) rfl y3)
                      have K6y4 := Lib.hid (KMap.keep K6y3.out (Kp.of (S := fun _ => False) hby4) (fun q => q))
                      have K5y4 := Lib.hid (KMap.keep K5y3.out (Kp.of (S := fun _ => False) hby4) (fun q => q))
                      have K4y4 := Lib.hid (K4y3.out.below' hby4)
                      have HSy4 : Hid (w2.heap.size ≤ y4.heap.size) := Lib.hid (Nat.le_trans HSy3.out hby4.size)
                      have HBy4 : Hid (Below w2.heap.size wd y4) := Lib.hid (HBy3.out.trans (hby4.mono HSy3.out))
                      rw [← hy4]
                      clear hy4 hby4
                      refine ⟨⟨WB.mk _ HBy4.out, rfl⟩, ?_⟩
                      show wpAnyS _ _ _ _ _ (2 + 1) _ _ _
                      refine takeS 2 8 1 (by kernel_rfl) (by kernel_rfl) (fun _ _ _ _ _ h => nomatch h.1) ⟨⟨_, HBy4.out⟩, rfl⟩ ?_
                      simp only [List.take_succ_cons, List.take_zero, List.drop_succ_cons, List.drop_zero]
                      repeat (first | go_big_quiet_skip | (go_big_quiet_want; go_big_quiet_op; go_big_quiet_on))
                      refine wpQuiet_nil ?_
                      refine oneS 1 9 (by kernel_rfl) (by decide) ?_
                      simp only [List.take_succ_cons, List.take_zero, List.drop_succ_cons, List.drop_zero]
                      go_wp2_with fail
                      obtain ⟨y5, hy5⟩ : ∃ y5, y5 = y4.alloc (.cells (chC G Ap Al As np cp nl cl ns cs Ai ni ci (.slice (some ⟨y2.heap.size, 0, none⟩) nN nN) (.slice none 0 0) y1.heap.size wd.heap.size y3.heap.size).toArray 59) := ⟨_, rfl⟩
                      have hby5 : Below y4.heap.size y4 y5 := by rw [hy5]; exact (Below.refl _ _).alloc (Nat.le_refl _) _
                      have Kcy5 : Blk y5 y4.heap.size 59 (chC G Ap Al As np cp nl cl ns cs Ai ni ci (.slice (some ⟨y2.heap.size, 0, none⟩) nN nN) (.slice none 0 0) y1.heap.size wd.heap.size y3.heap.size) := by rw [hy5]; exact Blk.new y4 _ _
                      have HBy5 := HBD.out.trans ((HBy4.out).trans (hby5.mono HSy4.out))
                      have HF : Hid (NcA w2 y5 y2.heap.size y1.heap.size wd.heap.size y3.heap.size y4.heap.size nN G Ap Al As np cp nl cl ns cs Ai ni ci) := Lib.hid ⟨HBy5, K4y4.out.below' hby5, KMap.keep K5y4.out (Kp.of (S := fun _ => False) hby5) (fun q => q), KMap.keep K6y4.out (Kp.of (S := fun _ => False) hby5) (fun q => q), KMap.keep K7y4.out (Kp.of (S := fun _ => False) hby5) (fun q => q), Kcy5, by have := Hzy1.out; have := Hzy2.out; have := Hzy3.out; have := Hzy4.out; have := HBD.out.size; omega, by have := Hzy1.out; have := Hzy2.out; have := Hzy3.out; have := Hzy4.out; have := HBD.out.size; omega⟩
                      have HBX : Hid (Below w2.heap.size wd y5) := Lib.hid ((HBy4.out).trans (hby5.mono HSy4.out))
                      unfold chC at hy5
                      rw [← hy5]
                      clear hy5 hby5 Kcy5 HBy5
                      refine ⟨⟨WB.mk _ HBX.out, rfl⟩, ?_⟩
                      refine oneS 0 10 (by kernel_rfl) (by decide) ?_
                      simp only [List.take_succ_cons, List.take_zero, List.drop_succ_cons, List.drop_zero]
                      go_wp2_with fail
                      refine ⟨⟨WB.mk _ HBX.out, rfl⟩, ?_⟩
                      refine endS (by kernel_rfl) ?_
                      exact ⟨rfl, _, _, _, _, _, rfl, HF.out⟩
              · focus
                  simp only [List.take_succ_cons, List.take_zero, List.drop_succ_cons, List.drop_zero]
                  go_wp2_with fail
                  obtain ⟨y3, hy3⟩ : ∃ y3, y3 = y2.alloc (.map #[] 0) := ⟨_, rfl⟩
                  have hby3 : Below y2.heap.size y2 y3 := by rw [hy3]; exact (Below.refl _ _).alloc (Nat.le_refl _) _
                  have Hzy3 : Hid (y3.heap.size = y2.heap.size + 1) := Lib.hid (by rw [hy3]; simp)
                  have K7y3 : Hid (KMap 46 zeroV y3 y2.heap.size 0 (fun _ => none)) := Lib.hid (by rw [hy3]; exact KMap.made _ (zd := _) rfl y2)
                  have K6y3 := Lib.hid (KMap.keep K6y2.out (Kp.of (S := fun _ => False) hby3) (fun q => q))
                  have K5y3 := Lib.hid (KMap.keep K5y2.out (Kp.of (S := fun _ => False) hby3) (fun q => q))
                  have HSy3 : Hid (w2.heap.size ≤ y3.heap.size) := Lib.hid (Nat.le_trans HSy2.out hby3.size)
                  have HBy3 : Hid (Below w2.heap.size wd y3) := Lib.hid (HBy2.out.trans (hby3.mono HSy2.out))
                  rw [← hy3]
                  clear hy3 hby3
                  refine ⟨⟨WB.mk _ HBy3.out, rfl⟩, ?_⟩
                  refine manyS 3 [4] (by kernel_rfl) (by decide) (by decide) ?_
                  refine List.forall_mem_cons.2 ⟨?_, fun _ h => nomatch h⟩
                  · focus
                      simp only [List.take_succ_cons, List.take_zero, List.drop_succ_cons, List.drop_zero]
                      go_wp2_with fail
                      obtain ⟨y4, hy4⟩ : ∃ y4, y4 = y3.alloc (.cells (zs (.slice none 0 0) nN) 23) := ⟨_, rfl⟩
                      have hby4 : Below y3.heap.size y3 y4 := by rw [hy4]; exact (Below.refl _ _).alloc (Nat.le_refl _) _
                      have Hzy4 : Hid (y4.heap.size = y3.heap.size + 1) := Lib.hid (by rw [hy4]; simp)
                      have K4y4 : Hid (Blk y4 y3.heap.size 23 (List.replicate nN (.slice none 0 0))) := Lib.hid (by rw [hy4]; exact Blk.made y3 _ _ nN)
                      have K6y4 := Lib.hid (KMap.keep K6y3.out (Kp.of (S := fun _ => False) hby4) (fun q => q))
                      have K5y4 := Lib.hid (KMap.keep K5y3.out (Kp.of (S := fun _ => False) hby4) (fun q => q))
                      have K7y4 := Lib.hid (KMap.keep K7y3.out (Kp.of (S := fun _ => False) hby4) (fun q => q))
                      have HSy4 : Hid (w2.heap.size ≤ y4.heap.size) := Lib.hid (Nat.le_trans HSy3.out hby4.size)
                      have HBy4 : Hid (Below w2.heap.size wd y4) := Lib.hid (HBy3.out.trans (hby4.mono HSy3.out))
                      rw [← hy4]
                      clear hy4 hby4
                      refine ⟨⟨WB.mk _ HBy4.out, rfl⟩, ?_⟩
                      show wpAnyS _ _ _ _ _ (2 + 1) _ _ _
                      refine takeS 2 8 1 (by kernel_rfl) (by kernel_rfl) (fun _ _ _ _ _ h => nomatch h.1) ⟨⟨_, HBy4.out⟩, rfl⟩ ?_
                      simp only [List.take_succ_cons, List.take_zero, List.drop_succ_cons, List.drop_zero]
                      repeat (first | go_big_quiet_skip | (go_big_quiet_want; go_big_quiet_op; go_big_quiet_on))
                      refine wpQuiet_nil ?_
                      refine oneS 1 9 (by kernel_rfl) (by decide) ?_
                      simp only [List.take_succ_cons, List.take_zero, List.drop_succ_cons, List.drop_zero]
                      go_wp2_with fail
                      obtain ⟨y5, hy5⟩ : ∃ y5, y5 = y4.alloc (.cells (chC G Ap Al As np cp nl cl ns cs Ai ni ci (.slice (some ⟨y3.heap.size, 0, none⟩) nN nN) (.slice none 0 0) y1.heap.size wd.heap.size y2.heap.size).toArray 59) := ⟨_, rfl⟩
                      have hby5 : Below y4.heap.size y4 y5 := by rw [hy5]; exact (Below.refl _ _).alloc (Nat.le_refl _) _
                      have Kcy5 : Blk y5 y4.heap.size 59 (chC G Ap Al As np cp nl cl ns cs Ai ni ci (.slice (some ⟨y3.heap.size, 0, none⟩) nN nN) (.slice none 0 0) y1.heap.size wd.heap.size y2.heap.size) := by rw [hy5]; exact Blk.new y4 _ _
                      have HBy5 := HBD.out.trans ((HBy4.out).trans (hby5.mono HSy4.out))
                      have HF : Hid (NcA w2 y5 y3.heap.size y1.heap.size wd.heap.size y2.heap.size y4.heap.size nN G Ap Al As np cp nl cl ns cs Ai ni ci) := Lib.hid ⟨HBy5, K4y4.out.below' hby5, KMap.keep K5y4.out (Kp.of (S := fun _ => False) hby5) (fun q => q), KMap.keep K6y4.out (Kp.of (S := fun _ => False) hby5) (fun q => q), KMap.keep K7y4.out (Kp.of (S := fun _ => False) hby5) (fun q => q), Kcy5, by have := Hzy1.out; have := Hzy2.out; have := Hzy3.out; have := Hzy4.out; have := HBD.out.size; omega, by have := Hzy1.out; have := Hzy2.out; have := Hzy3.out; have := Hzy4.out; have := HBD.out.size; omega⟩
                      have HBX : Hid (Below w2.heap.size wd y5) := Lib.hid ((HBy4.out).trans (hby5.mono HSy4.out))
                      unfold chC at hy5
                      rw [← hy5]
                      clear hy5 hby5 Kcy5 HBy5
                      refine ⟨⟨WB.mk _ HBX.out, rfl⟩, ?_⟩
                      refine oneS 0 10 (by kernel_rfl) (by decide) ?_
                      simp only [List.take_succ_cons, List.take_zero, List.drop_succ_cons, List.drop_zero]
                      go_wp2_with fail
                      refine ⟨⟨WB.mk _ HBX.out, rfl⟩, ?_⟩
                      refine endS (by kernel_rfl) ?_
                      exact ⟨rfl, _, _, _, _, _, rfl, HF.out⟩
          · focus
              simp only [List.take_succ_cons, List.take_zero, List.drop_succ_cons, List.drop_zero]
              go_wp2_with fail
              obtain ⟨y2, hy2⟩ : ∃ y2, y2 = y1.alloc (.map #[] 0) := ⟨_, rfl⟩
              have hby2 : Below y1.heap.size y1 y2 := by rw [hy2]; exact (Below.refl _ _).alloc (Nat.le_refl _) _
              have Hzy2 : Hid (y2.heap.size = y1.heap.size + 1) := Lib.hid (by rw [hy2]; simp)
              have K7y2 : Hid (KMap 46 zeroV y2 y1.heap.size 0 (fun _ => none)) := Lib.hid (by rw [hy2]; exact KMap.made _ (zd := _) rfl y1)
              have K6y2 := Lib.hid (KMap.keep K6y1.out (Kp.of (S := fun _ => False) hby2) (fun q => q))
              have HSy2 : Hid (w2.heap.size ≤ y2.heap.size) := Lib.hid (Nat.le_trans HSy1.out hby2.size)
              have HBy2 : Hid (Below w2.heap.size wd y2) := Lib.hid (HBy1.out.trans (hby2.mono HSy1.out))
              rw [← hy2]
              clear hy2 hby2
              refine ⟨⟨WB.mk _ HBy2.out, rfl⟩, ?_⟩
              refine manyS 4 [4, 5] (by kernel_rfl) (by decide) (by decide) ?_
              refine List.forall_mem_cons.2 ⟨?_, List.forall_mem_cons.2 ⟨?_, fun _ h => nomatch h⟩⟩
              · focus
                  simp only [List.take_succ_cons, List.take_zero, List.drop_succ_cons, List.drop_zero]
                  go_wp2_with fail
                  obtain ⟨y3, hy3⟩ : ∃ y3, y3 = y2.alloc (.cells (zs (.slice none 0 0) nN) 23) := ⟨_, rfl⟩
                  have hby3 : Below y2.heap.size y2 y3 := by rw [hy3]; exact (Below.refl _ _).alloc (Nat.le_refl _) _
                  have Hzy3 : Hid (y3.heap.size = y2.heap.size + 1) := Lib.hid (by rw [hy3]; simp)
                  have K4y3 : Hid (Blk y3 y2.heap.size 23 (List.replicate nN (.slice none 0 0))) := Lib.hid (by rw [hy3]; exact Blk.made y2 _ _ nN)
                  have K6y3 := Lib.hid (KMap.keep K6y2.out (Kp.of (S := fun _ => False) hby3) (fun q => q))
                  have K7y3 := Lib.hid (KMap.keep K7y2.out (Kp.of (S := fun _ => False) hby3) (fun q => q))
                  have HSy3 : Hid (w2.heap.size ≤ y3.heap.size) := Lib.hid (Nat.le_trans HSy2.out hby3.size)
                  have HBy3 : Hid (Below w2.heap.size wd y3) := Lib.hid (HBy2.out.trans (hby3.mono HSy2.out))
                  rw [← hy3]
                  clear hy3 hby3
                  refine ⟨⟨WB.mk _ HBy3.out, rfl⟩, ?_⟩
                  refine manyS 3 [5] (by kernel_rfl) (by decide) (by decide) ?_
                  refine List.forall_mem_cons.2 ⟨?_, fun _ h => nomatch h⟩
                  · focus
                      simp only [List.take_succ_cons, List.take_zero, List.drop_succ_cons, List.drop_zero]
                      go_wp2_with fail
                      obtain ⟨y4, hy4⟩ : ∃ y4, y4 = y3.alloc (.map #[] 0) := ⟨_, rfl⟩
                      have hby4 : Below y3.heap.size y3 y4 := by rw [hy4]; exact (Below.refl _ _).alloc (Nat.le_refl _) _
                      have Hzy4 : Hid (y4.heap.size = y3.heap.size + 1) := Lib.hid (by rw [hy4]; simp)
                      have K5y4 : Hid (KMap 46 zeroV y4 y3.heap.size 0 (fun _ => none)) := Lib.hid (by rw [hy4]; exact KMap.made _ (zd := _) rfl y3)
                      have K6y4 := Lib.hid (KMap.keep K6y3.out (Kp.of (S := fun _ => False) hby4) (fun q => q))
                      have K7y4 := Lib.hid (KMap.keep K7y3.out (Kp.of (S := fun _ => False) hby4) (fun q => q))
                      have K4y4 := Lib.hid (K4y3.out.below' hby4)
                      have HSy4 : Hid (w2.heap.size ≤ y4.heap.size) := Lib.hid (Nat.le_trans HSy3.out hby4.size)
                      have HBy4 : Hid (Below w2.heap.size wd y4) := Lib.hid (HBy3.out.trans (hby4.mono HSy3.out))
                      rw [← hy4]
                      clear hy4 hby4
                      refine ⟨⟨WB.mk _ HBy4.out, rfl⟩, ?_⟩
                      show wpAnyS _ _ _ _ _ (2 + 1) _ _ _
                      refine takeS 2 8 1 (by kernel_rfl) (by kernel_rfl) (fun _ _ _ _ _ h => nomatch h.1) ⟨⟨_, HBy4.out⟩, rfl⟩ ?_
                      simp only [List.take_succ_cons, List.take_zero, List.drop_succ_cons, List.drop_zero]
                      repeat (first | go_big_quiet_skip | (go_big_quiet_want; go_big_quiet_op; go_big_quiet_on))
                      refine wpQuiet_nil ?_
                      refine oneS 1 9 (by kernel_rfl) (by decide) ?_
                      simp only [List.take_succ_cons, List.take_zero, List.drop_succ_cons, List.drop_zero]
                      go_wp2_with fail
                      obtain ⟨y5, hy5⟩ : ∃ y5, y5 = y4.alloc (.cells (chC G Ap Al As np cp nl cl ns cs Ai ni ci (.slice (some ⟨y2.heap.size, 0, none⟩) nN nN) (.slice none 0 0) y3.heap.size wd.heap.size y1.heap.size).toArray 59) := ⟨_, rfl⟩
                      have hby5 : Below y4.heap.size y4 y5 := by rw [hy5]; exact (Below.refl _ _).alloc (Nat.le_refl _) _
                      have Kcy5 : Blk y5 y4.heap.size 59 (chC G Ap Al As np cp nl cl ns cs Ai ni ci (.slice (some ⟨y2.heap.size, 0, none⟩) nN nN) (.slice none 0 0) y3.heap.size wd.heap.size y1.heap.size) := by rw [hy5]; exact Blk.new y4 _ _
                      have HBy5 := HBD.out.trans ((HBy4.out).trans (hby5.mono HSy4.out))
                      have HF : Hid (NcA w2 y5 y2.heap.size y3.heap.size wd.heap.size y1.heap.size y4.heap.size nN G Ap Al As np cp nl cl ns cs Ai ni ci) := Lib.hid ⟨HBy5, K4y4.out.below' hby5, KMap.keep K5y4.out (Kp.of (S := fun _ => False) hby5) (fun q => q), KMap.keep K6y4.out (Kp.of (S := fun _ => False) hby5) (fun q => q), KMap.keep K7y4.out (Kp.of (S := fun _ => False) hby5) (fun q => q), Kcy5, by have := Hzy1.out; have := Hzy2.out; have := Hzy3.out; have := Hzy4.out; have := HBD.out.size; omega, by have := Hzy1.out; have := Hzy2.out; have := Hzy3.out; have := Hzy4.out; have := HBD.out.size; omega⟩
                      have HBX : Hid (Below w2.heap.size wd y5) := Lib.hid ((HBy4.out).trans (hby5.mono HSy4.out))
                      unfold chC at hy5
                      rw [← hy5]
                      clear hy5 hby5 Kcy5 HBy5
                      refine ⟨⟨WB.mk _ HBX.out, rfl⟩, ?_⟩
                      refine oneS 0 10 (by kernel_rfl) (by decide) ?_
                      simp only [List.take_succ_cons, List.take_zero, List.drop_succ_cons, List.drop_zero]
                      go_wp2_with fail
                      refine ⟨⟨WB.mk _ HBX.out, rfl⟩, ?_⟩
                      refine endS (by kernel_rfl) ?_
                      exact ⟨rfl, _, _, _, _, _, rfl, HF.out⟩
              · focus
                  simp only [List.take_succ_cons, List.take_zero, List.drop_succ_cons, List.drop_zero]
                  go_wp2_with fail
                  obtain ⟨y3, hy3⟩ : ∃ y3, y3 = y2.alloc (.map #[] 0) := ⟨_, rfl⟩
                  have hby3 : Below y2.heap.size y2 y3 := by rw [hy3]; exact (Below.refl _ _).alloc (Nat.le_refl _) _
                  have Hzy3 : Hid (y3.heap.size = y2.heap.size + 1) := Lib.hid (by rw [hy3]; simp)
                  have K5y3 : Hid (KMap 46 zeroV y3 y2.heap.size 0 (fun _ => none)) := Lib.hid (by rw [hy3]; exact KMap.made _ (zd := _) rfl y2)
                  have K6y3 := Lib.hid (KMap.keep K6y2.out (Kp.of (S := fun _ => False) hby3) (fun q => q))
                  have K7y3 := Lib.hid (KMap.keep K7y2.out (Kp.of (S := fun _ => False) hby3) (fun q => q))
                  have HSy3 : Hid (w2.heap.size ≤ y3.heap.size) := Lib.hid (Nat.le_trans HSy2.out hby3.size)
                  have HBy3 : Hid (Below w2.heap.size wd y3) := Lib.hid (HBy2.out.trans (hby3.mono HSy2.out))
                  rw [← hy3]
                  clear hy3 hby3
                  refine ⟨⟨WB.mk _ HBy3.out, rfl⟩, ?_⟩
                  refine manyS 3 [4] (by kernel_rfl) (by decide) (by decide) ?_
                  refine List.forall_mem_cons.2 ⟨?_, fun _ h => nomatch h⟩
                  · focus
                      simp only [List.take_succ_cons, List.take_zero, List.drop_succ_cons, List.drop_zero]
                      go_wp2_with fail
                      obtain ⟨y4, hy4⟩ : ∃ y4, y4 = y3.alloc (.cells (zs (.slice none 0 0) nN) 23) := ⟨_, rfl⟩
                      have hby4 : Below y3.heap.size y3 y4 := by rw [hy4]; exact (Below.refl _ _).alloc (Nat.le_refl _) _
                      have Hzy4 : Hid (y4.heap.size = y3.heap.size + 1) := Lib.hid (by rw [hy4]; simp)
                      have K4y4 : Hid (Blk y4 y3.heap.size 23 (List.replicate nN (.slice none 0 0))) := Lib.hid (by rw [hy4]; exact Blk.made y3 _ _ nN)
                      have K6y4 := Lib.hid (KMap.keep K6y3.out (Kp.of (S := fun _ => False) hby4) (fun q => q))
                      have K7y4 := Lib.hid (KMap.keep K7y3.out (Kp.of (S := fun _ => False) hby4) (fun q => q))
                      have K5y4 := Lib.hid (KMap.keep K5y3.out (Kp.of (S := fun _ => False) hby4) (fun q => q))
                      have HSy4 : Hid (w2.heap.size ≤ y4.heap.size) := Lib.hid (Nat.le_trans HSy3.out hby4.size)
                      have HBy4 : Hid (Below w2.heap.size wd y4) := Lib.hid (HBy3.out.trans (hby4.mono HSy3.out))
                      rw [← hy4]
                      clear hy4 hby4
                      refine ⟨⟨WB.mk _ HBy4.out, rfl⟩, ?_⟩
                      show wpAnyS _ _ _ _ _ (2 + 1) _ _ _
                      refine takeS 2 8 1 (by kernel_rfl) (by kernel_rfl) (fun _ _ _ _ _ h => nomatch h.1) ⟨⟨_, HBy4.out⟩, rfl⟩ ?_
                      simp only [List.take_succ_cons, List.take_zero, List.drop_succ_cons, List.drop_zero]
                      repeat (first | go_big_quiet_skip | (go_big_quiet_want; go_big_quiet_op; go_big_quiet_on))
                      refine wpQuiet_nil ?_
                      refine oneS 1 9 (by kernel_rfl) (by decide) ?_
                      simp only [List.take_succ_cons, List.take_zero, List.drop_succ_cons, List.drop_zero]
                      go_wp2_with fail
                      obtain ⟨y5, hy5⟩ : ∃ y5, y5 = y4.alloc (.cells (chC G Ap Al As np cp nl cl ns cs Ai ni ci (.slice (some ⟨y3.heap.size, 0, none⟩) nN nN) (.slice none 0 0) y2.heap.size wd.heap.size y1.heap.size).toArray 59) := ⟨_, rfl⟩
                      have hby5 : Below y4.heap.size y4 y5 := by rw [hy5]; exact (Below.refl _ _).alloc (Nat.le_refl _) _
                      have Kcy5 : Blk y5 y4.heap.size 59 (chC G Ap Al As np cp nl cl ns cs Ai ni ci (.slice (some ⟨y3.heap.size, 0, none⟩) nN nN) (.slice none 0 0) y2.heap.size wd.heap.size y1.heap.size) := by rw [hy5]; exact Blk.new y4 _ _
                      have HBy5 := HBD.out.trans ((HBy4.out).trans (hby5.mono HSy4.out))
                      have HF : Hid (NcA w2 y5 y3.heap.size y2.heap.size wd.heap.size y1.heap.size y4.heap.size nN G Ap Al As np cp nl cl ns cs Ai ni ci) := Lib.hid ⟨HBy5, K4y4.out.below' hby5, KMap.keep K5y4.out (Kp.of (S := fun _ => False) hby5) (fun q => q), KMap.keep K6y4.out (Kp.of (S := fun _ => False) hby5) (fun q => q), KMap.keep K7y4.out (Kp.of (S := fun _ => False) hby5) (fun q => q), Kcy5, by have := Hzy1.out; have := Hzy2.out; have := Hzy3.out; have := Hzy4.out; have := HBD.out.size; omega, by have := Hzy1.out; have := Hzy2.out; have := Hzy3.out; have := Hzy4.out; have := HBD.out.size; omega⟩
                      have HBX : Hid (Below w2.heap.size wd y5) := Lib.hid ((HBy4.out).trans (hby5.mono HSy4.out))
                      unfold chC at hy5
                      rw [← hy5]
                      clear hy5 hby5 Kcy5 HBy5
                      refine ⟨⟨WB.mk _ HBX.out, rfl⟩, ?_⟩
                      refine oneS 0 10 (by kernel_rfl) (by decide) ?_
                      simp only [List.take_succ_cons, List.take_zero, List.drop_succ_cons, List.drop_zero]
                      go_wp2_with fail
                      refine ⟨⟨WB.mk _ HBX.out, rfl⟩, ?_⟩
                      refine endS (by kernel_rfl) ?_
                      exact ⟨rfl, _, _, _, _, _, rfl, HF.out⟩
      · focus
          simp only [List.take_succ_cons, List.take_zero, List.drop_succ_cons, List.drop_zero]
          go_wp2_with fail
          obtain ⟨y1, hy1⟩ : ∃ y1, y1 = wd.alloc (.map #[] 0) := ⟨_, rfl⟩
          have hby1 : Below wd.heap.size wd y1 := by rw [hy1]; exact (Below.refl _ _).alloc (Nat.le_refl _) _
          have Hzy1 : Hid (y1.heap.size = wd.heap.size + 1) := Lib.hid (by rw [hy1]; simp)
          have K7y1 : Hid (KMap 46 zeroV y1 wd.heap.size 0 (fun _ => none)) := Lib.hid (by rw [hy1]; exact KMap.made _ (zd := _) rfl wd)
          have HSy1 : Hid (w2.heap.size ≤ y1.heap.size) := Lib.hid (Nat.le_trans HBD.out.size hby1.size)
          have HBy1 : Hid (Below w2.heap.size wd y1) := Lib.hid ((Below.refl w2.heap.size wd).trans (hby1.mono HBD.out.size))
          rw [← hy1]
          clear hy1 hby1
          refine ⟨⟨WB.mk _ HBy1.out, rfl⟩, ?_⟩
          refine manyS 5 [4, 5, 6] (by kernel_rfl) (by decide) (by decide) ?_
          refine List.forall_mem_cons.2 ⟨?_, List.forall_mem_cons.2 ⟨?_, List.forall_mem_cons.2 ⟨?_, fun _ h => nomatch h⟩⟩⟩
          · focus
              simp only [List.take_succ_cons, List.take_zero, List.drop_succ_cons, List.drop_zero]
              go_wp2_with fail
              obtain ⟨y2, hy2⟩ : ∃ y2, y2 = y1.alloc (.cells (zs (.slice none 0 0) nN) 23) := ⟨_, rfl⟩
              have hby2 : Below y1.heap.size y1 y2 := by rw [hy2]; exact (Below.refl _ _).alloc (Nat.le_refl _) _
              have Hzy2 : Hid (y2.heap.size = y1.heap.size + 1) := Lib.hid (by rw [hy2]; simp)
              have K4y2 : Hid (Blk y2 y1.heap.size 23 (List.replicate nN (.slice none 0 0))) := Lib.hid (by rw [hy2]; exact Blk.made y1 _ _ nN)
              have K7y2 := Lib.hid (KMap.keep K7y1.out (Kp.of (S := fun _ => False) hby2) (fun q => q))
              have HSy2 : Hid (w2.heap.size ≤ y2.heap.size) := Lib.hid (Nat.le_trans HSy1.out hby2.size)
              have HBy2 : Hid (Below w2.heap.size wd y2) := Lib.hid (HBy1.out.trans (hby2.mono HSy1.out))
              rw [← hy2]
              clear hy2 hby2
              refine ⟨⟨WB.mk _ HBy2.out, rfl⟩, ?_⟩
              refine manyS 4 [5, 6] (by kernel_rfl) (by decide) (by decide) ?_
              refine List.forall_mem_cons.2 ⟨?_, List.forall_mem_cons.2 ⟨?_, fun _ h => nomatch h⟩⟩
              · focus
                  simp only [List.take_succ_cons, List.take_zero, List.drop_succ_cons, List.drop_zero]
                  go_wp2_with fail
                  obtain ⟨y3, hy3⟩ : ∃ y3, y3 = y2.alloc (.map #[] 0) := ⟨_, rfl⟩
                  have hby3 : Below y2.heap.size y2 y3 := by rw [hy3]; exact (Below.refl _ _).alloc (Nat.le_refl _) _
                  have Hzy3 : Hid (y3.heap.size = y2.heap.size + 1) := Lib.hid (by rw [hy3]; simp)
                  have K5y3 : Hid (KMap 46 zeroV y3 y2.heap.size 0 (fun _ => none)) := Lib.hid (by rw [hy3]; exact KMap.made _ (zd := _) rfl y2)
                  have K7y3 := Lib.hid (KMap.keep K7y2.out (Kp.of (S := fun _ => False) hby3) (fun q => q))
                  have K4y3 := Lib.hid (K4y2.out.below' hby3)
                  have HSy3 : Hid (w2.heap.size ≤ y3.heap.size) := Lib.hid (Nat.le_trans HSy2.out hby3.size)
                  have HBy3 : Hid (Below w2.heap.size wd y3) := Lib.hid (HBy2.out.trans (hby3.mono HSy2.out))
                  rw [← hy3]
                  clear hy3 hby3
                  refine ⟨⟨WB.mk _ HBy3.out, rfl⟩, ?_⟩
                  refine manyS 3 [6] (by kernel_rfl) (by decide) (by decide) ?_
                  refine List.forall_mem_cons.2 ⟨?_, fun _ h => nomatch h⟩
                  · focus
                      simp only [List.take_succ_cons, List.take_zero, List.drop_succ_cons, List.drop_zero]
                      go_wp2_with fail
                      obtain ⟨y4, hy4⟩ : ∃ y4, y4 = y3.alloc (.map #[] 0) := ⟨_, rfl⟩
                      have hby4 : Below y3.heap.size y3 y4 := by rw [hy4]; exact (Below.refl _ _).alloc (Nat.le_refl _) _
                      have Hzy4 : Hid (y4.heap.size = y3.heap.size + 1) := Lib.hid (by rw [hy4]; simp)
                      have K6y4 : Hid (KMap 46 noneV y4 y3.heap.size 0 (fun _ => none)) := Lib.hid (by rw [hy4]; exact KMap.made _ (zd := _) rfl y3)
                      have K7y4 := Lib.hid (KMap.keep K7y3.out (Kp.of (S := fun _ => False) hby4) (fun q => q))
                      have K4y4 := Lib.hid (K4y3.out.below' hby4)
                      have K5y4 := Lib.hid (KMap.keep K5y3.out (Kp.of (S := fun _ => False) hby4) (fun q => q))
                      have HSy4 : Hid (w2.heap.size ≤ y4.heap.size) := Lib.hid (Nat.le_trans HSy3.out hby4.size)
                      have HBy4 : Hid (Below w2.heap.size wd y4) := Lib.hid (HBy3.out.trans (hby4.mono HSy3.out))
                      rw [← hy4]
                      clear hy4 hby4
                      refine ⟨⟨WB.mk _ HBy4.out, rfl⟩, ?_⟩
                      show wpAnyS _ _ _ _ _ (2 + 1) _ _ _
                      refine takeS 2 8 1 (by kernel_rfl) (by kernel_rfl) (fun _ _ _ _ _ h => nomatch h.1) ⟨⟨_, HBy4.out⟩, rfl⟩ ?_
                      simp only [List.take_succ_cons, List.take_zero, List.drop_succ_cons, List.drop_zero]
                      repeat (first | go_big_quiet_skip | (go_big_quiet_want; go_big_quiet_op; go_big_quiet_on))
                      refine wpQuiet_nil ?_
                      refine oneS 1 9 (by kernel_rfl) (by decide) ?_
                      simp only [List.take_succ_cons, List.take_zero, List.drop_succ_cons, List.drop_zero]
                      go_wp2_with fail
                      obtain ⟨y5, hy5⟩ : ∃ y5, y5 = y4.alloc (.cells (chC G Ap Al As np cp nl cl ns cs Ai ni ci (.slice (some ⟨y1.heap.size, 0, none⟩) nN nN) (.slice none 0 0) y2.heap.size y3.heap.size wd.heap.size).toArray 59) := ⟨_, rfl⟩
                      have hby5 : Below y4.heap.size y4 y5 := by rw [hy5]; exact (Below.refl _ _).alloc (Nat.le_refl _) _
                      have Kcy5 : Blk y5 y4.heap.size 59 (chC G Ap Al As np cp nl cl ns cs Ai ni ci (.slice (some ⟨y1.heap.size, 0, none⟩) nN nN) (.slice none 0 0) y2.heap.size y3.heap.size wd.heap.size) := by rw [hy5]; exact Blk.new y4 _ _
                      have HBy5 := HBD.out.trans ((HBy4.out).trans (hby5.mono HSy4.out))
                      have HF : Hid (NcA w2 y5 y1.heap.size y2.heap.size y3.heap.size wd.heap.size y4.heap.size nN G Ap Al As np cp nl cl ns cs Ai ni ci) := Lib.hid ⟨HBy5, K4y4.out.below' hby5, KMap.keep K5y4.out (Kp.of (S := fun _ => False) hby5) (fun q => q), KMap.keep K6y4.out (Kp.of (S := fun _ => False) hby5) (fun q => q), KMap.keep K7y4.out (Kp.of (S := fun _ => False) hby5) (fun q => q), Kcy5, by have := Hzy1.out; have := Hzy2.out; have := Hzy3.out; have := Hzy4.out; have := HBD.out.size; omega, by have := Hzy1.out; have := Hzy2.out; have := Hzy3.out; have := Hzy4.out; have := HBD.out.size; omega⟩
                      have HBX : Hid (Below w2.heap.size wd y5) := Lib.hid ((HBy4.out).trans (hby5.mono HSy4.out))
                      unfold chC at hy5
                      rw [← hy5]
                      clear hy5 hby5 Kcy5 HBy5
                      refine ⟨⟨WB.mk _ HBX.out, rfl⟩, ?_⟩
                      refine oneS 0 10 (by kernel_rfl) (by decide) ?_
                      simp only [List.take_succ_cons, List.take_zero, List.drop_succ_cons, List.drop_zero]
                      go_wp2_with fail
                      refine ⟨⟨WB.mk _ HBX.out, rfl⟩, ?_⟩
                      refine endS (by kernel_rfl) ?_
                      exact ⟨rfl, _, _, _, _, _, rfl, HF.out⟩
              · focus
                  simp only [List.take_succ_cons, List.take_zero, List.drop_succ_cons, List.drop_zero]
                  go_wp2_with fail
                  obtain ⟨y3, hy3⟩ : ∃ y3, y3 = y2.alloc (.map #[] 0) := ⟨_, rfl⟩
                  have hby3 : Below y2.heap.size y2 y3 := by rw [hy3]; exact (Below.refl _ _).alloc (Nat.le_refl _) _
                  have Hzy3 : Hid (y3.heap.size = y2.heap.size + 1) := Lib.hid (by rw [hy3]; simp)
                  have K6y3 : Hid (KMap 46 noneV y3 y2.heap.size 0 (fun _ => none)) := Lib.hid (by rw [hy3]; exact KMap.made _ (zd := _) rfl y2)
                  have K7y3 := Lib.hid (KMap.keep K7y2.out (Kp.of (S := fun _ => False) hby3) (fun q => q))
                  have K4y3 := Lib.hid (K4y2.out.below' hby3)
                  have HSy3 : Hid (w2.heap.size ≤ y3.heap.size) := Lib.hid (Nat.le_trans HSy2.out hby3.size)
                  have HBy3 : Hid (Below w2.heap.size wd y3) := Lib.hid (HBy2.out.trans (hby3.mono HSy2.out))
                  rw [← hy3]
                  clear hy3 hby3
                  refine ⟨⟨WB.mk _ HBy3.out, rfl⟩, ?_⟩
                  refine manyS 3 [5] (by kernel_rfl) (by decide) (by decide) ?_
                  refine List.forall_mem_cons.2 ⟨?_, fun _ h => nomatch h⟩
                  · focus
                      simp only [List.take_succ_cons, List.take_zero, List.drop_succ_cons, List.drop_zero]
                      go_wp2_with fail
                      obtain ⟨y4, hy4⟩ : ∃ y4, y4 = y3.alloc (.map #[] 0) := ⟨_, rfl⟩
                      have hby4 : Below y3.heap.size y3 y4 := by rw [hy4]; exact (Below.refl _ _).alloc (Nat.le_refl _) _
                      have Hzy4 : Hid (y4.heap.size = y3.heap.size + 1) := Lib.hid (by rw [hy4]; simp)
                      have K5y4 : Hid (KMap 46 zeroV y4 y3.heap.size 0 (fun _ => none)) := Lib.hid (by rw [hy4]; exact KMap.made _ (zd := _) rfl y3)
                      have K7y4 := Lib.hid (KMap.keep K7y3.out (Kp.of (S := fun _ => False) hby4) (fun q => q))
                      have K4y4 := Lib.hid (K4y3.out.below' hby4)
                      have K6y4 := Lib.hid (KMap.keep K6y3.out (Kp.of (S := fun _ => False) hby4) (fun q => q))
                      have HSy4 : Hid (w2.heap.size ≤ y4.heap.size) := Lib.hid (Nat.le_trans HSy3.out hby4.size)
                      have HBy4 : Hid (Below w2.heap.size wd y4) := Lib.hid (HBy3.out.trans (hby4.mono HSy3.out))
                      rw [← hy4]
                      clear hy4 hby4
                      refine ⟨⟨WB.mk _ HBy4.out, rfl⟩, ?_⟩
                      show wpAnyS _ _ _ _ _ (2 + 1) _ _ _
                      refine takeS 2 8 1 (by kernel_rfl) (by kernel_rfl) (fun _ _ _ _ _ h => nomatch h.1) ⟨⟨_, HBy4.out⟩, rfl⟩ ?_
                      simp only [List.take_succ_cons, List.take_zero, List.drop_succ_cons, List.drop_zero]
                      repeat (first | go_big_quiet_skip | (go_big_quiet_want; go_big_quiet_op; go_big_quiet_on))
                      refine wpQuiet_nil ?_
                      refine oneS 1 9 (by kernel_rfl) (by decide) ?_
                      simp only [List.take_succ_cons, List.take_zero, List.drop_succ_cons, List.drop_zero]
                      go_wp2_with fail
                      obtain ⟨y5, hy5⟩ : ∃ y5, y5 = y4.alloc (.cells (chC G Ap Al As np cp nl cl ns cs Ai ni ci (.slice (some ⟨y1.heap.size, 0, none⟩) nN nN) (.slice none 0 0) y3.heap.size y2.heap.size wd.heap.size).toArray 59) := ⟨_, rfl⟩
                      have hby5 : Below y4.heap.size y4 y5 := by rw [hy5]; exact (Below.refl _ _).alloc (Nat.le_refl _) _
                      have Kcy5 : Blk y5 y4.heap.size 59 (chC G Ap Al As np cp nl cl ns cs Ai ni ci (.slice (some ⟨y1.heap.size, 0, none⟩) nN nN) (.slice none 0 0) y3.heap.size y2.heap.size wd.heap.size) := by rw [hy5]; exact Blk.new y4 _ _
                      have HBy5 := HBD.out.trans ((HBy4.out).trans (hby5.mono HSy4.out))
                      have HF : Hid (NcA w2 y5 y1.heap.size y3.heap.size y2.heap.size wd.heap.size y4.heap.size nN G Ap Al As np cp nl cl ns cs Ai ni ci) := Lib.hid ⟨HBy5, K4y4.out.below' hby5, KMap.keep K5y4.out (Kp.of (S := fun _ => False) hby5) (fun q => q), KMap.keep K6y4.out (Kp.of (S := fun _ => False) hby5) (fun q => q), KMap.keep K7y4.out (Kp.of (S := fun _ => False) hby5) (fun q => q), Kcy5, by have := Hzy1.out; have := Hzy2.out; have := Hzy3.out; have := Hzy4.out; have := HBD.out.size; omega, by have := Hzy1.out; have := Hzy2.out; have := Hzy3.out; have := Hzy4.out; have := HBD.out.size; omega⟩
                      have HBX : Hid (Below w2.heap.size wd y5) := Lib.hid ((HBy4.out).trans (hby5.mono HSy4.out))
                      unfold chC at hy5
                      rw [← hy5]
                      clear hy5 hby5 Kcy5 HBy5
                      refine ⟨⟨WB.mk _ HBX.out, rfl⟩, ?_⟩
                      refine oneS 0 10 (by kernel_rfl) (by decide) ?_
                      simp only [List.take_succ_cons, List.take_zero, List.drop_succ_cons, List.drop_zero]
                      go_wp2_with fail
                      refine ⟨⟨WB.mk _ HBX.out, rfl⟩, ?_⟩
                      refine endS (by kernel_rfl) ?_
                      exact ⟨rfl, _, _, _, _, _, rfl, HF.out⟩
          · focus
              simp only [List.take_succ_cons, List.take_zero, List.drop_succ_cons, List.drop_zero]
              go_wp2_with fail
              obtain ⟨y2, hy2⟩ : ∃ y2, y2 = y1.alloc (.map #[] 0) := ⟨_, rfl⟩
              have hby2 : Below y1.heap.size y1 y2 := by rw [hy2]; exact (Below.refl _ _).alloc (Nat.le_refl _) _
              have Hzy2 : Hid (y2.heap.size = y1.heap.size + 1) := Lib.hid (by rw [hy2]; simp)
              have K5y2 : Hid (KMap 46 zeroV y2 y1.heap.size 0 (fun _ => none)) := Lib.hid (by rw [hy2]; exact KMap.made _ (zd := _) rfl y1)
              have K7y2 := Lib.hid (KMap.keep K7y1.out (Kp.of (S := fun _ => False) hby2) (fun q => q))
              have HSy2 : Hid (w2.heap.size ≤ y2.heap.size) := Lib.hid (Nat.le_trans HSy1.out hby2.size)
              have HBy2 : Hid (Below w2.heap.size wd y2) := Lib.hid (HBy1.out.trans (hby2.mono HSy1.out))
              rw [← hy2]
              clear hy2 hby2
              refine ⟨⟨WB.mk _ HBy2.out, rfl⟩, ?_⟩
              refine manyS 4 [4, 6] (by kernel_rfl) (by decide) (by decide) ?_
              refine List.forall_mem_cons.2 ⟨?_, List.forall_mem_cons.2 ⟨?_, fun _ h => nomatch h⟩⟩
              · focus
                  simp only [List.take_succ_cons, List.take_zero, List.drop_succ_cons, List.drop_zero]
                  go_wp2_with fail
                  obtain ⟨y3, hy3⟩ : ∃ y3, y3 = y2.alloc (.cells (zs (.slice none 0 0) nN) 23) := ⟨_, rfl⟩
                  have hby3 : Below y2.heap.size y2 y3 := by rw [hy3]; exact (Below.refl _ _).alloc (Nat.le_refl _) _
                  have Hzy3 : Hid (y3.heap.size = y2.heap.size + 1) := Lib.hid (by rw [hy3]; simp)
                  have K4y3 : Hid (Blk y3 y2.heap.size 23 (List.replicate nN (.slice none 0 0))) := Lib.hid (by rw [hy3]; exact Blk.made y2 _ _ nN)
                  have K7y3 := Lib.hid (KMap.keep K7y2.out (Kp.of (S := fun _ => False) hby3) (fun q => q))
                  have K5y3 := Lib.hid (KMap.keep K5y2.out (Kp.of (S := fun _ => False) hby3) (fun q => q))
                  have HSy3 : Hid (w2.heap.size ≤ y3.heap.size) := Lib.hid (Nat.le_trans HSy2.out hby3.size)
                  have HBy3 : Hid (Below w2.heap.size wd y3) := Lib.hid (HBy2.out.trans (hby3.mono HSy2.out))
                  rw [← hy3]
                  clear hy3 hby3
                  refine ⟨⟨WB.mk _ HBy3.out, rfl⟩, ?_⟩
                  refine manyS 3 [6] (by kernel_rfl) (by decide) (by decide) ?_
                  refine List.forall_mem_cons.2 ⟨?_, fun _ h => nomatch h⟩
                  · focus
                      simp only [List.take_succ_cons, List.take_zero, List.drop_succ_cons, List.drop_zero]
                      go_wp2_with fail
                      obtain ⟨y4, hy4⟩ : ∃ y4, y4 = y3.alloc (.map #[] 0) := ⟨_, rfl⟩
                      have hby4 : Below y3.heap.size y3 y4 := by rw [hy4]; exact (Below.refl _ _).alloc (Nat.le_refl _) _
                      have Hzy4 : Hid (y4.heap.size = y3.heap.size + 1) := Lib.hid (by rw [hy4]; simp)
                      have K6y4 : Hid (KMap 46 noneV y4 y3.heap.size 0 (fun _ => none)) := Lib.hid (by rw [hy4]; exact KMap.made _ (zd := _) rfl y3)
                      have K7y4 := Lib.hid (KMap.keep K7y3.out (Kp.of (S := fun _ => False) hby4) (fun q => q))
                      have K5y4 := Lib.hid (KMap.keep K5y3.out (Kp.of (S := fun _ => False) hby4) (fun q => q))
                      have K4y4 := Lib.hid (K4y3.out.below' hby4)
                      have HSy4 : Hid (w2.heap.size ≤ y4.heap.size) := Lib.hid (Nat.le_trans HSy3.out hby4.size)
                      have HBy4 : Hid (Below w2.heap.size wd y4) := Lib.hid (HBy3.out.trans (hby4.mono HSy3.out))
                      rw [← hy4]
                      clear hy4 hby4
                      refine ⟨⟨WB.mk _ HBy4.out, rfl⟩, ?_⟩
                      show wpAnyS _ _ _ _ _ (2 + 1) _ _ _
                      refine takeS 2 8 1 (by kernel_rfl) (by kernel_rfl) (fun _ _ _ _ _ h => nomatch h.1) ⟨⟨_, HBy4.out⟩, rfl⟩ ?_
                      simp only [List.take_succ_cons, List.take_zero, List.drop_succ_cons, List.drop_zero]
                      repeat (first | go_big_quiet_skip | (go_big_quiet_want; go_big_quiet_op; go_big_quiet_on))
                      refine wpQuiet_nil ?_
                      refine oneS 1 9 (by kernel_rfl) (by decide) ?_
                      simp only [List.take_succ_cons, List.take_zero, List.drop_succ_cons, List.drop_zero]
                      go_wp2_with fail
                      obtain ⟨y5, hy5⟩ : ∃ y5, y5 = y4.alloc (.cells (chC G Ap Al As np cp nl cl ns cs Ai ni ci (.slice (some ⟨y2.heap.size, 0, none⟩) nN nN) (.slice none 0 0) y1.heap.size y3.heap.size wd.heap.size).toArray 59) := ⟨_, rfl⟩
                      have hby5 : Below y4.heap.size y4 y5 := by rw [hy5]; exact (Below.refl _ _).alloc (Nat.le_refl _) _
                      have Kcy5 : Blk y5 y4.heap.size 59 (chC G Ap Al As np cp nl cl ns cs Ai ni ci (.slice (some ⟨y2.heap.size, 0, none⟩) nN nN) (.slice none 0 0) y1.heap.size y3.heap.size wd.heap.size) := by rw [hy5]; exact Blk.new y4 _ _
                      have HBy5 := HBD.out.trans ((HBy4.out).trans (hby5.mono HSy4.out))
                      have HF : Hid (NcA w2 y5 y2.heap.size y1.heap.size y3.heap.size wd.heap.size y4.heap.size nN G Ap Al As np cp nl cl ns cs Ai ni ci) := Lib.hid ⟨HBy5, K4y4.out.below' hby5, KMap.keep K5y4.out (Kp.of (S := fun _ => False) hby5) (fun q => q), KMap.keep K6y4.out (Kp.of (S := fun _ => False) hby5) (fun q => q), KMap.keep K7y4.out (Kp.of (S := fun _ => False) hby5) (fun q => q), Kcy5, by have := Hzy1.out; have := Hzy2.out; have := Hzy3.out; have := Hzy4.out; have := HBD.out.size; omega, by have := Hzy1.out; have := Hzy2.out; have := Hzy3.out; have := Hzy4.out; have := HBD.out.size; omega⟩
                      have HBX : Hid (Below w2.heap.size wd y5) := Lib.hid ((HBy4.out).trans (hby5.mono HSy4.out))
                      unfold chC at hy5
                      rw [← hy5]
                      clear hy5 hby5 Kcy5 HBy5
                      refine ⟨⟨WB.mk _ HBX.out, rfl⟩, ?_⟩
                      refine oneS 0 10 (by kernel_rfl) (by decide) ?_
                      simp only [List.take_succ_cons, List.take_zero, List.drop_succ_cons, List.drop_zero]
                      go_wp2_with fail
                      refine ⟨⟨WB.mk _ HBX.out, rfl⟩, ?_⟩
                      refine endS (by kernel_rfl) ?_
                      exact ⟨rfl, _, _, _, _, _, rfl, HF.out⟩
              · focus
                  simp only [List.take_succ_cons, List.take_zero, List.drop_succ_cons, List.drop_zero]
                  go_wp2_with fail
                  obtain ⟨y3, hy3⟩ : ∃ y3, y3 = y2.alloc (.map #[] 0) := ⟨_, rfl⟩
                  have hby3 : Below y2.heap.size y2 y3 := by rw [hy3]; exact (Below.refl _ _).alloc (Nat.le_refl _) _
                  have Hzy3 : Hid (y3.heap.size = y2.heap.size + 1) := Lib.hid (by rw [hy3]; simp)
                  have K6y3 : Hid (KMap 46 noneV y3 y2.heap.size 0 (fun _ => none)) := Lib.hid (by rw [hy3]; exact KMap.made _ (zd := _) rfl y2)
                  have K7y3 := Lib.hid (KMap.keep K7y2.out (Kp.of (S := fun _ => False) hby3) (fun q => q))
                  have K5y3 := Lib.hid (KMap.keep K5y2.out (Kp.of (S := fun _ => False) hby3) (fun q => q))
                  have HSy3 : Hid (w2.heap.size ≤ y3.heap.size) := Lib.hid (Nat.le_trans HSy2.out hby3.size)
                  have HBy3 : Hid (Below w2.heap.size wd y3) := Lib.hid (HBy2.out.trans (hby3.mono HSy2.out))
                  rw [← hy3]
                  clear hy3 hby3
                  refine ⟨⟨WB.mk _ HBy3.out, rfl⟩, ?_⟩
                  refine manyS 3 [4] (by kernel_rfl) (by decide) (by decide) ?_
                  refine List.forall_mem_cons.2 ⟨?_, fun _ h => nomatch h⟩
                  · focus
                      simp only [List.take_succ_cons, List.take_zero, List.drop_succ_cons, List.drop_zero]
                      go_wp2_with fail
                      obtain ⟨y4, hy4⟩ : ∃ y4, y4 = y3.alloc (.cells (zs (.slice none 0 0) nN) 23) := ⟨_, rfl⟩
                      have hby4 : Below y3.heap.size y3 y4 := by rw [hy4]; exact (Below.refl _ _).alloc (Nat.le_refl _) _
                      have Hzy4 : Hid (y4.heap.size = y3.heap.size + 1) := Lib.hid (by rw [hy4]; simp)
                      have K4y4 : Hid (Blk y4 y3.heap.size 23 (List.replicate nN (.slice none 0 0))) := Lib.hid (by rw [hy4]; exact Blk.made y3 _ _ nN)
                      have K7y4 := Lib.hid (KMap.keep K7y3.out (Kp.of (S := fun _ => False) hby4) (fun q => q))
                      have K5y4 := Lib.hid (KMap.keep K5y3.out (Kp.of (S := fun _ => False) hby4) (fun q => q))
                      have K6y4 := Lib.hid (KMap.keep K6y3.out (Kp.of (S := fun _ => False) hby4) (fun q => q))
                      have HSy4 : Hid (w2.heap.size ≤ y4.heap.size) := Lib.hid (Nat.le_trans HSy3.out hby4.size)
                      have HBy4 : Hid (Below w2.heap.size wd y4) := Lib.hid (HBy3.out.trans (hby4.mono HSy3.out))
                      rw [← hy4]
                      clear hy4 hby4
                      refine ⟨⟨WB.mk _ HBy4.out, rfl⟩, ?_⟩
                      show wpAnyS _ _ _ _ _ (2 + 1) _ _ _
                      refine takeS 2 8 1 (by kernel_rfl) (by kernel_rfl) (fun _ _ _ _ _ h => nomatch h.1) ⟨⟨_, HBy4.out⟩, rfl⟩ ?_
                      simp only [List.take_succ_cons, List.take_zero, List.drop_succ_cons, List.drop_zero]
                      repeat (first | go_big_quiet_skip | (go_big_quiet_want; go_big_quiet_op; go_big_quiet_on))
                      refine wpQuiet_nil ?_
                      refine oneS 1 9 (by kernel_rfl) (by decide) ?_
                      simp only [List.take_succ_cons, List.take_zero, List.drop_succ_cons, List.drop_zero]
                      go_wp2_with fail
                      obtain ⟨y5, hy5⟩ : ∃ y5, y5 = y4.alloc (.cells (chC G Ap Al As np cp nl cl ns cs Ai ni ci (.slice (some ⟨y3.heap.size, 0, none⟩) nN nN) (.slice none 0 0) y1.heap.size y2.heap.size wd.heap.size).toArray 59) := ⟨_, rfl⟩
                      have hby5 : Below y4.heap.size y4 y5 := by rw [hy5]; exact (Below.refl _ _).alloc (Nat.le_refl _) _
                      have Kcy5 : Blk y5 y4.heap.size 59 (chC G Ap Al As np cp nl cl ns cs Ai ni ci (.slice (some ⟨y3.heap.size, 0, none⟩) nN nN) (.slice none 0 0) y1.heap.size y2.heap.size wd.heap.size) := by rw [hy5]; exact Blk.new y4 _ _
                      have HBy5 := HBD.out.trans ((HBy4.out).trans (hby5.mono HSy4.out))
                      have HF : Hid (NcA w2 y5 y3.heap.size y1.heap.size y2.heap.size wd.heap.size y4.heap.size nN G Ap Al As np cp nl cl ns cs Ai ni ci) := Lib.hid ⟨HBy5, K4y4.out.below' hby5, KMap.keep K5y4.out (Kp.of (S := fun _ => False) hby5) (fun q => q), KMap.keep K6y4.out (Kp.of (S := fun _ => False) hby5) (fun q => q), KMap.keep K7y4.out (Kp.of (S := fun _ => False) hby5) (fun q => q), Kcy5, by have := Hzy1.out; have := Hzy2.out; have := Hzy3.out; have := Hzy4.out; have := HBD.out.size; omega, by have := Hzy1.out; have := Hzy2.out; have := Hzy3.out; have := Hzy4.out; have := HBD.out.size; omega⟩
                      have HBX : Hid (Below w2.heap.size wd y5) := Lib.hid ((HBy4.out).trans (hby5.mono HSy4.out))
                      unfold chC at hy5
                      rw [← hy5]
                      clear hy5 hby5 Kcy5 HBy5
                      refine ⟨⟨WB.mk _ HBX.out, rfl⟩, ?_⟩
                      refine oneS 0 10 (by kernel_rfl) (by decide) ?_
                      simp only [List.take_succ_cons, List.take_zero, List.drop_succ_cons, List.drop_zero]
                      go_wp2_with fail
                      refine ⟨⟨WB.mk _ HBX.out, rfl⟩, ?_⟩
                      refine endS (by kernel_rfl) ?_
                      exact ⟨rfl, _, _, _, _, _, rfl, HF.out⟩
          · focus
              simp only [List.take_succ_cons, List.take_zero, List.drop_succ_cons, List.drop_zero]
              go_wp2_with fail
              obtain ⟨y2, hy2⟩ : ∃ y2, y2 = y1.alloc (.map #[] 0) := ⟨_, rfl⟩
              have hby2 : Below y1.heap.size y1 y2 := by rw [hy2]; exact (Below.refl _ _).alloc (Nat.le_refl _) _
              have Hzy2 : Hid (y2.heap.size = y1.heap.size + 1) := Lib.hid (by rw [hy2]; simp)
              have K6y2 : Hid (KMap 46 noneV y2 y1.heap.size 0 (fun _ => none)) := Lib.hid (by rw [hy2]; exact KMap.made _ (zd := _) rfl y1)
              have K7y2 := Lib.hid (KMap.keep K7y1.out (Kp.of (S := fun _ => False) hby2) (fun q => q))
              have HSy2 : Hid (w2.heap.size ≤ y2.heap.size) := Lib.hid (Nat.le_trans HSy1.out hby2.size)
              have HBy2 : Hid (Below w2.heap.size wd y2) := Lib.hid (HBy1.out.trans (hby2.mono HSy1.out))
              rw [← hy2]
              clear hy2 hby2
              refine ⟨⟨WB.mk _ HBy2.out, rfl⟩, ?_⟩
              refine manyS 4 [4, 5] (by kernel_rfl) (by decide) (by decide) ?_
              refine List.forall_mem_cons.2 ⟨?_, List.forall_mem_cons.2 ⟨?_, fun _ h => nomatch h⟩⟩
              · focus
                  simp only [List.take_succ_cons, List.take_zero, List.drop_succ_cons, List.drop_zero]
                  go_wp2_with fail
                  obtain ⟨y3, hy3⟩ : ∃ y3, y3 = y2.alloc (.cells (zs (.slice none 0 0) nN) 23) := ⟨_, rfl⟩
                  have hby3 : Below y2.heap.size y2 y3 := by rw [hy3]; exact (Below.refl _ _).alloc (Nat.le_refl _) _
                  have Hzy3 : Hid (y3.heap.size = y2.heap.size + 1) := Lib.hid (by rw [hy3]; simp)
                  have K4y3 : Hid (Blk y3 y2.heap.size 23 (List.replicate nN (.slice none 0 0))) := Lib.hid (by rw [hy3]; exact Blk.made y2 _ _ nN)
                  have K7y3 := Lib.hid (KMap.keep K7y2.out (Kp.of (S := fun _ => False) hby3) (fun q => q))
                  have K6y3 := Lib.hid (KMap.keep K6y2.out (Kp.of (S := fun _ => False) hby3) (fun q => q))
                  have HSy3 : Hid (w2.heap.size ≤ y3.heap.size) := Lib.hid (Nat.le_trans HSy2.out hby3.size)
                  have HBy3 : Hid (Below w2.heap.size wd y3) := Lib.hid (HBy2.out.trans (hby3.mono HSy2.out))
                  rw [← hy3]
                  clear hy3 hby3
                  refine ⟨⟨WB.mk _ HBy3.out, rfl⟩, ?_⟩
                  refine manyS 3 [5] (by kernel_rfl) (by decide) (by decide) ?_
                  refine List.forall_mem_cons.2 ⟨?_, fun _ h => nomatch h⟩
                  · focus
                      simp only [List.take_succ_cons, List.take_zero, List.drop_succ_cons, List.drop_zero]
                      go_wp2_with fail
                      obtain ⟨y4, hy4⟩ : ∃ y4, y4 = y3.alloc (.map #[] 0) := ⟨_, rfl⟩
                      have hby4 : Below y3.heap.size y3 y4 := by rw [hy4]; exact (Below.refl _ _).alloc (Nat.le_refl _) _
                      have Hzy4 : Hid (y4.heap.size = y3.heap.size + 1) := Lib.hid (by rw [hy4]; simp)
                      have K5y4 : Hid (KMap 46 zeroV y4 y3.heap.size 0 (fun _ => none)) := Lib.hid (by rw [hy4]; exact KMap.made _ (zd := _) rfl y3)
                      have K7y4 := Lib.hid (KMap.keep K7y3.out (Kp.of (S := fun _ => False) hby4) (fun q => q))
                      have K6y4 := Lib.hid (KMap.keep K6y3.out (Kp.of (S := fun _ => False) hby4) (fun q => q))
                      have K4y4 := Lib.hid (K4y3.out.below' hby4)
                      have HSy4 : Hid (w2.heap.size ≤ y4.heap.size) := Lib.hid (Nat.le_trans HSy3.out hby4.size)
                      have HBy4 : Hid (Below w2.heap.size wd y4) := Lib.hid (HBy3.out.trans (hby4.mono HSy3.out))
                      rw [← hy4]
                      clear hy4 hby4
                      refine ⟨⟨WB.mk _ HBy4.out, rfl⟩, ?_⟩
                      show wpAnyS _ _ _ _ _ (2 + 1) _ _ _
                      refine takeS 2 8 1 (by kernel_rfl) (by kernel_rfl) (fun _ _ _ _ _ h => nomatch h.1) ⟨⟨_, HBy4.out⟩, rfl⟩ ?_
                      simp only [List.take_succ_cons, List.take_zero, List.drop_succ_cons, List.drop_zero]
                      repeat (first | go_big_quiet_skip | (go_big_quiet_want; go_big_quiet_op; go_big_quiet_on))
                      refine wpQuiet_nil ?_
                      refine oneS 1 9 (by kernel_rfl) (by decide) ?_
                      simp only [List.take_succ_cons, List.take_zero, List.drop_succ_cons, List.drop_zero]
                      go_wp2_with fail
                      obtain ⟨y5, hy5⟩ : ∃ y5, y5 = y4.alloc (.cells (chC G Ap Al As np cp nl cl ns cs Ai ni ci (.slice (some ⟨y2.heap.size, 0, none⟩) nN nN) (.slice none 0 0) y3.heap.size y1.heap.size wd.heap.size).toArray 59) := ⟨_, rfl⟩
                      have hby5 : Below y4.heap.size y4 y5 := by rw [hy5]; exact (Below.refl _ _).alloc (Nat.le_refl _) _
                      have Kcy5 : Blk y5 y4.heap.size 59 (chC G Ap Al As np cp nl cl ns cs Ai ni ci (.slice (some ⟨y2.heap.size, 0, none⟩) nN nN) (.slice none 0 0) y3.heap.size y1.heap.size wd.heap.size) := by rw [hy5]; exact Blk.new y4 _ _
                      have HBy5 := HBD.out.trans ((HBy4.out).trans (hby5.mono HSy4.out))
                      have HF : Hid (NcA w2 y5 y2.heap.size y3.heap.size y1.heap.size wd.heap.size y4.heap.size nN G Ap Al As np cp nl cl ns cs Ai ni ci) := Lib.hid ⟨HBy5, K4y4.out.below' hby5, KMap.keep K5y4.out (Kp.of (S := fun _ => False) hby5) (fun q => q), KMap.keep K6y4.out (Kp.of (S := fun _ => False) hby5) (fun q => q), KMap.keep K7y4.out (Kp.of (S := fun _ => False) hby5) (fun q => q), Kcy5, by have := Hzy1.out; have := Hzy2.out; have := Hzy3.out; have := Hzy4.out; have := HBD.out.size; omega, by have := Hzy1.out; have := Hzy2.out; have := Hzy3.out; have := Hzy4.out; have := HBD.out.size; omega⟩
                      have HBX : Hid (Below w2.heap.size wd y5) := Lib.hid ((HBy4.out).trans (hby5.mono HSy4.out))
                      unfold chC at hy5
                      rw [← hy5]
                      clear hy5 hby5 Kcy5 HBy5
                      refine ⟨⟨WB.mk _ HBX.out, rfl⟩, ?_⟩
                      refine oneS 0 10 (by kernel_rfl) (by decide) ?_
                      simp only [List.take_succ_cons, List.take_zero, List.drop_succ_cons, List.drop_zero]
                      go_wp2_with fail
                      refine ⟨⟨WB.mk _ HBX.out, rfl⟩, ?_⟩
                      refine endS (by kernel_rfl) ?_
                      exact ⟨rfl, _, _, _, _, _, rfl, HF.out⟩
              · focus
                  simp only [List.take_succ_cons, List.take_zero, List.drop_succ_cons, List.drop_zero]
                  go_wp2_with fail
                  obtain ⟨y3, hy3⟩ : ∃ y3, y3 = y2.alloc (.map #[] 0) := ⟨_, rfl⟩
                  have hby3 : Below y2.heap.size y2 y3 := by rw [hy3]; exact (Below.refl _ _).alloc (Nat.le_refl _) _
                  have Hzy3 : Hid (y3.heap.size = y2.heap.size + 1) := Lib.hid (by rw [hy3]; simp)
                  have K5y3 : Hid (KMap 46 zeroV y3 y2.heap.size 0 (fun _ => none)) := Lib.hid (by rw [hy3]; exact KMap.made _ (zd := _) rfl y2)
                  have K7y3 := Lib.hid (KMap.keep K7y2.out (Kp.of (S := fun _ => False) hby3) (fun q => q))
                  have K6y3 := Lib.hid (KMap.keep K6y2.out (Kp.of (S := fun _ => False) hby3) (fun q => q))
                  have HSy3 : Hid (w2.heap.size ≤ y3.heap.size) := Lib.hid (Nat.le_trans HSy2.out hby3.size)
                  have HBy3 : Hid (Below w2.heap.size wd y3) := Lib.hid (HBy2.out.trans (hby3.mono HSy2.out))
                  rw [← hy3]
                  clear hy3 hby3
                  refine ⟨⟨WB.mk _ HBy3.out, rfl⟩, ?_⟩
                  refine manyS 3 [4] (by kernel_rfl) (by decide) (by decide) ?_
                  refine List.forall_mem_cons.2 ⟨?_, fun _ h => nomatch h⟩
                  · focus
                      simp only [List.take_succ_cons, List.take_zero, List.drop_succ_cons, List.drop_zero]
                      go_wp2_with fail
                      obtain ⟨y4, hy4⟩ : ∃ y4, y4 = y3.alloc (.cells (zs (.slice none 0 0) nN) 23) := ⟨_, rfl⟩
                      have hby4 : Below y3.heap.size y3 y4 := by rw [hy4]; exact (Below.refl _ _).alloc (Nat.le_refl _) _
                      have Hzy4 : Hid (y4.heap.size = y3.heap.size + 1) := Lib.hid (by rw [hy4]; simp)
                      have K4y4 : Hid (Blk y4 y3.heap.size 23 (List.replicate nN (.slice none 0 0))) := Lib.hid (by rw [hy4]; exact Blk.made y3 _ _ nN)
                      have K7y4 := Lib.hid (KMap.keep K7y3.out (Kp.of (S := fun _ => False) hby4) (fun q => q))
                      have K6y4 := Lib.hid (KMap.keep K6y3.out (Kp.of (S := fun _ => False) hby4) (fun q => q))
                      have K5y4 := Lib.hid (KMap.keep K5y3.out (Kp.of (S := fun _ => False) hby4) (fun q => q))
                      have HSy4 : Hid (w2.heap.size ≤ y4.heap.size) := Lib.hid (Nat.le_trans HSy3.out hby4.size)
                      have HBy4 : Hid (Below w2.heap.size wd y4) := Lib.hid (HBy3.out.trans (hby4.mono HSy3.out))
                      rw [← hy4]
                      clear hy4 hby4
                      refine ⟨⟨WB.mk _ HBy4.out, rfl⟩, ?_⟩
                      show wpAnyS _ _ _ _ _ (2 + 1) _ _ _
                      refine takeS 2 8 1 (by kernel_rfl) (by kernel_rfl) (fun _ _ _ _ _ h => nomatch h.1) ⟨⟨_, HBy4.out⟩, rfl⟩ ?_
                      simp only [List.take_succ_cons, List.take_zero, List.drop_succ_cons, List.drop_zero]
                      repeat (first | go_big_quiet_skip | (go_big_quiet_want; go_big_quiet_op; go_big_quiet_on))
                      refine wpQuiet_nil ?_
                      refine oneS 1 9 (by kernel_rfl) (by decide) ?_
                      simp only [List.take_succ_cons, List.take_zero, List.drop_succ_cons, List.drop_zero]
                      go_wp2_with fail
                      obtain ⟨y5, hy5⟩ : ∃ y5, y5 = y4.alloc (.cells (chC G Ap Al As np cp nl cl ns cs Ai ni ci (.slice (some ⟨y3.heap.size, 0, none⟩) nN nN) (.slice none 0 0) y2.heap.size y1.heap.size wd.heap.size).toArray 59) := ⟨_, rfl⟩
                      have hby5 : Below y4.heap.size y4 y5 := by rw [hy5]; exact (Below.refl _ _).alloc (Nat.le_refl _) _
                      have Kcy5 : Blk y5 y4.heap.size 59 (chC G Ap Al As np cp nl cl ns cs Ai ni ci (.slice (some ⟨y3.heap.size, 0, none⟩) nN nN) (.slice none 0 0) y2.heap.size y1.heap.size wd.heap.size) := by rw [hy5]; exact Blk.new y4 _ _
                      have HBy5 := HBD.out.trans ((HBy4.out).trans (hby5.mono HSy4.out))
                      have HF : Hid (NcA w2 y5 y3.heap.size y2.heap.size y1.heap.size wd.heap.size y4.heap.size nN G Ap Al As np cp nl cl ns cs Ai ni ci) := Lib.hid ⟨HBy5, K4y4.out.below' hby5, KMap.keep K5y4.out (Kp.of (S := fun _ => False) hby5) (fun q => q), KMap.keep K6y4.out (Kp.of (S := fun _ => False) hby5) (fun q => q), KMap.keep K7y4.out (Kp.of (S := fun _ => False) hby5) (fun q => q), Kcy5, by have := Hzy1.out; have := Hzy2.out; have := Hzy3.out; have := Hzy4.out; have := HBD.out.size; omega, by have := Hzy1.out; have := Hzy2.out; have := Hzy3.out; have := Hzy4.out; have := HBD.out.size; omega⟩
                      have HBX : Hid (Below w2.heap.size wd y5) := Lib.hid ((HBy4.out).trans (hby5.mono HSy4.out))
                      unfold chC at hy5
                      rw [← hy5]
                      clear hy5 hby5 Kcy5 HBy5
                      refine ⟨⟨WB.mk _ HBX.out, rfl⟩, ?_⟩
                      refine oneS 0 10 (by kernel_rfl) (by decide) ?_
                      simp only [List.take_succ_cons, List.take_zero, List.drop_succ_cons, List.drop_zero]
                      go_wp2_with fail
                      refine ⟨⟨WB.mk _ HBX.out, rfl⟩, ?_⟩
                      refine endS (by kernel_rfl) ?_
                      exact ⟨rfl, _, _, _, _, _, rfl, HF.out⟩
  rintro a' w3 ⟨bn, m1, m2, m3, c, rfl, HNC⟩
  have HW3 := Lib.hid hk0
  have hz3 : w.heap.size < w3.heap.size := Nat.lt_of_lt_of_le HZ2.out HNC.bel.size
  have hb3 : Below w.heap.size w w3 := HB2.out.trans (HNC.bel.mono (by have := HZ2.out; omega))
  have gb3 : w3.cell? ⟨w.heap.size, 3, none⟩ = some (.slice Ap np cp) := (HNC.bel.cell (p := ⟨w.heap.size, 3, none⟩) HZ2.out).trans HC3.out
  obtain ⟨hnp1, hnp2⟩ := HG.out.p.len
  have hnp : np ≤ 400 := by have := HK.out.p; omega
  have HNCH := Lib.hid HNC; have HB3 := Lib.hid hb3; have HNP := Lib.hid hnp1
  have hlo : w2.heap.size ≤ bn ∧ w2.heap.size ≤ m1 ∧ w2.heap.size ≤ m2 ∧ w2.heap.size ≤ m3 ∧ w2.heap.size ≤ c := HNC.lo
  have hbnw : w.heap.size < bn := by have := HZ2.out; omega
  have hcw : w.heap.size < c := by have := HZ2.out; omega
  have HBNW := Lib.hid hbnw; have HCW := Lib.hid hcw
  have HBC : Hid (bn ≠ c) := Lib.hid (blk_ne HNC.kn HNC.kc (by decide))
  have HST0 : Hid (BnS w3 w3.heap.size bn nN (List.replicate nN (.slice none 0 0)) (fun _ => [])) := Lib.hid (BnS.start HNC.kn)
  clear HNC hb3 hnp1 hnp2 hlo k0 k1 k2 k3 k4 k5 hms hmn hmk hk0
  go_wp2_with fail
  go_loopw [30] (fun v wr => ∃ (i : Nat) (vs : List Value), v = .int .i64 (i : Int) ∧ i ≤ np ∧ Hid (BnS wr w3.heap.size bn nN vs (fun a => (List.range i).filter fun p => decide (lfN G p = (a : Int)))) ∧ Hid (Kp (fun k => k = bn) w3 wr)) (fun v _ => np - (intOf v).toNat)
  case atStart => exact ⟨0, _, rfl, Nat.zero_le _, HST0, Lib.hid (Kp.refl _ _)⟩
  case round =>
    obtain ⟨i, vs, rfl, hin, HBn, HKp⟩ := hrel
    by_cases q : i < np
    · have dq : decide (i < np) = true := decide_eq_true q
      have hbr : Below w.heap.size w wr := HB3.out.trans (HKp.out.bel (by omega) (fun k hk e => by have := HBNW.out; omega))
      obtain ⟨pb, po, A', n', c', rfl, hpb, z1, z2, q1, q2, q3, _⟩ := (HG.out.p.below (hbr.mono HB.out)).rt q
      obtain ⟨y, z3⟩ : ∃ y : Int, wr.cell? ⟨pb, po + i * 3 + 2, none⟩ = some (.int .i64 y) := by
        obtain ⟨b', off', e, hb, hc⟩ := (HG.out.p.below (hbr.mono HB.out)).at_ (by omega)
        cases e
        obtain ⟨x, r, y, A', n', c', _, _, _, z, _⟩ := hc i q
        exact ⟨y, z⟩
      have hpo := mem_rtN HK.out (p := i) (by have := HNP.out; omega)
      obtain ⟨a, ha⟩ : ∃ a : Nat, lfN G i = (a : Int) := ⟨(lfN G i).toNat, by have := hpo.l0; unfold lfN; omega⟩
      have han : a < nN := by have := hpo.l1; have := HNN.out; have h : (prodAt G (i : Int)).1 = (a : Int) := ha; omega
      rw [ha] at z1
      have HA := Lib.hid ha; have HBR := Lib.hid hbr
      clear hpo ha hbr q1 q2 q3
      have hu : vs[a]? = some (vs[a]'(by rw [HBn.out.lm]; exact han)) := List.getElem?_eq_getElem _
      obtain ⟨u, hu'⟩ : ∃ u, u = vs[a]'(by rw [HBn.out.lm]; exact han) := ⟨_, rfl⟩
      rw [← hu'] at hu
      have hown := HBn.out.rows a u hu
      obtain ⟨A0, c0, hue, hc01, hc02, -⟩ := own_form hown
      have hfl : ((List.range i).filter fun p => decide (lfN G p = (a : Int))).length ≤ 400 := by
        have := List.length_filter_le (fun p => decide (lfN G p = (a : Int))) (List.range i)
        rw [List.length_range] at this
        omega
      clear hu'
      obtain ⟨wd, hwd⟩ : ∃ wd, wd = (wr.alloc (.cells #[.int .i64 a, .slice A' n' c', .int .i64 y] 40)).drew := ⟨_, rfl⟩
      have hbd : Below wr.heap.size wr wd := by rw [hwd]; exact ((Below.refl _ _).alloc (Nat.le_refl _) _).drew
      have hpx : Blk wd wr.heap.size 40 [.int .i64 a, .slice A' n' c', .int .i64 y] := by rw [hwd]; exact (Blk.new wr _ _).drew
      have hkc := (blk_kp HNCH.out.kc HKp.out (fun e => HBC.out e.symm)).below' hbd
      have hbm := HBn.out.mm.below' hbd
      have HUN : Hid (∀ (g : Nat) (ty : TypeId) (us : List Value), Blk wd g ty us → ty ≠ 3 → ¬ u.ownBlock = some g) := Lib.hid (fun g ty us h1 h2 e => by
        obtain ⟨vs', hv⟩ := own_blk (own_ext hown hbd) e
        exact blk_ne h1 hv h2 rfl)
      have r0 := fun (X : KbO (fun k => u.ownBlock = some k) wd) => (X.kp.cell (p := ⟨c, 7, none⟩) hkc.lt (HUN.out _ _ _ hkc (by decide))).trans (hkc.cell (i := 7) rfl)
      have r1 := fun (X : KbO (fun k => u.ownBlock = some k) wd) => (X.kp.cell (p := ⟨wr.heap.size, 0, none⟩) hpx.lt (HUN.out _ _ _ hpx (by decide))).trans (hpx.cell (i := 0) rfl)
      have r2 := fun (X : KbO (fun k => u.ownBlock = some k) wd) => (X.kp.cell (p := ⟨bn, a, none⟩) hbm.lt (HUN.out _ _ _ hbm (by decide))).trans (hbm.cell hu)
      obtain ⟨w7, hw7⟩ : ∃ w7, w7 = wd.alloc (.cells #[.int .i64 (i : Int)] 3) := ⟨_, rfl⟩
      have hb7 : Below wd.heap.size wd w7 := by rw [hw7]; exact (Below.refl _ _).alloc (Nat.le_refl _) _
      have hsd := hbd.size
      have hs7 := hb7.size
      have hx7 : Blk w7 wd.heap.size 3 [.int .i64 (i : Int)] := by rw [hw7]; exact Blk.new wd _ _
      have hB7 : BnS w7 w3.heap.size bn nN vs (fun a => (List.range i).filter fun p => decide (lfN G p = (a : Int))) := (HBn.out.quiet hbd).quiet hb7
      obtain ⟨u', w8, happ, hown8, hg8, hat8, -⟩ := app_sharp elIn1 23 w7 w3.heap.size u _ 1 _ [.int .i64 (i : Int)] (hB7.rows a u hu) 1 ⟨wd.heap.size, 0, none⟩ (by omega) rfl (fun j v hv => by
        have hadd : (⟨wd.heap.size, 0, none⟩ : Addr).add j = ⟨wd.heap.size, j, none⟩ := by unfold Addr.add; split <;> simp_all
        rw [hadd]; exact hx7.cell hv) (by simp [Value.oneCell']) (by omega) (by omega) (by have := HKp.out.size; omega)
      have hpush := hB7.push (s := i) hu hg8 hown8 hat8
      have hbm8 : Blk w8 bn 23 vs := hB7.mm.grown hg8 (fun e => by
        obtain ⟨us, hv⟩ := own_blk (hB7.rows a u hu) e.symm
        exact blk_ne hv hB7.mm (by decide) rfl)
      have y8 := hbm8.cell hu
      have f8 := hbm8.frozen a
      have k78 : Kp (fun k => k = bn) w3 (w8.setCell ⟨bn, a, none⟩ u') := by
        have k1 := (HKp.out.trans (Kp.of hbd)).trans (Kp.of (hb7))
        refine (k1.grown hg8 (fun k e => ?_)).set_ (p := ⟨bn, a, none⟩) (.inr rfl) _
        exact .inl (own_base (hB7.rows a u hu) k e)
      have hfin : BnS (w8.setCell ⟨bn, a, none⟩ u') w3.heap.size bn nN (vs.set a u') (fun x => (List.range (i + 1)).filter fun p => decide (lfN G p = (x : Int))) := by
        have e : (fun (x : Nat) => (List.range (i + 1)).filter fun p => decide (lfN G p = (x : Int))) = fun (x : Nat) => if x = a then ((List.range i).filter fun p => decide (lfN G p = (x : Int))) ++ [i] else (List.range i).filter fun p => decide (lfN G p = (x : Int)) := by
          funext x
          rw [byN_snoc, HA.out]
          by_cases e : x = a
          · subst e; simp
          · rw [if_neg (by omega), if_neg e, List.append_nil]
        rw [e]
        have e2 : (fun (x : Nat) => if x = a then ((List.range i).filter fun p => decide (lfN G p = (x : Int))) ++ [i] else (List.range i).filter fun p => decide (lfN G p = (x : Int))) = fun (x : Nat) => if x = a then ((List.range i).filter fun p => decide (lfN G p = (a : Int))) ++ [i] else (List.range i).filter fun p => decide (lfN G p = (x : Int)) := by
          funext x
          by_cases e : x = a
          · subst e; rfl
          · rw [if_neg e, if_neg e]
        first | exact hpush | (rw [e2]; exact hpush)
      have hk7 : Kp (fun k => u.ownBlock = some k) wd w7 := Kp.of hb7
      have HK7 := Lib.hid hk7; have HK8 := Lib.hid (hk7.grown hg8 (fun k e => .inr e))
      have HFIN := Lib.hid hfin; have HKP2 := Lib.hid k78; have HAPP := Lib.hid happ
      subst hue
      obtain ⟨A8, c8, rfl, -, -, -⟩ := own_form hown8
      have HW7 := Lib.hid hw7
      obtain ⟨w9, hw9⟩ : ∃ w9, w9 = w8.setCell ⟨bn, a, none⟩ (.slice A8 (((List.range i).filter fun p => decide (lfN G p = (a : Int))).length + 1) c8) := ⟨_, rfl⟩
      have HW9 := Lib.hid hw9
      rw [← hw9] at HFIN HKP2
      clear hk7 HUN hw9 hw7 hfin k78 happ hpush hown8 hg8 hat8 hB7 hx7 hb7 hbm hkc hpx hbd hown hbm8 hs7 hsd HBn HKp HA HBR HNCH hc01 hc02
      go_wp2_with fail
      refine wp_region_D (fun w' => ∃ X : KbO (fun k => (Value.slice A0 ((List.range i).filter fun p => decide (lfN G p = (a : Int))).length c0).ownBlock = some k) wd, w' = X.val) 2 17 (by kernel_rfl) 17 (by rfl) ?_
      rw [← hwd]
      clear hwd
      show wpAnyD _ _ _ _ _ _ _ (2 + 15) _ _ _
      refine takeD 2 0 15 (by kernel_rfl) (by kernel_rfl) (fun _ _ d _ _ h => by cases d <;> exact h) ⟨⟨_, Kp.refl _ _⟩, rfl⟩ ?_
      simp only [List.take_succ_cons, List.take_zero, List.drop_succ_cons, List.drop_zero]
      repeat (first | go_big_quiet_skip | (go_big_quiet_want; go_big_quiet_op; go_big_quiet_on))
      refine wpQuiet_nil ?_
      refine oneD 1 15 (by kernel_rfl) (by decide) ?_
      simp only [List.take_succ_cons, List.take_zero, List.drop_succ_cons, List.drop_zero]
      go_wp2_with fail
      rw [← HW7.out]
      refine And.intro ⟨⟨_, HK7.out⟩, rfl⟩ ?_
      refine oneD 0 16 (by kernel_rfl) (by decide) ?_
      simp only [List.take_succ_cons, List.take_zero, List.drop_succ_cons, List.drop_zero]
      go_wp2_with (at_builtin; refine Lib.wpList_append_run _ rfl _ _ _ _ rfl _ _ rfl rfl _ _ HAPP.out ?_; clear HAPP)
      refine And.intro ⟨⟨_, HK8.out⟩, rfl⟩ ?_
      refine endD (by kernel_rfl) ?_
      simp only [List.take_succ_cons, List.take_zero, List.drop_succ_cons, List.drop_zero]
      go_wp2_with fail
      rw [← HW9.out]
      go_roundw
      case rel => exact ⟨i + 1, _, by simp, by omega, HFIN, HKP2⟩
      case measure => simp [intOf]; omega
    · have dq : decide (i < np) = false := decide_eq_false q
      have HBn2 : Hid (BnS wr w3.heap.size bn nN vs (byN G)) := Lib.hid (by
        have e : i = G.prods.length := by have := HNP.out; omega
        have h := HBn.out
        rw [e] at h
        exact h)
      have hkc0 := blk_kp HNCH.out.kc HKp.out (fun e => HBC.out e.symm)
      have hzw : w3.heap.size ≤ wr.heap.size := HKp.out.size
      have hbr : Below w.heap.size w wr := HB3.out.trans (HKp.out.bel (by omega) (fun k hk e => by have := HBNW.out; omega))
      have HKC := Lib.hid hkc0; have HZW := Lib.hid hzw; have HBR := Lib.hid hbr
      have hkc8 := hkc0.cell (i := 8) rfl
      have HK2 : Hid (KMap 46 noneV wr m2 0 (fun _ => none) ∧ KMap 46 zeroV wr m3 0 (fun _ => none) ∧ KMap 46 zeroV wr m1 0 (fun _ => none)) := Lib.hid ⟨HNCH.out.k2.keep HKp.out (fun e => KMap.ne HNCH.out.k2 HNCH.out.kn e), HNCH.out.k3.keep HKp.out (fun e => KMap.ne HNCH.out.k3 HNCH.out.kn e), HNCH.out.k1.keep HKp.out (fun e => KMap.ne HNCH.out.k1 HNCH.out.kn e)⟩
      have HNE := Lib.hid HNCH.out.ne
      have HLO := Lib.hid HNCH.out.lo
      have HCLT : Hid (c < wr.heap.size ∧ bn < wr.heap.size ∧ m1 < wr.heap.size ∧ m2 < wr.heap.size ∧ m3 < wr.heap.size) := Lib.hid ⟨hkc0.lt, HBn2.out.mm.lt, KMap.lt HK2.out.2.2, KMap.lt HK2.out.1, KMap.lt HK2.out.2.1⟩
      clear q HBn HKp hkc0 hzw hbr
      obtain ⟨w4, hw4⟩ : ∃ w4 : World, w4 = wr := ⟨_, rfl⟩
      rw [← hw4] at HBn2 HKC HZW HBR HK2 HCLT hkc8 ⊢
      clear hw4
      go_wp2_with fail
      go_loopw [57] (fun v wr => ∃ (k : Nat) (iv : Value) (ss : List (Nat × Nat)), v = .int .i64 (k : Int) ∧ k ≤ ni + 1 ∧ Hid (ss.length = k) ∧ Hid (EmS wr w4.heap.size iv ss) ∧ Hid (Kp (fun q => q = c) w4 wr) ∧ Hid (Blk wr c 59 (chC G Ap Al As np cp nl cl ns cs Ai ni ci (.slice (some ⟨bn, 0, none⟩) nN nN) iv m1 m2 m3))) (fun v _ => (ni + 1) - (intOf v).toNat)
      case atStart => exact ⟨0, _, [], rfl, Nat.zero_le _, Lib.hid rfl, Lib.hid (EmS.start _ _), Lib.hid (Kp.refl _ _), HKC⟩
      case round =>
        obtain ⟨k, iv, ss, rfl, hkn, HLS, HEM, HKp, HCC⟩ := hrel
        by_cases q : k < ni + 1
        · have dq : decide (k < ni + 1) = true := decide_eq_true q
          have dq2 : decide (k ≤ ni) = true := decide_eq_true (by omega)
          have dq3 : decide ((k : Int) < (ni : Int) + 1) = true := decide_eq_true (by omega)
          obtain ⟨A0, c0, rfl, hc01, hc02, -⟩ := own_form HEM.out.row
          obtain ⟨w1, hw1⟩ : ∃ w1, w1 = wr.alloc (.map #[] 0) := ⟨_, rfl⟩
          have hb1 : Below wr.heap.size wr w1 := by rw [hw1]; exact (Below.refl _ _).alloc (Nat.le_refl _) _
          have hz1 : w1.heap.size = wr.heap.size + 1 := by rw [hw1]; simp
          have hm1 : KMap 92 zeroV w1 wr.heap.size 0 (fun _ => none) := by rw [hw1]; exact KMap.made _ (zd := _) rfl wr
          obtain ⟨w2', hw2⟩ : ∃ w2', w2' = w1.alloc (.cells #[.slice none 0 0, .map (some wr.heap.size)] 72) := ⟨_, rfl⟩
          have hb2 : Below w1.heap.size w1 w2' := by rw [hw2]; exact (Below.refl _ _).alloc (Nat.le_refl _) _
          have hz2 : w2'.heap.size = w1.heap.size + 1 := by rw [hw2]; simp
          have hs2 : Blk w2' w1.heap.size 72 [.slice none 0 0, .map (some wr.heap.size)] := by rw [hw2]; exact Blk.new w1 _ _
          obtain ⟨w3', hw3⟩ : ∃ w3', w3' = w2'.alloc (.cells #[.pointer (some ⟨w1.heap.size, 0, none⟩)] 68) := ⟨_, rfl⟩
          have hb3 : Below w2'.heap.size w2' w3' := by rw [hw3]; exact (Below.refl _ _).alloc (Nat.le_refl _) _
          have hx3 : Blk w3' w2'.heap.size 68 [.pointer (some ⟨w1.heap.size, 0, none⟩)] := by rw [hw3]; exact Blk.new w2' _ _
          have hb13 : Below w1.heap.size w1 w3' := hb2.trans (hb3.mono (by omega))
          have hb03 : Below wr.heap.size wr w3' := hb1.trans (hb13.mono (by omega))
          have hsz3 := hb03.size
          have hls := HLS.out
          have hkz := HKp.out.size
          obtain ⟨v', w5, happ, hown5, hg5, hat5, -⟩ := app_sharp elSe1 55 w3' w4.heap.size (.slice A0 ss.length c0) _ 1 _ [.pointer (some ⟨w1.heap.size, 0, none⟩)] (own_ext HEM.out.row hb03) 1 ⟨w2'.heap.size, 0, none⟩ (by omega) rfl (fun j v hv => by
            have hadd : (⟨w2'.heap.size, 0, none⟩ : Addr).add j = ⟨w2'.heap.size, j, none⟩ := by unfold Addr.add; split <;> simp_all
            rw [hadd]; exact hx3.cell hv) (by simp [Value.oneCell']) (by omega) (by omega) (by omega)
          have k35 : Kp (fun q => (Value.slice A0 ss.length c0).ownBlock = some q) w3' w5 := ⟨hg5.os, hg5.tape, hg5.output, hg5.size, fun k hk hn => hg5.block k hk (fun e => hn e.symm)⟩
          have k05 : Kp (fun q => (Value.slice A0 ss.length c0).ownBlock = some q) wr w5 := (Kp.of hb03).trans k35
          have hown : ∀ q, (Value.slice A0 ss.length c0).ownBlock = some q → w4.heap.size ≤ q ∧ q < wr.heap.size := fun q e => HEM.out.row.lt q e
          have hE5 : SetE w5 (w1.heap.size, wr.heap.size) := by
            have h3 : SetE w3' (w1.heap.size, wr.heap.size) := ⟨hs2.below' hb3, hm1.keep (Kp.of (S := fun _ => False) hb13) (fun q => q)⟩
            exact h3.kp k35 (fun e => by have := hown _ e; simp only at this; omega) (fun e => by have := hown _ e; simp only at this; omega)
          have hpush := HEM.out.push k05 hE5 hown5 hkz (by simp only; omega) (Nat.le_refl _)
          have hcl := HCLT.out
          have hcc5 := blk_kp HCC.out k05 (fun e => by have := hown _ e; omega)
          obtain ⟨A5, c5, rfl, hc51, -, -⟩ := own_form hown5
          obtain ⟨w6, hw6⟩ : ∃ w6, w6 = w5.setCell ⟨c, 8, none⟩ (.slice A5 (ss.length + 1) c5) := ⟨_, rfl⟩
          have k56 : Kp (fun q => q = c) w5 w6 := by rw [hw6]; exact (Kp.refl (fun q => q = c) w5).set_ (p := ⟨c, 8, none⟩) (.inr rfl) _
          have HEM6 : Hid (EmS w6 w4.heap.size (.slice A5 (ss.length + 1) c5) (ss ++ [(w1.heap.size, wr.heap.size)])) := Lib.hid (hpush.kp k56 (fun b hb e => by omega))
          have HKp6 : Hid (Kp (fun q => q = c) w4 w6) := Lib.hid (by
            have h : Kp (fun q => q = c) w4 w5 := ⟨k05.os.trans HKp.out.os, k05.tape.trans HKp.out.tape, k05.output.trans HKp.out.output, Nat.le_trans hkz k05.size, fun q hq hn => (k05.block q (by omega) (fun e => by have := hown _ e; omega)).trans (HKp.out.block q hq hn)⟩
            exact h.trans k56)
          have HCC6 : Hid (Blk w6 c 59 (chC G Ap Al As np cp nl cl ns cs Ai ni ci (.slice (some ⟨bn, 0, none⟩) nN nN) (.slice A5 (ss.length + 1) c5) m1 m2 m3)) := Lib.hid (by rw [hw6]; exact hcc5.set_ 8 _)
          have HLS6 : Hid ((ss ++ [(w1.heap.size, wr.heap.size)]).length = k + 1) := Lib.hid (by rw [List.length_append, hls]; rfl)
          have z8 := HCC.out.cell (i := 8) rfl
          have y8 := hcc5.cell (i := 8) rfl
          have f8 := hcc5.frozen 8
          have hms := run_mapI
          have HW6 := Lib.hid hw6; have HAPP := Lib.hid happ
          have HW3' := Lib.hid (show w3' = (((wr.alloc (.map #[] 0)).alloc (.cells #[.slice none 0 0, .map (some wr.heap.size)] 72)).alloc (.cells #[.pointer (some ⟨wr.heap.size + 1, 0, none⟩)] 68)) by rw [hw3, hz1, hw2, hw1])
          have hz22 : w2'.heap.size = wr.heap.size + 1 + 1 := by omega
          rw [hz22] at HAPP
          clear hw1 hb1 hz1 hm1 hw2 hb2 hz2 hs2 hw3 hb3 hx3 hb13 hb03 hsz3 hls hkz happ hown5 hg5 hat5 k35 k05 hown hE5 hpush hcl hcc5 hw6 k56 hc01 hc02 hc51 HEM HKp HCC HLS
          go_wp2_with (at_builtin; rw [← HW3'.out]; refine Lib.wpList_append_run _ rfl _ _ _ _ rfl _ _ rfl rfl _ _ HAPP.out ?_; clear HAPP)
          rw [← HW6.out]
          go_roundw
          case rel => exact ⟨k + 1, _, _, by simp, by omega, HLS6, HEM6, HKp6, HCC6⟩
          case measure => simp [intOf]; omega
        · have dq : decide (k < ni + 1) = false := decide_eq_false q
          have dq2 : decide (k ≤ ni) = false := decide_eq_false (by omega)
          have dq3 : decide ((k : Int) < (ni : Int) + 1) = false := decide_eq_false (by omega)
          have hke : ss.length = ni + 1 := by have := HLS.out; omega
          have hrow := HEM.out.row
          rw [hke] at hrow
          rcases hrow.2 with ⟨_, e⟩ | ⟨bi, cb, cur, rfl, hbb, hgb, hcb1, hcb2, _, _⟩
          · exact absurd e (by omega)
          · have hNcT : NcT wr B c bn bi w3.heap.size w4.heap.size m1 m2 m3 nN cb vs ss G Ap Al As np cp nl cl ns cs Ai ni ci inp := by
              have hb4 : Below w.heap.size w wr := HBR.out.trans (HKp.out.bel (by have := HCLT.out; have := HZW.out; omega) (fun k hk e => by omega))
              have far : ∀ (g : Nat) (ty : TypeId) (us : List Value), Blk w4 g ty us → ty ≠ 59 → ¬ g = c := fun g ty us h1 h2 => blk_ne h1 HKC.out h2
              exact ⟨HBn2.out.kp HKp.out (far _ _ _ HBn2.out.mm (by decide)) (fun b us h => far _ _ _ h (by decide)), HCC.out, hrow, HG.out.below (hb4.mono HB.out), HRI.out.below (hb4.mono HB.out), HK2.out.1.keep HKp.out (fun e => KMap.ne HK2.out.1 HKC.out e), HK2.out.2.1.keep HKp.out (fun e => KMap.ne HK2.out.2.1 HKC.out e)⟩
            have hFil : FilT wr wr.heap.size m1 ss 0 0 (fun _ => []) [] := by
              have hk1 := HK2.out.2.2.keep HKp.out (fun e => KMap.ne HK2.out.2.2 HKC.out e)
              refine ⟨fun j p h => absurd h (Nat.not_lt_zero _), fun j p _ h => HEM.out.em p (List.mem_of_getElem? h), HEM.out.nd, fun p hp => ?_, KMap.lt hk1, KMap.congr hk1 (fun x _ => by simp)⟩
              have h1 := HEM.out.lt hp
              have h2 := HEM.out.lo p hp
              have h3 := HCLT.out
              omega
            have hb5 : Below w.heap.size w wr := HBR.out.trans (HKp.out.bel (by have := HCLT.out; have := HZW.out; omega) (fun k hk e => by omega))
            have hz3' : w.heap.size < w4.heap.size := by have h3 := HCLT.out; have h4 := HCW.out; omega
            have hlow : ∀ p ∈ ss, m2 < p.2 ∧ m3 < p.2 ∧ w.heap.size < p.1 := fun p hp => by
              have h2 := HEM.out.lo p hp
              have h3 := HCLT.out
              have h4 := HZW.out
              have h5 := hz3'
              omega
            have z8 := HCC.out.cell (i := 8) rfl
            have hz5 : w.heap.size ≤ wr.heap.size := hb5.size
            obtain ⟨w5, hw5⟩ : ∃ w5 : World, w5 = wr := ⟨_, rfl⟩
            have HNT := Lib.hid hNcT; have HFT := Lib.hid hFil; have HB5 := Lib.hid hb5; have HLOW := Lib.hid hlow; have HLN := Lib.hid hke
            have HZ5 := Lib.hid hz5
            clear hNcT hFil hb5 hlow hke hrow HLS HEM HKp HCC hbb hgb hcb1 hcb2 q HBn2 HKC HBR HK2 hkc8 hz5 HCLT
            rw [← hw5] at HNT HFT HB5 z8 HZ5 ⊢
            clear hw5
            go_wp2_with fail
            go_loopw [77] (fun v wr => ∃ (k nz : Nat) (I : Nat → List K3) (L : List K3), v = .int .i64 (k : Int) ∧ k ≤ ni + 1 ∧ Hid (NcT wr B c bn bi w3.heap.size w4.heap.size m1 m2 m3 nN cb vs ss G Ap Al As np cp nl cl ns cs Ai ni ci inp) ∧ Hid (FilT wr w5.heap.size m1 ss k nz I L) ∧ Hid (nz ≤ k * 1696800) ∧ Hid (Filled G inp I k L) ∧ Hid (Below w.heap.size w wr) ∧ Hid (w5.heap.size ≤ wr.heap.size)) (fun v _ => (ni + 1) - (intOf v).toNat)
            case atStart => exact ⟨0, 0, _, _, rfl, Nat.zero_le _, HNT, HFT, Lib.hid (Nat.zero_le _), Lib.hid .zero, HB5, Lib.hid (Nat.le_refl _)⟩
            case round =>
              obtain ⟨k, nz, I, L, rfl, hkn, HN1, HF1, HZ1, HFI, HBL, HSZ⟩ := hrel
              by_cases q : k < ni + 1
              · have dq : decide (k < ni + 1) = true := decide_eq_true q
                have dq2 : decide (k ≤ ni) = true := decide_eq_true (by omega)
                have dq3 : decide ((k : Int) < (ni : Int) + 1) = true := decide_eq_true (by omega)
                obtain ⟨⟨s, mk⟩, hp⟩ : ∃ p, ss[k]? = some p := ⟨_, List.getElem?_eq_getElem (by have := HLN.out; omega)⟩
                have hE := HF1.out.em k (s, mk) (Nat.le_refl _) hp
                have hhi := HF1.out.hi _ (List.mem_of_getElem? hp)
                have hlo3 := HLOW.out _ (List.mem_of_getElem? hp)
                have hNE := HNE.out
                have hBw := HB.out
                have hlo := HLO.out
                have hz2 := HZ2.out
                have hz5 := HZ5.out
                have hszr := HSZ.out
                simp only at hhi hlo3
                have hD := HN1.out.chD HNN.out HN300.out HM.out HLI.out hE HF1.out.sp (by omega) ⟨by omega, by omega, by omega⟩
                have hfill := fill_any (fun b => b < wr.heap.size ∧ b ≠ s ∧ b ≠ mk ∧ b ≠ m1) B c bi m1 (fun k => (ss.getD k (0, 0)).1) G Ap Al As np cp nl cl ns cs Ai ni ci inp HK.out wr (by omega) s mk k nz L I (fun b h => h) (by omega) hD (by omega) (by show (ss.getD k (0, 0)).1 = s; rw [List.getD_eq_getElem?_getD, hp]; rfl) hE.1 hE.2 HF1.out.sp (by omega) (fun j hj => ⟨HF1.out.rd hp j hj, fun y hy => (HFI.out.ok j hj).ok y hy⟩) (by have := HZ1.out; omega)
                have HFILL := Lib.hid hfill; have HHI := Lib.hid hhi; have HP := Lib.hid hp; have HEE := Lib.hid hE; have HLO3 := Lib.hid hlo3
                clear hfill hhi hp hE hlo3 hD hNE hBw hlo hz2 hz5 hszr
                go_wp2_with fail
                refine HFILL.out.mono ?_
                rintro e w6 ⟨rfl, l', L', lv', nz', hr, hv, hsb, hown, hmp, hsp, hnz, hkp⟩
                have hsF : SetF w6 w5.heap.size (s, mk) l' := ⟨lv', hsb, own_low hown HSZ.out, hmp⟩
                have hFn := HF1.out.step HP.out hkp hsF hsp
                have hhi := HHI.out; have hlo3 := HLO3.out; have hNE := HNE.out; have hlo := HLO.out; have hz2 := HZ2.out; have hz5 := HZ5.out; have hszr := HSZ.out; have hBw := HB.out
                try simp only at hhi hlo3
                have hNn := HN1.out.kp hkp HEE.out HF1.out.sp ⟨by omega, by omega⟩ ⟨by omega, by omega⟩ (by omega) ⟨by omega, by omega, by omega⟩
                have HNn := Lib.hid hNn; have HFn := Lib.hid hFn
                have HZn : Hid (nz' ≤ (k + 1) * 1696800) := Lib.hid (by have := HZ1.out; omega)
                have HFIn := Lib.hid (HFI.out.more HK.out (by omega) hr hv)
                have HBn : Hid (Below w.heap.size w w6) := Lib.hid (HBL.out.trans (hkp.bel (by omega) (fun b hb e => by omega)))
                have HSn : Hid (w5.heap.size ≤ w6.heap.size) := Lib.hid (Nat.le_trans HSZ.out hkp.size)
                clear hNn hFn hsF hr hv hsb hown hmp hsp hnz hkp hhi hlo3 hNE hlo hz2 hz5 hszr hBw HFILL
                go_wp2_with fail
                go_roundw
                case rel => exact ⟨k + 1, nz', _, L', by simp, by omega, HNn, HFn, HZn, HFIn, HBn, HSn⟩
                case measure => simp [intOf]; omega
              · have dq : decide (k < ni + 1) = false := decide_eq_false q
                have dq2 : decide (k ≤ ni) = false := decide_eq_false (by omega)
                have dq3 : decide ((k : Int) < (ni : Int) + 1) = false := decide_eq_false (by omega)
                have hke : k = ni + 1 := by omega
                subst hke
                have HR : Hid (NewC w wr B c m2 m3 nN G Ap Al As np cp nl cl ns cs Ai ni ci inp I L) := Lib.hid ⟨⟨bn, bi, _, _, m1, cb, vs, ss, _, nz, HN1.out, HF1.out, ⟨HNE.out.1, HNE.out.2.1, by have := HLO.out; have := HZ2.out; omega⟩, HLOW.out⟩, HFI.out, HNE.out.2.2, by have := HLO.out; have := HZ2.out; omega⟩
                clear HN1 HF1 HFI
                go_wp2_with fail
                go_ret
                exact ⟨c, m2, m3, I, L, rfl, HBL.out, HR.out⟩
end Go.Proofs.YtiklbannoinioaaDoor
