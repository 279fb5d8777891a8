/- The document's Lives and Empty. -/
import Derived.Test.YtgfchgnebpogjaaZ7
import Derived.BigRegion
namespace Go.Proofs.Ytgfchgnebpogjaa
open Go.RowKit BigFrame
set_option linter.unusedVariables false
set_option linter.unusedSimpArgs false
set_option maxRecDepth 100000

theorem set_same_b {l : List Bool} {t : Nat} {b : Bool} (h : bth l t = b) (ht : t < l.length) : l.set t b = l := by
  apply List.ext_getElem
  · simp
  · intro i h1 h2
    rw [List.getElem_set]
    split
    · rename_i e; subst e; rw [bth_get ht] at h; exact h.symm
    · rfl
/-- The document's step leaves what the program's leaves. -/
theorem stepG_eq {f : List Bool → Int → Bool} {i : Nat} {p : Prd} {l : List Bool} (ht : p.1.toNat < l.length) : l.set p.1.toNat (bth l p.1.toNat || p.2.1.all (f l)) = (stepG f i p l).1 := by
  unfold stepG
  cases hb : bth l p.1.toNat
  · cases ha : p.2.1.all (f l)
    · simp; exact set_same_b hb ht
    · simp
  · simp; exact set_same_b hb ht
theorem all_snoc {f : Int → Bool} {r : List Int} {k : Nat} (h : k < r.length) : (r.take (k + 1)).all f = ((r.take k).all f && f (nth r k)) := by
  rw [List.take_succ_eq_append_getElem h, List.all_append, ← nth_get h]; simp


set_option maxHeartbeats 4000000 in
theorem rLivesT_any (G : Gr) (Ap Al As : Option Addr) (np cp nl cl ns cs : Nat) (w : World) (B N : Nat) (hB : B ≤ w.heap.size) (hG : GrIn w B G Ap Al As np cp nl cl ns cs) (hk : GOk G) (hN : G.names = N) :
    Calls Try.prog 27 #[.agg #[.int .i64 G.terms, .int .i64 G.names, .int .i64 G.start, .slice Ap np cp, .slice Al nl cl, .slice As ns cs]] w fun e w' => ∃ g, e = .returned (.slice (some ⟨g, 0, none⟩) N N) ∧ w.heap.size ≤ g ∧ Blk w' g 4 (bv (rounds (stepG livS) G.prods N (b0 N))) ∧ Below w.heap.size w w' := by
  obtain ⟨hb0, hs0, gb⟩ := gbox w G Ap Al As np cp nl cl ns cs
  obtain ⟨hp1, hp2⟩ := hG.p.len
  have hl3 := hG.lm; have hl4 := hG.sm
  have hn1 := hk.n0; have hn2 := hk.n1
  have hNN : N ≤ 300 := by omega
  rw [hN] at hb0 hs0 gb
  have hz := gb.c1
  rw [hN] at hz
  have HP1 := Lib.hid hp1
  have HB0 := Lib.hid hb0; have HGB := Lib.hid gb; have HG := Lib.hid (hG.below (hb0.mono hB))
  have HFIT := Lib.hid (fun p (hp : p ∈ G.prods) => prFitg hk hp hN)
  have HN := Lib.hid hN
  unfold maxLen at hp2 hl3 hl4
  clear gb hG hk hp1 hb0 hN
  have hmk : ∀ w : World, (Instr.makeSlice 38 (.int .i64 (N : Int)) (.int .i64 (N : Int))).run Try.prog w = .ok (.slice (some ⟨w.heap.size, 0, none⟩) N N) (w.alloc (.cells (zs (.bool false) N) 4)) := fun w =>
    mk_row elBg rfl .i64 .i64 N _ (by omega) (by omega) (by omega) w
  have hGN : G.names = (N : Int) := HN.out
  go_enter Try.func27, Try.ntmps27
  go_wp2_with fail
  clear hGN hz
  have hblk : Blk ((w.alloc (.cells #[.int .i64 G.terms, .int .i64 (N : Int), .int .i64 G.start, .slice Ap np cp, .slice Al nl cl, .slice As ns cs] 30)).alloc (.cells (zs (.bool false) N) 4)) (w.heap.size + 1) 4 (bv (b0 N)) := by
    have := Blk.made (w.alloc (.cells #[.int .i64 G.terms, .int .i64 (N : Int), .int .i64 G.start, .slice Ap np cp, .slice Al nl cl, .slice As ns cs] 30)) 4 (.bool false) N
    rw [hs0] at this
    unfold b0
    rw [← bv_rep]; exact this
  have hb2 : Below (w.heap.size + 1) (w.alloc (.cells #[.int .i64 G.terms, .int .i64 (N : Int), .int .i64 G.start, .slice Ap np cp, .slice Al nl cl, .slice As ns cs] 30)) ((w.alloc (.cells #[.int .i64 G.terms, .int .i64 (N : Int), .int .i64 G.start, .slice Ap np cp, .slice Al nl cl, .slice As ns cs] 30)).alloc (.cells (zs (.bool false) N) 4)) := (Below.refl _ _).alloc (by rw [hs0]; exact Nat.le_refl _) _
  have hs2 : ((w.alloc (.cells #[.int .i64 G.terms, .int .i64 (N : Int), .int .i64 G.start, .slice Ap np cp, .slice Al nl cl, .slice As ns cs] 30)).alloc (.cells (zs (.bool false) N) 4)).heap.size = w.heap.size + 2 := by simp
  obtain ⟨g, hg⟩ : ∃ g, g = w.heap.size + 1 := ⟨_, rfl⟩
  rw [← hg] at hblk hb2 ⊢
  generalize (w.alloc (.cells #[.int .i64 G.terms, .int .i64 (N : Int), .int .i64 G.start, .slice Ap np cp, .slice Al nl cl, .slice As ns cs] 30)).alloc (.cells (zs (.bool false) N) 4) = W2 at *
  have hgw : w.heap.size < g := by omega
  have hgB : B ≤ g := by omega
  have HG2 := Lib.hid (HG.out.below (hb2.mono hgB))
  have HGB2 := Lib.hid (HGB.out.below hb2 hgw)
  have HW2 := Lib.hid (HB0.out.trans (hb2.mono (Nat.le_of_lt hgw)))
  have hgs2 : g < W2.heap.size := hblk.lt
  have HBL := Lib.hid hblk
  clear hblk hg hb2 hs2 hs0 HG HGB HB0 hmk
  have kp_facts : ∀ wr : World, Kp (fun j => j = g) W2 wr → Below g W2 wr := fun wr h => h.bel (Nat.le_of_lt hgs2) (fun j hj e => by omega)
  have KP := Lib.hid kp_facts; clear kp_facts
  go_loopw [4] (fun i wr => ∃ k : Nat, k ≤ N ∧ i = .int .i64 k ∧ Kp (fun j => j = g) W2 wr ∧ ∃ z : List Bool, Hid (Blk wr g 4 (bv z) ∧ z = rounds (stepG livS) G.prods k (b0 N) ∧ z.length = N)) (fun i _ => N - (intOf i).toNat)
  case atStart => exact ⟨0, Nat.zero_le _, rfl, Kp.refl _ _, _, HBL.out, rfl, by simp [b0]⟩
  case round =>
    as_aux_lemma =>
      obtain ⟨k, hk, rfl, hkr, z, HZ⟩ := hrel
      have gr := (HGB2.out.below (KP.out _ hkr) hgw).c1
      rw [HN.out] at gr
      by_cases hlt : k < N
      · as_aux_lemma =>
          go_wp2_with fail
          go_loopw [5] (fun i wr => ∃ m : Nat, m ≤ np ∧ i = .int .i64 m ∧ Kp (fun j => j = g) W2 wr ∧ ∃ y : List Bool, Hid (Blk wr g 4 (bv y) ∧ y = (passF (stepG livS) 0 (G.prods.take m) z).1 ∧ y.length = N)) (fun i _ => np - (intOf i).toNat)
          case atStart => exact ⟨0, Nat.zero_le _, rfl, hkr, z, HZ.out.1, rfl, HZ.out.2.2⟩
          case round =>
            as_aux_lemma =>
              clear gr hkr
              obtain ⟨m, hm, rfl, hkr, y, HY⟩ := hrel
              have gr3 := (HGB2.out.below (KP.out _ hkr) hgw).c3
              by_cases hlt2 : m < np
              · as_aux_lemma =>
                  obtain ⟨b, off, rfl, hb, hc⟩ := (HG2.out.below ((KP.out _ hkr).mono hgB)).p.at_ (by omega)
                  obtain ⟨px, r, py, A', n', c', hq, z0, z1, z2, g1, g2, g3, g4⟩ := hc m hlt2
                  obtain ⟨hf0, hf1, hf2⟩ := HFIT.out _ (mem_of_get hq)
                  simp only at hf0 hf1 hf2
                  obtain ⟨t, rfl⟩ := Int.eq_ofNat_of_zero_le hf0
                  rw [Int.toNat_natCast] at hf1
                  have hps := passF_snoc (stepG livS) G.prods m ((t : Int), r, py) z hq
                  rw [← HY.out.2.1] at hps
                  have hse := stepG_eq (f := livS) (i := m) (p := ((t : Int), r, py)) (l := y) (by rw [HY.out.2.2]; simpa using hf1)
                  simp only [Int.toNat_natCast] at hse
                  have HPS := Lib.hid hps; have HSE := Lib.hid hse; have HR := Lib.hid g1; have HRd := Lib.hid g4; have HF2 := Lib.hid hf2
                  clear hps hse hc hq g1 g4 hf2 hf0
                  unfold maxLen at g3
                  go_wp2_with fail
                  go_loop [6, 7] (fun v i => ∃ k : Nat, ∃ q : Bool, k ≤ n' ∧ i = .int .i64 k ∧ v = .bool q ∧ Hid (q = (r.take k).all (livS y))) (fun _ i => n' - (intOf i).toNat)
                  case atStart => exact ⟨0, true, Nat.zero_le _, rfl, rfl, rfl⟩
                  case round =>
                    as_aux_lemma =>
                      obtain ⟨j, q, hj, rfl, rfl, HE⟩ := hrel
                      by_cases hjn : j < n'
                      · as_aux_lemma =>
                          obtain ⟨b', off', rfl, hb', hc'⟩ := HRd.out.at_ (by rw [HR.out]; omega)
                          have zs1 := hc' j (by rw [HR.out]; omega)
                          have hd := all_snoc (f := livS y) (r := r) (k := j) (by rw [HR.out]; omega)
                          rw [← HE.out] at hd
                          have hmem := HF2.out _ (mem_nth (l := r) (k := j) (by rw [HR.out]; omega))
                          generalize nth r j = s at zs1 hd hmem
                          clear hc'
                          cases q
                          · have HD : Hid ((r.take (j + 1)).all (livS y) = false) := Lib.hid (by rw [hd]; rfl)
                            clear hd hmem
                            go_wp2
                            go_round
                            case rel => exact ⟨j + 1, false, by omega, by go_num, rfl, HD.out.symm⟩
                            case measure => simp [intOf]; omega
                          · by_cases hs : s < 0
                            · have d1 : decide (s < 0) = true := decide_eq_true hs
                              have d2 : decide (0 ≤ s) = false := decide_eq_false (by omega)
                              have ht := hmem hs
                              obtain ⟨t2, ht1⟩ : ∃ t2 : Nat, t2 = (-1 - s).toNat := ⟨_, rfl⟩
                              rw [← ht1] at ht
                              have hts : -1 - s = (t2 : Int) := by omega
                              have zy := HY.out.1.bcell (k := t2) (by rw [HY.out.2.2]; exact ht)
                              have hfs : livS y s = bth y t2 := by unfold livS; rw [← ht1]; simp [d1, d2]
                              rw [hfs] at hd
                              generalize bth y t2 = v at zy hd
                              have HD := Lib.hid hd
                              clear hd hmem hfs ht1
                              go_wp2
                              go_round
                              case rel => exact ⟨j + 1, v, by omega, by go_num, rfl, by show v = _; rw [HD.out]; rfl⟩
                              case measure => simp [intOf]; omega
                            · have d1 : decide (s < 0) = false := decide_eq_false hs
                              have d2 : decide (0 ≤ s) = true := decide_eq_true (by omega)
                              have hfs : livS y s = true := by unfold livS; simp [d1, d2]
                              rw [hfs] at hd
                              have HD := Lib.hid hd
                              clear hd hmem hfs
                              go_wp2
                              go_round
                              case rel => exact ⟨j + 1, true, by omega, by go_num, rfl, by show true = _; rw [HD.out]; rfl⟩
                              case measure => simp [intOf]; omega
                      · as_aux_lemma =>
                          have hq : q = r.all (livS y) := by have := HE.out; rwa [List.take_of_length_le (by rw [HR.out]; omega)] at this
                          have HQ := Lib.hid hq
                          rw [← hq] at HSE
                          clear HE hq
                          have zy := HY.out.1.bcell (k := t) (by rw [HY.out.2.2]; exact hf1)
                          have zf := HY.out.1.frozen t
                          generalize hbt : bth y t = a at zy HSE
                          clear hbt
                          cases a
                          all_goals
                            go_wp2_with fail
                            go_region
                            go_wp2_with fail
                            go_roundw
                            case rel => exact ⟨m + 1, by omega, by go_num, (hkr.set_ (p := ⟨g, t, none⟩) (.inr rfl) _).draw, y.set t (_ || q), (HY.out.1.bset t _).drew, by rw [HPS.out]; exact HSE.out, by rw [List.length_set]; exact HY.out.2.2⟩
                            case measure => simp [intOf]; omega
              · as_aux_lemma =>
                  have he : G.prods.take m = G.prods := List.take_of_length_le (by rw [HP1.out]; omega)
                  have HE := Lib.hid he; clear he
                  go_wp2
                  go_roundw
                  case rel => exact ⟨k + 1, by omega, by go_num, hkr, y, HY.out.1, by rw [HY.out.2.1, HE.out, rounds, HZ.out.2.1], HY.out.2.2⟩
                  case measure => simp [intOf]; omega
      · as_aux_lemma =>
          have hkN : k = N := by omega
          have HKN := Lib.hid hkN; clear hkN
          go_wp2
          go_ret
          exact ⟨g, rfl, Nat.le_of_lt hgw, by have h := HZ.out.1; rw [HZ.out.2.1, HKN.out] at h; exact h, HW2.out.trans ((KP.out _ hkr).mono (Nat.le_of_lt hgw))⟩


set_option maxHeartbeats 4000000 in
theorem rEmptyT_any (G : Gr) (Ap Al As : Option Addr) (np cp nl cl ns cs : Nat) (w : World) (B N : Nat) (hB : B ≤ w.heap.size) (hG : GrIn w B G Ap Al As np cp nl cl ns cs) (hk : GOk G) (hN : G.names = N) :
    Calls Try.prog 29 #[.agg #[.int .i64 G.terms, .int .i64 G.names, .int .i64 G.start, .slice Ap np cp, .slice Al nl cl, .slice As ns cs]] w fun e w' => ∃ g, e = .returned (.slice (some ⟨g, 0, none⟩) N N) ∧ w.heap.size ≤ g ∧ Blk w' g 4 (bv (rounds (stepG empS) G.prods N (b0 N))) ∧ Below w.heap.size w w' := by
  obtain ⟨hb0, hs0, gb⟩ := gbox w G Ap Al As np cp nl cl ns cs
  obtain ⟨hp1, hp2⟩ := hG.p.len
  have hl3 := hG.lm; have hl4 := hG.sm
  have hn1 := hk.n0; have hn2 := hk.n1
  have hNN : N ≤ 300 := by omega
  rw [hN] at hb0 hs0 gb
  have hz := gb.c1
  rw [hN] at hz
  have HP1 := Lib.hid hp1
  have HB0 := Lib.hid hb0; have HGB := Lib.hid gb; have HG := Lib.hid (hG.below (hb0.mono hB))
  have HFIT := Lib.hid (fun p (hp : p ∈ G.prods) => prFitg hk hp hN)
  have HN := Lib.hid hN
  unfold maxLen at hp2 hl3 hl4
  clear gb hG hk hp1 hb0 hN
  have hmk : ∀ w : World, (Instr.makeSlice 38 (.int .i64 (N : Int)) (.int .i64 (N : Int))).run Try.prog w = .ok (.slice (some ⟨w.heap.size, 0, none⟩) N N) (w.alloc (.cells (zs (.bool false) N) 4)) := fun w =>
    mk_row elBg rfl .i64 .i64 N _ (by omega) (by omega) (by omega) w
  have hGN : G.names = (N : Int) := HN.out
  go_enter Try.func29, Try.ntmps29
  go_wp2_with fail
  clear hGN hz
  have hblk : Blk ((w.alloc (.cells #[.int .i64 G.terms, .int .i64 (N : Int), .int .i64 G.start, .slice Ap np cp, .slice Al nl cl, .slice As ns cs] 30)).alloc (.cells (zs (.bool false) N) 4)) (w.heap.size + 1) 4 (bv (b0 N)) := by
    have := Blk.made (w.alloc (.cells #[.int .i64 G.terms, .int .i64 (N : Int), .int .i64 G.start, .slice Ap np cp, .slice Al nl cl, .slice As ns cs] 30)) 4 (.bool false) N
    rw [hs0] at this
    unfold b0
    rw [← bv_rep]; exact this
  have hb2 : Below (w.heap.size + 1) (w.alloc (.cells #[.int .i64 G.terms, .int .i64 (N : Int), .int .i64 G.start, .slice Ap np cp, .slice Al nl cl, .slice As ns cs] 30)) ((w.alloc (.cells #[.int .i64 G.terms, .int .i64 (N : Int), .int .i64 G.start, .slice Ap np cp, .slice Al nl cl, .slice As ns cs] 30)).alloc (.cells (zs (.bool false) N) 4)) := (Below.refl _ _).alloc (by rw [hs0]; exact Nat.le_refl _) _
  have hs2 : ((w.alloc (.cells #[.int .i64 G.terms, .int .i64 (N : Int), .int .i64 G.start, .slice Ap np cp, .slice Al nl cl, .slice As ns cs] 30)).alloc (.cells (zs (.bool false) N) 4)).heap.size = w.heap.size + 2 := by simp
  obtain ⟨g, hg⟩ : ∃ g, g = w.heap.size + 1 := ⟨_, rfl⟩
  rw [← hg] at hblk hb2 ⊢
  generalize (w.alloc (.cells #[.int .i64 G.terms, .int .i64 (N : Int), .int .i64 G.start, .slice Ap np cp, .slice Al nl cl, .slice As ns cs] 30)).alloc (.cells (zs (.bool false) N) 4) = W2 at *
  have hgw : w.heap.size < g := by omega
  have hgB : B ≤ g := by omega
  have HG2 := Lib.hid (HG.out.below (hb2.mono hgB))
  have HGB2 := Lib.hid (HGB.out.below hb2 hgw)
  have HW2 := Lib.hid (HB0.out.trans (hb2.mono (Nat.le_of_lt hgw)))
  have hgs2 : g < W2.heap.size := hblk.lt
  have HBL := Lib.hid hblk
  clear hblk hg hb2 hs2 hs0 HG HGB HB0 hmk
  have kp_facts : ∀ wr : World, Kp (fun j => j = g) W2 wr → Below g W2 wr := fun wr h => h.bel (Nat.le_of_lt hgs2) (fun j hj e => by omega)
  have KP := Lib.hid kp_facts; clear kp_facts
  go_loopw [4] (fun i wr => ∃ k : Nat, k ≤ N ∧ i = .int .i64 k ∧ Kp (fun j => j = g) W2 wr ∧ ∃ z : List Bool, Hid (Blk wr g 4 (bv z) ∧ z = rounds (stepG empS) G.prods k (b0 N) ∧ z.length = N)) (fun i _ => N - (intOf i).toNat)
  case atStart => exact ⟨0, Nat.zero_le _, rfl, Kp.refl _ _, _, HBL.out, rfl, by simp [b0]⟩
  case round =>
    as_aux_lemma =>
      obtain ⟨k, hk, rfl, hkr, z, HZ⟩ := hrel
      have gr := (HGB2.out.below (KP.out _ hkr) hgw).c1
      rw [HN.out] at gr
      by_cases hlt : k < N
      · as_aux_lemma =>
          go_wp2_with fail
          go_loopw [5] (fun i wr => ∃ m : Nat, m ≤ np ∧ i = .int .i64 m ∧ Kp (fun j => j = g) W2 wr ∧ ∃ y : List Bool, Hid (Blk wr g 4 (bv y) ∧ y = (passF (stepG empS) 0 (G.prods.take m) z).1 ∧ y.length = N)) (fun i _ => np - (intOf i).toNat)
          case atStart => exact ⟨0, Nat.zero_le _, rfl, hkr, z, HZ.out.1, rfl, HZ.out.2.2⟩
          case round =>
            as_aux_lemma =>
              clear gr hkr
              obtain ⟨m, hm, rfl, hkr, y, HY⟩ := hrel
              have gr3 := (HGB2.out.below (KP.out _ hkr) hgw).c3
              by_cases hlt2 : m < np
              · as_aux_lemma =>
                  obtain ⟨b, off, rfl, hb, hc⟩ := (HG2.out.below ((KP.out _ hkr).mono hgB)).p.at_ (by omega)
                  obtain ⟨px, r, py, A', n', c', hq, z0, z1, z2, g1, g2, g3, g4⟩ := hc m hlt2
                  obtain ⟨hf0, hf1, hf2⟩ := HFIT.out _ (mem_of_get hq)
                  simp only at hf0 hf1 hf2
                  obtain ⟨t, rfl⟩ := Int.eq_ofNat_of_zero_le hf0
                  rw [Int.toNat_natCast] at hf1
                  have hps := passF_snoc (stepG empS) G.prods m ((t : Int), r, py) z hq
                  rw [← HY.out.2.1] at hps
                  have hse := stepG_eq (f := empS) (i := m) (p := ((t : Int), r, py)) (l := y) (by rw [HY.out.2.2]; simpa using hf1)
                  simp only [Int.toNat_natCast] at hse
                  have HPS := Lib.hid hps; have HSE := Lib.hid hse; have HR := Lib.hid g1; have HRd := Lib.hid g4; have HF2 := Lib.hid hf2
                  clear hps hse hc hq g1 g4 hf2 hf0
                  unfold maxLen at g3
                  go_wp2_with fail
                  go_loop [6, 7] (fun v i => ∃ k : Nat, ∃ q : Bool, k ≤ n' ∧ i = .int .i64 k ∧ v = .bool q ∧ Hid (q = (r.take k).all (empS y))) (fun _ i => n' - (intOf i).toNat)
                  case atStart => exact ⟨0, true, Nat.zero_le _, rfl, rfl, rfl⟩
                  case round =>
                    as_aux_lemma =>
                      obtain ⟨j, q, hj, rfl, rfl, HE⟩ := hrel
                      by_cases hjn : j < n'
                      · as_aux_lemma =>
                          obtain ⟨b', off', rfl, hb', hc'⟩ := HRd.out.at_ (by rw [HR.out]; omega)
                          have zs1 := hc' j (by rw [HR.out]; omega)
                          have hd := all_snoc (f := empS y) (r := r) (k := j) (by rw [HR.out]; omega)
                          rw [← HE.out] at hd
                          have hmem := HF2.out _ (mem_nth (l := r) (k := j) (by rw [HR.out]; omega))
                          generalize nth r j = s at zs1 hd hmem
                          clear hc'
                          cases q
                          · have HD : Hid ((r.take (j + 1)).all (empS y) = false) := Lib.hid (by rw [hd]; rfl)
                            clear hd hmem
                            go_wp2
                            go_round
                            case rel => exact ⟨j + 1, false, by omega, by go_num, rfl, HD.out.symm⟩
                            case measure => simp [intOf]; omega
                          · by_cases hs : s < 0
                            · have d1 : decide (s < 0) = true := decide_eq_true hs
                              have d2 : decide (0 ≤ s) = false := decide_eq_false (by omega)
                              have ht := hmem hs
                              obtain ⟨t2, ht1⟩ : ∃ t2 : Nat, t2 = (-1 - s).toNat := ⟨_, rfl⟩
                              rw [← ht1] at ht
                              have hts : -1 - s = (t2 : Int) := by omega
                              have zy := HY.out.1.bcell (k := t2) (by rw [HY.out.2.2]; exact ht)
                              have hfs : empS y s = bth y t2 := by unfold empS; rw [← ht1]; simp [d1, d2]
                              rw [hfs] at hd
                              generalize bth y t2 = v at zy hd
                              have HD := Lib.hid hd
                              clear hd hmem hfs ht1
                              go_wp2
                              go_round
                              case rel => exact ⟨j + 1, v, by omega, by go_num, rfl, by show v = _; rw [HD.out]; rfl⟩
                              case measure => simp [intOf]; omega
                            · have d1 : decide (s < 0) = false := decide_eq_false hs
                              have d2 : decide (0 ≤ s) = true := decide_eq_true (by omega)
                              have hfs : empS y s = false := by unfold empS; simp [d1, d2]
                              rw [hfs] at hd
                              have HD := Lib.hid hd
                              clear hd hmem hfs
                              go_wp2
                              go_round
                              case rel => exact ⟨j + 1, false, by omega, by go_num, rfl, by show false = _; rw [HD.out]; rfl⟩
                              case measure => simp [intOf]; omega
                      · as_aux_lemma =>
                          have hq : q = r.all (empS y) := by have := HE.out; rwa [List.take_of_length_le (by rw [HR.out]; omega)] at this
                          have HQ := Lib.hid hq
                          rw [← hq] at HSE
                          clear HE hq
                          have zy := HY.out.1.bcell (k := t) (by rw [HY.out.2.2]; exact hf1)
                          have zf := HY.out.1.frozen t
                          generalize hbt : bth y t = a at zy HSE
                          clear hbt
                          cases a
                          all_goals
                            go_wp2_with fail
                            go_region
                            go_wp2_with fail
                            go_roundw
                            case rel => exact ⟨m + 1, by omega, by go_num, (hkr.set_ (p := ⟨g, t, none⟩) (.inr rfl) _).draw, y.set t (_ || q), (HY.out.1.bset t _).drew, by rw [HPS.out]; exact HSE.out, by rw [List.length_set]; exact HY.out.2.2⟩
                            case measure => simp [intOf]; omega
              · as_aux_lemma =>
                  have he : G.prods.take m = G.prods := List.take_of_length_le (by rw [HP1.out]; omega)
                  have HE := Lib.hid he; clear he
                  go_wp2
                  go_roundw
                  case rel => exact ⟨k + 1, by omega, by go_num, hkr, y, HY.out.1, by rw [HY.out.2.1, HE.out, rounds, HZ.out.2.1], HY.out.2.2⟩
                  case measure => simp [intOf]; omega
      · as_aux_lemma =>
          have hkN : k = N := by omega
          have HKN := Lib.hid hkN; clear hkN
          go_wp2
          go_ret
          exact ⟨g, rfl, Nat.le_of_lt hgw, by have h := HZ.out.1; rw [HZ.out.2.1, HKN.out] at h; exact h, HW2.out.trans ((KP.out _ hkr).mono (Nat.le_of_lt hgw))⟩
end Go.Proofs.Ytgfchgnebpogjaa
