/- The document's Short. -/
import Derived.Test.YtgfchgnebpogjaaGrT
import Derived.Test.YtgfchgnebpogjaaGrO
namespace Go.Proofs.Ytgfchgnebpogjaa
open Go.RowKit BigFrame
set_option linter.unusedVariables false
set_option linter.unusedSimpArgs false
set_option maxRecDepth 100000

theorem elIr : ElTy Try.prog 22 3 1 8 (.int .i64 0) := ⟨Try.underlying22, by kernel_rfl, rfl, by decide⟩
theorem prFitr {G : Gr} (h : GOk G) {p : Prd} (hp : p ∈ G.prods) {N : Nat} (hN : G.names = N) : PrFit N p := by
  have q := h.pr p hp
  have h0 := q.l0; have h1 := q.l1
  exact ⟨h0, by omega, fun s hs hn => by have := (q.s s hs).1; omega⟩
theorem lenF_range {x : List Int} {r : List Int} (hx : LenB x) : -1 ≤ lenF x 0 r ∧ lenF x 0 r ≤ 1000000 := by
  have key : ∀ (r : List Int) (m : Int), 0 ≤ m → m ≤ 1000000 → -1 ≤ lenF x m r ∧ lenF x m r ≤ 1000000 := by
    intro r
    induction r with
    | nil => intro m h0 h1; exact ⟨by simp only [lenF]; omega, h1⟩
    | cons s r ih =>
      intro m h0 h1
      simp only [lenF]
      split
      · omega
      · exact ih _ (by omega) (by omega)
  exact key r 0 (by omega) (by omega)

set_option maxHeartbeats 4000000 in
theorem rshort_any (G : Gr) (Ap Al As : Option Addr) (np cp nl cl ns cs : Nat) (w : World) (B N : Nat) (hB : B ≤ w.heap.size) (hG : GrIn w B G Ap Al As np cp nl cl ns cs) (hk : GOk G) (hN : G.names = N) :
    Calls Try.prog 16 #[.agg #[.int .i64 G.terms, .int .i64 G.names, .int .i64 G.start, .slice Ap np cp, .slice Al nl cl, .slice As ns cs]] w fun e w' => ∃ g, e = .returned (.slice (some ⟨g, 0, none⟩) N N) ∧ w.heap.size ≤ g ∧ Blk w' g 3 (iv (rounds stepS G.prods (N + 1) (x0 N))) ∧ Below w.heap.size w w' := by
  obtain ⟨hb0, hs0, gb⟩ := gbox w G Ap Al As np cp nl cl ns cs
  obtain ⟨hp1, hp2⟩ := hG.p.len
  have hl3 := hG.lm; have hl4 := hG.sm
  have hn1 := hk.n0; have hn2 := hk.n1
  have hNN : N ≤ 300 := by omega
  rw [hN] at hb0 hs0 gb
  have hz := gb.c1
  rw [hN] at hz
  have HP1 := Lib.hid hp1
  have HB0 := Lib.hid hb0; have HGB := Lib.hid gb; have HG := Lib.hid (hG.below (hb0.mono hB))
  have hfit : ∀ p ∈ G.prods, PrFit N p := fun p hp => prFitr hk hp hN
  have HFIT := Lib.hid hfit
  have HN := Lib.hid hN
  unfold maxLen at hp2 hl3 hl4
  clear gb hG hk hp1 hb0 hfit hN
  have hmk : ∀ w : World, (Instr.makeSlice 22 (.int .i64 (N : Int)) (.int .i64 (N : Int))).run Try.prog w = .ok (.slice (some ⟨w.heap.size, 0, none⟩) N N) (w.alloc (.cells (zs (.int .i64 0) N) 3)) := fun w =>
    mk_row elIr rfl .i64 .i64 N _ (by omega) (by omega) (by omega) w
  have hGN : G.names = (N : Int) := HN.out
  go_enter Try.func16, Try.ntmps16
  go_wp2_with fail
  clear hGN hz
  have hblk : Blk ((w.alloc (.cells #[.int .i64 G.terms, .int .i64 (N : Int), .int .i64 G.start, .slice Ap np cp, .slice Al nl cl, .slice As ns cs] 30)).alloc (.cells (zs (.int .i64 0) N) 3)) (w.heap.size + 1) 3 (iv (List.replicate N 0)) := by
    have := Blk.made (w.alloc (.cells #[.int .i64 G.terms, .int .i64 (N : Int), .int .i64 G.start, .slice Ap np cp, .slice Al nl cl, .slice As ns cs] 30)) 3 (.int .i64 0) N
    rw [hs0] at this
    rw [← iv_rep]; exact this
  have hb2 : Below (w.heap.size + 1) (w.alloc (.cells #[.int .i64 G.terms, .int .i64 (N : Int), .int .i64 G.start, .slice Ap np cp, .slice Al nl cl, .slice As ns cs] 30)) ((w.alloc (.cells #[.int .i64 G.terms, .int .i64 (N : Int), .int .i64 G.start, .slice Ap np cp, .slice Al nl cl, .slice As ns cs] 30)).alloc (.cells (zs (.int .i64 0) N) 3)) := (Below.refl _ _).alloc (by rw [hs0]; exact Nat.le_refl _) _
  have hs2 : ((w.alloc (.cells #[.int .i64 G.terms, .int .i64 (N : Int), .int .i64 G.start, .slice Ap np cp, .slice Al nl cl, .slice As ns cs] 30)).alloc (.cells (zs (.int .i64 0) N) 3)).heap.size = w.heap.size + 2 := by simp
  obtain ⟨g, hg⟩ : ∃ g, g = w.heap.size + 1 := ⟨_, rfl⟩
  rw [← hg] at hblk hb2 ⊢
  generalize (w.alloc (.cells #[.int .i64 G.terms, .int .i64 (N : Int), .int .i64 G.start, .slice Ap np cp, .slice Al nl cl, .slice As ns cs] 30)).alloc (.cells (zs (.int .i64 0) N) 3) = W2 at *
  have hgw : w.heap.size < g := by omega
  have hgB : B ≤ g := by omega
  have HG2 := Lib.hid (HG.out.below (hb2.mono hgB))
  have HGB2 := Lib.hid (HGB.out.below hb2 hgw)
  have HW2 := Lib.hid (HB0.out.trans (hb2.mono (Nat.le_of_lt hgw)))
  have hgs2 : g < W2.heap.size := hblk.lt
  have HBL := Lib.hid hblk
  clear hblk hg hb2 hs2 hs0 HG HGB HB0 hmk
  have kp_facts : ∀ wr : World, Kp (fun j => j = g) W2 wr → Below g W2 wr := fun wr h => h.bel (Nat.le_of_lt hgs2) (fun j hj e => by omega)
  have KP := Lib.hid kp_facts; clear kp_facts
  go_loopw [4] (fun i wr => ∃ k : Nat, k ≤ N ∧ i = .int .i64 k ∧ Kp (fun j => j = g) W2 wr ∧ ∃ x : List Int, Hid (Blk wr g 3 (iv x) ∧ x.length = N ∧ ∀ j, j < k → nth x j = -1)) (fun i _ => N - (intOf i).toNat)
  case atStart => exact ⟨0, Nat.zero_le _, rfl, Kp.refl _ _, _, HBL.out, List.length_replicate, fun j h => absurd h (by omega)⟩
  case round =>
    as_aux_lemma =>
      obtain ⟨k, hk, rfl, hkr, x, HX⟩ := hrel
      have gr := (HGB2.out.below (KP.out _ hkr) hgw).c1
      rw [HN.out] at gr
      by_cases hlt : k < N
      · have zk := HX.out.1.icell (k := k) (by rw [HX.out.2.1]; exact hlt)
        have zf := HX.out.1.frozen k
        generalize nth x k = q at zk
        go_wp2
        go_roundw
        case rel => exact ⟨k + 1, by omega, by go_num, hkr.set_ (.inr rfl) _, x.set k (-1), HX.out.1.iset k (-1), by rw [List.length_set]; exact HX.out.2.1, fun j hj => by
          rw [nth_set (by rw [HX.out.2.1]; exact hlt)]
          split
          · rfl
          · exact HX.out.2.2 j (by omega)⟩
        case measure => simp [intOf]; omega
      · as_aux_lemma =>
          have hx0 : x = x0 N := by
            apply List.ext_getElem
            · rw [HX.out.2.1]; simp [x0]
            · intro j h1 h2
              have h3 := HX.out.2.1
              have := HX.out.2.2 j (by omega)
              rw [nth_get h1] at this
              rw [this]; simp [x0]
          subst hx0
          have hlb : LenB (x0 N) := fun j => by
            unfold nth x0
            rw [List.getD_eq_getElem?_getD, List.getElem?_replicate]
            split <;> simp
          have HLB := Lib.hid hlb; clear hlb
          have HXB := Lib.hid HX.out.1; clear HX
          go_wp2_with fail
          go_loopw [5] (fun i wr => ∃ k : Nat, k ≤ N + 1 ∧ i = .int .i64 k ∧ Kp (fun j => j = g) W2 wr ∧ ∃ z : List Int, Hid (Blk wr g 3 (iv z) ∧ z = rounds stepS G.prods k (x0 N) ∧ z.length = N ∧ LenB z)) (fun i _ => N + 1 - (intOf i).toNat)
          case atStart => exact ⟨0, Nat.zero_le _, rfl, hkr, _, HXB.out, rfl, by simp [x0], HLB.out⟩
          case round =>
            as_aux_lemma =>
              clear gr hkr HXB HLB hlt hk
              obtain ⟨k, hk, rfl, hkr, z, HZ⟩ := hrel
              have gr := (HGB2.out.below (KP.out _ hkr) hgw).c1
              rw [HN.out] at gr
              by_cases hlt : k ≤ N
              · as_aux_lemma =>
                  go_wp2_with fail
                  go_loopw [6] (fun i wr => ∃ m : Nat, m ≤ np ∧ i = .int .i64 m ∧ Kp (fun j => j = g) W2 wr ∧ ∃ y : List Int, Hid (Blk wr g 3 (iv y) ∧ y = (passF stepS 0 (G.prods.take m) z).1 ∧ y.length = N ∧ LenB y)) (fun i _ => np - (intOf i).toNat)
                  case atStart => exact ⟨0, Nat.zero_le _, rfl, hkr, z, HZ.out.1, rfl, HZ.out.2.2⟩
                  case round =>
                    as_aux_lemma =>
                      clear gr hkr
                      obtain ⟨m, hm, rfl, hkr, y, HY⟩ := hrel
                      have gr3 := (HGB2.out.below (KP.out _ hkr) hgw).c3
                      by_cases hlt2 : m < np
                      · as_aux_lemma =>
                          obtain ⟨b, off, rfl, hb, hc⟩ := (HG2.out.below ((KP.out _ hkr).mono hgB)).p.at_ (by omega)
                          obtain ⟨px, r, py, A', n', c', hq, z0, z1, z2, g1, g2, g3, g4⟩ := hc m hlt2
                          obtain ⟨hf0, hf1, hf2⟩ := HFIT.out _ (mem_of_get hq)
                          simp only at hf0 hf1 hf2
                          obtain ⟨t, rfl⟩ := Int.eq_ofNat_of_zero_le hf0
                          rw [Int.toNat_natCast] at hf1
                          have hps := passF_snoc stepS G.prods m ((t : Int), r, py) z hq
                          rw [← HY.out.2.1] at hps
                          have hst : ∀ st : List Int × Bool, st = stepS m ((t : Int), r, py) y → LenB st.1 := fun st e => by rw [e]; exact stepS_LenB (i := m) HY.out.2.2.2 (by rw [HY.out.2.2.1]; simpa using hf1)
                          have hst2 : stepS m ((t : Int), r, py) y = if lenF y 0 r < 0 ∨ (0 ≤ nth y t ∧ nth y t ≤ lenF y 0 r) then (y, false) else (y.set t (lenF y 0 r), true) := by unfold stepS; simp only [Int.toNat_natCast]
                          have hrg := lenF_range (r := r) HY.out.2.2.2
                          have HPS := Lib.hid hps; have HST := Lib.hid hst; have HST2 := Lib.hid hst2; have HR := Lib.hid g1; have HRd := Lib.hid g4; have HF2 := Lib.hid hf2
                          clear hps hst hst2 hc hq g1 g4 hf2 hf0
                          unfold maxLen at g3
                          go_wp2_with fail
                          go_loop [7, 8] (fun v i => ∃ k : Nat, ∃ q : Int, k ≤ n' ∧ i = .int .i64 k ∧ v = .int .i64 q ∧ -1 ≤ q ∧ q ≤ 1000000 ∧ Hid ((0 ≤ q ∧ lenF y 0 r = lenF y q (r.drop k)) ∨ (q = -1 ∧ lenF y 0 r = -1))) (fun _ i => n' - (intOf i).toNat)
                          case atStart => exact ⟨0, 0, Nat.zero_le _, rfl, rfl, by omega, by omega, .inl ⟨Int.le_refl _, rfl⟩⟩
                          case round =>
                            as_aux_lemma =>
                              obtain ⟨j, q, hj, rfl, rfl, hq0, hq1, HE⟩ := hrel
                              by_cases hgo : j < n' ∧ 0 ≤ q
                              · as_aux_lemma =>
                                  obtain ⟨hjn, hqq⟩ := hgo
                                  have d0 : decide (0 ≤ q) = true := decide_eq_true hqq
                                  have HE1 : Hid (lenF y 0 r = lenF y q (r.drop j)) := by
                                    rcases HE.out with h | h
                                    · exact h.2
                                    · omega
                                  clear HE
                                  obtain ⟨b', off', rfl, hb', hc'⟩ := HRd.out.at_ (by rw [HR.out]; omega)
                                  have zs1 := hc' j (by rw [HR.out]; omega)
                                  have hd := drop_nth (l := r) (k := j) (by rw [HR.out]; omega)
                                  have hmem := HF2.out _ (mem_nth (l := r) (k := j) (by rw [HR.out]; omega))
                                  generalize nth r j = s at zs1 hd hmem
                                  have HD := Lib.hid hd; clear hd hc'
                                  by_cases hs : s < 0
                                  · have d1 : decide (s < 0) = true := decide_eq_true hs
                                    have ht := hmem hs
                                    obtain ⟨t2, ht1⟩ : ∃ t2 : Nat, t2 = (-1 - s).toNat := ⟨_, rfl⟩
                                    rw [← ht1] at ht
                                    have hts : -1 - s = (t2 : Int) := by omega
                                    have zy := HY.out.1.icell (k := t2) (by rw [HY.out.2.2.1]; exact ht)
                                    have hbd := HY.out.2.2.2 t2
                                    have hsym : symL y s = nth y t2 := by unfold symL; rw [if_pos hs, ← ht1]
                                    generalize nth y t2 = v at zy hbd hsym
                                    have HS := Lib.hid hsym; clear hsym ht1 hmem
                                    obtain ⟨hv0, hv1⟩ := hbd
                                    by_cases hv : v < 0
                                    · have d2 : decide (v < 0) = true := decide_eq_true hv
                                      have HF : Hid (lenF y 0 r = -1) := Lib.hid (by rw [HE1.out, HD.out]; simp only [lenF]; rw [HS.out, if_pos hv])
                                      go_wp2
                                      go_round
                                      case rel => exact ⟨j + 1, -1, by omega, by go_num, rfl, by omega, by omega, .inr ⟨rfl, HF.out⟩⟩
                                      case measure => simp [intOf]; omega
                                    · have d2 : decide (v < 0) = false := decide_eq_false hv
                                      by_cases hbig : 1000000 < q + v
                                      · have d3 : decide (1000000 < q + v) = true := decide_eq_true hbig
                                        have HF : Hid (lenF y 0 r = lenF y 1000000 (r.drop (j + 1))) := Lib.hid (by rw [HE1.out, HD.out]; simp only [lenF]; rw [HS.out, if_neg hv, show min (q + v) 1000000 = 1000000 by omega])
                                        go_wp2
                                        go_round
                                        case rel => exact ⟨j + 1, 1000000, by omega, by go_num, rfl, by omega, by omega, .inl ⟨by omega, HF.out⟩⟩
                                        case measure => simp [intOf]; omega
                                      · have d3 : decide (1000000 < q + v) = false := decide_eq_false hbig
                                        have HF : Hid (lenF y 0 r = lenF y (q + v) (r.drop (j + 1))) := Lib.hid (by rw [HE1.out, HD.out]; simp only [lenF]; rw [HS.out, if_neg hv, show min (q + v) 1000000 = q + v by omega])
                                        go_wp2
                                        go_round
                                        case rel => exact ⟨j + 1, q + v, by omega, by go_num, rfl, by omega, by omega, .inl ⟨by omega, HF.out⟩⟩
                                        case measure => simp [intOf]; omega
                                  · have d1 : decide (s < 0) = false := decide_eq_false hs
                                    have hsym : symL y s = 1 := by unfold symL; rw [if_neg hs]
                                    have HS := Lib.hid hsym; clear hsym hmem
                                    by_cases hbig : 1000000 < q + 1
                                    · have d3 : decide (1000000 < q + 1) = true := decide_eq_true hbig
                                      have HF : Hid (lenF y 0 r = lenF y 1000000 (r.drop (j + 1))) := Lib.hid (by rw [HE1.out, HD.out]; simp only [lenF]; rw [HS.out, if_neg (by omega), show min (q + 1) 1000000 = 1000000 by omega])
                                      go_wp2
                                      go_round
                                      case rel => exact ⟨j + 1, 1000000, by omega, by go_num, rfl, by omega, by omega, .inl ⟨by omega, HF.out⟩⟩
                                      case measure => simp [intOf]; omega
                                    · have d3 : decide (1000000 < q + 1) = false := decide_eq_false hbig
                                      have HF : Hid (lenF y 0 r = lenF y (q + 1) (r.drop (j + 1))) := Lib.hid (by rw [HE1.out, HD.out]; simp only [lenF]; rw [HS.out, if_neg (by omega), show min (q + 1) 1000000 = q + 1 by omega])
                                      go_wp2
                                      go_round
                                      case rel => exact ⟨j + 1, q + 1, by omega, by go_num, rfl, by omega, by omega, .inl ⟨by omega, HF.out⟩⟩
                                      case measure => simp [intOf]; omega
                              · have hL : lenF y 0 r = q := by
                                  rcases HE.out with h | h
                                  · have hj2 : ¬ j < n' := fun e => hgo ⟨e, h.1⟩
                                    rw [h.2, List.drop_eq_nil_of_le (by rw [HR.out]; omega)]; rfl
                                  · rw [h.2, h.1]
                                rw [hL] at HST2
                                clear HE
                                have zy := HY.out.1.icell (k := t) (by rw [HY.out.2.2.1]; exact hf1)
                                have zf := HY.out.1.frozen t
                                generalize nth y t = a at zy HST2
                                have HL := Lib.hid hL; clear hL
                                have hcase : (j < n' ∧ decide (0 ≤ q) = false) ∨ ¬ j < n' := by
                                  by_cases e : j < n'
                                  · exact .inl ⟨e, decide_eq_false (fun h => hgo ⟨e, h⟩)⟩
                                  · exact .inr e
                                clear hgo
                                rcases hcase with ⟨hjn, d0⟩ | hjn
                                all_goals
                                  by_cases hq2 : 0 ≤ q
                                  · have d1 : decide (0 ≤ q) = true := decide_eq_true hq2
                                    by_cases ha : a < 0
                                    · have d2 : decide (a < 0) = true := decide_eq_true ha
                                      have HF : Hid (stepS m ((t : Int), r, py) y = (y.set t q, true)) := Lib.hid (by rw [HST2.out, if_neg (by omega)])
                                      first
                                        | (exfalso; have := of_decide_eq_false d0; omega)
                                        | (go_wp2
                                           go_roundw
                                           case rel => exact ⟨m + 1, by omega, by go_num, hkr.set_ (.inr rfl) _, y.set t q, HY.out.1.iset t q, by rw [HPS.out, HF.out], by rw [List.length_set]; exact HY.out.2.2.1, HST.out _ HF.out.symm⟩
                                           case measure => simp [intOf]; omega)
                                    · have d2 : decide (a < 0) = false := decide_eq_false ha
                                      by_cases hqa : q < a
                                      · have d3 : decide (q < a) = true := decide_eq_true hqa
                                        have HF : Hid (stepS m ((t : Int), r, py) y = (y.set t q, true)) := Lib.hid (by rw [HST2.out, if_neg (by omega)])
                                        first
                                          | (exfalso; have := of_decide_eq_false d0; omega)
                                          | (go_wp2
                                             go_roundw
                                             case rel => exact ⟨m + 1, by omega, by go_num, hkr.set_ (.inr rfl) _, y.set t q, HY.out.1.iset t q, by rw [HPS.out, HF.out], by rw [List.length_set]; exact HY.out.2.2.1, HST.out _ HF.out.symm⟩
                                             case measure => simp [intOf]; omega)
                                      · have d3 : decide (q < a) = false := decide_eq_false hqa
                                        have HF : Hid (stepS m ((t : Int), r, py) y = (y, false)) := Lib.hid (by rw [HST2.out, if_pos (by omega)])
                                        first
                                          | (exfalso; have := of_decide_eq_false d0; omega)
                                          | (go_wp2
                                             go_roundw
                                             case rel => exact ⟨m + 1, by omega, by go_num, hkr, y, HY.out.1, by rw [HPS.out, HF.out], HY.out.2.2⟩
                                             case measure => simp [intOf]; omega)
                                  · have d1 : decide (0 ≤ q) = false := decide_eq_false hq2
                                    have HF : Hid (stepS m ((t : Int), r, py) y = (y, false)) := Lib.hid (by rw [HST2.out, if_pos (by omega)])
                                    go_wp2
                                    go_roundw
                                    case rel => exact ⟨m + 1, by omega, by go_num, hkr, y, HY.out.1, by rw [HPS.out, HF.out], HY.out.2.2⟩
                                    case measure => simp [intOf]; omega
                      · as_aux_lemma =>
                          have he : G.prods.take m = G.prods := List.take_of_length_le (by rw [HP1.out]; omega)
                          have HE := Lib.hid he; clear he
                          go_wp2
                          go_roundw
                          case rel => exact ⟨k + 1, by omega, by go_num, hkr, y, HY.out.1, by rw [HY.out.2.1, HE.out, rounds, HZ.out.2.1], HY.out.2.2⟩
                          case measure => simp [intOf]; omega
              · as_aux_lemma =>
                  have hkN : k = N + 1 := by omega
                  have HKN := Lib.hid hkN; clear hkN
                  go_wp2
                  go_ret
                  exact ⟨g, rfl, Nat.le_of_lt hgw, by rw [← HKN.out, ← HZ.out.2.1]; exact HZ.out.1, HW2.out.trans ((KP.out _ hkr).mono (Nat.le_of_lt hgw))⟩
end Go.Proofs.Ytgfchgnebpogjaa
