/- The document's Shortest. -/
import Derived.Test.YtgfchgnebpogjaaSnT
namespace Go.Proofs.Ytgfchgnebpogjaa
open Go.RowKit BigFrame
set_option linter.unusedVariables false
set_option linter.unusedSimpArgs false
set_option maxRecDepth 100000

structure QD (ps : List Prd) (N T : Nat) (st : Sn) : Prop where
  l : st.length = N
  h : HadD ps st
  d : DigS T st
theorem QD.step {ps : List Prd} {N T : Nat} {st : Sn} (hf : Fits N ps) (hT : ∀ p ∈ ps, ∀ s ∈ p.2.1, s < (T : Int)) (h : QD ps N T st) {k : Nat} {p : Prd} (hp : p ∈ ps) :
    QD ps N T (stepD k p st).1 ∧ ((stepD k p st).2 = true → muS T (stepD k p st).1 < muS T st) :=
  ⟨⟨by rw [stepD_len]; exact h.l, stepD_had hf h.l h.h hp, stepD_dig h.d (by rw [h.l]; exact (hf p hp).1) (hT p hp)⟩,
   fun hn => stepD_mu h.d (by rw [h.l]; exact (hf p hp).1) (hT p hp) hn⟩

theorem rshortest_no (G : Gr) (Ap Al As : Option Addr) (np cp nl cl ns cs : Nat) (n : Int) (w : World) (B : Nat) (hB : B ≤ w.heap.size) (hG : GrIn w B G Ap Al As np cp nl cl ns cs) (hn : n < 0 ∨ G.names ≤ n) :
    Calls Try.prog 14 #[.agg #[.int .i64 G.terms, .int .i64 G.names, .int .i64 G.start, .slice Ap np cp, .slice Al nl cl, .slice As ns cs], .int .i64 n] w fun e w' => e = .returned (.tuple #[.slice none 0 0, .bool false]) ∧ Below w.heap.size w w' := by
  obtain ⟨hb0, hs0, gb⟩ := gbox w G Ap Al As np cp nl cl ns cs
  obtain ⟨hp1, hp2⟩ := hG.p.len
  have hl3 := hG.lm; have hl4 := hG.sm
  unfold maxLen at hp2 hl3 hl4
  clear gb hG hp1 hs0
  by_cases h1 : n < 0
  · have d1 : decide (n < 0) = true := decide_eq_true h1
    clear hn
    go_enter Try.func14, Try.ntmps14
    go_wp2
    go_ret2
    exact ⟨rfl, hb0⟩
  · have d1 : decide (n < 0) = false := decide_eq_false h1
    have h2 : G.names ≤ n := by rcases hn with h | h; exact absurd h h1; exact h
    have d2 : decide (G.names ≤ n) = true := decide_eq_true h2
    clear hn
    go_enter Try.func14, Try.ntmps14
    go_wp2
    go_ret2
    exact ⟨rfl, hb0⟩

/-- What the document's hands back of a name. -/
def ShDPost (ps : List Prd) (N : Nat) (m : Nat) (e : Ending) (w' : World) : Prop := ∃ st : Sn, HadD ps st ∧ (∀ k p, ps[k]? = some p → (stepD k p st).2 = false) ∧
  ((sn st m = none ∧ e = .returned (.tuple #[.slice none 0 0, .bool false])) ∨
   (∃ (l : List Int) (A : Option Addr) (c : Nat), sn st m = some l ∧ e = .returned (.tuple #[.slice A l.length c, .bool true]) ∧ l.length ≤ c ∧ c ≤ maxLen ∧ RdF w' (fun _ => True) A l))

/-- Where a sentence comes to nothing. -/
def Nought (st : Sn) (r : List Int) : Prop := sentF st r = none ∨ ∃ l, sentF st r = some l ∧ 1000 < l.length
theorem nought_step {st : Sn} {k : Nat} {p : Prd} (h : Nought st p.2.1) : stepD k p st = (st, false) := by
  unfold stepD
  rcases h with h | ⟨l, h, hl⟩
  · rw [h]
  · rw [h]; simp only; rw [if_pos hl]
theorem nought_long {st : Sn} {r r' : List Int} {acc : List Int} (h : sentF st r = (sentF st r').map (acc ++ ·)) (hl : 1000 < acc.length) : Nought st r := by
  cases hs : sentF st r' with
  | none => rw [hs] at h; exact .inl h
  | some l => rw [hs] at h; exact .inr ⟨acc ++ l, h, by rw [List.length_append]; omega⟩

set_option maxHeartbeats 4000000 in
theorem rshortest_yes (G : Gr) (Ap Al As : Option Addr) (np cp nl cl ns cs : Nat) (m : Nat) (w : World) (B N T : Nat) (hB : B ≤ w.heap.size) (hG : GrIn w B G Ap Al As np cp nl cl ns cs) (hk : GOk G) (hN : G.names = N) (hT : G.terms = T) (hm : m < N) :
    Calls Try.prog 14 #[.agg #[.int .i64 G.terms, .int .i64 G.names, .int .i64 G.start, .slice Ap np cp, .slice Al nl cl, .slice As ns cs], .int .i64 m] w fun e w' => ShDPost G.prods N m e w' ∧ Below w.heap.size w w' := by
  obtain ⟨hb0, hs0, gb⟩ := gbox w G Ap Al As np cp nl cl ns cs
  obtain ⟨hp1, hp2⟩ := hG.p.len
  have hl3 := hG.lm; have hl4 := hG.sm
  have hn1 := hk.n0; have hn2 := hk.n1
  have hNN : N ≤ 300 := by omega
  rw [hN] at hb0 hs0 gb
  have hz := gb.c1
  rw [hN] at hz
  have HB0 := Lib.hid hb0; have HGB := Lib.hid gb; have HG := Lib.hid (hG.below (hb0.mono hB))
  have HK := Lib.hid hk
  have HN := Lib.hid hN
  have HT := Lib.hid hT
  unfold maxLen at hp2 hl3 hl4
  have hmN : ¬ (N : Int) ≤ m := by omega
  have dm : decide ((N : Int) ≤ m) = false := decide_eq_false hmN
  have HP1 := Lib.hid hp1
  clear gb hG hk hp1 hb0 hN hT
  have hmk : ∀ w : World, (Instr.makeSlice 40 (.int .i64 (N : Int)) (.int .i64 (N : Int))).run Try.prog w = .ok (.slice (some ⟨w.heap.size, 0, none⟩) N N) (w.alloc (.cells (zs (.slice none 0 0) N) 22)) := fun w =>
    mk_row elLs rfl .i64 .i64 N _ (by omega) (by omega) (by omega) w
  have hmk2 : ∀ w : World, (Instr.makeSlice 38 (.int .i64 (N : Int)) (.int .i64 (N : Int))).run Try.prog w = .ok (.slice (some ⟨w.heap.size, 0, none⟩) N N) (w.alloc (.cells (zs (.bool false) N) 4)) := fun w =>
    mk_row elBs rfl .i64 .i64 N _ (by omega) (by omega) (by omega) w
  have hGN : G.names = (N : Int) := HN.out
  go_enter Try.func14, Try.ntmps14
  go_wp2_with fail
  clear hGN hz
  obtain ⟨D, hD⟩ : ∃ D, D = w.heap.size + 1 := ⟨_, rfl⟩
  obtain ⟨H, hH⟩ : ∃ H, H = D + 1 := ⟨_, rfl⟩
  have hs3 : (((w.alloc (.cells #[.int .i64 G.terms, .int .i64 (N : Int), .int .i64 G.start, .slice Ap np cp, .slice Al nl cl, .slice As ns cs] 30)).alloc (.cells (zs (.slice none 0 0) N) 22)).alloc (.cells (zs (.bool false) N) 4)).heap.size = w.heap.size + 3 := by simp
  have hkD : Blk (((w.alloc (.cells #[.int .i64 G.terms, .int .i64 (N : Int), .int .i64 G.start, .slice Ap np cp, .slice Al nl cl, .slice As ns cs] 30)).alloc (.cells (zs (.slice none 0 0) N) 22)).alloc (.cells (zs (.bool false) N) 4)) (w.heap.size + 1) 22 (List.replicate N (.slice none 0 0)) := by
    have := Blk.made (w.alloc (.cells #[.int .i64 G.terms, .int .i64 (N : Int), .int .i64 G.start, .slice Ap np cp, .slice Al nl cl, .slice As ns cs] 30)) 22 (.slice none 0 0) N
    rw [hs0] at this; exact this.alloc _
  have hkH : Blk (((w.alloc (.cells #[.int .i64 G.terms, .int .i64 (N : Int), .int .i64 G.start, .slice Ap np cp, .slice Al nl cl, .slice As ns cs] 30)).alloc (.cells (zs (.slice none 0 0) N) 22)).alloc (.cells (zs (.bool false) N) 4)) (w.heap.size + 1 + 1) 4 (bv (List.replicate N false)) := by
    have := Blk.made ((w.alloc (.cells #[.int .i64 G.terms, .int .i64 (N : Int), .int .i64 G.start, .slice Ap np cp, .slice Al nl cl, .slice As ns cs] 30)).alloc (.cells (zs (.slice none 0 0) N) 22)) 4 (.bool false) N
    rw [show ((w.alloc (.cells #[.int .i64 G.terms, .int .i64 (N : Int), .int .i64 G.start, .slice Ap np cp, .slice Al nl cl, .slice As ns cs] 30)).alloc (.cells (zs (.slice none 0 0) N) 22)).heap.size = w.heap.size + 1 + 1 by simp] at this
    rw [← bv_rep]; exact this
  have hb3 : Below (w.heap.size + 1) (w.alloc (.cells #[.int .i64 G.terms, .int .i64 (N : Int), .int .i64 G.start, .slice Ap np cp, .slice Al nl cl, .slice As ns cs] 30)) (((w.alloc (.cells #[.int .i64 G.terms, .int .i64 (N : Int), .int .i64 G.start, .slice Ap np cp, .slice Al nl cl, .slice As ns cs] 30)).alloc (.cells (zs (.slice none 0 0) N) 22)).alloc (.cells (zs (.bool false) N) 4)) := ((Below.refl _ _).alloc (by simp) _).alloc (by simp) _
  rw [← hD] at hkD hkH hb3 ⊢
  rw [← hH] at hkH ⊢
  generalize ((w.alloc (.cells #[.int .i64 G.terms, .int .i64 (N : Int), .int .i64 G.start, .slice Ap np cp, .slice Al nl cl, .slice As ns cs] 30)).alloc (.cells (zs (.slice none 0 0) N) 22)).alloc (.cells (zs (.bool false) N) 4) = W3 at *
  have hst0 : SnSt W3 D H N (List.replicate N none) := ⟨by omega, List.length_replicate, by rw [List.map_replicate]; exact hkH, fun X b hb => by
      unfold sn at hb; rw [List.getD_eq_getElem?_getD, List.getElem?_replicate] at hb; split at hb <;> simp at hb,
    _, List.length_replicate, hkD, fun k hk _ => by rw [List.getElem?_replicate, if_pos hk], fun k l hb => by
      unfold sn at hb; rw [List.getD_eq_getElem?_getD, List.getElem?_replicate] at hb; split at hb <;> simp at hb⟩
  have hwD : w.heap.size < D := by omega
  have hBD : B ≤ D := by omega
  have hDH : D < H := by omega
  have hHs : H < W3.heap.size := by omega
  have HG3 := Lib.hid (HG.out.below (hb3.mono hBD))
  have HGB3 := Lib.hid (HGB.out.below hb3 hwD)
  have HW3 := Lib.hid (HB0.out.trans (hb3.mono (Nat.le_of_lt hwD)))
  have HST0 := Lib.hid hst0
  have hTp : ∀ p ∈ G.prods, ∀ s ∈ p.2.1, s < (T : Int) := fun p hp s hs => by have := ((HK.out.pr p hp).s s hs).2; have h2 := HT.out; omega
  have HTP := Lib.hid hTp
  have HFT := Lib.hid (fits_of HK.out HN.out)
  have kbel : ∀ wr : World, Kp (fun j => j = D ∨ j = H) W3 wr → Below D W3 wr := fun wr h => h.bel (by omega) (fun j hj e => by omega)
  have KB := Lib.hid kbel
  clear hst0 hkD hkH hb3 hs3 hs0 hD hH HG HGB HB0 hmk hmk2 hTp kbel
  go_loopg [8] (muS T (List.replicate N none) + 1) (fun gk ag wr => ∃ b : Bool, ∃ st' : Sn, ag = .bool b ∧ gk = (if b then muS T st' + 1 else 0) ∧ Kp (fun j => j = D ∨ j = H) W3 wr ∧ Hid (SnSt wr D H N st' ∧ QD G.prods N T st') ∧ Hid (b = false → (passF stepD 0 G.prods st').2 = false))
  case atStart =>
    refine ⟨true, _, rfl, rfl, Kp.refl _ _, ⟨HST0.out, HST0.out.len, fun X b hb => ?_, fun X b hb => ?_⟩, fun h => by cases h⟩
    all_goals (unfold sn at hb; rw [List.getD_eq_getElem?_getD, List.getElem?_replicate] at hb; split at hb <;> simp at hb)
  case round =>
    as_aux_lemma =>
      obtain ⟨b, st', rfl, hgk, hkr, HS, HF⟩ := hrel
      have HGK := Lib.hid hgk; clear hgk
      cases b
      · as_aux_lemma =>
          have hfx := pass_fixed (fun i p y => stepD_same i p y) G.prods 0 st' (HF.out rfl)
          have HFX : Hid (∀ k p, G.prods[k]? = some p → (stepD k p st').2 = false) := Lib.hid (fun k p hp => by have := hfx k p hp; rwa [Nat.zero_add] at this)
          have zh := HS.out.1.have_ hm
          obtain ⟨vs, v1, v2, v3, v4⟩ := HS.out.1.db
          have hfin := HW3.out.trans ((KB.out _ hkr).mono (Nat.le_of_lt hwD))
          have HFIN := Lib.hid hfin
          clear hfx hfin
          cases hsn : sn st' m with
          | none =>
            rw [hsn] at zh
            have zh' : wr.cell? ⟨H, m, none⟩ = some (.bool false) := zh
            have zd := v2.cell (v3 m hm hsn)
            have HSN := Lib.hid hsn
            clear v2 v3 v4 hsn zh
            go_wp2_with fail
            go_quiet (fail)
            go_wp2
            go_ret2
            exact ⟨⟨st', HS.out.2.h, HFX.out, .inl ⟨HSN.out, rfl⟩⟩, HFIN.out.trans ⟨rfl, rfl, rfl, Nat.le_refl _, fun _ _ => rfl⟩⟩
          | some l =>
            rw [hsn] at zh
            have zh' : wr.cell? ⟨H, m, none⟩ = some (.bool true) := zh
            obtain ⟨A, c, u1, u2, u3, u4⟩ := v4 m l hsn
            have zd := v2.cell u1
            have HSN := Lib.hid hsn; have U2 := Lib.hid u2; have U3 := Lib.hid u3; have U4 := Lib.hid u4
            clear v2 v3 v4 hsn zh u1 u2 u3 u4
            go_wp2_with fail
            go_quiet (fail)
            go_wp2
            go_ret2
            exact ⟨⟨st', HS.out.2.h, HFX.out, .inr ⟨l, A, c, HSN.out, rfl, U2.out, U3.out, fun hne => by
              obtain ⟨b, off, e, _, hb, hc⟩ := U4.out hne
              exact ⟨b, off, e, trivial, hb, hc⟩⟩⟩, HFIN.out.trans ⟨rfl, rfl, rfl, Nat.le_refl _, fun _ _ => rfl⟩⟩
      · as_aux_lemma =>
          go_wp2_with fail
          go_loopw [8, 9] (fun ag i wr => ∃ k : Nat, ∃ b : Bool, ∃ sk : Sn, k ≤ np ∧ i = .int .i64 k ∧ ag = .bool b ∧ Kp (fun j => j = D ∨ j = H) W3 wr ∧ Hid (SnSt wr D H N sk ∧ QD G.prods N T sk) ∧ Hid ((passF stepD 0 (G.prods.take k) st') = (sk, b))) (fun _ i _ => np - (intOf i).toNat)
          case atStart => exact ⟨0, false, st', Nat.zero_le _, rfl, rfl, hkr, HS, rfl⟩
          case round =>
            as_aux_lemma =>
              have HQST := Lib.hid HS.out.2
              clear hkr HS HF
              obtain ⟨k, b, sk, hk, rfl, rfl, hkr, HS, HP⟩ := hrel
              have gr3 := (HGB3.out.below (KB.out _ hkr) hwD).c3
              by_cases hlt : k < np
              · as_aux_lemma =>
                  obtain ⟨wo, rfl⟩ : ∃ wo : World, wo = wr := ⟨_, rfl⟩
                  obtain ⟨bb, off, rfl, hb, hc⟩ := (HG3.out.below ((KB.out _ hkr).mono hBD)).p.at_ (by omega)
                  obtain ⟨px, r, py, A', n', c', hq, z0, z1, z2, g1, g2, g3, g4⟩ := hc k hlt
                  have hok := HK.out.pr _ (mem_of_get hq)
                  have hfit := HFT.out _ (mem_of_get hq)
                  have hp0 := hok.l0; have hr20 := hok.r
                  simp only at hp0 hr20 hfit
                  obtain ⟨t, rfl⟩ := Int.eq_ofNat_of_zero_le hp0
                  rw [Int.toNat_natCast] at hfit
                  obtain ⟨ht, hfit2⟩ := hfit
                  have hps := passF_snoc stepD G.prods k ((t : Int), r, py) st' hq
                  rw [HP.out] at hps
                  simp only at hps
                  have hqn := (QD.step (k := k) HFT.out HTP.out HS.out.2 (mem_of_get hq)).1
                  have hHw : H < wo.heap.size := HS.out.1.hb.lt
                  have hBr : B ≤ wo.heap.size := by omega
                  have hr20' : n' ≤ 20 := by omega
                  have HPS := Lib.hid hps; have HQN := Lib.hid hqn; have HR := Lib.hid g1; have HRd := Lib.hid g4; have HF2 := Lib.hid hfit2
                  clear hps hqn hc hq g1 g4 hfit2 hok hr20
                  unfold maxLen at g3
                  have Z0 := Lib.hid z0; have Z1 := Lib.hid z1; have G3 := Lib.hid gr3
                  go_wp2_with fail
                  go_loopw [10, 11, 12] (fun v ok i wr => ∃ j : Nat, ∃ bk : Bool, j ≤ n' ∧ i = .int .i64 j ∧ ok = .bool bk ∧ Below wo.heap.size wo wr ∧ Hid ((bk = true ∧ ∃ acc : List Int, wr.ownsRow wo.heap.size 3 1 v acc.length (iv acc) ∧ acc.length ≤ 1000 ∧ sentF sk r = (sentF sk (r.drop j)).map (acc ++ ·)) ∨ (bk = false ∧ Nought sk r))) (fun _ _ i _ => n' - (intOf i).toNat)
                  case atStart => exact ⟨0, true, Nat.zero_le _, rfl, rfl, Below.refl _ _, .inl ⟨rfl, [], World.ownsRow_nil _ _ _ _, Nat.zero_le _, by simp⟩⟩
                  case round =>
                    as_aux_lemma =>
                      clear z0 z1 z2 gr3
                      obtain ⟨j, bk, hj, rfl, rfl, hbw, HE⟩ := hrel
                      have hbws := hbw.size
                      have gr3 := (hbw.cell (p := ⟨w.heap.size, 3, none⟩) (by simp; omega)).trans G3.out
                      have z0 := (hbw.cell (p := ⟨bb, off + k * 3, none⟩) (by simp; omega)).trans Z0.out
                      have z1 := (hbw.cell (p := ⟨bb, off + k * 3 + 1, none⟩) (by simp; omega)).trans Z1.out
                      have HS4 := Lib.hid (HS.out.1.below hbw)
                      have HK4 : Hid (Kp (fun j => j = D ∨ j = H) W3 wr) := Lib.hid (hkr.trans (Kp.of hbw))
                      have zh := HS4.out.have_ ht
                      by_cases hgo : j < n' ∧ bk = true
                      · as_aux_lemma =>
                          obtain ⟨hjn, rfl⟩ := hgo
                          obtain ⟨acc, hown, hacc, hsen⟩ : ∃ acc : List Int, _ := by rcases HE.out with h | h; exact h.2; exact absurd h.1 (by simp)
                          obtain ⟨hla, A9, c9, e9, _, hc9, _⟩ := own_RdF hown
                          subst e9
                          have HO := Lib.hid hown; have HSE := Lib.hid hsen
                          clear hown hsen HE zh hla
                          unfold maxLen at hc9
                          obtain ⟨b', off', rfl, hb', hc'⟩ := (HRd.out.below (hbw.mono hBr)).at_ (by rw [HR.out]; omega)
                          have zs1 := hc' j (by rw [HR.out]; omega)
                          have hd := drop_nth (l := r) (k := j) (by rw [HR.out]; omega)
                          have hmem := HF2.out _ (mem_nth (l := r) (k := j) (by rw [HR.out]; omega))
                          generalize nth r j = s at zs1 hd hmem
                          have HD := Lib.hid hd; clear hd hc'
                          by_cases hs : s < 0
                          · have d1 : decide (0 ≤ s) = false := decide_eq_false (by omega)
                            have ht2 := hmem hs
                            obtain ⟨t2, ht1⟩ : ∃ t2 : Nat, t2 = (-1 - s).toNat := ⟨_, rfl⟩
                            rw [← ht1] at ht2
                            have hts : -1 - s = (t2 : Int) := by omega
                            have zh2 := HS4.out.have_ ht2
                            obtain ⟨vs, v1, v2, v3, v4⟩ := HS4.out.db
                            cases hsn : sn sk t2 with
                            | none =>
                              rw [hsn] at zh2
                              have zh' : wr.cell? ⟨H, t2, none⟩ = some (.bool false) := zh2
                              have zd := v2.cell (v3 t2 ht2 hsn)
                              have HNO : Hid (Nought sk r) := Lib.hid (.inl (by
                                rw [HSE.out, HD.out]
                                simp only [sentF]
                                rw [if_pos hs, ← ht1, hsn]; rfl))
                              clear hsn ht1 hmem zh2 v2 v3 v4
                              go_wp2_with (at_builtin; refine wpList_app_rd elIs rfl (.tmp 72) (.tmp 77) rfl wo.heap.size _ acc.length 0 0 wr.heap.size none (iv acc) [] rfl HO.out rfl rfl (Rd.nil _ _ _) (fun u hu => by cases hu) (by omega) (by omega) hbws ?_; intro v1 w1 hown1 hg1 hat1; have HB1 := Lib.hid (hbw.grown hg1 hbw.size (fun k hk => own_base HO.out k hk)); clear hown1 hg1 hat1)
                              go_roundw
                              case rel => exact ⟨j + 1, false, by omega, by go_num, rfl, HB1.out, .inr ⟨rfl, HNO.out⟩⟩
                              case measure => simp [intOf]; omega
                            | some a =>
                              rw [hsn] at zh2
                              have zh' : wr.cell? ⟨H, t2, none⟩ = some (.bool true) := zh2
                              obtain ⟨Aa, ca, u1, u2, u3, u4⟩ := v4 t2 a hsn
                              have zd := v2.cell u1
                              have hal := HS4.out.short t2 a hsn
                              obtain ⟨acc', hac⟩ : ∃ acc', acc' = acc ++ a := ⟨_, rfl⟩
                              have HSF : Hid (sentF sk r = (sentF sk (r.drop (j + 1))).map (acc' ++ ·)) := Lib.hid (by
                                rw [HSE.out, HD.out, hac]
                                simp only [sentF]
                                rw [if_pos hs, ← ht1, hsn]
                                cases sentF sk (r.drop (j + 1)) <;> simp)
                              have HRA := Lib.hid u4.rdI
                              clear hsn ht1 hmem zh2 v2 v3 v4 u4 u1
                              unfold maxLen at u3
                              obtain ⟨na, hna⟩ : ∃ na, na = a.length := ⟨_, rfl⟩
                              rw [← hna] at hal u2 zd
                              obtain ⟨n1, hn1⟩ : ∃ n1, n1 = acc'.length := ⟨_, rfl⟩
                              have HNA := Lib.hid hna; have HAC := Lib.hid hac; have HN1 := Lib.hid hn1
                              clear hna hac hn1
                              by_cases hlong : (n1 : Int) ≤ 1000
                              · have d3 : decide ((n1 : Int) ≤ 1000) = true := decide_eq_true hlong
                                go_wp2_with (at_builtin; refine wpList_app_rd elIs rfl (.tmp 72) (.tmp 77) rfl wo.heap.size _ acc.length na ca wr.heap.size Aa (iv acc) (iv a) rfl HO.out rfl (by rw [iv_len, HNA.out]; omega) HRA.out (iv_one a) (by omega) (by omega) hbws ?_; intro v1 w1 hown1 hg1 hat1; have HB1 := Lib.hid (hbw.grown hg1 hbw.size (fun k hk => own_base HO.out k hk)); have O1 : Hid (w1.ownsRow wo.heap.size 3 1 v1 n1 (iv acc')) := Lib.hid (by rw [HN1.out, HAC.out, List.length_append, ← HNA.out, show iv (acc ++ a) = iv acc ++ iv a from List.map_append]; exact hown1); obtain ⟨_, A1, c1, e1, q1, q2, _⟩ := own_RdF O1.out; subst e1; clear hown1 hg1 hat1; unfold maxLen at q2)
                                go_roundw
                                case rel => exact ⟨j + 1, true, by omega, by go_num, rfl, HB1.out, .inl ⟨rfl, acc', by rw [← HN1.out]; exact O1.out, by rw [← HN1.out]; omega, HSF.out⟩⟩
                                case measure => simp [intOf]; omega
                              · have d3 : decide ((n1 : Int) ≤ 1000) = false := decide_eq_false hlong
                                go_wp2_with (at_builtin; refine wpList_app_rd elIs rfl (.tmp 72) (.tmp 77) rfl wo.heap.size _ acc.length na ca wr.heap.size Aa (iv acc) (iv a) rfl HO.out rfl (by rw [iv_len, HNA.out]; omega) HRA.out (iv_one a) (by omega) (by omega) hbws ?_; intro v1 w1 hown1 hg1 hat1; have HB1 := Lib.hid (hbw.grown hg1 hbw.size (fun k hk => own_base HO.out k hk)); have O1 : Hid (w1.ownsRow wo.heap.size 3 1 v1 n1 (iv acc')) := Lib.hid (by rw [HN1.out, HAC.out, List.length_append, ← HNA.out, show iv (acc ++ a) = iv acc ++ iv a from List.map_append]; exact hown1); obtain ⟨_, A1, c1, e1, q1, q2, _⟩ := own_RdF O1.out; subst e1; clear hown1 hg1 hat1; unfold maxLen at q2)
                                go_roundw
                                case rel => exact ⟨j + 1, false, by omega, by go_num, rfl, HB1.out, .inr ⟨rfl, nought_long HSF.out (by rw [← HN1.out]; omega)⟩⟩
                                case measure => simp [intOf]; omega
                          · have d1 : decide (0 ≤ s) = true := decide_eq_true (by omega)
                            obtain ⟨acc', hac⟩ : ∃ acc', acc' = acc ++ [s] := ⟨_, rfl⟩
                            have HSF : Hid (sentF sk r = (sentF sk (r.drop (j + 1))).map (acc' ++ ·)) := Lib.hid (by
                              rw [HSE.out, HD.out, hac]
                              simp only [sentF]
                              rw [if_neg hs]
                              cases sentF sk (r.drop (j + 1)) <;> simp)
                            clear hmem
                            obtain ⟨n1, hn1⟩ : ∃ n1, n1 = acc'.length := ⟨_, rfl⟩
                            have HAC := Lib.hid hac; have HN1 := Lib.hid hn1
                            clear hac hn1
                            by_cases hlong : (n1 : Int) ≤ 1000
                            · have d3 : decide ((n1 : Int) ≤ 1000) = true := decide_eq_true hlong
                              go_wp2_with (at_builtin; refine wpList_app elIs rfl (.tmp 63) (.tmp 65) rfl wo.heap.size _ acc.length 1 (iv acc) [.int .i64 s] rfl HO.out rfl rfl (by simp [Value.oneCell']) (by omega) (by omega) hbws ?_; intro v1 w1 hown1 hg1 hat1; have HB1 := Lib.hid (hbw.grown hg1 hbw.size (fun k hk => own_base HO.out k hk)); have O1 : Hid (w1.ownsRow wo.heap.size 3 1 v1 n1 (iv acc')) := Lib.hid (by rw [HN1.out, HAC.out, List.length_append, show iv (acc ++ [s]) = iv acc ++ iv [s] from List.map_append]; exact hown1); obtain ⟨_, A1, c1, e1, q1, q2, _⟩ := own_RdF O1.out; subst e1; clear hown1 hg1 hat1; unfold maxLen at q2)
                              go_roundw
                              case rel => exact ⟨j + 1, true, by omega, by go_num, rfl, HB1.out, .inl ⟨rfl, acc', by rw [← HN1.out]; exact O1.out, by rw [← HN1.out]; omega, HSF.out⟩⟩
                              case measure => simp [intOf]; omega
                            · have d3 : decide ((n1 : Int) ≤ 1000) = false := decide_eq_false hlong
                              go_wp2_with (at_builtin; refine wpList_app elIs rfl (.tmp 63) (.tmp 65) rfl wo.heap.size _ acc.length 1 (iv acc) [.int .i64 s] rfl HO.out rfl rfl (by simp [Value.oneCell']) (by omega) (by omega) hbws ?_; intro v1 w1 hown1 hg1 hat1; have HB1 := Lib.hid (hbw.grown hg1 hbw.size (fun k hk => own_base HO.out k hk)); have O1 : Hid (w1.ownsRow wo.heap.size 3 1 v1 n1 (iv acc')) := Lib.hid (by rw [HN1.out, HAC.out, List.length_append, show iv (acc ++ [s]) = iv acc ++ iv [s] from List.map_append]; exact hown1); obtain ⟨_, A1, c1, e1, q1, q2, _⟩ := own_RdF O1.out; subst e1; clear hown1 hg1 hat1; unfold maxLen at q2)
                              go_roundw
                              case rel => exact ⟨j + 1, false, by omega, by go_num, rfl, HB1.out, .inr ⟨rfl, nought_long HSF.out (by rw [← HN1.out]; omega)⟩⟩
                              case measure => simp [intOf]; omega
                      · as_aux_lemma =>
                          obtain ⟨vs, v1, v2, v3, v4⟩ := HS4.out.db
                          cases bk
                          · have hno : Nought sk r := by rcases HE.out with h | h; exact absurd h.1 (by simp); exact h.2
                            have HSTEP := Lib.hid (nought_step (k := k) (p := ((t : Int), r, py)) hno)
                            clear hno HE zh v2 v3 v4
                            have hcase : j < n' ∨ ¬ j < n' := by omega
                            clear hgo
                            rcases hcase with hjn | hjn
                            all_goals
                              go_wp2
                              go_roundw
                              case rel => exact ⟨k + 1, b, sk, by omega, by go_num, rfl, HK4.out, ⟨HS4.out, HS.out.2⟩, by show passF _ _ _ _ = _; rw [HPS.out, HSTEP.out]; simp⟩
                              case measure => simp [intOf]; omega
                          · have hjn : ¬ j < n' := fun e => hgo ⟨e, rfl⟩
                            obtain ⟨acc, hown, hacc, hsen⟩ : ∃ acc : List Int, _ := by rcases HE.out with h | h; exact h.2; exact absurd h.1 (by simp)
                            obtain ⟨hla, A2, c2, e9, l1, l2, l3⟩ := own_RdF hown
                            subst e9
                            have hsf : sentF sk r = some acc := by rw [hsen, List.drop_eq_nil_of_le (by rw [HR.out]; omega)]; simp [sentF]
                            have hstep : stepD k ((t : Int), r, py) sk = (match sn sk t with
                                | none => (sk.set t (some acc), true)
                                | some b => if earl acc b = true then (sk.set t (some acc), true) else (sk, false)) := by
                              unfold stepD; simp only [Int.toNat_natCast]; rw [hsf]; simp only; rw [if_neg (by omega)]; rfl
                            have hacc1 := hacc
                            obtain ⟨n2, hn2⟩ : ∃ n2, n2 = acc.length := ⟨_, rfl⟩
                            rw [← hn2] at hacc l1 ⊢
                            have HSTEP := Lib.hid hstep; have HL2 := Lib.hid l2; have HL3w := Lib.hid l3; have HN2 : Hid (n2 = acc.length) := Lib.hid hn2
                            have hL1 : acc.length ≤ c2 := by omega
                            have HL1 := Lib.hid hL1
                            clear hown hsen hsf hstep HE hgo hn2 hla l3 hL1
                            unfold maxLen at l2
                            cases hsn : sn sk t with
                            | none =>
                              rw [hsn] at zh HSTEP
                              have zh' : wr.cell? ⟨H, t, none⟩ = some (.bool false) := zh
                              simp only at HSTEP
                              have zD := v2.cell (v3 t ht hsn)
                              have zfD := v2.frozen t
                              have zfH := HS4.out.hb.frozen t
                              have HL3 := HL3w
                              clear hsn zh v2 v3 v4
                              go_wp2_with fail
                              have hK6 : Kp (fun j => j = D ∨ j = H) wr ((wr.setCell ⟨D, t, none⟩ (.slice A2 n2 c2)).setCell ⟨H, t, none⟩ (.bool true)) := ((Kp.refl _ _).set_ (p := ⟨D, t, none⟩) (.inr (.inl rfl)) _).set_ (p := ⟨H, t, none⟩) (.inr (.inr rfl)) _
                              have hS6 := SnSt.set_ (base := wo.heap.size) HS4.out ht (by omega) (by omega) hacc1 HL1.out HL2.out HL3.out hK6 (fun vs hv => by rw [HN2.out]; exact (hv.set_ t _).far (p := ⟨H, t, none⟩) (by simp; omega) _) (fun hs hv => (hv.far (p := ⟨D, t, none⟩) (by simp; omega) _).bset t true)
                              have hQ6 : QD G.prods N T (sk.set t (some acc)) := by have := HQN.out; rw [HSTEP.out] at this; exact this
                              have HK6 := Lib.hid hK6; have HS6 := Lib.hid hS6; have HQ6 := Lib.hid hQ6
                              clear hK6 hS6 hQ6
                              go_wp2_with fail
                              go_roundw
                              case rel => exact ⟨k + 1, true, sk.set t (some acc), by omega, by go_num, rfl, HK4.out.trans HK6.out, ⟨HS6.out, HQ6.out⟩, by show passF _ _ _ _ = _; rw [HPS.out, HSTEP.out]; simp⟩
                              case measure => simp [intOf]; omega
                            | some b0 =>
                              rw [hsn] at zh HSTEP
                              have zh' : wr.cell? ⟨H, t, none⟩ = some (.bool true) := zh
                              simp only at HSTEP
                              obtain ⟨A3, c3, u1, u2, u3, u4⟩ := v4 t b0 hsn
                              have zD0 := v2.cell u1
                              have hb0 := HS4.out.short t b0 hsn
                              have hear := earlier_any A2 A3 n2 c2 b0.length c3 acc b0 wr wr.heap.size wr.heap.size HL3w.out.rdI HN2.out.symm (by unfold maxLen; omega) u4.rdI rfl (by unfold maxLen; omega)
                              have HEAR := Lib.hid hear
                              have ZD0 := Lib.hid zD0
                              clear hsn zh v2 v3 v4 v1 u4 u1 hear zD0
                              unfold maxLen at u3
                              obtain ⟨n3, hn3⟩ : ∃ n, n = b0.length := ⟨_, rfl⟩
                              rw [← hn3] at ZD0 HEAR u2 hb0
                              clear hn3
                              have zD := ZD0.out
                              cases hlx : earl acc b0
                              · rw [hlx] at HEAR
                                rw [if_neg (by rw [hlx]; simp)] at HSTEP
                                clear hlx
                                go_wp2_with fail
                                refine HEAR.out.mono ?_
                                rintro e w5 ⟨rfl, hd⟩
                                have hb5 : Below wr.heap.size wr w5 := by obtain ⟨d, rfl⟩ := hd; exact ⟨rfl, rfl, rfl, Nat.le_refl _, fun _ _ => rfl⟩
                                have HB5 := Lib.hid hb5
                                clear hd hb5
                                go_wp2_with fail
                                go_roundw
                                case rel => exact ⟨k + 1, b, sk, by omega, by go_num, rfl, HK4.out.trans (Kp.of HB5.out), ⟨HS4.out.below HB5.out, HS.out.2⟩, by show passF _ _ _ _ = _; rw [HPS.out, HSTEP.out]; simp⟩
                                case measure => simp [intOf]; omega
                              · rw [hlx] at HEAR
                                rw [if_pos hlx] at HSTEP
                                clear hlx
                                go_wp2_with fail
                                refine HEAR.out.mono ?_
                                rintro e w5 ⟨rfl, hd⟩
                                have hb5 : Below wr.heap.size wr w5 := by obtain ⟨d, rfl⟩ := hd; exact ⟨rfl, rfl, rfl, Nat.le_refl _, fun _ _ => rfl⟩
                                have HS4' := HS4; have HK4' := HK4
                                clear HS4 HK4
                                have HS4 := Lib.hid (HS4'.out.below hb5); have HK4 : Hid (Kp (fun j => j = D ∨ j = H) W3 w5) := Lib.hid (HK4'.out.trans (Kp.of hb5))
                                have HL3 := Lib.hid (HL3w.out.keep (S := fun _ => False) (Kp.of hb5) (fun _ _ e => e))
                                obtain ⟨vs', v1, v2, v3, v4⟩ := HS4.out.db
                                have zD5 := v2.cell (i := t) (List.getElem?_eq_getElem (by rw [v1]; exact ht))
                                have zfD := v2.frozen t
                                have zfH := HS4.out.hb.frozen t
                                have zh5 := (hb5.cell (p := ⟨H, t, none⟩) (by simp; omega)).trans zh'
                                generalize vs'[t]'(by rw [v1]; exact ht) = vt at zD5
                                have hs5 := hb5.size
                                clear hd hb5 v2 v3 v4 v1 HS4' HK4' zh' zD
                                go_wp2_with fail
                                have hK6 : Kp (fun j => j = D ∨ j = H) w5 ((w5.setCell ⟨D, t, none⟩ (.slice A2 n2 c2)).setCell ⟨H, t, none⟩ (.bool true)) := ((Kp.refl _ _).set_ (p := ⟨D, t, none⟩) (.inr (.inl rfl)) _).set_ (p := ⟨H, t, none⟩) (.inr (.inr rfl)) _
                                have hS6 := SnSt.set_ (base := wo.heap.size) HS4.out ht (by omega) (by omega) hacc1 HL1.out HL2.out HL3.out hK6 (fun vs hv => by rw [HN2.out]; exact (hv.set_ t _).far (p := ⟨H, t, none⟩) (by simp; omega) _) (fun hs hv => (hv.far (p := ⟨D, t, none⟩) (by simp; omega) _).bset t true)
                                have hQ6 : QD G.prods N T (sk.set t (some acc)) := by have := HQN.out; rw [HSTEP.out] at this; exact this
                                have HK6 := Lib.hid hK6; have HS6 := Lib.hid hS6; have HQ6 := Lib.hid hQ6
                                clear hK6 hS6 hQ6
                                go_wp2_with fail
                                go_roundw
                                case rel => exact ⟨k + 1, true, sk.set t (some acc), by omega, by go_num, rfl, HK4.out.trans HK6.out, ⟨HS6.out, HQ6.out⟩, by show passF _ _ _ _ = _; rw [HPS.out, HSTEP.out]; simp⟩
                                case measure => simp [intOf]; omega
              · as_aux_lemma =>
                  have he : G.prods.take k = G.prods := List.take_of_length_le (by rw [HP1.out]; omega)
                  have hp := HP.out
                  rw [he] at hp
                  have hlow := (pass_lowers (step := stepD) (μ := muS T) (Q := QD G.prods N T) (fun i p y => stepD_same i p y) G.prods 0 st' (fun k p y hp hy => by rw [Nat.zero_add]; exact QD.step HFT.out HTP.out hy (mem_of_get hp)) HQST.out).2
                  have hsame := pass_same (fun i p y => stepD_same i p y) G.prods 0 st'
                  rw [hp] at hlow hsame
                  have HLOW := Lib.hid hlow; have HSAME := Lib.hid hsame; have HPP := Lib.hid hp
                  clear hlow hsame hp he HP
                  cases b
                  · go_wp2
                    go_roundg 0
                    case measure => rw [HGK.out]; simp
                    case rel => exact ⟨false, sk, rfl, rfl, hkr, HS, fun _ => by have e : sk = st' := HSAME.out (by simp); rw [← e] at HPP; rw [HPP.out]⟩
                  · go_wp2
                    go_roundg (muS T sk + 1)
                    case measure => rw [HGK.out]; have h : muS T sk < muS T st' := HLOW.out (by simp); simp; exact h
                    case rel => exact ⟨true, sk, rfl, rfl, hkr, HS, fun h => by cases h⟩
end Go.Proofs.Ytgfchgnebpogjaa
