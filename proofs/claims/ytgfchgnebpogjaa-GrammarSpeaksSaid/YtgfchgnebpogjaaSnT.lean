/- grammar.Shortest. -/
import Derived.Test.YtgfchgnebpogjaaGrV
import Derived.Test.YtgfchgnebpogjaaSnS
import Derived.Test.YtgfchgnebpogjaaSnW
import Derived.BigRegion
namespace Go.Proofs.Ytgfchgnebpogjaa
open Go.RowKit BigFrame
set_option linter.unusedVariables false
set_option linter.unusedSimpArgs false
set_option maxRecDepth 100000

theorem elLs : ElTy Try.prog 40 22 1 24 (.slice none 0 0) := ⟨Try.underlying40, by kernel_rfl, rfl, by decide⟩
theorem elBs : ElTy Try.prog 38 4 1 1 (.bool false) := ⟨Try.underlying38, by kernel_rfl, rfl, by decide⟩

theorem fits_of {G : Gr} (h : GOk G) {N : Nat} (hN : G.names = N) : Fits N G.prods := fun p hp => (prFit h hp hN).2
theorem rounds_LenB {ps : List Prd} {N : Nat} (hf : Fits N ps) (m : Nat) : (rounds stepS ps m (x0 N)).length = N ∧ LenB (rounds stepS ps m (x0 N)) :=
  rounds_keep (step := stepS) (ps := ps) (Q := fun x : List Int => x.length = N ∧ LenB x) (fun k p y hp hy => ⟨by rw [step_len]; exact hy.1, stepS_LenB hy.2 (by rw [hy.1]; exact (hf p (List.mem_of_getElem? hp)).1)⟩)
    ⟨by simp [x0], fun j => by
      unfold nth x0
      rw [List.getD_eq_getElem?_getD, List.getElem?_replicate]
      split <;> simp⟩ m

/-- What the loops at a length keep. -/
structure QN (ps : List Prd) (x : List Int) (N T : Nat) (s : Int) (st : Sn) : Prop where
  l : st.length = N
  h : HadN ps x st s
  g : Good ps x st (s - 1)
  d : DigS T st
theorem QN.step {ps : List Prd} {x : List Int} {N T : Nat} {s : Int} {st : Sn} (hx : IsShort ps x) (hf : Fits N ps) (hT : ∀ p ∈ ps, ∀ s ∈ p.2.1, s < (T : Int)) (hs : s ≤ 1000) (h : QN ps x N T s st) {k : Nat} {p : Prd} (hp : p ∈ ps) :
    QN ps x N T s (stepN x s k p st).1 ∧ ((stepN x s k p st).2 = true → muS T (stepN x s k p st).1 < muS T st) :=
  ⟨⟨by rw [stepN_len]; exact h.l, stepN_had hx hf h.l h.h hp (by omega), fun X hX h0 h1 => by
    obtain ⟨b, hb, hL⟩ := h.g X hX h0 h1
    exact ⟨b, by rw [stepN_keeps hf h.l hp X (by omega)]; exact hb, hL⟩, stepN_dig h.d (by rw [h.l]; exact (hf p hp).1) (hT p hp)⟩,
   fun hn => stepN_mu hx hf h.l h.h hp hs h.d (hT p hp) hn⟩

/-- What is had is set anew: memory. -/
theorem SnSt.set_ {w w1 : World} {D H N t : Nat} {st : Sn} {A : Option Addr} {c base : Nat} {l : List Int} (h : SnSt w D H N st) (ht : t < N) (hD : D < base) (hH : H < base) (hl : l.length ≤ 1000) (hlc : l.length ≤ c) (hc : c ≤ maxLen) (hA : RdF w (fun k => base ≤ k) A l) (hk : Kp (fun k => k = D ∨ k = H) w w1)
    (e1 : ∀ vs, Blk w D 22 vs → Blk w1 D 22 (vs.set t (.slice A l.length c))) (e2 : ∀ hs, Blk w H 4 (bv hs) → Blk w1 H 4 (bv (hs.set t true))) : SnSt w1 D H N (st.set t (some l)) := by
  obtain ⟨vs, h1, h2, h3, h4⟩ := h.db
  have htl : t < st.length := by rw [h.len]; exact ht
  refine ⟨h.ne, by rw [List.length_set]; exact h.len, ?_, ?_, vs.set t (.slice A l.length c), by rw [List.length_set]; exact h1, e1 vs h2, ?_, ?_⟩
  · have := e2 _ h.hb
    rw [List.map_set]; exact this
  · intro X b hb
    rw [sn_set htl] at hb
    split at hb
    · simp at hb; subst hb; exact hl
    · exact h.short X b hb
  · intro k hk hn
    rw [sn_set htl] at hn
    split at hn
    · cases hn
    · rename_i hne
      rw [List.getElem?_set_ne hne]; exact h3 k hk hn
  · intro k b hb
    rw [sn_set htl] at hb
    split at hb
    · rename_i hne
      simp at hb
      subst hb hne
      exact ⟨A, c, by rw [List.getElem?_set_self (by rw [h1]; exact ht)], hlc, hc, (hA.mono (F' := fun j => j ≠ D ∧ j ≠ H) (fun k hk => ⟨by omega, by omega⟩)).keep hk (fun k hk e => by rcases e with e | e; exact hk.1 e; exact hk.2 e)⟩
    · rename_i hne
      obtain ⟨A', c', q1, q2, q3, q4⟩ := h4 k b hb
      exact ⟨A', c', by rw [List.getElem?_set_ne hne]; exact q1, q2, q3, q4.keep hk (fun k hk e => by rcases e with e | e; exact hk.1 e; exact hk.2 e)⟩

theorem shortest_no (G : Gr) (Ap Al As : Option Addr) (np cp nl cl ns cs : Nat) (n : Int) (w : World) (B : Nat) (hB : B ≤ w.heap.size) (hG : GrIn w B G Ap Al As np cp nl cl ns cs) (hn : okB G = false ∨ n < 0 ∨ G.names ≤ n) :
    Calls Try.prog 13 #[.agg #[.int .i64 G.terms, .int .i64 G.names, .int .i64 G.start, .slice Ap np cp, .slice Al nl cl, .slice As ns cs], .int .i64 n] w fun e w' => e = .returned (.tuple #[.slice none 0 0, .bool false]) ∧ Below w.heap.size w w' := by
  obtain ⟨hb0, hs0, gb⟩ := gbox w G Ap Al As np cp nl cl ns cs
  obtain ⟨hp1, hp2⟩ := hG.p.len
  have hl3 := hG.lm; have hl4 := hG.sm
  have hcall := ok_any G Ap Al As np cp nl cl ns cs (w.alloc (.cells #[.int .i64 G.terms, .int .i64 G.names, .int .i64 G.start, .slice Ap np cp, .slice Al nl cl, .slice As ns cs] 30)) B (Nat.le_trans hB hb0.size) (hG.below (hb0.mono hB))
  rw [hs0] at hcall
  have HB0 := Lib.hid hb0; have HGB := Lib.hid gb
  unfold maxLen at hp2 hl3 hl4
  have hs1 : ∀ w1, Below (w.heap.size + 1) (w.alloc (.cells #[.int .i64 G.terms, .int .i64 G.names, .int .i64 G.start, .slice Ap np cp, .slice Al nl cl, .slice As ns cs] 30)) w1 → w1.cell? ⟨w.heap.size, 1, none⟩ = some (.int .i64 G.names) := fun w1 h => (gb.below h (Nat.lt_succ_self _)).c1
  have HS1 := Lib.hid hs1
  clear gb hG hp1 hb0 hs0 hs1
  cases hk : okB G
  · rw [hk] at hcall
    have HC := Lib.hid hcall; clear hcall hn hk
    go_enter Try.func13, Try.ntmps13
    go_wp2_with (go_at_call 18; refine HC.out.mono ?_; rintro e w' ⟨rfl, hb⟩)
    go_ret2
    exact ⟨rfl, HB0.out.trans (hb.mono (Nat.le_succ _))⟩
  · rw [hk] at hcall
    have HC := Lib.hid hcall; clear hcall
    by_cases h1 : n < 0
    · have d1 : decide (n < 0) = true := decide_eq_true h1
      clear hn hk
      go_enter Try.func13, Try.ntmps13
      go_wp2_with (go_at_call 18; refine HC.out.mono ?_; rintro e w' ⟨rfl, hb⟩)
      go_ret2
      exact ⟨rfl, HB0.out.trans (hb.mono (Nat.le_succ _))⟩
    · have d1 : decide (n < 0) = false := decide_eq_false h1
      have h2 : G.names ≤ n := by
        rcases hn with h | h | h
        · rw [hk] at h; cases h
        · exact absurd h h1
        · exact h
      have d2 : decide (G.names ≤ n) = true := decide_eq_true h2
      clear hn hk
      go_enter Try.func13, Try.ntmps13
      go_wp2_with fail
      refine HC.out.mono ?_
      rintro e w' ⟨rfl, hb⟩
      have z := HS1.out w' hb
      go_wp2
      go_ret2
      exact ⟨rfl, HB0.out.trans (hb.mono (Nat.le_succ _))⟩

/-- What Shortest hands back of a name. -/
def ShPost (ps : List Prd) (N : Nat) (m : Nat) (e : Ending) (w' : World) : Prop := ∃ x : List Int, IsShort ps x ∧ x.length = N ∧
  (((nth x m < 0 ∨ 1000 < nth x m) ∧ e = .returned (.tuple #[.slice none 0 0, .bool false])) ∨
   (0 ≤ nth x m ∧ nth x m ≤ 1000 ∧ ∃ (sp : Sn) (l : List Int) (A : Option Addr) (c : Nat), Good ps x sp (nth x m) ∧ sn sp m = some l ∧ e = .returned (.tuple #[.slice A l.length c, .bool true]) ∧ l.length ≤ c ∧ c ≤ maxLen ∧ RdF w' (fun _ => True) A l))

set_option maxHeartbeats 4000000 in
theorem shortest_yes (G : Gr) (Ap Al As : Option Addr) (np cp nl cl ns cs : Nat) (m : Nat) (w : World) (B N T : Nat) (hB : B ≤ w.heap.size) (hG : GrIn w B G Ap Al As np cp nl cl ns cs) (hk : GOk G) (hN : G.names = N) (hT : G.terms = T) (hm : m < N) :
    Calls Try.prog 13 #[.agg #[.int .i64 G.terms, .int .i64 G.names, .int .i64 G.start, .slice Ap np cp, .slice Al nl cl, .slice As ns cs], .int .i64 m] w fun e w' => ShPost G.prods N m e w' ∧ Below w.heap.size w w' := by
  obtain ⟨hb0, hs0, gb⟩ := gbox w G Ap Al As np cp nl cl ns cs
  obtain ⟨hp1, hp2⟩ := hG.p.len
  have hl3 := hG.lm; have hl4 := hG.sm
  have hcall := ok_any G Ap Al As np cp nl cl ns cs (w.alloc (.cells #[.int .i64 G.terms, .int .i64 G.names, .int .i64 G.start, .slice Ap np cp, .slice Al nl cl, .slice As ns cs] 30)) B (Nat.le_trans hB hb0.size) (hG.below (hb0.mono hB))
  rw [okB_t hk, hs0] at hcall
  have HC := Lib.hid hcall; have HB0 := Lib.hid hb0; have HGB := Lib.hid gb; have HG := Lib.hid (hG.below (hb0.mono hB))
  have hn1 := hk.n0; have hn2 := hk.n1
  have HK := Lib.hid hk
  have HN := Lib.hid hN
  have HT := Lib.hid hT
  have hNN : N ≤ 300 := by omega
  unfold maxLen at hp2 hl3 hl4
  have hmN : ¬ (N : Int) ≤ m := by omega
  have dm : decide ((N : Int) ≤ m) = false := decide_eq_false hmN
  have HP1 := Lib.hid hp1
  clear hcall gb hG hk hp1 hb0 hN hT
  have hmk : ∀ w : World, (Instr.makeSlice 40 (.int .i64 (N : Int)) (.int .i64 (N : Int))).run Try.prog w = .ok (.slice (some ⟨w.heap.size, 0, none⟩) N N) (w.alloc (.cells (zs (.slice none 0 0) N) 22)) := fun w =>
    mk_row elLs rfl .i64 .i64 N _ (by omega) (by omega) (by omega) w
  have hmk2 : ∀ w : World, (Instr.makeSlice 38 (.int .i64 (N : Int)) (.int .i64 (N : Int))).run Try.prog w = .ok (.slice (some ⟨w.heap.size, 0, none⟩) N N) (w.alloc (.cells (zs (.bool false) N) 4)) := fun w =>
    mk_row elBs rfl .i64 .i64 N _ (by omega) (by omega) (by omega) w
  go_enter Try.func13, Try.ntmps13
  go_wp2_with fail
  refine HC.out.mono ?_
  rintro e w1 ⟨rfl, hb1⟩
  have gb1 := HGB.out.below hb1 (Nat.lt_succ_self _)
  have z1 := gb1.c1
  rw [HN.out] at z1
  have g0 := gb1.c0; have g2 := gb1.c2; have g3 := gb1.c3; have g4 := gb1.c4; have g5 := gb1.c5
  have hGN : G.names = (N : Int) := HN.out
  have hs1 : w.heap.size < w1.heap.size := by have := hb1.size; omega
  have HG1 := Lib.hid (HG.out.below (hb1.mono (by omega)))
  have HGB1 := Lib.hid gb1
  have HW1 := Lib.hid (HB0.out.trans (hb1.mono (Nat.le_succ _)))
  have hcall := short_good G Ap Al As np cp nl cl ns cs w1 B N (by omega) HG1.out HK.out HN.out
  rw [HN.out] at hcall
  have HC2 := Lib.hid hcall
  clear hs0 hb1 gb1 HG HGB HB0 HC hcall
  go_wp2_with fail
  refine HC2.out.mono ?_
  rintro e w2 ⟨g, r, rfl, hg, hgb, hfix, hb2⟩
  clear hGN HC2 g0 g2 g3 g4 g5 z1
  have HFT := Lib.hid (fits_of HK.out HN.out)
  have hxs := isShort_of HFT.out hfix
  obtain ⟨hxl, hxb⟩ := rounds_LenB HFT.out r
  generalize rounds stepS G.prods r (x0 N) = x at *
  have zx := hgb.icell (k := m) (by rw [hxl]; exact hm)
  have hxm := hxb m
  have HXS := Lib.hid hxs; have HXL := Lib.hid hxl; have HXB := Lib.hid hxb; have HGX := Lib.hid hgb
  have HG2 := Lib.hid (HG1.out.below (hb2.mono (by omega)))
  have HGB2 := Lib.hid (HGB1.out.below hb2 hs1)
  have HW2 := Lib.hid (HW1.out.trans (hb2.mono (Nat.le_of_lt hs1)))
  have hs2 : w1.heap.size ≤ w2.heap.size := hb2.size
  have hgs2 := hgb.lt
  obtain ⟨q, hq⟩ : ∃ q, q = nth x m := ⟨_, rfl⟩
  rw [← hq] at zx hxm
  have HQ := Lib.hid hq
  obtain ⟨hq0, hq1⟩ := hxm
  clear hxs hxl hxb hgb hb2 HG1 HGB1 HW1 hfix hq
  by_cases h1 : q < 0
  · have d1 : decide (q < 0) = true := decide_eq_true h1
    clear hmk hmk2
    go_wp2
    go_ret2
    exact ⟨⟨x, HXS.out, HXL.out, .inl ⟨.inl (by rw [← HQ.out]; exact h1), rfl⟩⟩, HW2.out⟩
  have d1 : decide (q < 0) = false := decide_eq_false h1
  by_cases h2 : 1000 < q
  · have d2 : decide (1000 < q) = true := decide_eq_true h2
    clear hmk hmk2
    go_wp2
    go_ret2
    exact ⟨⟨x, HXS.out, HXL.out, .inl ⟨.inr (by rw [← HQ.out]; exact h2), rfl⟩⟩, HW2.out⟩
  have d2 : decide (1000 < q) = false := decide_eq_false h2
  have gz := HGB2.out.c1
  rw [HN.out] at gz
  have hsz2 : w.heap.size < w2.heap.size := by omega
  go_wp2_with fail
  obtain ⟨D, hD⟩ : ∃ D, D = w2.heap.size := ⟨_, rfl⟩
  obtain ⟨H, hH⟩ : ∃ H, H = D + 1 := ⟨_, rfl⟩
  have hs3 : ((w2.alloc (.cells (zs (.slice none 0 0) N) 22)).alloc (.cells (zs (.bool false) N) 4)).heap.size = w2.heap.size + 2 := by simp
  have hkD : Blk ((w2.alloc (.cells (zs (.slice none 0 0) N) 22)).alloc (.cells (zs (.bool false) N) 4)) w2.heap.size 22 (List.replicate N (.slice none 0 0)) := (Blk.made _ _ _ _).alloc _
  have hkH : Blk ((w2.alloc (.cells (zs (.slice none 0 0) N) 22)).alloc (.cells (zs (.bool false) N) 4)) (w2.heap.size + 1) 4 (bv (List.replicate N false)) := by
    have := Blk.made (w2.alloc (.cells (zs (.slice none 0 0) N) 22)) 4 (.bool false) N
    rw [show (w2.alloc (.cells (zs (.slice none 0 0) N) 22)).heap.size = w2.heap.size + 1 by simp] at this
    rw [← bv_rep]; exact this
  have hb3 : Below w2.heap.size w2 ((w2.alloc (.cells (zs (.slice none 0 0) N) 22)).alloc (.cells (zs (.bool false) N) 4)) := ((Below.refl _ _).alloc (Nat.le_refl _) _).alloc (by simp) _
  rw [← hD] at hkD hkH hb3 hs3 ⊢
  rw [← hH] at hkH ⊢
  generalize (w2.alloc (.cells (zs (.slice none 0 0) N) 22)).alloc (.cells (zs (.bool false) N) 4) = W3 at *
  have hst0 : SnSt W3 D H N (List.replicate N none) := ⟨by omega, List.length_replicate, by rw [List.map_replicate]; exact hkH, fun X b hb => by
      unfold sn at hb; rw [List.getD_eq_getElem?_getD, List.getElem?_replicate] at hb; split at hb <;> simp at hb,
    _, List.length_replicate, hkD, fun k hk _ => by rw [List.getElem?_replicate, if_pos hk], fun k l hb => by
      unfold sn at hb; rw [List.getD_eq_getElem?_getD, List.getElem?_replicate] at hb; split at hb <;> simp at hb⟩
  have hgD : g < D := by omega
  have hwD : w.heap.size < D := by omega
  have hBD : B ≤ D := by omega
  have hDH : D < H := by omega
  have hHs : H < W3.heap.size := by omega
  have HGX3 := Lib.hid (HGX.out.below hb3 hgD)
  have HG3 := Lib.hid (HG2.out.below (hb3.mono hBD))
  have HGB3 := Lib.hid (HGB2.out.below hb3 hwD)
  have HW3 := Lib.hid (HW2.out.trans (hb3.mono (Nat.le_of_lt hwD)))
  have HST0 := Lib.hid hst0
  have hTp : ∀ p ∈ G.prods, ∀ s ∈ p.2.1, s < (T : Int) := fun p hp s hs => by have := ((HK.out.pr p hp).s s hs).2; have h2 := HT.out; omega
  have HTP := Lib.hid hTp
  have kbel : ∀ wr : World, Kp (fun j => j = D ∨ j = H) W3 wr → Below D W3 wr := fun wr h => h.bel (by omega) (fun j hj e => by omega)
  have KB := Lib.hid kbel
  clear hst0 hkD hkH hb3 hs3 hs2 hs1 hsz2 hD hH HG2 HGB2 HW2 HGX gz zx hmk hmk2 hgs2 hg hTp kbel
  go_loopw [9] (fun i wr => ∃ s : Nat, (s : Int) ≤ q + 1 ∧ i = .int .i64 s ∧ Kp (fun j => j = D ∨ j = H) W3 wr ∧ ∃ st : Sn, Hid (SnSt wr D H N st ∧ QN G.prods x N T s st)) (fun i _ => q.toNat + 1 - (intOf i).toNat)
  case atStart =>
    refine ⟨0, by omega, rfl, Kp.refl _ _, _, HST0.out, HST0.out.len, fun X b hb => ?_, fun X hX h0 h1 => absurd h1 (by omega), fun X b hb => ?_⟩
    all_goals (unfold sn at hb; rw [List.getD_eq_getElem?_getD, List.getElem?_replicate] at hb; split at hb <;> simp at hb)
  case round =>
    as_aux_lemma =>
      obtain ⟨s, hs, rfl, hkr, st, HS⟩ := hrel
      have zx := (HGX3.out.below (KB.out _ hkr) hgD).icell (k := m) (by rw [HXL.out]; exact hm)
      rw [← HQ.out] at zx
      by_cases hsq : (s : Int) ≤ q
      · as_aux_lemma =>
          have ds : decide ((s : Int) ≤ q) = true := decide_eq_true hsq
          go_wp2_with fail
          go_loopg [10] (muS T st + 1) (fun gk ag wr => ∃ b : Bool, ∃ st' : Sn, ag = .bool b ∧ gk = (if b then muS T st' + 1 else 0) ∧ Kp (fun j => j = D ∨ j = H) W3 wr ∧ Hid (SnSt wr D H N st' ∧ QN G.prods x N T s st') ∧ Hid (b = false → (passF (stepN x s) 0 G.prods st').2 = false))
          case atStart => exact ⟨true, st, rfl, rfl, hkr, HS, fun h => by cases h⟩
          case round =>
            as_aux_lemma =>
              clear hkr HS zx
              obtain ⟨b, st', rfl, hgk, hkr, HS, HF⟩ := hrel
              have HGK := Lib.hid hgk; clear hgk
              cases b
              · as_aux_lemma =>
                  have hfx := pass_fixed (fun i p y => stepN_same (x := x) (size := (s : Int)) i p y) G.prods 0 st' (HF.out rfl)
                  have hgood := good_next HXS.out HFT.out HS.out.2.l HXL.out (by omega) (by omega) HS.out.2.g HS.out.2.h (fun k p hp => by have := hfx k p hp; rwa [Nat.zero_add] at this)
                  have HGD := Lib.hid hgood; clear hfx hgood
                  go_wp2
                  go_roundw
                  case rel =>
                    exact ⟨s + 1, by omega, by go_num, hkr, st', HS.out.1, HS.out.2.l, fun X b hb => by
                      have h := HS.out.2.h X b hb
                      exact ⟨h.1, h.2.1, by have := h.2.2; omega⟩, fun X hX h0 h1 => HGD.out X hX h0 (by omega), HS.out.2.d⟩
                  case measure => simp [intOf]; omega
              · as_aux_lemma =>
                  have gr3 := (HGB3.out.below (KB.out _ hkr) hwD).c3
                  go_wp2_with fail
                  go_loopw [10, 60] (fun ag i wr => ∃ k : Nat, ∃ b : Bool, ∃ sk : Sn, k ≤ np ∧ i = .int .i64 k ∧ ag = .bool b ∧ Kp (fun j => j = D ∨ j = H) W3 wr ∧ Hid (SnSt wr D H N sk ∧ QN G.prods x N T s sk) ∧ Hid ((passF (stepN x s) 0 (G.prods.take k) st') = (sk, b))) (fun _ i _ => np - (intOf i).toNat)
                  case atStart => exact ⟨0, false, st', Nat.zero_le _, rfl, rfl, hkr, HS, rfl⟩
                  case round =>
                    as_aux_lemma =>
                      have HQST := Lib.hid HS.out.2
                      clear hkr HS gr3 HF
                      obtain ⟨k, b, sk, hk, rfl, rfl, hkr, HS, HP⟩ := hrel
                      by_cases hlt : k < np
                      · as_aux_lemma =>
                          obtain ⟨bb, off, rfl, hb, hc⟩ := (HG3.out.below ((KB.out _ hkr).mono hBD)).p.at_ (by omega)
                          obtain ⟨px, r, py, A', n', c', hq, z0, z1, z2, g1, g2, g3, g4⟩ := hc k hlt
                          have hok := HK.out.pr _ (mem_of_get hq)
                          have hfit := HFT.out _ (mem_of_get hq)
                          have hp0 := hok.l0; have hr20 := hok.r
                          simp only at hp0 hr20 hfit
                          obtain ⟨t, rfl⟩ := Int.eq_ofNat_of_zero_le hp0
                          rw [Int.toNat_natCast] at hfit
                          obtain ⟨ht, hfit2⟩ := hfit
                          have hps := passF_snoc (stepN x s) G.prods k ((t : Int), r, py) st' hq
                          rw [HP.out] at hps
                          simp only at hps
                          have hstep : stepN x s k ((t : Int), r, py) sk = (if nth x t ≠ s ∨ lenF x 0 r ≠ s then (sk, false) else
                              match sentF sk r with
                              | none => (sk, false)
                              | some l => match sn sk t with
                                | none => (sk.set t (some l), true)
                                | some b => if lexlt l b = true then (sk.set t (some l), true) else (sk, false)) := by unfold stepN; simp only [Int.toNat_natCast]; rfl
                          have hqn := (QN.step (k := k) HXS.out HFT.out HTP.out (by omega) HS.out.2 (mem_of_get hq)).1
                          have hxg := HGX3.out.below (KB.out _ hkr) hgD
                          have zt := hxg.icell (k := t) (by rw [HXL.out]; exact ht)
                          have hgw : g < wr.heap.size := hxg.lt
                          have hDw : H < wr.heap.size := HS.out.1.hb.lt
                          have hx : Below wr.heap.size wr (wr.alloc (.cells #[.int .i64 t, .slice A' n' c', .int .i64 py] 50)) := (Below.refl _ _).alloc (Nat.le_refl _) _
                          have hxs : (wr.alloc (.cells #[.int .i64 t, .slice A' n' c', .int .i64 py] 50)).heap.size = wr.heap.size + 1 := by simp
                          have hBr : B ≤ wr.heap.size := by omega
                          have hlen := length_any A' (some ⟨g, 0, none⟩) n' c' N N r x (wr.alloc (.cells #[.int .i64 t, .slice A' n' c', .int .i64 py] 50)) wr.heap.size ((g4.below (hx.mono hBr)).more hBr) g1 (by omega) ((hxg.below hx hgw).rdI hgw) HXL.out (by unfold maxLen; omega) ⟨HXB.out, fun s h1 h2 => by rw [HXL.out]; exact hfit2 s h1 h2⟩
                          have hsb := HS.out.1.below hx
                          have hsent := sentence_any A' n' c' D H N r sk (wr.alloc (.cells #[.int .i64 t, .slice A' n' c', .int .i64 py] 50)) B (Nat.le_trans hBr hx.size) (g4.below (hx.mono hBr)) g1 (by omega) hNN hsb hfit2
                          rw [hxs] at hsent
                          have HPS := Lib.hid hps; have HSTEP := Lib.hid hstep; have HQN := Lib.hid hqn; have HLEN := Lib.hid hlen; have HSB := Lib.hid hsb; have HSENT := Lib.hid hsent; have HX := Lib.hid hx
                          have HKA : Hid (Kp (fun j => j = D ∨ j = H) W3 (wr.alloc (.cells #[.int .i64 t, .slice A' n' c', .int .i64 py] 50))) := Lib.hid (hkr.alloc _)
                          clear hps hstep hqn hlen hsb hsent hx hc hq g1 g4 hfit2 hxg hok
                          unfold maxLen at g3
                          obtain ⟨a, ha⟩ : ∃ a, a = nth x t := ⟨_, rfl⟩
                          obtain ⟨f, hf⟩ : ∃ f, f = lenF x 0 r := ⟨_, rfl⟩
                          rw [← ha] at zt HSTEP
                          rw [← hf] at HSTEP HLEN
                          have HFV := Lib.hid hf
                          clear ha hf
                          by_cases has : a = s
                          rotate_left
                          · have d1 : (a != (s : Int)) = true := by rw [bne_iff_ne]; exact has
                            have HE : Hid (stepN x s k ((t : Int), r, py) sk = (sk, false)) := Lib.hid (by rw [HSTEP.out, if_pos (.inl has)])
                            clear has HSTEP
                            go_wp2
                            go_roundw
                            case rel => exact ⟨k + 1, b, sk, by omega, by go_num, rfl, HKA.out, ⟨HSB.out, HS.out.2⟩, by show passF _ _ _ _ = _; rw [HPS.out, HE.out]; simp⟩
                            case measure => simp [intOf]; omega
                          have d1 : (a != (s : Int)) = false := by rw [bne_eq_false_iff_eq]; exact has
                          by_cases hfs : f = s
                          rotate_left
                          · have d2 : (f != (s : Int)) = true := by rw [bne_iff_ne]; exact hfs
                            have HE : Hid (stepN x s k ((t : Int), r, py) sk = (sk, false)) := Lib.hid (by rw [HSTEP.out, if_pos (.inr hfs)])
                            clear has hfs HSTEP
                            go_wp2_with (go_at_call 41; refine HLEN.out.mono ?_; rintro e w' ⟨rfl, rfl⟩)
                            go_roundw
                            case rel => exact ⟨k + 1, b, sk, by omega, by go_num, rfl, HKA.out, ⟨HSB.out, HS.out.2⟩, by show passF _ _ _ _ = _; rw [HPS.out, HE.out]; simp⟩
                            case measure => simp [intOf]; omega
                          have d2 : (f != (s : Int)) = false := by rw [bne_eq_false_iff_eq]; exact hfs
                          rw [if_neg (by omega)] at HSTEP
                          clear has
                          cases hsf : sentF sk r with
                          | none =>
                            clear hfs
                            rw [hsf] at HSTEP HSENT
                            clear hsf
                            go_wp2_with fail
                            refine HLEN.out.mono ?_
                            rintro e w' ⟨rfl, rfl⟩
                            go_wp2_with fail
                            refine HSENT.out.mono ?_
                            rintro e w4 ⟨he, hb4⟩
                            have he' : e = .returned (.tuple #[.slice none 0 0, .bool false]) := he
                            subst he'
                            clear he
                            have HB4 := Lib.hid hb4; clear hb4
                            go_wp2
                            go_roundw
                            case rel => exact ⟨k + 1, b, sk, by omega, by go_num, rfl, HKA.out.trans (Kp.of (by rw [hxs]; exact HB4.out)), ⟨HSB.out.below (by rw [hxs]; exact HB4.out), HS.out.2⟩, by show passF _ _ _ _ = _; rw [HPS.out, HSTEP.out]; simp⟩
                            case measure => simp [intOf]; omega
                          | some l =>
                            rw [hsf] at HSTEP HSENT
                            simp only at HSTEP
                            have hll : l.length ≤ 1000 := by
                              have hcat := sentF_cat (R := fun X a => (a.length : Int) = nth x X) (fun X a h => (HS.out.2.h X a h).2.1) r l hsf
                              have hsum := sum_of_cat r l hcat
                              have h0 : 0 ≤ lenF x 0 r := by rw [← HFV.out]; omega
                              have h1 := lenF_sum r 0 (by omega) (by omega) (lenF_pos h0)
                              have h2 := HFV.out
                              omega
                            clear hfs
                            clear hsf
                            go_wp2_with fail
                            refine HLEN.out.mono ?_
                            rintro e w' ⟨rfl, rfl⟩
                            go_wp2_with fail
                            refine HSENT.out.mono ?_
                            rintro e w4 ⟨he, hb4⟩
                            obtain ⟨A2, c2, he', l1, l2, l3⟩ := he
                            subst he'
                            have hk4 : Kp (fun j => j = D ∨ j = H) W3 w4 := HKA.out.trans (Kp.of (by rw [hxs]; exact hb4))
                            have hS4 := HSB.out.below (by rw [hxs]; exact hb4)
                            have zpx : w4.cell? ⟨wr.heap.size, 0, none⟩ = some (.int .i64 t) := (hb4.cell (p := ⟨wr.heap.size, 0, none⟩) (Nat.lt_succ_self _)).trans (by simp)
                            have zh := hS4.have_ ht
                            have HB4 := Lib.hid hb4; have HL3 := Lib.hid l3; have HK4 := Lib.hid hk4; have HS4 := Lib.hid hS4; have HL1 := Lib.hid l1; have HL2 := Lib.hid l2
                            clear hb4 l3 hk4 hS4 HLEN HSENT zt z0 z1 z2 l1
                            unfold maxLen at l2
                            obtain ⟨nl2, hnl2⟩ : ∃ n, n = l.length := ⟨_, rfl⟩
                            rw [← hnl2]
                            have HNL := Lib.hid hnl2
                            rw [← hnl2] at hll
                            clear hnl2
                            cases hsn : sn sk t with
                            | none =>
                              rw [hsn] at zh HSTEP
                              have zh' : w4.cell? ⟨H, t, none⟩ = some (.bool false) := zh
                              simp only at HSTEP
                              clear hsn zh
                              obtain ⟨vs, v1, v2, v3, v4⟩ := HS4.out.db
                              have zD := v2.cell (i := t) (List.getElem?_eq_getElem (by rw [v1]; exact ht))
                              have zfD := v2.frozen t
                              have zfH := HS4.out.hb.frozen t
                              generalize vs[t]'(by rw [v1]; exact ht) = vt at zD
                              clear v2 v3 v4 v1
                              go_wp2_with fail
                              go_region
                              have hK6 : Kp (fun j => j = D ∨ j = H) w4 (((w4.setCell ⟨D, t, none⟩ (.slice A2 nl2 c2)).setCell ⟨H, t, none⟩ (.bool true)).drew) := (((Kp.refl _ _).set_ (p := ⟨D, t, none⟩) (.inr (.inl rfl)) _).set_ (p := ⟨H, t, none⟩) (.inr (.inr rfl)) _).draw
                              have hS6 := SnSt.set_ (base := wr.heap.size + 1) HS4.out ht (by omega) (by omega) (by rw [← HNL.out]; exact hll) HL1.out HL2.out HL3.out hK6 (fun vs hv => by rw [← HNL.out]; exact ((hv.set_ t _).far (p := ⟨H, t, none⟩) (by simp; omega) _).drew) (fun hs hv => ((hv.far (p := ⟨D, t, none⟩) (by simp; omega) _).bset t true).drew)
                              have hQ6 : QN G.prods x N T s (sk.set t (some l)) := by have := HQN.out; rw [HSTEP.out] at this; exact this
                              have HK6 := Lib.hid hK6; have HS6 := Lib.hid hS6; have HQ6 := Lib.hid hQ6
                              clear hK6 hS6 hQ6
                              go_wp2_with fail
                              go_roundw
                              case rel => exact ⟨k + 1, true, sk.set t (some l), by omega, by go_num, rfl, HK4.out.trans HK6.out, ⟨HS6.out, HQ6.out⟩, by show passF _ _ _ _ = _; rw [HPS.out, HSTEP.out]; simp⟩
                              case measure => simp [intOf]; omega
                            | some b0 =>
                              rw [hsn] at zh HSTEP
                              have zh' : w4.cell? ⟨H, t, none⟩ = some (.bool true) := zh
                              simp only at HSTEP
                              obtain ⟨vs, v1, v2, v3, v4⟩ := HS4.out.db
                              obtain ⟨A3, c3, u1, u2, u3, u4⟩ := v4 t b0 hsn
                              have zD := v2.cell u1
                              have zfD := v2.frozen t
                              have zfH := HS4.out.hb.frozen t
                              have hb0 := HS4.out.short t b0 hsn
                              have hcmp := compare_any A2 A3 nl2 c2 b0.length c3 l b0 w4 w4.heap.size w4.heap.size HL3.out.rdI HNL.out.symm (by unfold maxLen; omega) u4.rdI rfl (by unfold maxLen; omega)
                              have hneg := cmpL_neg l b0
                              generalize cmpL l b0 = cv at hcmp hneg
                              have HCMP := Lib.hid hcmp
                              clear hsn zh v2 v3 v4 v1 u4 u1 hcmp
                              unfold maxLen at u3
                              obtain ⟨n3, hn3⟩ : ∃ n, n = b0.length := ⟨_, rfl⟩
                              rw [← hn3] at zD HCMP u2 hb0
                              clear hn3
                              by_cases hlx : lexlt l b0 = true
                              · have hcv := hneg.2 hlx
                                have d3 : decide (cv < 0) = true := decide_eq_true hcv
                                rw [if_pos hlx] at HSTEP
                                clear hlx hneg
                                go_wp2_with (go_at_call 43; refine HCMP.out.mono ?_; rintro e w' ⟨rfl, rfl⟩)
                                go_region
                                have hK6 : Kp (fun j => j = D ∨ j = H) w4 (((w4.setCell ⟨D, t, none⟩ (.slice A2 nl2 c2)).setCell ⟨H, t, none⟩ (.bool true)).drew) := (((Kp.refl _ _).set_ (p := ⟨D, t, none⟩) (.inr (.inl rfl)) _).set_ (p := ⟨H, t, none⟩) (.inr (.inr rfl)) _).draw
                                have hS6 := SnSt.set_ (base := wr.heap.size + 1) HS4.out ht (by omega) (by omega) (by rw [← HNL.out]; exact hll) HL1.out HL2.out HL3.out hK6 (fun vs hv => by rw [← HNL.out]; exact ((hv.set_ t _).far (p := ⟨H, t, none⟩) (by simp; omega) _).drew) (fun hs hv => ((hv.far (p := ⟨D, t, none⟩) (by simp; omega) _).bset t true).drew)
                                have hQ6 : QN G.prods x N T s (sk.set t (some l)) := by have := HQN.out; rw [HSTEP.out] at this; exact this
                                have HK6 := Lib.hid hK6; have HS6 := Lib.hid hS6; have HQ6 := Lib.hid hQ6
                                clear hK6 hS6 hQ6
                                go_wp2_with fail
                                go_roundw
                                case rel => exact ⟨k + 1, true, sk.set t (some l), by omega, by go_num, rfl, HK4.out.trans HK6.out, ⟨HS6.out, HQ6.out⟩, by show passF _ _ _ _ = _; rw [HPS.out, HSTEP.out]; simp⟩
                                case measure => simp [intOf]; omega
                              · have hcv : ¬ cv < 0 := fun h => hlx (hneg.1 h)
                                have d3 : decide (cv < 0) = false := decide_eq_false hcv
                                rw [if_neg hlx] at HSTEP
                                clear hlx hneg
                                go_wp2_with (go_at_call 43; refine HCMP.out.mono ?_; rintro e w' ⟨rfl, rfl⟩)
                                go_roundw
                                case rel => exact ⟨k + 1, b, sk, by omega, by go_num, rfl, HK4.out, ⟨HS4.out, HS.out.2⟩, by show passF _ _ _ _ = _; rw [HPS.out, HSTEP.out]; simp⟩
                                case measure => simp [intOf]; omega
                      · as_aux_lemma =>
                          have he : G.prods.take k = G.prods := List.take_of_length_le (by rw [HP1.out]; omega)
                          have hp := HP.out
                          rw [he] at hp
                          have hlow := (pass_lowers (step := stepN x s) (μ := muS T) (Q := QN G.prods x N T s) (fun i p y => stepN_same i p y) G.prods 0 st' (fun k p y hp hy => by rw [Nat.zero_add]; exact QN.step HXS.out HFT.out HTP.out (by omega) hy (mem_of_get hp)) HQST.out).2
                          have hsame := pass_same (fun i p y => stepN_same (x := x) (size := (s : Int)) i p y) G.prods 0 st'
                          rw [hp] at hlow hsame
                          have HLOW := Lib.hid hlow; have HSAME := Lib.hid hsame; have HPP := Lib.hid hp
                          clear hlow hsame hp he HP
                          cases b
                          · go_wp2
                            go_roundg 0
                            case measure => rw [HGK.out]; simp
                            case rel => exact ⟨false, sk, rfl, rfl, hkr, HS, fun _ => by have e : sk = st' := HSAME.out (by simp); rw [← e] at HPP; rw [HPP.out]⟩
                          · go_wp2
                            go_roundg (muS T sk + 1)
                            case measure => rw [HGK.out]; have h : muS T sk < muS T st' := HLOW.out (by simp); simp; exact h
                            case rel => exact ⟨true, sk, rfl, rfl, hkr, HS, fun h => by cases h⟩
      · as_aux_lemma =>
          have ds : decide ((s : Int) ≤ q) = false := decide_eq_false hsq
          have hsx : (s : Int) - 1 = nth x m := by rw [← HQ.out]; omega
          have hg := HS.out.2.g
          rw [hsx] at hg
          obtain ⟨l, hl, hL⟩ := hg m (by rw [HXL.out]; exact hm) (by rw [← HQ.out]; omega) (Int.le_refl _)
          obtain ⟨vs, v1, v2, v3, v4⟩ := HS.out.1.db
          obtain ⟨A, c, u1, u2, u3, u4⟩ := v4 m l hl
          have zd := v2.cell u1
          have HG9 := Lib.hid hg; have HL := Lib.hid hl; have U4 := Lib.hid u4; have U2 := Lib.hid u2; have U3 := Lib.hid u3
          clear hsx hg hl hL v2 v3 v4 u4 u1 u2 u3
          go_wp2
          go_ret2
          exact ⟨⟨x, HXS.out, HXL.out, .inr ⟨by rw [← HQ.out]; omega, by rw [← HQ.out]; omega, st, l, A, c, HG9.out, HL.out, rfl, U2.out, U3.out, U4.out.mono (fun _ _ => trivial)⟩⟩, HW3.out.trans ((KB.out _ hkr).mono (Nat.le_of_lt hwD))⟩
end Go.Proofs.Ytgfchgnebpogjaa
