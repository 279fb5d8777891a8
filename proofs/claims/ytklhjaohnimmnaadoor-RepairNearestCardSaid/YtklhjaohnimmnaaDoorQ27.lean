/- The nearest sentence: Mend. · Rows of truths: a list of slices of truths, each row in a block of its own. -/
import Derived.Test.YtklhjaohnimmnaaDoorQ19
import Derived.Test.YtklhjaohnimmnaaDoorQ6
import Derived.Test.YtklhjaohnimmnaaDoorQ21
import Derived.Test.YtklhjaohnimmnaaDoorQ23
import Derived.Test.YtklhjaohnimmnaaDoorQ24
import Derived.Test.YtklhjaohnimmnaaDoorQ26
import Derived.Test.YtklhjaohnimmnaaDoorQ16
import Derived.Test.YtklhjaohnimmnaaDoorQ2
import Derived.Test.YtklhjaohnimmnaaDoorQ12
namespace Go.Proofs.YtklhjaohnimmnaaDoor
open Go.RowKit BigFrame Go.Maps
set_option linter.unusedVariables false
set_option linter.unusedSimpArgs false
set_option maxRecDepth 100000

theorem ChM.keep0 {w w' : World} {bM N n lo : Nat} (h : ChM w bM N n lo (fun _ _ => none) (fun _ _ _ => none)) (e : w'.heap[bM]? = w.heap[bM]?) : ChM w' bM N n lo (fun _ _ => none) (fun _ _ _ => none) := by
  obtain ⟨D, hD, hD2⟩ := h.o
  exact ⟨⟨D, owns_of_block hD e, hD2⟩, (fun f t g _ _ h => by cases h), fun _ _ _ _ _ _ _ => rfl, (fun f t f' t' g _ _ _ _ h => by cases h), (fun f t g _ _ h => by cases h), h.lb⟩
theorem app_left {wd w8 : World} {m bM b4 N B sb q : Nat} {vs xs : List Value} {v : Value} (hne : m ≠ b4 ∧ bM ≠ b4) (hM : Blk wd m 48 vs) (hC : ChM wd bM N 0 B (fun _ _ => none) (fun _ _ _ => none)) (hg : wd.grownBy w8 (some b4)) (ho : w8.ownsRow sb 3 1 v q xs) :
    Blk w8 m 48 vs ∧ ChM w8 bM N 0 B (fun _ _ => none) (fun _ _ _ => none) ∧ w8.ownsRow sb 3 1 v q xs :=
  ⟨hM.grown hg (by simpa using hne.1), hC.keep0 (hg.block bM hC.lt (by simpa using hne.2)), ho⟩
/-- What leaving out all up to a place costs: for the places up to k. -/
def sumsL (L I : List Int) (k : Nat) : List Int := (List.range (k + 1)).map fun j => lvS (nthI L) (I.take j)
theorem sumsL_len (L I : List Int) (k : Nat) : (sumsL L I k).length = k + 1 := by simp [sumsL]
theorem sumsL_nth {L I : List Int} {k j : Nat} (h : j ≤ k) : nth (sumsL L I k) j = lvS (nthI L) (I.take j) := by
  rw [nth_get (by rw [sumsL_len]; omega)]
  simp [sumsL]
theorem sumsL_succ {L I : List Int} {k : Nat} (h : k < I.length) : sumsL L I (k + 1) = sumsL L I k ++ [lvS (nthI L) (I.take k) + nthI L (nth I k)] := by
  unfold sumsL
  rw [List.range_succ, List.map_append]
  congr 1
  simp only [List.map_cons, List.map_nil]
  rw [List.take_add_one, nth_some h, lvS_app]
  simp [lvS]
/-- What a mended sentence is. -/
structure MendG (w : World) (G : Gr) (P L I : List Int) (A : Option Addr) (n c : Nat) (cost : Int) : Prop where
  ok : GOk G
  p : (P.length : Int) = G.terms
  l : (L.length : Int) = G.terms
  pc : P.all costB = true
  lc : L.all costB = true
  i : ∀ x ∈ I, 0 ≤ x ∧ x < G.terms
  il : I.length ≤ 60
  b : n ≤ 1000 ∧ n ≤ c ∧ c ≤ maxLen
  m : ∃ l, l.length = n ∧ LsIn w A l ∧ Der G.prods G.start.toNat l ∧ cost = edit (nthI P) (nthI L) I l ∧ ∀ s, Der G.prods G.start.toNat s → s.length ≤ 1000 → cost ≤ edit (nthI P) (nthI L) I s ∧ (cost = edit (nthI P) (nthI L) I s → earl s l = false)
theorem MendG.drewN {w : World} {G : Gr} {P L I : List Int} {A : Option Addr} {n c : Nat} {cost : Int} (h : MendG w G P L I A n c cost) (q : Nat) : MendG (w.drewN q) G P L I A n c cost :=
  ⟨h.ok, h.p, h.l, h.pc, h.lc, h.i, h.il, h.b, h.m⟩
def MendR (w : World) (G : Gr) (P L I : List Int) (E : Nat → Addr) (e : Ending) (w' : World) : Prop :=
  Below w.heap.size w w' ∧ ((∃ i, i < 3 ∧ e = .returned (.tuple #[.slice none 0 0, .int .i64 0, ew (E i)])) ∨ ∃ A n c cost, e = .returned (.tuple #[.slice A n c, .int .i64 cost, .nilIface]) ∧ MendG w' G P L I A n c cost)

set_option maxHeartbeats 4000000 in
theorem mend_any (G : Gr) (Ap Al As : Option Addr) (np cp nl cl ns cs : Nat) (A1 A2 A3 : Option Addr) (n1 c1 n2 c2 n3 c3 : Nat) (P L I : List Int) (w : World) (B : Nat) (hB : B ≤ w.heap.size) (hG : GrIn w B G Ap Al As np cp nl cl ns cs) (E : Nat → Addr) (hE : ErW w B E)
    (h1 : RdI w B A1 P) (h2 : RdI w B A2 L) (h3 : RdI w B A3 I) (l1 : P.length = n1) (l2 : L.length = n2) (l3 : I.length = n3) (m1 : n1 ≤ maxLen) (m2 : n2 ≤ maxLen) (m3 : n3 ≤ c3) (m4 : c3 ≤ maxLen) :
    Calls Tryd.prog 6 #[.agg #[.int .i64 G.terms, .int .i64 G.names, .int .i64 G.start, .slice Ap np cp, .slice Al nl cl, .slice As ns cs], .agg #[.slice A1 n1 c1, .slice A2 n2 c2], .slice A3 n3 c3] w (MendR w G P L I E) := by
  obtain ⟨hb0, hs0, gb⟩ := gbox w G Ap Al As np cp nl cl ns cs
  obtain ⟨wg, hwg⟩ : ∃ wg, wg = w.alloc (.cells #[.int .i64 G.terms, .int .i64 G.names, .int .i64 G.start, .slice Ap np cp, .slice Al nl cl, .slice As ns cs] 25) := ⟨_, rfl⟩
  rw [← hwg] at hb0 hs0 gb
  obtain ⟨w0, hw0⟩ : ∃ w0, w0 = wg.alloc (.cells #[.slice A1 n1 c1, .slice A2 n2 c2] 27) := ⟨_, rfl⟩
  have hb1 : Below wg.heap.size wg w0 := by rw [hw0]; exact (Below.refl _ _).alloc (Nat.le_refl _) _
  have hb2 : Below w.heap.size w w0 := hb0.trans (hb1.mono (by omega))
  have hcb : Blk w0 (w.heap.size + 1) 27 [.slice A1 n1 c1, .slice A2 n2 c2] := by rw [hw0, ← hs0]; exact Blk.new wg 27 [.slice A1 n1 c1, .slice A2 n2 c2]
  have hgb := gb.below hb1 (by omega)
  have hG0 := hG.below (hb2.mono hB)
  have hs2 := hb2.size
  have HOK := Lib.hid (ok_any G Ap Al As np cp nl cl ns cs w0 B (by omega) hG0)
  obtain ⟨g0, g1, g2, g3, g4, g5⟩ := id hgb
  have k0 := hcb.cell (i := 0) rfl
  have k1 := hcb.cell (i := 1) rfl
  have HGB := Lib.hid hgb; have HCB := Lib.hid hcb; have HG0 := Lib.hid hG0; have HB2 := Lib.hid hb2
  have HE0 := Lib.hid (hE.below (hb2.mono hB))
  have HP := Lib.hid (h1.below (hb2.mono hB)); have HL := Lib.hid (h2.below (hb2.mono hB)); have HI := Lib.hid (h3.below (hb2.mono hB))
  have HL1 := Lib.hid l1; have HL2 := Lib.hid l2; have HL3 := Lib.hid l3
  clear hG hE h1 h2 h3 l1 l2 l3 hG0 hgb hcb gb hb0 hb1 hb2
  have hm1 := m1; have hm2 := m2
  unfold maxLen at m1 m2 m4
  have hsz0 : w.heap.size + 2 = w0.heap.size := by rw [hw0]; simp [hs0]
  have HSZ0 := Lib.hid hsz0
  clear hsz0
  go_enter Tryd.func6, Tryd.ntmps6
  go_wp2_with fail
  rw [← hwg, ← hw0]
  clear hw0 hwg
  refine HOK.out.mono ?_
  rintro e w1 ⟨rfl, hb1⟩
  have hlt1 : w.heap.size < w0.heap.size := by have := HSZ0.out; omega
  have hlt2 : w.heap.size + 1 < w0.heap.size := by have := HSZ0.out; omega
  have HSZ1 : Hid (w.heap.size + 2 ≤ w1.heap.size) := Lib.hid (by have h1 := hb1.size; have h2 := HSZ0.out; omega)
  have HGB1 := Lib.hid (HGB.out.below hb1 hlt1)
  have HCB1 := Lib.hid (HCB.out.below hb1 hlt2)
  have HE1 := Lib.hid (HE0.out.below (hb1.mono (by omega)))
  have HP1 := Lib.hid (HP.out.below (hb1.mono (by omega)))
  have HLv1 := Lib.hid (HL.out.below (hb1.mono (by omega)))
  have HI1 := Lib.hid (HI.out.below (hb1.mono (by omega)))
  have HG1 := Lib.hid (HG0.out.below (hb1.mono (by omega)))
  have HB1 := Lib.hid (HB2.out.trans (hb1.mono hs2))
  clear g0 g1 g2 g3 g4 g5 k0 k1 hb1 HE0 HP HL HI HG0 HGB HCB HB2 HOK
  obtain ⟨g0, g1, g2, g3, g4, g5⟩ := id HGB1.out
  have k0 := HCB1.out.cell (i := 0) rfl
  have k1 := HCB1.out.cell (i := 1) rfl
  have z0 := HE1.out.g 0 (by omega)
  have z1 := HE1.out.g 1 (by omega)
  have z2 := HE1.out.g 2 (by omega)
  unfold evar at z0 z1 z2
  simp only at z0 z1 z2
  by_cases hok : GOk G
  rotate_left
  · as_aux_lemma =>
      rw [okB_f hok]
      go_wp2_with fail
      go_quiet (fail)
      go_wp2_with fail
      go_ret3
      exact ⟨HB1.out.trans (bel_dnM _ _ _), .inl ⟨0, by omega, rfl⟩⟩
  rw [okB_t hok]
  by_cases e1 : (n1 : Int) = G.terms
  rotate_left
  · as_aux_lemma =>
      have d1 : ((n1 : Int) != G.terms) = true := by simpa using e1
      go_wp2_with fail
      go_quiet (fail)
      go_wp2_with fail
      go_ret3
      exact ⟨HB1.out.trans (bel_dnM _ _ _), .inl ⟨0, by omega, rfl⟩⟩
  have d1 : ((n1 : Int) != G.terms) = false := by simpa using e1
  by_cases e2 : (n2 : Int) = G.terms
  rotate_left
  · as_aux_lemma =>
      have d2 : ((n2 : Int) != G.terms) = true := by simpa using e2
      clear e1
      go_wp2_with fail
      go_quiet (fail)
      go_wp2_with fail
      go_ret3
      exact ⟨HB1.out.trans (bel_dnM _ _ _), .inl ⟨0, by omega, rfl⟩⟩
  have d2 : ((n2 : Int) != G.terms) = false := by simpa using e2
  have H1 := Lib.hid e1; have H2 := Lib.hid e2
  have HC1 := Lib.hid (costs_any A1 n1 c1 P G.terms w1 B HP1.out HL1.out hm1)
  have HC2 := Lib.hid (costs_any A2 n2 c2 L G.terms w1 B HLv1.out HL2.out hm2)
  clear e1 e2
  have hd1 : (decide (G.terms ≤ (n1 : Int)) && P.all costB) = P.all costB := by rw [decide_eq_true (by have := H1.out; omega), Bool.true_and]
  have hd2 : (decide (G.terms ≤ (n2 : Int)) && L.all costB) = L.all costB := by rw [decide_eq_true (by have := H2.out; omega), Bool.true_and]
  rw [hd1] at HC1
  rw [hd2] at HC2
  clear hd1 hd2
  go_wp2_with fail
  refine HC1.out.mono ?_
  rintro e w2 ⟨rfl, rfl⟩
  by_cases a1 : P.all costB = true
  rotate_left
  · as_aux_lemma =>
      have a1' : P.all costB = false := by simpa using a1
      rw [a1']
      clear a1 a1' HC1 HC2
      go_wp2_with fail
      go_quiet (fail)
      go_wp2_with fail
      go_ret3
      exact ⟨HB1.out.trans (bel_dnM _ _ _), .inl ⟨0, by omega, rfl⟩⟩
  rw [a1]
  have HA1 := Lib.hid a1
  clear a1 HC1
  go_wp2_with fail
  refine HC2.out.mono ?_
  rintro e w2 ⟨rfl, rfl⟩
  by_cases a2 : L.all costB = true
  rotate_left
  · as_aux_lemma =>
      have a2' : L.all costB = false := by simpa using a2
      rw [a2']
      clear a2 a2' HC2
      go_wp2_with fail
      go_quiet (fail)
      go_wp2_with fail
      go_ret3
      exact ⟨HB1.out.trans (bel_dnM _ _ _), .inl ⟨0, by omega, rfl⟩⟩
  rw [a2]
  have HA2 := Lib.hid a2
  clear a2 HC2
  have HOKG := Lib.hid hok
  have ht0 := hok.t0; have ht1 := hok.t1
  obtain ⟨nt, hnt⟩ := Int.eq_ofNat_of_zero_le ht0
  clear hok
  rw [hnt] at g0 H1 H2 d1 d2 ht0 ht1 ⊢
  have HNT := Lib.hid hnt
  clear hnt
  go_wp2_with fail
  go_loop [55] (fun i => ∃ k : Nat, k ≤ n3 ∧ i = .int .i64 (k : Int) ∧ Hid ((I.take k).all (insB (nt : Int)) = true)) (fun i => n3 - (intOf i).toNat)
  case atStart => exact ⟨0, Nat.zero_le _, rfl, rfl⟩
  case round =>
    obtain ⟨k, hk, rfl, HK⟩ := hrel
    by_cases hlt : k < n3
    · as_aux_lemma =>
        obtain ⟨b3, o3, rfl, hbb, hc⟩ := HI1.out.at_ (by rw [HL3.out]; omega)
        have y := hc k (by rw [HL3.out]; exact hlt)
        obtain ⟨x, hx⟩ : ∃ x, x = nth I k := ⟨_, rfl⟩
        rw [← hx] at y
        have HX := Lib.hid hx
        clear hc hx
        by_cases q1 : x < 0
        · as_aux_lemma =>
            have e1 : decide (x < 0) = true := decide_eq_true q1
            go_wp2_with fail
            go_quiet (fail)
            go_wp2_with fail
            go_ret3
            exact ⟨HB1.out.trans (bel_dnM _ _ _), .inl ⟨0, by omega, rfl⟩⟩
        have e1 : decide (x < 0) = false := decide_eq_false q1
        by_cases q2 : (nt : Int) ≤ x
        · as_aux_lemma =>
            have e2 : decide ((nt : Int) ≤ x) = true := decide_eq_true q2
            clear q1
            go_wp2_with fail
            go_quiet (fail)
            go_wp2_with fail
            go_ret3
            exact ⟨HB1.out.trans (bel_dnM _ _ _), .inl ⟨0, by omega, rfl⟩⟩
        have e2 : decide ((nt : Int) ≤ x) = false := decide_eq_false q2
        have HK2 : Hid ((I.take (k + 1)).all (insB (nt : Int)) = true) := Lib.hid (all_take (by rw [HL3.out]; exact hlt) HK.out (by rw [← HX.out]; exact insB_iff.2 ⟨by omega, by omega⟩))
        clear q1 q2
        go_wp2_with fail
        go_round
        case rel => exact ⟨k + 1, by omega, by go_num, HK2⟩
        case measure => simp [intOf]; omega
    have HIN : Hid (I.all (insB (nt : Int)) = true) := Lib.hid (all_end HL3.out hlt HK.out)
    clear HK
    by_cases h60 : n3 ≤ 60
    rotate_left
    · as_aux_lemma =>
        have e1 : decide ((60 : Int) < (n3 : Int)) = true := decide_eq_true (by omega)
        go_wp2_with fail
        go_quiet (fail)
        go_wp2_with fail
        go_ret3
        exact ⟨HB1.out.trans (bel_dnM _ _ _), .inl ⟨1, by omega, rfl⟩⟩
    have e60 : decide ((60 : Int) < (n3 : Int)) = false := decide_eq_false (by omega)
    go_wp2_with fail
    obtain ⟨wd, hwd⟩ : ∃ wd, wd = w1.drew := ⟨_, rfl⟩
    have hbd : Below w1.heap.size w1 wd := by rw [hwd]; exact (Below.refl _ _).drew
    have hs1 := HSZ1.out
    have hzd : wd.heap.size = w1.heap.size := by rw [hwd]; rfl
    refine wp_region_S (fun w' => ∃ X : WB wd.heap.size wd, w' = X.val) (by kernel_rfl) ?_
    rw [← hwd]
    clear hwd
    obtain ⟨N, hN⟩ := Int.eq_ofNat_of_zero_le (show 0 ≤ G.names by have := HOKG.out.n0; omega)
    obtain ⟨st, hst⟩ := Int.eq_ofNat_of_zero_le HOKG.out.s0
    have hst2 : st < N := by have := HOKG.out.s1; omega
    have hN3 : N ≤ 300 := by have := HOKG.out.n1; omega
    have HGBd := Lib.hid (HGB1.out.below hbd (by omega))
    have HCBd := Lib.hid (HCB1.out.below hbd (by omega))
    have HBd := Lib.hid (HB1.out.trans (hbd.mono (by omega)))
    obtain ⟨q0, q1, q2, q3, q4, q5⟩ := id HGBd.out
    have wb : ∀ (Y : WB wd.heap.size wd) (q : Addr), q.block < wd.heap.size → Y.val.cell? q = wd.cell? q := fun Y q h1 => Y.bel.cell (p := q) h1
    have hlg : w.heap.size < wd.heap.size := by omega
    have k10 : ∀ Y : WB wd.heap.size wd, Y.val.cell? ⟨w.heap.size, 0, none⟩ = some (.int .i64 G.terms) := fun Y => (wb Y ⟨w.heap.size, 0, none⟩ hlg).trans q0
    have k11 : ∀ Y : WB wd.heap.size wd, Y.val.cell? ⟨w.heap.size, 1, none⟩ = some (.int .i64 G.names) := fun Y => (wb Y ⟨w.heap.size, 1, none⟩ hlg).trans q1
    have k12 : ∀ Y : WB wd.heap.size wd, Y.val.cell? ⟨w.heap.size, 2, none⟩ = some (.int .i64 (st : Int)) := fun Y => (wb Y ⟨w.heap.size, 2, none⟩ hlg).trans (by rw [← hst]; exact q2)
    have k13 : ∀ Y : WB wd.heap.size wd, Y.val.cell? ⟨w.heap.size, 3, none⟩ = some (.slice Ap np cp) := fun Y => (wb Y ⟨w.heap.size, 3, none⟩ hlg).trans q3
    have k14 : ∀ Y : WB wd.heap.size wd, Y.val.cell? ⟨w.heap.size, 4, none⟩ = some (.slice Al nl cl) := fun Y => (wb Y ⟨w.heap.size, 4, none⟩ hlg).trans q4
    have k15 : ∀ Y : WB wd.heap.size wd, Y.val.cell? ⟨w.heap.size, 5, none⟩ = some (.slice As ns cs) := fun Y => (wb Y ⟨w.heap.size, 5, none⟩ hlg).trans q5
    have hlv := LivesT_good G Ap Al As np cp nl cl ns cs wd B N (by omega) (HG1.out.below (hbd.mono (by omega))) HOKG.out hN
    rw [hst] at hlv
    have HLV := Lib.hid hlv
    clear hlv
    have HNN := Lib.hid hN; have HST := Lib.hid hst; have HBD := Lib.hid hbd; have HZD := Lib.hid hzd
    clear wb hbd q0 q1 q2 q3 q4 q5 hN hst g0 g1 g2 g3 g4 g5 k0 k1 z0 z1 z2 hzd
    show wpAnyS _ _ _ _ _ (6 + 1) _ _ _
    refine takeS 6 0 1 (by kernel_rfl) (by kernel_rfl) (fun _ _ d _ _ h => by cases d <;> exact h) ⟨⟨_, Below.refl _ _⟩, rfl⟩ ?_
    simp only [List.take_succ_cons, List.take_zero, List.drop_succ_cons, List.drop_zero]
    repeat (first | go_big_quiet_skip | (go_big_quiet_want; go_big_quiet_op; go_big_quiet_on))
    refine wpQuiet_nil ?_
    show wpAnyS _ _ _ _ _ (4 + 2) _ _ _
    refine takeS 4 2 2 (by kernel_rfl) (by kernel_rfl) (fun _ _ d _ _ h => by cases d <;> exact h) ⟨⟨_, Below.refl _ _⟩, rfl⟩ ?_
    simp only [List.take_succ_cons, List.take_zero, List.drop_succ_cons, List.drop_zero]
    repeat (first | go_big_quiet_skip | (go_big_quiet_want; go_big_quiet_op; go_big_quiet_on))
    refine wpQuiet_nil ?_
    clear k10 k11 k12 k13 k14 k15
    refine oneS 3 1 (by kernel_rfl) (by decide) ?_
    simp only [List.take_succ_cons, List.take_zero, List.drop_succ_cons, List.drop_zero]
    go_wp2_with fail
    refine HLV.out.mono ?_
    rintro e w2 ⟨lg, rfl, hlg2, hlb, hb2⟩
    have hll : st < (rounds (stepG livS) G.prods N (b0 N)).length := by rw [growT_len]; exact hst2
    have HLB := Lib.hid hlb
    have y := hlb.bcell hll
    have hlt2 := hlb.lt
    have HB2 := Lib.hid hb2
    clear hlb hll hb2
    obtain ⟨bs, hbs⟩ : ∃ bs, bs = bth (rounds (stepG livS) G.prods N (b0 N)) st := ⟨_, rfl⟩
    rw [← hbs] at y
    have HBS := Lib.hid hbs
    clear hbs
    go_wp2_with fail
    refine ⟨⟨WB.mk _ HB2.out, rfl⟩, ?_⟩
    refine oneS 2 4 (by kernel_rfl) (by decide) ?_
    simp only [List.take_succ_cons, List.take_zero, List.drop_succ_cons, List.drop_zero]
    go_wp2_with fail
    refine ⟨⟨WB.mk _ HB2.out, rfl⟩, ?_⟩
    refine oneS 1 5 (by kernel_rfl) (by decide) ?_
    simp only [List.take_succ_cons, List.take_zero, List.drop_succ_cons, List.drop_zero]
    go_wp2_with fail
    refine ⟨⟨WB.mk _ HB2.out, rfl⟩, ?_⟩
    refine oneS 0 6 (by kernel_rfl) (by decide) ?_
    simp only [List.take_succ_cons, List.take_zero, List.drop_succ_cons, List.drop_zero]
    go_wp2_with fail
    refine ⟨⟨WB.mk _ HB2.out, rfl⟩, ?_⟩
    refine endS (by kernel_rfl) ?_
    have hB2 := HB2.out.size
    have HBW2 := Lib.hid (HBd.out.trans (HB2.out.mono (by omega)))
    have HGB2 := Lib.hid (HGBd.out.below HB2.out hlg)
    have HCB2 := Lib.hid (HCBd.out.below HB2.out (by have h1 := HZD.out; have h2 := HSZ1.out; omega))
    have HB12 : Hid (Below w1.heap.size w1 w2) := Lib.hid (HBD.out.trans (HB2.out.mono (by have := HZD.out; omega)))
    have HE2 := Lib.hid (HE1.out.below (HB12.out.mono (by omega)))
    clear HB2 HBd HGBd HCBd HBD HLV y hlg2 hlt2
    cases bs
    · as_aux_lemma =>
        have z2 := HE2.out.g 2 (by omega)
        unfold evar at z2
        simp only at z2
        go_wp2_with fail
        go_quiet (fail)
        go_wp2_with fail
        go_ret3
        exact ⟨HBW2.out.trans (bel_dnM _ _ _), .inl ⟨2, by omega, rfl⟩⟩
    rw [Bool.not_true]
    have HDER : Hid (∃ l, Der G.prods st l) := Lib.hid (by
      refine live_der (N := N) (fun p hp => ?_) HBS.out.symm
      have := prFitg HOKG.out hp HNN.out
      exact ⟨this.2.1, this.2.2⟩)
    clear HBS HLB
    obtain ⟨g0, g1, g2, g3, g4, g5⟩ := id HGB2.out
    have k0 := HCB2.out.cell (i := 0) rfl
    have k1 := HCB2.out.cell (i := 1) rfl
    have hmkm : ∀ w : World, (Instr.makeMap 46 none).run Tryd.prog w = .ok (.map (some w.heap.size)) (w.alloc (.map #[] 0)) := fun w => run_makeMap _ w
    go_wp2_with fail
    clear hmkm
    obtain ⟨sb, hsb⟩ : ∃ sb, w2.heap.size = sb := ⟨_, rfl⟩
    obtain ⟨bM, hbM⟩ : ∃ bM, sb + 1 = bM := ⟨_, rfl⟩
    obtain ⟨m, hm⟩ : ∃ m, bM + 1 = m := ⟨_, rfl⟩
    obtain ⟨wa, hwa⟩ : ∃ wa, wa = w2.alloc (.cells #[.int .i64 0] 3) := ⟨_, rfl⟩
    have hza : wa.heap.size = bM := by rw [hwa]; simp; omega
    have hba : Below w2.heap.size w2 wa := by rw [hwa]; exact (Below.refl _ _).alloc (Nat.le_refl _) _
    have hoa : wa.ownsRow sb 3 1 (.slice (some ⟨sb, 0, none⟩) 1 1) 1 (iv (sumsL L I 0)) := by
      refine ⟨rfl, .inr ⟨sb, 1, _, rfl, Nat.le_refl _, by rw [hwa, ← hsb]; exact heap_alloc_new w2 _, Nat.le_refl _, by unfold maxLen; omega, rfl, ?_⟩⟩
      simp [sumsL, lvS, iv]
    rw [hsb, ← hwa, hbM, hm]
    obtain ⟨we, hwe⟩ : ∃ we, we = wa.alloc (.map #[] 0) := ⟨_, rfl⟩
    have hbe : Below wa.heap.size wa we := by rw [hwe]; exact (Below.refl _ _).alloc (Nat.le_refl _) _
    have hze : we.heap.size = m := by rw [hwe]; simp; omega
    have hCe : ChM we bM N 0 sb (fun _ _ => none) (fun _ _ _ => none) := by rw [hwe, ← hza]; exact ChM.made wa N (by omega)
    rw [← hwe]
    obtain ⟨w3, hw3⟩ : ∃ w3, w3 = we.alloc (.cells #[.int .i64 G.terms, .int .i64 G.names, .int .i64 G.start, .slice Ap np cp, .slice Al nl cl, .slice As ns cs, .slice A1 n1 c1, .slice A2 n2 c2, .slice A3 n3 c3, .slice (some ⟨sb, 0, none⟩) 1 1, .map (some bM)] 48) := ⟨_, rfl⟩
    have hbf : Below we.heap.size we w3 := by rw [hw3]; exact (Below.refl _ _).alloc (Nat.le_refl _) _
    have hmb : Blk w3 m 48 [.int .i64 G.terms, .int .i64 G.names, .int .i64 G.start, .slice Ap np cp, .slice Al nl cl, .slice As ns cs, .slice A1 n1 c1, .slice A2 n2 c2, .slice A3 n3 c3, .slice (some ⟨sb, 0, none⟩) 1 1, .map (some bM)] := by rw [hw3, ← hze]; exact Blk.new we 48 [.int .i64 G.terms, .int .i64 G.names, .int .i64 G.start, .slice Ap np cp, .slice Al nl cl, .slice As ns cs, .slice A1 n1 c1, .slice A2 n2 c2, .slice A3 n3 c3, .slice (some ⟨sb, 0, none⟩) 1 1, .map (some bM)]
    have hb3 : Below w2.heap.size w2 w3 := hba.trans ((hbe.mono (by omega)).trans (hbf.mono (by omega)))
    rw [← hw3]
    have HO3 := Lib.hid (own_ext (own_ext hoa hbe) hbf)
    have HC3 := Lib.hid (hCe.below hbf)
    have HM3 := Lib.hid hmb
    have HB23 := Lib.hid hb3
    have HSB : Hid (w2.heap.size = sb ∧ sb + 1 = bM ∧ bM + 1 = m ∧ B ≤ sb) := Lib.hid ⟨hsb, hbM, hm, by have h1 := HSZ1.out; have h2 := HB12.out.size; omega⟩
    have hlm : m ≠ bM := by omega
    clear hw3 hwe hwa hoa hCe hmb hb3 hba hbe hbf hza hze hsb hbM hm g0 g1 g2 g3 g4 g5 k0 k1
    go_loopw [90] (fun i wr => ∃ (k : Nat) (A4 : Option Addr) (c4 : Nat), k ≤ n3 ∧ i = .int .i64 (k : Int) ∧ Hid (Blk wr m 48 [.int .i64 G.terms, .int .i64 G.names, .int .i64 G.start, .slice Ap np cp, .slice Al nl cl, .slice As ns cs, .slice A1 n1 c1, .slice A2 n2 c2, .slice A3 n3 c3, .slice A4 (k + 1) c4, .map (some bM)]) ∧ Hid (wr.ownsRow sb 3 1 (.slice A4 (k + 1) c4) (k + 1) (iv (sumsL L I k))) ∧ Hid (ChM wr bM N 0 sb (fun _ _ => none) (fun _ _ _ => none)) ∧ Hid (Below w2.heap.size w2 wr)) (fun i _ => n3 - (intOf i).toNat)
    case atStart => exact ⟨0, _, _, Nat.zero_le _, rfl, HM3, HO3, HC3, HB23⟩
    case round =>
      clear HM3 HO3 HC3 HB23
      obtain ⟨k, A4, c4, hk, rfl, HMr, HOr, HCr, HBr⟩ := hrel
      by_cases hlt : k < n3
      · as_aux_lemma =>
          have HCBr := Lib.hid (HCB2.out.below' HBr.out)
          have z9 := HMr.out.cell (i := 9) rfl
          have k1 := HCBr.out.cell (i := 1) rfl
          have hbk1 : Below B w1 wr := (HB12.out.mono (by have := HSZ1.out; omega)).trans (HBr.out.mono (by have := HSB.out; omega))
          have hsz := HBr.out.size
          obtain ⟨b3, o3, rfl, hbb, hc⟩ := (HI1.out.below hbk1).at_ (by rw [HL3.out]; omega)
          have y3 := hc k (by rw [HL3.out]; exact hlt)
          obtain ⟨x, hx⟩ : ∃ x, x = nth I k := ⟨_, rfl⟩
          have hxin := insB_iff.1 (List.all_eq_true.1 HIN.out x (by rw [hx, nth_get (by rw [HL3.out]; exact hlt)]; exact List.getElem_mem _))
          rw [← hx] at y3
          obtain ⟨xn, rfl⟩ := Int.eq_ofNat_of_zero_le hxin.1
          have hxn : xn < n2 := by have := H2.out; omega
          obtain ⟨b2, o2, rfl, hbb2, hc2⟩ := (HLv1.out.below hbk1).at_ (by rw [HL2.out]; omega)
          have y2 := hc2 xn (by rw [HL2.out]; exact hxn)
          have hlx : nth L xn = nthI L (xn : Int) := by unfold nthI; simp
          rw [hlx] at y2
          obtain ⟨b4, o4, rfl, hbb4, hc4⟩ := (LsIn.of_own HOr.out).rd.at_ (by rw [sumsL_len]; omega)
          have y4 := hc4 k (by rw [sumsL_len]; omega)
          rw [sumsL_nth (Nat.le_refl _)] at y4
          have hcost : ∀ t, 0 ≤ nthI L t ∧ nthI L t ≤ 1000 := costs_nth HA2.out
          have hv := lvS_bound hcost (I.take k)
          rw [List.length_take, Nat.min_eq_left (by rw [HL3.out]; omega)] at hv
          have hv2 := hcost (xn : Int)
          have HSS : Hid (sumsL L I (k + 1) = sumsL L I k ++ [lvS (nthI L) (I.take k) + nthI L (xn : Int)]) := Lib.hid (by rw [sumsL_succ (by rw [HL3.out]; exact hlt), hx])
          generalize lvS (nthI L) (I.take k) = lv at *
          generalize nthI L (xn : Int) = lx at *
          obtain ⟨wd, hwd⟩ : ∃ wd, wd = wr.drew := ⟨_, rfl⟩
          have hbd : Below wr.heap.size wr wd := by rw [hwd]; exact (Below.refl _ _).drew
          have hlm3 := HMr.out.lt
          have hbm4 : m ≠ b4 := by
            rintro rfl
            rcases HOr.out.2 with ⟨e, _⟩ | ⟨g, cap, cur, e, _, hg, _⟩
            · cases e
            · simp only [Value.slice.injEq, Option.some.injEq, Addr.mk.injEq] at e
              obtain ⟨⟨rfl, _⟩, _⟩ := e
              have := HMr.out
              unfold Blk at this
              rw [this] at hg
              simp at hg
          have hbM4 : bM ≠ b4 := by
            rintro rfl
            obtain ⟨_, ⟨es, clock, hmp, _⟩, _⟩ := HCr.out.o
            rcases HOr.out.2 with ⟨e, _⟩ | ⟨g, cap, cur, e, _, hg, _⟩
            · cases e
            · simp only [Value.slice.injEq, Option.some.injEq, Addr.mk.injEq] at e
              obtain ⟨⟨rfl, _⟩, _⟩ := e
              rw [hmp] at hg
              cases hg
          have HNE := Lib.hid (show m ≠ b4 ∧ bM ≠ b4 from ⟨hbm4, hbM4⟩)
          have HOd := Lib.hid (own_ext HOr.out hbd)
          have HMd := Lib.hid (HMr.out.below' hbd)
          have HCd := Lib.hid (HCr.out.below hbd)
          have HBdd := Lib.hid (HBr.out.trans (hbd.mono hsz))
          have hcbd := HCBr.out.below' hbd
          have hwz := hbd.size
          have wb : ∀ (Y : WB wd.heap.size wd) (q : Addr), q.block < wd.heap.size → Y.val.cell? q = wd.cell? q := fun Y q h1 => Y.bel.cell (p := q) h1
          have j1 : ∀ Y : WB wd.heap.size wd, Y.val.cell? ⟨w.heap.size + 1, 1, none⟩ = some (.slice (some ⟨b2, o2, none⟩) n2 c2) := fun Y => (wb Y _ hcbd.lt).trans (hcbd.cell (i := 1) rfl)
          have j2 : ∀ Y : WB wd.heap.size wd, Y.val.cell? ⟨b2, o2 + xn, none⟩ = some (.int .i64 lx) := fun Y => (wb Y ⟨b2, o2 + xn, none⟩ (by have := HSB.out; show b2 < _; omega)).trans ((hbd.cell (p := ⟨b2, o2 + xn, none⟩) (by have := HSB.out; show b2 < _; omega)).trans y2)
          have j4 : ∀ Y : WB wd.heap.size wd, Y.val.cell? ⟨b4, o4 + k, none⟩ = some (.int .i64 lv) := fun Y => (wb Y ⟨b4, o4 + k, none⟩ (by show b4 < _; omega)).trans ((hbd.cell (p := ⟨b4, o4 + k, none⟩) hbb4).trans y4)
          have j9 : ∀ Y : WB wd.heap.size wd, Y.val.cell? ⟨m, 9, none⟩ = some (.slice (some ⟨b4, o4, none⟩) (k + 1) c4) := fun Y => (wb Y ⟨m, 9, none⟩ HMd.out.lt).trans (HMd.out.cell (i := 9) rfl)
          have HBd2 : Hid (sb ≤ wd.heap.size) := Lib.hid (by have h1 := HBdd.out.size; have h2 := HSB.out; omega)
          have HWD := Lib.hid hwd
          clear hc hc2 hc4 hx hlx hcost hxin hbk1 hbd hcbd y2 y4 z9 k1 HOr HMr HCr HBr HCBr wb hwz hbm4 hbM4 hsz
          go_wp2_with fail
          clear y3
          refine wp_region_keep (fun w' => ∃ X : WB wd.heap.size wd, w' = X.val) 1 18 (by kernel_rfl) (by kernel_rfl) (by kernel_rfl) (by kernel_rfl) (fun _ _ d _ _ h => by cases d <;> exact h) ⟨⟨_, Below.refl _ _⟩, hwd.symm⟩ ?_
          rw [← hwd]
          clear hwd
          simp only [List.take_succ_cons, List.take_zero, List.drop_succ_cons, List.drop_zero]
          repeat (first | go_big_quiet_skip | (go_big_quiet_want; go_big_quiet_op; go_big_quiet_on))
          refine wpQuiet_nil ?_
          clear j1 j2 j4 j9
          go_wp2_with fail
          refine And.intro ⟨WB.mk _ ((Below.refl _ _).alloc (Nat.le_refl _) _), rfl⟩ ?_
          go_wp2_with (at_builtin; refine wpList_app elI rfl (.tmp 99) (.tmp 113) rfl sb (.slice (some ⟨b4, o4, none⟩) (k + 1) c4) (k + 1) 1 (iv (sumsL L I k)) [.int .i64 (lv + lx)] rfl HOd.out rfl rfl (by simp [Value.oneCell']) (by omega) (by omega) HBd2.out ?_; intro v8 w8 hown8 hg8 hat8; obtain ⟨A8, c8, rfl, -, -, -⟩ := own_form hown8; have HP := Lib.hid (app_left HNE.out HMd.out HCd.out hg8 hown8); have z9 := HP.out.1.cell (i := 9) rfl; have f9 := HP.out.1.frozen 9; have HG8 := Lib.hid (show wd.grownBy w8 (some b4) from hg8); clear hown8 hg8 hat8)
          have HM9 := Lib.hid (HP.out.1.set_ 9 (.slice A8 (k + 1 + 1) c8))
          have hom : ∀ b, (Value.slice A8 (k + 1 + 1) c8).ownBlock = some b → b ≠ m := fun b e => by
            rintro rfl
            rcases HP.out.2.2.2 with ⟨e2, _⟩ | ⟨g, cap, cur, e2, _, hg, _⟩
            · simp only [Value.slice.injEq] at e2
              omega
            · rw [e2] at e
              simp only [Value.ownBlock, Option.some.injEq] at e
              subst e
              have := HP.out.1
              unfold Blk at this
              rw [this] at hg
              simp at hg
          have HO9 := Lib.hid (ownsRow_setCell_other (a := ⟨m, 9, none⟩) HP.out.2.2 (fun e => hom m e rfl) (.slice A8 (k + 1 + 1) c8))
          have HC9 : Hid (ChM (w8.setCell ⟨m, 9, none⟩ (.slice A8 (k + 1 + 1) c8)) bM N 0 sb (fun _ _ => none) (fun _ _ _ => none)) := Lib.hid (HP.out.2.1.keep0 (Below.heap_setCell _ _ _ _ (by show bM ≠ m; omega)))
          have HB9 : Hid (Below w2.heap.size w2 (w8.setCell ⟨m, 9, none⟩ (.slice A8 (k + 1 + 1) c8))) := Lib.hid (((HBdd.out.grown HG8.out HBdd.out.size (fun b e => by simp only [Option.some.injEq] at e; have h1 := (HOd.out.lt b4 rfl).1; have h2 := HSB.out; omega))).setCell (p := ⟨m, 9, none⟩) (by have := HSB.out; show _ ≤ m; omega) _)
          have hiv : iv (sumsL L I k) ++ [Value.int .i64 (lv + lx)] = iv (sumsL L I (k + 1)) := by rw [HSS.out]; unfold iv; rw [List.map_append]; rfl
          rw [hiv] at HO9
          clear hiv hom
          go_wp2_with fail
          go_roundw
          case rel => exact ⟨k + 1, A8, c8, by omega, by go_num, HM9, HO9, HC9, HB9⟩
          case measure => simp [intOf]; omega
      have hke : k = n3 := by omega
      subst hke
      obtain ⟨D, hD⟩ : ∃ D : Md, D = ⟨P, L, I, sumsL L I k⟩ := ⟨_, rfl⟩
      have hbk1 : Below B w1 wr := (HB12.out.mono (by have := HSZ1.out; omega)).trans (HBr.out.mono (by have := HSB.out; omega))
      have hBsb : B ≤ sb := HSB.out.2.2.2
      have hMD : MdIn wr sb m G Ap Al As np cp nl cl ns cs D A1 A2 A3 A4 n1 c1 n2 c2 k c3 (k + 1) c4 bM := by
        subst hD
        refine ⟨HMr.out, (HP1.out.below hbk1).more hBsb, (HLv1.out.below hbk1).more hBsb, (HI1.out.below hbk1).more hBsb, LsIn.of_own HOr.out, HL1.out, HL2.out, HL3.out, sumsL_len _ _ _, by have := H1.out; omega, by have := H2.out; omega, by omega, rfl, m3, by unfold maxLen; omega, fun x hx => costB_iff.1 (List.all_eq_true.1 HA1.out x hx), fun x hx => costB_iff.1 (List.all_eq_true.1 HA2.out x hx), fun x hx => ?_, fun j hj => sumsL_nth hj⟩
        have h1 := insB_iff.1 (List.all_eq_true.1 HIN.out x hx)
        have h2 := H2.out
        omega
      have HMD := Lib.hid hMD
      have HGW := Lib.hid ((HG1.out.below (HB12.out.mono (by have := HSZ1.out; omega))).more hBsb)
      have HBW : Hid (Below sb w2 wr) := Lib.hid (HBr.out.mono (by have := HSB.out; omega))
      have HFIT : Hid (∀ p ∈ G.prods, 0 ≤ p.1 ∧ p.1.toNat < N ∧ p.2.1.length ≤ 20 ∧ ∀ s ∈ p.2.1, (s < 0 → (-1 - s).toNat < N) ∧ (0 ≤ s → s.toNat < n1 ∧ s.toNat < n2) ∧ s < 301) := Lib.hid fun p hp => by
        have q := HOKG.out.pr p hp
        have q1 := prFitg HOKG.out hp HNN.out
        refine ⟨q1.1, q1.2.1, by have := q.r; omega, fun s hs => ⟨q1.2.2 s hs, fun h0 => ?_, ?_⟩⟩
        · have := (q.s s hs).2; have h1 := H1.out; have h2 := H2.out; have h3 := HNT.out; omega
        · have := (q.s s hs).2; have h3 := HNT.out; omega
      have HDIG : Hid (∀ X s, Der G.prods X s → DigB s) := Lib.hid (by
        intro X s ⟨h, hd⟩ x hx
        have h1 := der_dig (ps := G.prods) (T := nt) (fun p hp s hs => by have := ((HOKG.out.pr p hp).s s hs).2; have h3 := HNT.out; omega) h X s hd x hx
        omega)
      have HNP : Hid (np ≤ 400) := Lib.hid (by have h1 := HOKG.out.p; have h2 := HG1.out.p.len.1; omega)
      have hput : ∀ x, 0 ≤ nthI P x ∧ nthI P x ≤ 1000 := costs_nth HA1.out
      have hlv : ∀ x, 0 ≤ nthI L x ∧ nthI L x ≤ 1000 := costs_nth HA2.out
      have HPL := Lib.hid (show D.P = P ∧ D.L = L ∧ D.I = I by rw [hD]; exact ⟨rfl, rfl, rfl⟩)
      have HAS0 : Hid (AllS (nthI D.P) (nthI D.L) D.I G.prods N (fun _ _ _ => Option.none) 0 0) := Lib.hid (AllS.zero _ _)
      have HCO := HCr
      have HPUT := Lib.hid hput; have HLVE := Lib.hid hlv
      clear hMD hbk1 hD hput hlv HMr HOr HBr HCr e60
      go_wp2_with fail
      obtain ⟨wo, rfl⟩ : ∃ wo : World, wo = wr := ⟨_, rfl⟩
      go_loopw [121] (fun i wr => ∃ (n : Nat) (M : BCh) (γ : Nat → Nat → Option Nat) (cnt : Nat), n ≤ k + 1 ∧ cnt ≤ n * 61 ∧ i = .int .i64 (n : Int) ∧ Hid (MdIn wr sb m G Ap Al As np cp nl cl ns cs D A1 A2 A3 A4 n1 c1 n2 c2 k c3 (k + 1) c4 bM) ∧ Hid (ChM wr bM N cnt sb γ M) ∧ Hid (AllS (nthI D.P) (nthI D.L) D.I G.prods N M n 0) ∧ Hid (∀ a c, a ≤ c → n ≤ c - a → γ a c = none) ∧ Hid (Below sb w2 wr)) (fun i _ => k + 1 - (intOf i).toNat)
      case atStart => exact ⟨0, _, _, 0, by omega, by omega, rfl, HMD, HCO, HAS0, Lib.hid (fun _ _ _ _ => rfl), HBW⟩
      case round =>
        clear HMD HCO HAS0 HBW
        obtain ⟨n, M, γ, cnt, hn, hcnt, rfl, HMr, HCr, HAr, HGr, HBr⟩ := hrel
        by_cases hltn : n < k + 1
        · as_aux_lemma =>
            have d4 : decide ((n : Int) < (k : Int) + 1) = true := decide_eq_true (by omega)
            go_wp2_with fail
            obtain ⟨wo, rfl⟩ : ∃ wo : World, wo = wr := ⟨_, rfl⟩
            go_loopw [15] (fun i wr => ∃ (F : Nat) (M : BCh) (γ : Nat → Nat → Option Nat) (cnt : Nat), F + n ≤ k + 1 ∧ cnt ≤ n * 61 + F ∧ i = .int .i64 (F : Int) ∧ Hid (MdIn wr sb m G Ap Al As np cp nl cl ns cs D A1 A2 A3 A4 n1 c1 n2 c2 k c3 (k + 1) c4 bM) ∧ Hid (ChM wr bM N cnt sb γ M) ∧ Hid (AllS (nthI D.P) (nthI D.L) D.I G.prods N M n F) ∧ Hid (∀ a c, a ≤ c → (n < c - a ∨ (c - a = n ∧ F ≤ a)) → γ a c = none) ∧ Hid (Below sb w2 wr)) (fun i _ => k + 1 - (intOf i).toNat)
            case atStart => exact ⟨0, M, γ, cnt, by omega, by omega, rfl, HMr, HCr, HAr, Lib.hid (fun a c h1 h2 => HGr.out a c h1 (by omega)), HBr⟩
            case round =>
              clear HMr HCr HAr HGr HBr hcnt
              obtain ⟨F, M, γ, cnt, hF, hcnt, rfl, HMr, HCr, HAr, HGr, HBr⟩ := hrel
              by_cases hltF : F + n ≤ k
              · as_aux_lemma =>
                  have hBwr : sb ≤ wr.heap.size := by have h1 := HBr.out.size; have h2 := HSB.out; omega
                  have hc := solve_any G Ap Al As np cp nl cl ns cs D A1 A2 A3 A4 n1 c1 n2 c2 k c3 (k + 1) c4 bM m wr sb hBwr HMr.out (HGW.out.below HBr.out) N cnt γ M HCr.out HNN.out hN3 (by omega) F (F + n) (by omega) hltF (HGr.out F (F + n) (by omega) (by omega)) HFIT.out HNP.out HAr.out.snd HDIG.out
                  rw [show ((F + n : Nat) : Int) = (F : Int) + (n : Int) from by omega] at hc
                  have HC := Lib.hid hc
                  have d5 : decide ((F : Int) + (n : Int) ≤ (k : Int)) = true := decide_eq_true (by omega)
                  clear hc
                  go_wp2_with fail
                  refine HC.out.mono ?_
                  rintro e w5 ⟨rfl, hM5, hb5, M5, γ5, hC5, hS5, hx5, hg5⟩
                  have HM5 := Lib.hid hM5; have HB5 := Lib.hid (HBr.out.trans hb5); have HC5 := Lib.hid hC5
                  have HA5 : Hid (AllS (nthI D.P) (nthI D.L) D.I G.prods N M5 n (F + 1)) := Lib.hid (HAr.out.step hS5 hx5)
                  have HG5 : Hid (∀ a c, a ≤ c → (n < c - a ∨ (c - a = n ∧ F + 1 ≤ a)) → γ5 a c = none) := Lib.hid (fun a c h1 h2 => by rw [hg5 a c (by omega)]; exact HGr.out a c h1 (by omega))
                  clear hM5 hb5 hC5 hS5 hx5 hg5 HC
                  go_wp2_with fail
                  go_roundw
                  case rel => exact ⟨F + 1, M5, γ5, cnt + 1, by omega, by omega, by go_num, HM5, HC5, HA5, HG5, HB5⟩
                  case measure => simp [intOf]; omega
              · as_aux_lemma =>
                  have d5 : decide ((F : Int) + (n : Int) ≤ (k : Int)) = false := decide_eq_false (by omega)
                  have HA5 : Hid (AllS (nthI D.P) (nthI D.L) D.I G.prods N M (n + 1) 0) := Lib.hid (HAr.out.next (by rw [HPL.out.2.2, HL3.out]; omega))
                  go_wp2_with fail
                  go_roundw
                  case rel => exact ⟨n + 1, M, γ, cnt, by omega, by omega, by go_num, HMr, HCr, HA5, Lib.hid (fun a c h1 h2 => HGr.out a c h1 (by omega)), HBr⟩
                  case measure => simp [intOf]; omega
        · as_aux_lemma =>
            have hI : D.I.length = k := by rw [HPL.out.2.2, HL3.out]
            have hp0 : ∀ t, 0 ≤ nthI D.P t ∧ nthI D.P t ≤ 1000 := by rw [HPL.out.1]; exact HPUT.out
            have hl0 : ∀ t, 0 ≤ nthI D.L t ∧ nthI D.L t ≤ 1000 := by rw [HPL.out.2.1]; exact HLVE.out
            have hbdd : ∀ t f u, lvS (nthI D.L) (sub D.I f u) + nthI D.P t ≤ farC := fun t f u => by
              have h1 := (lvS_bound hl0 (sub D.I f u)).2
              have h2 := (hp0 t).2
              have h3 : (sub D.I f u).length ≤ 60 := by
                unfold sub
                simp only [List.length_take, List.length_drop]
                omega
              unfold farC; omega
            have hfits : Fits N G.prods := fun p hp => ⟨(HFIT.out p hp).2.1, fun s hs => ((HFIT.out p hp).2.2.2 s hs).1⟩
            obtain ⟨hcmp, his⟩ := HAr.out.done (by omega) hfits (fun t => (hp0 t).1) (fun t => (hl0 t).1) hbdd 0 k (Nat.zero_le _) (by omega)
            have hsome : M st 0 k ≠ none := by
              obtain ⟨l, hl⟩ := HDER.out
              exact his st 0 k l hst2 (Nat.le_refl _) (Nat.zero_le _) (Nat.le_refl _) hl
            obtain ⟨g, hg⟩ : ∃ g, γ 0 k = some g := by
              cases e : γ 0 k with
              | none => exact absurd (HCr.out.z 0 k st (by omega) (by omega) e hst2) hsome
              | some g => exact ⟨g, rfl⟩
            obtain ⟨⟨c0, n0, l0⟩, hM0⟩ : ∃ x, M st 0 k = some x := by
              cases e : M st 0 k with
              | none => exact absurd e hsome
              | some x => exact ⟨x, rfl⟩
            have HMEND : Hid (n0 ≤ 1000 → Der G.prods st l0 ∧ (l0.length : Int) = n0 ∧ c0 = edit (nthI P) (nthI L) I l0 ∧ ∀ s, Der G.prods st s → s.length ≤ 1000 → c0 ≤ edit (nthI P) (nthI L) I s ∧ (c0 = edit (nthI P) (nthI L) I s → earl s l0 = false)) := Lib.hid fun hn => by
              have h := mended (put := nthI D.P) (leave := nthI D.L) (inp := D.I) (ps := G.prods) (N := N) (M := M) hp0 hl0 (by omega) hst2 HAr.out.snd (by rw [hI]; exact hcmp) (by rw [hI]; exact hM0) hn
              rw [HPL.out.1, HPL.out.2.1, HPL.out.2.2] at h
              exact h
            have hnum := (HAr.out.snd st 0 k hst2 (Nat.zero_le _) (by omega)).num (fun s hs => HDIG.out st s hs)
            have hwf := (HAr.out.snd st 0 k hst2 (Nat.zero_le _) (by omega)).wf
            rw [hM0] at hnum hwf
            have hn0 := (hnum.c c0 n0 l0 rfl).2.2.1
            have hc0 := hnum.c c0 n0 l0 rfl
            have HWF := Lib.hid (hwf _ rfl)
            obtain ⟨wd, hwd⟩ : ∃ wd, wd = wr.drew := ⟨_, rfl⟩
            have hbd : Below wr.heap.size wr wd := by rw [hwd]; exact (Below.refl _ _).drew
            have hCd := HCr.out.below hbd
            have hMd := HMr.out.below hbd (by have h1 := HBr.out.size; have h2 := HSB.out; omega)
            have hbb := hCd.i 0 k g (by omega) (by omega) hg
            obtain ⟨kk, cc, nn, A9, l9, cap9, y0, y1, y2, y3, hv⟩ := hbb.at_ hst2
            rw [hM0] at hv
            obtain ⟨A8, cap8, e8, q1, q2, q3⟩ := hv
            simp only [Value.agg.injEq, Array.mk.injEq, List.cons.injEq, Value.bool.injEq, Value.int.injEq, Value.slice.injEq, true_and, and_true] at e8
            obtain ⟨rfl, rfl, rfl, rfl, rfl, rfl⟩ := e8
            have hgl := hbb.lt
            have hgb2 : wd.cell? ⟨w.heap.size, 2, none⟩ = some (.int .i64 (st : Int)) := by
              have h1 := (HGB2.out.below HBr.out (by have h2 := HSB.out; have h3 := HSZ1.out; have h4 := HB12.out.size; omega)).c2
              rw [(hbd.cell (p := ⟨w.heap.size, 2, none⟩) (by have h1 := HBr.out.size; have h2 := HSB.out; have h3 := HSZ1.out; have h4 := HB12.out.size; show w.heap.size < _; omega)), h1, HST.out]
            have wb : ∀ (Y : WB wd.heap.size wd) (q : Addr), q.block < wd.heap.size → Y.val.cell? q = wd.cell? q := fun Y q h1 => Y.bel.cell (p := q) h1
            have j0 : ∀ Y : WB wd.heap.size wd, Y.val.cell? ⟨m, 10, none⟩ = some (.map (some bM)) := fun Y => (wb Y ⟨m, 10, none⟩ hMd.b.lt).trans (hMd.b.cell (i := 10) rfl)
            have j1 : ∀ Y : WB wd.heap.size wd, Y.val.cell? ⟨w.heap.size, 2, none⟩ = some (.int .i64 (st : Int)) := fun Y => (wb Y ⟨w.heap.size, 2, none⟩ (by have h1 := hbd.size; have h2 := HSB.out; have h3 := HSZ1.out; have h4 := HB12.out.size; have h5 := hMd.b.lt; show w.heap.size < _; omega)).trans hgb2
            have j2 : ∀ Y : WB wd.heap.size wd, Y.val.cell? ⟨g, st * 4, none⟩ = some (.bool true) := fun Y => (wb Y ⟨g, st * 4, none⟩ hgl).trans y0
            have j3 : ∀ Y : WB wd.heap.size wd, Y.val.cell? ⟨g, st * 4 + 1, none⟩ = some (.int .i64 cc) := fun Y => (wb Y ⟨g, st * 4 + 1, none⟩ hgl).trans y1
            have j4 : ∀ Y : WB wd.heap.size wd, Y.val.cell? ⟨g, st * 4 + 2, none⟩ = some (.int .i64 nn) := fun Y => (wb Y ⟨g, st * 4 + 2, none⟩ hgl).trans y2
            have j5 : ∀ Y : WB wd.heap.size wd, Y.val.cell? ⟨g, st * 4 + 3, none⟩ = some (.slice A9 l0.length cap9) := fun Y => (wb Y ⟨g, st * 4 + 3, none⟩ hgl).trans y3
            have j6 : ∀ Y : WB wd.heap.size wd, (Instr.lookup 46 (.map (some bM)) (.agg #[.int .i64 0, .int .i64 (k : Int)]) false).run Tryd.prog Y.val = .ok (.slice (some ⟨g, 0, none⟩) N N) Y.val := fun Y => by
              have h := (hCd.below Y.bel).look (f := 0) (t := k) (by omega) (by omega)
              rw [hg] at h
              exact h
            have HCD := Lib.hid hCd; have HBD := Lib.hid hbd; have HQ3 := Lib.hid q3; have HQ := Lib.hid (show l0.length ≤ cap9 ∧ cap9 ≤ maxLen from ⟨q1, q2⟩)
            have HBE : Hid (Below w.heap.size w wd) := Lib.hid (HBW2.out.trans ((HBr.out.mono (by have h2 := HSB.out; have h3 := HSZ1.out; have h4 := HB12.out.size; omega)).trans (hbd.mono (by have h1 := HBr.out.size; have h2 := HSB.out; have h3 := HSZ1.out; have h4 := HB12.out.size; omega))))
            have HEd : Hid (ErW wd B E) := Lib.hid ((HE2.out.below (HBr.out.mono (by have h2 := HSB.out; omega))).below (hbd.mono (by have h1 := HBr.out.size; have h2 := HSB.out; omega)))
            have d6 : decide ((n : Int) < (k : Int) + 1) = false := decide_eq_false (by omega)
            clear hCd hMd hbb hbd y0 y1 y2 y3 hgl hgb2 wb q1 q2 q3 hnum hwf hcmp his hsome hg hM0 hI hp0 hl0 hbdd hfits
            go_wp2_with fail
            refine wp_region_S (fun w' => ∃ X : WB wd.heap.size wd, w' = X.val) (by kernel_rfl) ?_
            rw [← hwd]
            clear hwd
            show wpAnyS _ _ _ _ _ (2 + 12) _ _ _
            refine takeS 2 0 12 (by kernel_rfl) (by kernel_rfl) (fun _ _ d _ _ h => by cases d <;> exact h) ⟨⟨_, Below.refl _ _⟩, rfl⟩ ?_
            simp only [List.take_succ_cons, List.take_zero, List.drop_succ_cons, List.drop_zero]
            repeat (first | go_big_quiet_skip | (go_big_quiet_want; go_big_quiet_op; go_big_quiet_on))
            refine wpQuiet_nil ?_
            clear j0 j1 j2 j3 j4 j5 j6
            refine oneS 1 12 (by kernel_rfl) (by decide) ?_
            simp only [List.take_succ_cons, List.take_zero, List.drop_succ_cons, List.drop_zero]
            go_wp2_with fail
            obtain ⟨w4, hw4⟩ : ∃ w4, w4 = wd.alloc (.cells #[.bool false, .int .i64 0, .int .i64 0, .slice none 0 0] 51) := ⟨_, rfl⟩
            have hb4 : Below wd.heap.size wd w4 := by rw [hw4]; exact (Below.refl _ _).alloc (Nat.le_refl _) _
            have hk4 : Blk w4 wd.heap.size 51 [.bool false, .int .i64 0, .int .i64 0, .slice none 0 0] := by rw [hw4]; exact Blk.new wd 51 [.bool false, .int .i64 0, .int .i64 0, .slice none 0 0]
            rw [← hw4]
            clear hw4
            have z0 := hk4.cell (i := 0) rfl
            have z1 := hk4.cell (i := 1) rfl
            have z2 := hk4.cell (i := 2) rfl
            have z3 := hk4.cell (i := 3) rfl
            have f0 := hk4.frozen 0
            have f1 := hk4.frozen 1
            have f2 := hk4.frozen 2
            have f3 := hk4.frozen 3
            have hk5 := (((hk4.set_ 0 (.bool true)).set_ 1 (.int .i64 cc)).set_ 2 (.int .i64 nn)).set_ 3 (.slice A9 l0.length cap9)
            have hb5 := bel_set4 hb4 (Nat.le_refl _) 0 1 2 3 (.bool true) (.int .i64 cc) (.int .i64 nn) (.slice A9 l0.length cap9)
            have hls : LsIn ((((w4.setCell ⟨wd.heap.size, 0, none⟩ (.bool true)).setCell ⟨wd.heap.size, 1, none⟩ (.int .i64 cc)).setCell ⟨wd.heap.size, 2, none⟩ (.int .i64 nn)).setCell ⟨wd.heap.size, 3, none⟩ (.slice A9 l0.length cap9)) A9 l0 := (HQ3.out.below hb4).keep fun b arr cur hb => by
              have hne := int_ne_best hk4 hb
              rw [Below.heap_setCell _ _ _ _ hne, Below.heap_setCell _ _ _ _ hne, Below.heap_setCell _ _ _ _ hne, Below.heap_setCell _ _ _ _ hne]
            have HB4 := Lib.hid hb4; have HK5 := Lib.hid hk5; have HB5 := Lib.hid hb5; have HLS := Lib.hid hls
            clear hb4 hk4 hk5 hb5 hls
            refine ⟨⟨WB.mk _ HB4.out, rfl⟩, ?_⟩
            refine oneS 0 13 (by kernel_rfl) (by decide) ?_
            simp only [List.take_succ_cons, List.take_zero, List.drop_succ_cons, List.drop_zero]
            go_wp2_with fail
            obtain ⟨w5, hw5⟩ : ∃ w5, w5 = ((((w4.setCell ⟨wd.heap.size, 0, none⟩ (.bool true)).setCell ⟨wd.heap.size, 1, none⟩ (.int .i64 cc)).setCell ⟨wd.heap.size, 2, none⟩ (.int .i64 nn)).setCell ⟨wd.heap.size, 3, none⟩ (.slice A9 l0.length cap9)) := ⟨_, rfl⟩
            have hk6 : Blk w5 wd.heap.size 51 [.bool true, .int .i64 cc, .int .i64 nn, .slice A9 l0.length cap9] := by rw [hw5]; exact HK5.out
            have HB6 : Hid (Below wd.heap.size wd w5) := Lib.hid (by rw [hw5]; exact HB5.out)
            have HLS6 : Hid (LsIn w5 A9 l0) := Lib.hid (by rw [hw5]; exact HLS.out)
            rw [← hw5]
            clear hw5 HK5 HB5 HLS HB4 z0 z1 z2 z3 f0 f1 f2 f3
            refine ⟨⟨WB.mk _ HB6.out, rfl⟩, ?_⟩
            refine endS (by kernel_rfl) ?_
            have z1 := hk6.cell (i := 1) rfl
            have z2 := hk6.cell (i := 2) rfl
            have z3 := hk6.cell (i := 3) rfl
            have hBE6 : Below w.heap.size w w5 := HBE.out.trans (HB6.out.mono HBE.out.size)
            have hE1 := ((HEd.out.below (HB6.out.mono (Nat.le_trans hB HBE.out.size))).g 1 (by omega))
            unfold evar at hE1
            simp only at hE1
            have HBE6 := Lib.hid hBE6
            clear hk6 hBE6
            by_cases h1000 : nn ≤ 1000
            · as_aux_lemma =>
                have e9 : decide ((1000 : Int) < nn) = false := decide_eq_false (by omega)
                have hm := HMEND.out h1000
                have HF : Hid (MendG w5 G P L I A9 l0.length cap9 cc) := Lib.hid {
                  ok := HOKG.out
                  p := by rw [HNT.out, HL1.out]; exact H1.out
                  l := by rw [HNT.out, HL2.out]; exact H2.out
                  pc := HA1.out
                  lc := HA2.out
                  i := fun x hx => by rw [HNT.out]; exact insB_iff.1 (List.all_eq_true.1 HIN.out x hx)
                  il := by rw [HL3.out]; exact h60
                  b := ⟨by have := hm.2.1; omega, HQ.out.1, HQ.out.2⟩
                  m := ⟨l0, rfl, HLS6.out, by rw [HST.out, Int.toNat_natCast]; exact hm.1, hm.2.2.1, by rw [HST.out, Int.toNat_natCast]; exact hm.2.2.2⟩ }
                clear hm h1000
                go_wp2_with fail
                go_quiet (fail)
                go_wp2_with fail
                go_ret3
                exact ⟨HBE6.out.trans (bel_dnM _ _ _), .inr ⟨_, _, _, _, rfl, HF.out.drewN _⟩⟩
            · as_aux_lemma =>
                have e9 : decide ((1000 : Int) < nn) = true := decide_eq_true (by omega)
                clear h1000
                go_wp2_with fail
                go_quiet (fail)
                go_wp2_with fail
                go_ret3
                exact ⟨HBE6.out.trans (bel_dnM _ _ _), .inl ⟨1, by omega, rfl⟩⟩
end Go.Proofs.YtklhjaohnimmnaaDoor
namespace Go.Proofs.YtklhjaohnimmnaaDoor
open Go.RowKit
set_option linter.unusedVariables false
set_option linter.unusedSimpArgs false
set_option maxRecDepth 100000

theorem Blk.type_eq {w : World} {g : Nat} {e e' : TypeId} {vs vs' : List Value} (h : Blk w g e vs) (h' : Blk w g e' vs') : e = e' := by
  unfold Blk at h h'
  rw [h] at h'
  simp at h'
  exact h'.2

/-- Row k of rows. -/
def rowB (M : List (List Bool)) (k : Nat) : List Bool := M.getD k []
theorem rowB_get {M : List (List Bool)} {k : Nat} (h : k < M.length) : rowB M k = M[k] := by simp [rowB, h]
theorem rowB_set {M : List (List Bool)} {k j : Nat} {r : List Bool} (hk : k < M.length) : rowB (M.set k r) j = if k = j then r else rowB M j := by
  unfold rowB
  by_cases h : k = j
  · subst h; simp [List.getD, hk]
  · simp [List.getD, h]
def nthN (l : List Nat) (k : Nat) : Nat := l.getD k 0
theorem nthN_get {l : List Nat} {k : Nat} (h : k < l.length) : nthN l k = l[k] := by simp [nthN, h]

/-- The rows M: the block D has their slices, row k lies in block number k of ρ. -/
structure MtSt (w : World) (D N T : Nat) (ρ : List Nat) (M : List (List Bool)) : Prop where
  dl : D < w.heap.size
  d : ∀ k, k < N → w.cell? ⟨D, k, none⟩ = some (.slice (some ⟨nthN ρ k, 0, none⟩) T T)
  rl : ρ.length = N
  ml : M.length = N
  nd : ∀ i j, i < N → j < N → nthN ρ i = nthN ρ j → i = j
  ne : ∀ i, i < N → nthN ρ i ≠ D
  rows : ∀ k, k < N → Blk w (nthN ρ k) 4 (bv (rowB M k)) ∧ (rowB M k).length = T
section
variable {w w' : World} {D N T : Nat} {ρ : List Nat} {M : List (List Bool)}
theorem MtSt.cell (h : MtSt w D N T ρ M) {k : Nat} (hk : k < N) : w.cell? ⟨D, k, none⟩ = some (.slice (some ⟨nthN ρ k, 0, none⟩) T T) := h.d k hk
theorem MtSt.keep {S : Nat → Prop} (h : MtSt w D N T ρ M) (hk : Kp S w w') (hD : ¬ S D) (hr : ∀ k, k < N → ¬ S (nthN ρ k)) : MtSt w' D N T ρ M :=
  ⟨Nat.lt_of_lt_of_le h.dl hk.size, fun k hkn => (hk.cell (p := ⟨D, k, none⟩) h.dl hD).trans (h.d k hkn), h.rl, h.ml, h.nd, h.ne, fun k hkn => ⟨(hk.block _ (h.rows k hkn).1.lt (hr k hkn)).trans (h.rows k hkn).1, (h.rows k hkn).2⟩⟩
theorem MtSt.below (h : MtSt w D N T ρ M) (hb : Below w.heap.size w w') : MtSt w' D N T ρ M := h.keep (S := fun _ => False) (Kp.of hb) (fun e => e) (fun _ _ e => e)
/-- One row turned: only its block has changed. -/
theorem MtSt.set_ (h : MtSt w D N T ρ M) {k : Nat} (hk : k < N) {r : List Bool} (hr : r.length = T) (hkp : Kp (fun j => j = nthN ρ k) w w') (hb : Blk w' (nthN ρ k) 4 (bv r)) : MtSt w' D N T ρ (M.set k r) := by
  refine ⟨Nat.lt_of_lt_of_le h.dl hkp.size, fun j hj => (hkp.cell (p := ⟨D, j, none⟩) h.dl (fun e => h.ne k hk e.symm)).trans (h.d j hj), h.rl, by rw [List.length_set]; exact h.ml, h.nd, h.ne, fun j hj => ?_⟩
  rw [rowB_set (by rw [h.ml]; exact hk)]
  by_cases e : k = j
  · subst e; rw [if_pos rfl]; exact ⟨hb, hr⟩
  · rw [if_neg e]
    exact ⟨(hkp.block _ (h.rows j hj).1.lt (fun q => e (h.nd j k hj hk q).symm)).trans (h.rows j hj).1, (h.rows j hj).2⟩
end

theorem nthN_snoc {l : List Nat} {b k : Nat} : nthN (l ++ [b]) k = if k < l.length then nthN l k else if k = l.length then b else 0 := by
  unfold nthN
  rw [List.getD_eq_getElem?_getD]
  by_cases h : k < l.length
  · rw [if_pos h, List.getElem?_append_left h]; simp [List.getD]
  · rw [if_neg h, List.getElem?_append_right (by omega)]
    by_cases e : k = l.length
    · rw [if_pos e, e]; simp
    · rw [if_neg e, List.getElem?_eq_none (by simp; omega)]; rfl
/-- n rows of T times false. -/
def m0 (N T : Nat) : List (List Bool) := List.replicate N (List.replicate T false)
theorem rowB_m0 {N T k : Nat} (hk : k < N) : rowB (m0 N T) k = List.replicate T false := by
  unfold rowB m0
  rw [List.getD_eq_getElem?_getD, List.getElem?_replicate, if_pos hk]; rfl

end Go.Proofs.YtklhjaohnimmnaaDoor
