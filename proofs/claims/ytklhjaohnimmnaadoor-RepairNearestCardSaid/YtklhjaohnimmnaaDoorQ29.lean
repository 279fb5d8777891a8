/- stands: do symbols stand for what lies between two places? · The chart of terminals: what memory looks like while its tables are made. -/
import Derived.Test.YtklhjaohnimmnaaDoorQ28
import Derived.Deep.Cut
namespace Go.Proofs.YtklhjaohnimmnaaDoor
open Go.RowKit BigFrame
set_option linter.unusedVariables false
set_option linter.unusedSimpArgs false
set_option maxRecDepth 100000

theorem boolOf (P : Prop) : ∃ c : Bool, c = true ↔ P := by
  by_cases h : P
  · exact ⟨true, by simp [h]⟩
  · exact ⟨false, by simp [h]⟩

/-! ### rows of reached places -/
section
variable {m : Ch} {inp : List Int} {S f t : Nat}
def AtR (m : Ch) (inp r : List Int) (S f t : Nat) (x : List Bool) : Prop := x.length = S ∧ ∀ j, j < S → (bth x j = true ↔ f ≤ j ∧ j ≤ t ∧ Rch m inp r f j)
def RowI (m : Ch) (inp : List Int) (at_ : List Bool) (s : Int) (S f t i : Nat) (x : List Bool) : Prop := x.length = S ∧ ∀ j, j < S → (bth x j = true ↔ ∃ a, f ≤ a ∧ a < i ∧ bth at_ a = true ∧ a ≤ j ∧ j ≤ t ∧ Sy m inp s a j)
def RowJ (m : Ch) (inp : List Int) (at_ : List Bool) (s : Int) (S f t i k : Nat) (x : List Bool) : Prop := x.length = S ∧ ∀ j, j < S → (bth x j = true ↔ (∃ a, f ≤ a ∧ a < i ∧ bth at_ a = true ∧ a ≤ j ∧ j ≤ t ∧ Sy m inp s a j) ∨ (i ≤ j ∧ j < k ∧ j ≤ t ∧ Sy m inp s i j))
theorem bth_rep {n j : Nat} : bth (List.replicate n false) j = false := by
  unfold bth
  rw [List.getD_eq_getElem?_getD, List.getElem?_replicate]
  split <;> rfl
theorem AtR.start (hf : f < S) (hft : f ≤ t) : AtR m inp [] S f t ((List.replicate S false).set f true) := by
  refine ⟨by simp, fun j hj => ?_⟩
  rw [bth_set (by simpa using hf), bth_rep]
  constructor
  · intro h
    split at h
    · rename_i e; subst e; exact ⟨Nat.le_refl _, hft, rfl⟩
    · cases h
  · rintro ⟨h1, h2, h3⟩
    rw [if_pos (show f = j from h3)]
theorem RowI.start {at_ : List Bool} {s : Int} : RowI m inp at_ s S f t f (List.replicate S false) :=
  ⟨by simp, fun j hj => by rw [bth_rep]; exact ⟨(fun h => by cases h), fun ⟨a, h1, h2, _⟩ => absurd h1 (by omega)⟩⟩
theorem RowI.skip {at_ x : List Bool} {s : Int} {i : Nat} (h : RowI m inp at_ s S f t i x) (hi : bth at_ i = false) : RowI m inp at_ s S f t (i + 1) x :=
  ⟨h.1, fun j hj => (h.2 j hj).trans ⟨fun ⟨a, h1, h2, h3⟩ => ⟨a, h1, by omega, h3⟩, fun ⟨a, h1, h2, h3, h4⟩ => ⟨a, h1, by
    by_cases e : a = i
    · subst e; rw [hi] at h3; cases h3
    · omega, h3, h4⟩⟩⟩
theorem RowI.toJ {at_ x : List Bool} {s : Int} {i : Nat} (h : RowI m inp at_ s S f t i x) : RowJ m inp at_ s S f t i i x :=
  ⟨h.1, fun j hj => (h.2 j hj).trans ⟨fun q => .inl q, fun q => by rcases q with q | ⟨h1, h2, _⟩; exact q; omega⟩⟩
theorem RowJ.step {at_ x : List Bool} {s : Int} {i k : Nat} {b c : Bool} (h : RowJ m inp at_ s S f t i k x) (hik : i ≤ k) (hk : k ≤ t) (hS : k < S) (hb : b = true ↔ Sy m inp s i k) (hc : c = (bth x k || b)) : RowJ m inp at_ s S f t i (k + 1) (x.set k c) := by
  refine ⟨by rw [List.length_set]; exact h.1, fun j hj => ?_⟩
  rw [bth_set (by rw [h.1]; exact hS)]
  by_cases e : k = j
  · subst e
    rw [if_pos rfl, hc, Bool.or_eq_true, h.2 k hS, hb]
    constructor
    · rintro ((q | ⟨_, q, _⟩) | q)
      · exact .inl q
      · omega
      · exact .inr ⟨hik, by omega, hk, q⟩
    · rintro (q | ⟨_, _, _, q⟩)
      · exact .inl (.inl q)
      · exact .inr q
  · rw [if_neg e, h.2 j hj]
    constructor
    · rintro (q | ⟨a, b, c⟩)
      · exact .inl q
      · exact .inr ⟨a, by omega, c⟩
    · rintro (q | ⟨a, b, c⟩)
      · exact .inl q
      · exact .inr ⟨a, by omega, c⟩
theorem RowJ.done {at_ x : List Bool} {s : Int} {i k : Nat} (h : RowJ m inp at_ s S f t i k x) (hk : t < k) (hfi : f ≤ i) (hi : bth at_ i = true) : RowI m inp at_ s S f t (i + 1) x :=
  ⟨h.1, fun j hj => (h.2 j hj).trans ⟨fun q => by
    rcases q with ⟨a, h1, h2, h3⟩ | ⟨h1, h2, h3, h4⟩
    · exact ⟨a, h1, by omega, h3⟩
    · exact ⟨i, hfi, by omega, hi, h1, h3, h4⟩, fun ⟨a, h1, h2, h3, h4, h5, h6⟩ => by
    by_cases e : a = i
    · subst e; exact .inr ⟨h4, by omega, h5, h6⟩
    · exact .inl ⟨a, h1, by omega, h3, h4, h5, h6⟩⟩⟩
theorem RowI.next {at_ x : List Bool} {s : Int} {i : Nat} {r : List Int} (h : RowI m inp at_ s S f t i x) (hi : t < i) (ha : AtR m inp r S f t at_) (htS : t < S) : AtR m inp (r ++ [s]) S f t x :=
  ⟨h.1, fun j hj => (h.2 j hj).trans ⟨fun ⟨a, h1, h2, h3, h4, h5, h6⟩ => ⟨by omega, h5, Rch.snoc.2 ⟨a, h1, h4, ((ha.2 a (by omega)).1 h3).2.2, h6⟩⟩, fun ⟨h1, h2, h3⟩ => by
    obtain ⟨a, a1, a2, a3, a4⟩ := Rch.snoc.1 h3
    exact ⟨a, a1, by omega, (ha.2 a (by omega)).2 ⟨a1, by omega, a3⟩, a2, h2, a4⟩⟩⟩
theorem AtR.at {r : List Int} {x : List Bool} (h : AtR m inp r S f t x) (hft : f ≤ t) (htS : t < S) {b : Bool} (hb : b = true ↔ Rch m inp r f t) : bth x t = b :=
  Bool.eq_iff_iff.2 ((h.2 t htS).trans ⟨fun q => hb.2 q.2.2, fun q => ⟨hft, Nat.le_refl _, hb.1 q⟩⟩)
end

set_option maxHeartbeats 2000000 in
theorem stands_any (G : Gr) (Ap Al As : Option Addr) (np cp nl cl ns cs : Nat) (B C N S cC : Nat) (δ γ : Nat → Nat) (ρ : Nat → Nat → Nat) (m : Ch) (Ai : Option Addr) (ni ci Bi : Nat) (inp : List Int) (Ar : Option Addr) (nr cr Br : Nat) (r : List Int) (f t : Nat) (w : World)
    (hM : Cu w B C N S δ γ ρ m) (hcN : N ≤ cC) (hcC : cC ≤ maxLen) (hi : RdI w Bi Ai inp) (hil : inp.length = ni) (hBi : Bi ≤ w.heap.size) (hni : ni ≤ 1000) (hr : RdI w Br Ar r) (hrl : r.length = nr) (hBr : Br ≤ w.heap.size) (hnr : nr ≤ maxLen)
    (hS : S = ni + 1) (hs : ∀ s ∈ r, s < 0 → (-1 - s).toNat < N) (hN : N ≤ 1000) (hf : f ≤ t) (ht : t ≤ ni) (b : Bool) (hb : b = true ↔ Rch m inp r f t) :
    Calls Tryd.prog 35 #[.agg #[.int .i64 G.terms, .int .i64 G.names, .int .i64 G.start, .slice Ap np cp, .slice Al nl cl, .slice As ns cs], .slice (some ⟨C, 0, none⟩) N cC, .slice Ai ni ci, .slice Ar nr cr, .int .i64 (f : Int), .int .i64 (t : Int)] w fun e w' => e = .returned (.bool b) ∧ Below w.heap.size w w' := by
  obtain ⟨hb0, hs0, _⟩ := gbox w G Ap Al As np cp nl cl ns cs
  subst hS
  have hmk : ∀ w : World, (Instr.makeSlice 43 (.int .i64 ((ni : Int) + 1)) (.int .i64 ((ni : Int) + 1))).run Tryd.prog w = .ok (.slice (some ⟨w.heap.size, 0, none⟩) (ni + 1) (ni + 1)) (w.alloc (.cells (zs (.bool false) (ni + 1)) 4)) := fun w =>
    mk_row elBg rfl .i64 .i64 (ni + 1) _ (by omega) (by omega) (by omega) w
  have KM : ∀ wr, Below w.heap.size w wr → Cu wr B C N (ni + 1) δ γ ρ m ∧ RdI wr Bi Ai inp ∧ RdI wr Br Ar r := fun wr h => ⟨hM.below h, hi.below (h.mono hBi), hr.below (h.mono hBr)⟩
  have KM := Lib.hid KM
  have HB := Lib.hid hb; have HRL := Lib.hid hrl; have HIL := Lib.hid hil; have HSM := Lib.hid hs; have HB0 := Lib.hid hb0
  have hfS : f < ni + 1 := by omega
  have HMK := Lib.hid hmk
  have hcC2 := hcC
  unfold maxLen at hcC2 hnr
  clear hM hi hr hb hrl hil hs
  go_enter Tryd.func35, Tryd.ntmps35
  go_upto_region 2 with (fail)
  clear hmk
  have hbl := Blk.made (w.alloc (.cells #[.int .i64 G.terms, .int .i64 G.names, .int .i64 G.start, .slice Ap np cp, .slice Al nl cl, .slice As ns cs] 25)) 4 (.bool false) (ni + 1)
  rw [bv_rep, hs0] at hbl
  have hb1 := hb0.alloc (by simp) (.cells (zs (.bool false) (ni + 1)) 4)
  have HB1 := Lib.hid hb1
  clear hb1 hb0 HB0
  obtain ⟨W1, hW1⟩ : ∃ W1, W1 = (w.alloc (.cells #[.int .i64 G.terms, .int .i64 G.names, .int .i64 G.start, .slice Ap np cp, .slice Al nl cl, .slice As ns cs] 25)).alloc (.cells (zs (.bool false) (ni + 1)) 4) := ⟨_, rfl⟩
  rw [← hW1] at hbl HB1 ⊢
  have hsW : W1.heap.size = w.heap.size + 2 := by rw [hW1]; simp
  clear hW1 hs0
  obtain ⟨g0, hg0⟩ : ∃ g0, g0 = w.heap.size + 1 := ⟨_, rfl⟩
  rw [← hg0] at hbl ⊢
  have z1 := hbl.bcell (k := f) (by simpa using hfS)
  have z2 := hbl.frozen f
  rw [bth_rep] at z1
  have HBL := Lib.hid hbl; have HSW := Lib.hid hsW
  have hgw : w.heap.size ≤ g0 := by omega
  clear hbl hsW hg0
  go_wp2_with fail
  have HB2 : Hid (Below w.heap.size w (W1.setCell ⟨g0, f, none⟩ (.bool true))) := Lib.hid (HB1.out.setCell hgw _)
  have HA : Hid (Blk (W1.setCell ⟨g0, f, none⟩ (.bool true)) g0 4 (bv ((List.replicate (ni + 1) false).set f true))) := Lib.hid (HBL.out.bset f true)
  go_loopw [13, 14] (fun v i wr => ∃ k : Nat, ∃ ga : Nat, k ≤ nr ∧ i = .int .i64 k ∧ v = .slice (some ⟨ga, 0, none⟩) (ni + 1) (ni + 1) ∧ w.heap.size ≤ ga ∧ Hid (Below w.heap.size w wr) ∧ ∃ x : List Bool, Hid (Blk wr ga 4 (bv x) ∧ AtR m inp (r.take k) (ni + 1) f t x)) (fun _ i _ => nr - (intOf i).toNat)
  case atStart => exact ⟨0, g0, Nat.zero_le _, rfl, rfl, hgw, HB2, _, HA.out, by rw [List.take_zero]; exact AtR.start hfS hf⟩
  case round =>
    as_aux_lemma =>
      clear HB2 HA HBL HSW z1 z2 HB1 hgw
      obtain ⟨k, ga, hk, rfl, rfl, hga, HW, x, HX⟩ := hrel
      by_cases hlt : k < nr
      · as_aux_lemma =>
          obtain ⟨b', off', rfl, hb', zr⟩ := (KM.out wr HW.out).2.2.get (k := k) (by rw [HRL.out]; exact hlt)
          have hsm : nth r k < 0 → (-1 - nth r k).toNat < N := HSM.out _ (mem_nth (by rw [HRL.out]; exact hlt))
          have htk : r.take (k + 1) = r.take k ++ [nth r k] := by
            rw [List.take_succ_eq_append_getElem (by rw [HRL.out]; exact hlt), nth_get]
          have HTK := Lib.hid htk; have HSM1 := Lib.hid hsm
          clear htk hsm
          generalize hsk : nth r k = s at zr HTK HSM1
          have HSK := Lib.hid hsk; clear hsk
          have hmk := HMK.out
          go_wp2_with fail
          clear hmk
          have hbl := Blk.made wr 4 (.bool false) (ni + 1)
          rw [bv_rep] at hbl
          have HW1 := Lib.hid (HW.out.alloc HW.out.size (.cells (zs (.bool false) (ni + 1)) 4))
          have HX1 := Lib.hid (HX.out.1.alloc (.cells (zs (.bool false) (ni + 1)) 4))
          have hneq : ga ≠ wr.heap.size := Nat.ne_of_lt HX.out.1.lt
          have hgn : w.heap.size ≤ wr.heap.size := HW.out.size
          obtain ⟨W1, hW1⟩ : ∃ W1, W1 = wr.alloc (.cells (zs (.bool false) (ni + 1)) 4) := ⟨_, rfl⟩
          rw [← hW1] at hbl HW1 HX1 ⊢
          clear hW1
          obtain ⟨gn, hgn1⟩ : ∃ gn, gn = wr.heap.size := ⟨_, rfl⟩
          rw [← hgn1] at hbl hneq hgn ⊢
          clear hgn1
          have HBL := Lib.hid hbl
          clear hbl
          obtain ⟨wo, rfl⟩ : ∃ wo : World, wo = wr := ⟨_, rfl⟩
          go_loopw [16] (fun v wr' => ∃ i : Nat, f ≤ i ∧ i ≤ t + 1 ∧ v = .int .i64 i ∧ Hid (Kp (fun j => j = gn) W1 wr') ∧ ∃ y : List Bool, Hid (Blk wr' gn 4 (bv y) ∧ RowI m inp x s (ni + 1) f t i y)) (fun v _ => t + 1 - (intOf v).toNat)
          case atStart => exact ⟨f, Nat.le_refl _, by omega, rfl, Kp.refl _ _, _, HBL.out, RowI.start⟩
          case round =>
            as_aux_lemma =>
              clear zr
              obtain ⟨i, hfi, hit, rfl, HK, y, HY⟩ := hrel
              by_cases hlt2 : i ≤ t
              · as_aux_lemma =>
                  have HX2 : Hid (Blk wr ga 4 (bv x)) := Lib.hid ((HK.out.block ga HX1.out.lt hneq).trans HX1.out)
                  have HW2 : Hid (Below w.heap.size w wr) := Lib.hid (HW1.out.trans (HK.out.bel HW1.out.size (fun j hj e => by omega)))
                  have zx := HX2.out.bcell (k := i) (by rw [HX.out.2.1]; omega)
                  cases hxi : bth x i
                  · have HY2 := Lib.hid (HY.out.2.skip hxi)
                    rw [hxi] at zx
                    clear hxi
                    go_wp2_with fail
                    go_roundw
                    case rel => exact ⟨i + 1, by omega, by omega, by go_num, HK.out, y, HY.out.1, HY2.out⟩
                    case measure => simp [intOf]; omega
                  · rw [hxi] at zx
                    have HXI := Lib.hid hxi
                    clear hxi
                    go_wp2_with fail
                    clear zx
                    obtain ⟨wo2, rfl⟩ : ∃ wo2 : World, wo2 = wr := ⟨_, rfl⟩
                    go_loopw [17] (fun v wr' => ∃ j : Nat, i ≤ j ∧ j ≤ t + 1 ∧ v = .int .i64 j ∧ Hid (Kp (fun j => j = gn) W1 wr') ∧ ∃ y : List Bool, Hid (Blk wr' gn 4 (bv y) ∧ RowJ m inp x s (ni + 1) f t i j y)) (fun v _ => t + 1 - (intOf v).toNat)
                    case atStart => exact ⟨i, Nat.le_refl _, by omega, rfl, HK.out, y, HY.out.1, HY.out.2.toJ⟩
                    case round =>
                      as_aux_lemma =>
                        clear HY HW2 HX2 HK
                        obtain ⟨j, hij, hjt, rfl, HK, y, HY⟩ := hrel
                        have HW2 : Hid (Below w.heap.size w wr) := Lib.hid (HW1.out.trans (HK.out.bel HW1.out.size (fun j hj e => by omega)))
                        by_cases hlt3 : j ≤ t
                        · as_aux_lemma =>
                            obtain ⟨c, hc⟩ := boolOf (Sy m inp s i j)
                            obtain ⟨k1, k2, k3⟩ := KM.out wr HW2.out
                            have HC := Lib.hid (symSt_any B C N (ni + 1) cC δ γ ρ m Ai ni ci Bi inp s i j wr k1 hcN hcC k2 HIL.out hni rfl HSM1.out hN hij (by omega) c hc)
                            have zr := k3.get (k := k) (by rw [HRL.out]; exact hlt)
                            have zy := HY.out.1.bcell (k := j) (by rw [HY.out.2.1]; omega)
                            have zf := HY.out.1.frozen j
                            have hst := HY.out.2.step (b := c) hij hlt3 (by omega) hc rfl
                            have HST := Lib.hid hst
                            clear k1 k2 k3 hc hst
                            obtain ⟨_, _, ezr, _, zr⟩ := zr
                            injection ezr with ezr
                            injection ezr with ez1 ez2
                            subst ez1 ez2
                            rw [HSK.out] at zr
                            generalize bth y j = v at zy HST
                            cases v
                            · go_wp2_with (go_at_call 45; refine HC.out.mono ?_; rintro e w' ⟨rfl, rfl⟩)
                              go_roundw
                              case rel => exact ⟨j + 1, by omega, by omega, by go_num, HK.out.set_ (.inr rfl) _, _, HY.out.1.bset j _, HST.out⟩
                              case measure => simp [intOf]; omega
                            · go_wp2_with fail
                              go_roundw
                              case rel => exact ⟨j + 1, by omega, by omega, by go_num, HK.out.set_ (.inr rfl) _, _, HY.out.1.bset j _, HST.out⟩
                              case measure => simp [intOf]; omega
                        · as_aux_lemma =>
                            have HY2 := Lib.hid (HY.out.2.done (by omega) hfi HXI.out)
                            go_wp2
                            go_roundw
                            case rel => exact ⟨i + 1, by omega, by omega, by go_num, HK.out, y, HY.out.1, HY2.out⟩
                            case measure => simp [intOf]; omega
              · as_aux_lemma =>
                  have HX2 : Hid (AtR m inp (r.take (k + 1)) (ni + 1) f t y) := Lib.hid (by rw [HTK.out]; exact HY.out.2.next (by omega) HX.out.2 (by omega))
                  have HW2 : Hid (Below w.heap.size w wr) := Lib.hid (HW1.out.trans (HK.out.bel HW1.out.size (fun j hj e => by omega)))
                  go_wp2
                  go_roundw
                  case rel => exact ⟨k + 1, gn, by omega, by go_num, rfl, hgn, HW2, y, HY.out.1, HX2.out⟩
                  case measure => simp [intOf]; omega
      · as_aux_lemma =>
          have hkn : k = nr := by omega
          have hbt := HX.out.2.at (b := b) hf (by omega) (by rw [List.take_of_length_le (by rw [HRL.out]; omega)]; exact HB.out)
          have zt := HX.out.1.bcell (k := t) (by rw [HX.out.2.1]; omega)
          rw [hbt] at zt
          clear hbt hkn
          go_wp2
          go_ret
          exact ⟨rfl, HW.out⟩
end Go.Proofs.YtklhjaohnimmnaaDoor
namespace Go.Proofs.YtklhjaohnimmnaaDoor
open Go.RowKit BigFrame
set_option linter.unusedVariables false
set_option linter.unusedSimpArgs false
set_option maxRecDepth 100000

theorem elCh : ElTy Tryd.prog 63 65 1 24 (.slice none 0 0) := ⟨Tryd.underlying63, by kernel_rfl, rfl, by decide⟩
def tbl (S : Nat) (δ γ : Nat → Nat) (i : Nat) : Value := .slice (some ⟨δ i, 0, none⟩) S (γ i)
/-- The first k tables. -/
structure Tb (w : World) (B S k : Nat) (v : Value) (δ γ : Nat → Nat) (ρ : Nat → Nat → Nat) : Prop where
  own : w.ownsRow B 65 1 v k ((List.range k).map (tbl S δ γ))
  g : ∀ i, i < k → S ≤ γ i ∧ γ i ≤ maxLen
  d : ∀ i f, i < k → f < S → w.cell? ⟨δ i, f, none⟩ = some (.slice (some ⟨ρ i f, 0, none⟩) S S)
  r : ∀ i f t, i < k → f < S → t < S → w.cell? ⟨ρ i f, t, none⟩ = some (.bool false)
  z : ∀ i f t, i < k → f < S → t < S → w.frozen? ⟨ρ i f, t, none⟩ = false
  inj : ∀ i f j g, i < k → f < S → j < k → g < S → ρ i f = ρ j g → i = j ∧ f = g
  lD : ∀ i, i < k → B ≤ δ i
  lR : ∀ i f, i < k → f < S → B ≤ ρ i f
  uD : ∀ i, i < k → δ i < w.heap.size
  uR : ∀ i f, i < k → f < S → ρ i f < w.heap.size
  nD : ∀ i, i < k → v.ownBlock ≠ some (δ i)
  nR : ∀ i f, i < k → f < S → v.ownBlock ≠ some (ρ i f)
section
variable {w w1 w2 : World} {B S k : Nat} {v v' : Value} {δ γ : Nat → Nat} {ρ : Nat → Nat → Nat}
/-- A table more. -/
theorem Tb.next (h : Tb w B S k v δ γ ρ) (hS : 0 < S) (hB : B ≤ w.heap.size) {D c : Nat} {ρl : List Nat} (hb : Below w.heap.size w w1) (hM : MtSt w1 D S S ρl (m0 S S)) (hD : w.heap.size ≤ D) (hρ : ∀ i, i < S → w.heap.size ≤ nthN ρl i) (hc1 : S ≤ c) (hc2 : c ≤ maxLen)
    (hown : w2.ownsRow B 65 1 v' (k + 1) ((List.range k).map (tbl S δ γ) ++ [.slice (some ⟨D, 0, none⟩) S c])) (hg : w1.grownBy w2 v.ownBlock) (hv : v'.ownBlock = v.ownBlock ∨ v'.ownBlock = some (w1.heap.size + 1)) :
    Tb w2 B S (k + 1) v' (fun i => if i = k then D else δ i) (fun i => if i = k then c else γ i) (fun i => if i = k then nthN ρl else ρ i) := by
  have hvw : ∀ b, v.ownBlock = some b → b < w.heap.size := fun b e => (h.own.lt b e).2
  have hnD : v.ownBlock ≠ some D := fun e => by have := hvw D e; omega
  have hnR : ∀ f, f < S → v.ownBlock ≠ some (nthN ρl f) := fun f hf e => by have := hvw _ e; have := hρ f hf; omega
  have hR1 : ∀ f, f < S → nthN ρl f < w1.heap.size := fun f hf => (hM.rows f hf).1.lt
  have hblk : ∀ b, b < w1.heap.size → v.ownBlock ≠ some b → w2.heap[b]? = w1.heap[b]? := fun b h1 h2 => hg.block b h1 (fun e => h2 e.symm)
  have hblk0 : ∀ b, b < w.heap.size → v.ownBlock ≠ some b → w2.heap[b]? = w.heap[b]? := fun b h1 h2 => (hblk b (Nat.lt_of_lt_of_le h1 hb.size) h2).trans (hb.block b h1)
  have hrow : ∀ f, f < S → rowB (m0 S S) f = List.replicate S false := fun f hf => rowB_m0 hf
  have hz := hb.size
  have hz2 := hg.size
  have split_lt : ∀ i, i < k + 1 → i ≠ k → i < k := fun i a b => by omega
  have hne : ∀ i f, i < k → f < S → ∀ g, g < S → ρ i f ≠ nthN ρl g := fun i f hi hf g hg e => by have := h.uR i f hi hf; have := hρ g hg; omega
  refine ⟨?_, fun i hi => ?_, fun i f hi hf => ?_, fun i f t hi hf ht => ?_, fun i f t hi hf ht => ?_, fun i f j g hi hf hj hg => ?_, fun i hi => ?_, fun i f hi hf => ?_, fun i hi => ?_, fun i f hi hf => ?_, fun i hi => ?_, fun i f hi hf => ?_⟩
  · have e : (List.range (k + 1)).map (tbl S (fun i => if i = k then D else δ i) (fun i => if i = k then c else γ i)) = (List.range k).map (tbl S δ γ) ++ [.slice (some ⟨D, 0, none⟩) S c] := by
      rw [List.range_succ, List.map_append]
      congr 1
      · refine List.map_congr_left fun i hi => ?_
        have : i ≠ k := by have := List.mem_range.1 hi; omega
        unfold tbl; simp [this]
      · simp [tbl]
    rw [e]; exact hown
  · by_cases e : i = k
    · subst e; simp only [if_true]; exact ⟨hc1, hc2⟩
    · simp only [if_neg e]; exact h.g i (split_lt i hi e)
  · by_cases e : i = k
    · subst e; simp only [if_true]
      exact (World.cell?_of_block (hblk D hM.dl hnD)).trans (hM.d f hf)
    · simp only [if_neg e]
      have hi' := split_lt i hi e
      exact (World.cell?_of_block (hblk0 _ (h.uD i hi') (h.nD i hi'))).trans (h.d i f hi' hf)
  · by_cases e : i = k
    · subst e; simp only [if_true]
      have := (hM.rows f hf).1.bcell (k := t) (by rw [hrow f hf]; simpa using ht)
      rw [hrow f hf, bth_rep] at this
      exact (World.cell?_of_block (hblk _ (hR1 f hf) (hnR f hf))).trans this
    · simp only [if_neg e]
      have hi' := split_lt i hi e
      exact (World.cell?_of_block (hblk0 _ (h.uR i f hi' hf) (h.nR i f hi' hf))).trans (h.r i f t hi' hf ht)
  · by_cases e : i = k
    · subst e; simp only [if_true]
      exact (World.frozen?_of_block (hblk _ (hR1 f hf) (hnR f hf))).trans ((hM.rows f hf).1.frozen t)
    · simp only [if_neg e]
      have hi' := split_lt i hi e
      exact (World.frozen?_of_block (hblk0 _ (h.uR i f hi' hf) (h.nR i f hi' hf))).trans (h.z i f t hi' hf ht)
  · by_cases e : i = k
    · by_cases e2 : j = k
      · subst e e2; simp only [if_true]
        exact fun q => ⟨trivial, hM.nd f g hf hg q⟩
      · subst e; simp only [if_true, if_neg e2]
        exact fun q => absurd q.symm (hne j g (split_lt j hj e2) hg f hf)
    · by_cases e2 : j = k
      · subst e2; simp only [if_true, if_neg e]
        exact fun q => absurd q (hne i f (split_lt i hi e) hf g hg)
      · simp only [if_neg e, if_neg e2]
        exact h.inj i f j g (split_lt i hi e) hf (split_lt j hj e2) hg
  · by_cases e : i = k
    · subst e; simp only [if_true]; omega
    · simp only [if_neg e]; exact h.lD i (split_lt i hi e)
  · by_cases e : i = k
    · subst e; simp only [if_true]; have := hρ f hf; omega
    · simp only [if_neg e]; exact h.lR i f (split_lt i hi e) hf
  · by_cases e : i = k
    · subst e; simp only [if_true]; have := hM.dl; omega
    · simp only [if_neg e]; have := h.uD i (split_lt i hi e); omega
  · by_cases e : i = k
    · subst e; simp only [if_true]; have := hR1 f hf; omega
    · simp only [if_neg e]; have := h.uR i f (split_lt i hi e) hf; omega
  · have fresh : ∀ b, b < w1.heap.size → v.ownBlock ≠ some b → v'.ownBlock ≠ some b := fun b h1 h2 => by
      rcases hv with e | e
      · rw [e]; exact h2
      · rw [e]; intro q; injection q with q; omega
    by_cases e : i = k
    · subst e; simp only [if_true]; exact fresh D hM.dl hnD
    · simp only [if_neg e]; have hi' := split_lt i hi e; exact fresh _ (Nat.lt_of_lt_of_le (h.uD i hi') hz) (h.nD i hi')
  · have fresh : ∀ b, b < w1.heap.size → v.ownBlock ≠ some b → v'.ownBlock ≠ some b := fun b h1 h2 => by
      rcases hv with e | e
      · rw [e]; exact h2
      · rw [e]; intro q; injection q with q; omega
    by_cases e : i = k
    · subst e; simp only [if_true]; exact fresh _ (hR1 f hf) (hnR f hf)
    · simp only [if_neg e]; have hi' := split_lt i hi e; exact fresh _ (Nat.lt_of_lt_of_le (h.uR i f hi' hf) hz) (h.nR i f hi' hf)
/-- All tables: a chart that says nothing. -/
theorem Tb.cu (h : Tb w B S k v δ γ ρ) (hS : 0 < S) (hk : 0 < k) : ∃ C c, v = .slice (some ⟨C, 0, none⟩) k c ∧ k ≤ c ∧ c ≤ maxLen ∧ Cu w B C k S δ γ ρ (fun _ _ _ => false) := by
  rcases h.own.2 with ⟨_, h0⟩ | ⟨g, cap, cur, rfl, hb, hg, hn, hc, hs, ht⟩
  · omega
  · refine ⟨g, cap, rfl, hn, hc, hS, hk, fun i hi => ?_, h.g, h.d, h.r, h.z, h.inj, hb, h.lD, h.lR, (Array.getElem?_eq_some_iff.1 hg).1, h.uD, h.uR⟩
    have := h.own.cells (g := g) rfl i (tbl S δ γ i) (by rw [List.getElem?_map, List.getElem?_range hi]; rfl)
    unfold tbl at this
    have ha : (⟨g, 0, none⟩ : Addr).add i = ⟨g, i, none⟩ := by simp [Addr.add]; intro h; exact h.symm
    rw [ha] at this
    exact this
end
end Go.Proofs.YtklhjaohnimmnaaDoor
