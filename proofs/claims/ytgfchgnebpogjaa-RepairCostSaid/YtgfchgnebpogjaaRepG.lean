/- The document's Cost: the table. -/
import Derived.Test.YtgfchgnebpogjaaRepF
import Derived.Test.YtgfchgnebpogjaaQtl
namespace Go.Proofs.Ytgfchgnebpogjaa
open Go.RowKit BigFrame
set_option linter.unusedVariables false
set_option linter.unusedSimpArgs false
set_option maxRecDepth 100000

theorem elL : ElTy Try.prog 40 22 1 24 (.slice none 0 0) := ⟨Try.underlying40, by kernel_rfl, rfl, by decide⟩

set_option maxHeartbeats 4000000 in
theorem rcost_good (A1 A2 A3 A4 : Option Addr) (n1 c1 n2 c2 n3 c3 n4 c4 : Nat) (P L F T : List Int) (w : World) (B : Nat) (hB : B ≤ w.heap.size)
    (h1 : RdI w B A1 P) (h2 : RdI w B A2 L) (h3 : RdI w B A3 F) (h4 : RdI w B A4 T) (l1 : P.length = n1) (l2 : L.length = n2) (l3 : F.length = n3) (l4 : T.length = n4)
    (m1 : n1 ≤ maxLen) (m2 : n2 ≤ maxLen) (m3 : n3 ≤ 1000) (m4 : n4 ≤ 1000)
    (e1 : P.all costB = true) (e2 : L.all costB = true) (e3 : F.all (insB (min (n1 : Int) n2)) = true) (e4 : T.all (insB (min (n1 : Int) n2)) = true) :
    Calls Try.prog 9 #[.agg #[.slice A1 n1 c1, .slice A2 n2 c2], .slice A3 n3 c3, .slice A4 n4 c4] w fun e w' => e = .returned (.int .i64 (eb P L F T 0 0)) ∧ Below w.heap.size w w' := by
  have hb0 : Below w.heap.size w (w.alloc (.cells #[.slice A1 n1 c1, .slice A2 n2 c2] 24)) := (Below.refl _ _).alloc (Nat.le_refl _) _
  have hc0 : (w.alloc (.cells #[.slice A1 n1 c1, .slice A2 n2 c2] 24)).cell? ⟨w.heap.size, 0, none⟩ = some (.slice A1 n1 c1) := by simp
  have hc1 : (w.alloc (.cells #[.slice A1 n1 c1, .slice A2 n2 c2] 24)).cell? ⟨w.heap.size, 1, none⟩ = some (.slice A2 n2 c2) := by simp
  have hW0 : (w.alloc (.cells #[.slice A1 n1 c1, .slice A2 n2 c2] 24)).heap.size = w.heap.size + 1 := by simp
  obtain ⟨W0, hW⟩ : ∃ W0, W0 = w.alloc (.cells #[.slice A1 n1 c1, .slice A2 n2 c2] 24) := ⟨_, rfl⟩
  rw [← hW] at hb0 hc0 hc1 hW0
  have hcall0 := least_any n1 n2 W0
  have hcall1 := costsOk_any A1 n1 c1 P W0 B (h1.below (hb0.mono hB)) l1 m1
  have hcall2 := costsOk_any A2 n2 c2 L W0 B (h2.below (hb0.mono hB)) l2 m2
  have hcall3 := inside_any A3 n3 c3 F (min (n1 : Int) n2) W0 B (h3.below (hb0.mono hB)) l3 (by unfold maxLen; omega)
  have hcall4 := inside_any A4 n4 c4 T (min (n1 : Int) n2) W0 B (h4.below (hb0.mono hB)) l4 (by unfold maxLen; omega)
  have HBD := Lib.hid (@eb_bound P L F T e1 e2)
  have HPB := Lib.hid (costs_nth e1)
  have HLB := Lib.hid (costs_nth e2)
  have HF : Hid (∀ k, k < n3 → ∃ t : Nat, nth F k = t ∧ t < n1 ∧ t < n2) := Lib.hid (fun k hk => by
    have := List.all_eq_true.1 e3 _ (List.getElem_mem (show k < F.length by omega))
    rw [insB_iff, ← nth_get] at this
    exact ⟨(nth F k).toNat, by omega, by omega, by omega⟩)
  have HT : Hid (∀ k, k < n4 → ∃ t : Nat, nth T k = t ∧ t < n1 ∧ t < n2) := Lib.hid (fun k hk => by
    have := List.all_eq_true.1 e4 _ (List.getElem_mem (show k < T.length by omega))
    rw [insB_iff, ← nth_get] at this
    exact ⟨(nth T k).toNat, by omega, by omega, by omega⟩)
  unfold maxLen at m1 m2
  rw [e1] at hcall1
  rw [e2] at hcall2
  rw [e3] at hcall3
  rw [e4] at hcall4
  clear e1 e2 e3 e4
  generalize min (n1 : Int) n2 = m at *
  have HC0 := Lib.hid hcall0; have HC1 := Lib.hid hcall1; have HC2 := Lib.hid hcall2; have HC3 := Lib.hid hcall3; have HC4 := Lib.hid hcall4; clear hcall0 hcall1 hcall2 hcall3 hcall4
  have h3' : ¬ (1000 < (n3 : Int)) := by omega
  have h4' : ¬ (1000 < (n4 : Int)) := by omega
  have d3 : decide ((1000 : Int) < n3) = false := decide_eq_false h3'
  have d4 : decide ((1000 : Int) < n4) = false := decide_eq_false h4'
  have ll3 := Lib.hid l3; have ll4 := Lib.hid l4; have ll1 := Lib.hid l1; have ll2 := Lib.hid l2; clear l1 l2 l3 l4
  have HH1 := Lib.hid h1; have HH2 := Lib.hid h2; have HH3 := Lib.hid h3; have HH4 := Lib.hid h4; clear h1 h2 h3 h4
  have hmk : ∀ w : World, (Instr.makeSlice 22 (.int .i64 ((n4 : Int) + 1)) (.int .i64 ((n4 : Int) + 1))).run Try.prog w = .ok (.slice (some ⟨w.heap.size, 0, none⟩) (n4 + 1) (n4 + 1)) (w.alloc (.cells (zs (.int .i64 0) (n4 + 1)) 3)) := fun w =>
    mk_row elI rfl .i64 .i64 (n4 + 1) _ (by omega) (by omega) (by omega) w
  have hmk2 : ∀ w : World, (Instr.makeSlice 40 (.int .i64 ((n3 : Int) + 1)) (.int .i64 ((n3 : Int) + 1))).run Try.prog w = .ok (.slice (some ⟨w.heap.size, 0, none⟩) (n3 + 1) (n3 + 1)) (w.alloc (.cells (zs (.slice none 0 0) (n3 + 1)) 22)) := fun w =>
    mk_row elL rfl .i64 .i64 (n3 + 1) _ (by omega) (by omega) (by omega) w
  subst hW
  go_enter Try.func9, Try.ntmps9
  go_wp2_with (first | (go_at_call 36; refine HC0.out.mono ?_; rintro e w' ⟨rfl, rfl⟩) | (go_at_call 37; first | (with_reducible refine HC1.out.mono ?_; rintro e w' ⟨rfl, rfl⟩) | (with_reducible refine HC2.out.mono ?_; rintro e w' ⟨rfl, rfl⟩)) | (go_at_call 38; first | (with_reducible refine HC3.out.mono ?_; rintro e w' ⟨rfl, rfl⟩) | (with_reducible refine HC4.out.mono ?_; rintro e w' ⟨rfl, rfl⟩)))
  obtain ⟨D, hD⟩ : ∃ D, D = w.heap.size + 1 := ⟨_, rfl⟩
  obtain ⟨W1, hW1⟩ : ∃ W1, W1 = (w.alloc (.cells #[.slice A1 n1 c1, .slice A2 n2 c2] 24)).alloc (.cells (zs (.slice none 0 0) (n3 + 1)) 22) := ⟨_, rfl⟩
  have hBD : Blk W1 D 22 (List.replicate (n3 + 1) (.slice none 0 0)) := by
    have := Blk.made (w.alloc (.cells #[.slice A1 n1 c1, .slice A2 n2 c2] 24)) 22 (.slice none 0 0) (n3 + 1)
    rw [hW0] at this
    rw [hW1, hD]; exact this
  have hDs : D < W1.heap.size := hBD.lt
  have hbx : Below (w.heap.size + 1) (w.alloc (.cells #[.slice A1 n1 c1, .slice A2 n2 c2] 24)) W1 := by
    rw [hW1]; exact (Below.refl _ _).alloc (by rw [hW0]; exact Nat.le_refl _) _
  have hw1 : Below w.heap.size w W1 := hb0.trans (hbx.mono (by omega))
  have HK0 := Lib.hid ((hbx.cell (p := ⟨w.heap.size, 0, none⟩) (by simp)).trans hc0)
  have HK1 := Lib.hid ((hbx.cell (p := ⟨w.heap.size, 1, none⟩) (by simp)).trans hc1)
  rw [← hD, ← hW1]
  have hDw : w.heap.size < D := by omega
  clear hD hW1 hb0 hc0 hc1 hbx HC0 HC1 HC2 HC3 HC4 hW0
  go_loopw [13] (fun i wr => ∃ k : Nat, k ≤ n3 + 1 ∧ i = .int .i64 ((k : Int) - 1) ∧ Below D W1 wr ∧ D < wr.heap.size ∧ ∃ vs : List Value, ∃ g : Nat, ∃ R : List Int, Hid (vs.length = n3 + 1 ∧ Blk wr D 22 vs) ∧ Hid (k ≤ n3 → vs[k]? = some (.slice (some ⟨g, 0, none⟩) (n4 + 1) (n4 + 1)) ∧ D < g ∧ g < wr.heap.size ∧ Blk wr g 3 (iv R) ∧ R.length = n4 + 1 ∧ ∀ j, j ≤ n4 → nth R j = eb P L F T k j)) (fun i _ => (intOf i + 1).toNat)
  case atStart =>
    exact ⟨n3 + 1, Nat.le_refl _, by go_num, Below.refl _ _, hDs, _, 0, [], ⟨List.length_replicate, hBD⟩, fun h => absurd h (by omega)⟩
  case round =>
    as_aux_lemma =>
      obtain ⟨k, hk, rfl, hbr, hDr, vs, g, R, HV, HR⟩ := hrel
      have hwr := hw1.trans (hbr.mono (by omega : w.heap.size ≤ D))
      rcases k with _ | k
      · as_aux_lemma =>
          obtain ⟨q1, q2, q3, q4, q5, q6⟩ := HR.out (Nat.zero_le _)
          have zD := HV.out.2.cell q1
          have zr := q4.icell (k := 0) (by rw [q5]; omega)
          rw [q6 0 (Nat.zero_le _)] at zr
          clear q1 q4 q5 q6
          go_wp2
          go_ret
          exact ⟨rfl, hwr⟩
      rw [show ((k + 1 : Nat) : Int) - 1 = k by omega]
      have zD := (HV.out.2.alloc (.cells (zs (.int .i64 0) (n4 + 1)) 3)).cell (i := k) (List.getElem?_eq_getElem (by rw [HV.out.1]; omega))
      have zf := (HV.out.2.alloc (.cells (zs (.int .i64 0) (n4 + 1)) 3)).frozen k
      generalize hvk : vs[k]'(by rw [HV.out.1]; omega) = vk at zD
      clear hvk
      go_wp2_with fail
      obtain ⟨g2, hg2⟩ : ∃ g2, g2 = wr.heap.size := ⟨_, rfl⟩
      obtain ⟨W3, hW3⟩ : ∃ W3, W3 = (wr.setCell ⟨D, k, none⟩ (.slice (some ⟨wr.heap.size, 0, none⟩) (n4 + 1) (n4 + 1))).alloc (.cells (zs (.int .i64 0) (n4 + 1)) 3) := ⟨_, rfl⟩
      rw [← hW3]
      rw [← hg2] at hW3 ⊢
      have hB3 : Blk W3 g2 3 (iv (List.replicate (n4 + 1) 0)) := by
        have := Blk.made (wr.setCell ⟨D, k, none⟩ (.slice (some ⟨g2, 0, none⟩) (n4 + 1) (n4 + 1))) 3 (.int .i64 0) (n4 + 1)
        rw [setCell_size, ← hg2] at this
        rw [hW3, ← iv_rep]; exact this
      have hw3 : Below D W1 W3 := by
        rw [hW3]; exact (hbr.setCell (by simp) _).alloc (by rw [setCell_size]; omega) _
      have hD3 : Blk W3 D 22 (vs.set k (.slice (some ⟨g2, 0, none⟩) (n4 + 1) (n4 + 1))) := by
        rw [hW3]; exact (HV.out.2.set_ k _).alloc _
      have hR3 : k + 1 ≤ n3 → (vs.set k (.slice (some ⟨g2, 0, none⟩) (n4 + 1) (n4 + 1)))[k + 1]? = some (.slice (some ⟨g, 0, none⟩) (n4 + 1) (n4 + 1)) ∧ D < g ∧ g < g2 ∧ Blk W3 g 3 (iv R) ∧ R.length = n4 + 1 ∧ ∀ j, j ≤ n4 → nth R j = eb P L F T (k + 1) j := by
        intro h
        obtain ⟨q1, q2, q3, q4, q5, q6⟩ := HR.out h
        refine ⟨by rw [List.getElem?_set_ne (by omega)]; exact q1, q2, by omega, ?_, q5, q6⟩
        rw [hW3]; exact (q4.far (p := ⟨D, k, none⟩) (by simp; omega) _).alloc _
      have hlen : (vs.set k (.slice (some ⟨g2, 0, none⟩) (n4 + 1) (n4 + 1))).length = n3 + 1 := by rw [List.length_set]; exact HV.out.1
      have hvk : (vs.set k (.slice (some ⟨g2, 0, none⟩) (n4 + 1) (n4 + 1)))[k]? = some (.slice (some ⟨g2, 0, none⟩) (n4 + 1) (n4 + 1)) := by
        rw [List.getElem?_set_self (by rw [HV.out.1]; omega)]
      obtain ⟨vs3, hvs3⟩ : ∃ vs3, vs3 = vs.set k (.slice (some ⟨g2, 0, none⟩) (n4 + 1) (n4 + 1)) := ⟨_, rfl⟩
      rw [← hvs3] at hD3 hR3 hlen hvk
      have hDg : D < g2 := by omega
      have hgs := hB3.lt
      have HB3 := Lib.hid hB3; have HD3 := Lib.hid hD3; have HR3 := Lib.hid hR3; have HVK := Lib.hid (And.intro hlen hvk)
      clear hvs3 hB3 hD3 hR3 hlen hvk hW3 hg2 HR HV zD zf hbr hDr hwr
      go_loopw [14] (fun i wr => ∃ l : Nat, l ≤ n4 + 1 ∧ i = .int .i64 ((l : Int) - 1) ∧ Below g2 W3 wr ∧ g2 < wr.heap.size ∧ ∃ R2 : List Int, Hid (R2.length = n4 + 1 ∧ Blk wr g2 3 (iv R2) ∧ (∀ j, l ≤ j → j ≤ n4 → nth R2 j = eb P L F T k j) ∧ (∀ j, j < l → nth R2 j = 0))) (fun i _ => (intOf i + 1).toNat)
      case atStart =>
        refine ⟨n4 + 1, Nat.le_refl _, by go_num, Below.refl _ _, hgs, _, List.length_replicate, HB3.out, fun j h1 h2 => absurd h1 (by omega), fun j h1 => ?_⟩
        unfold nth; simp [List.getD, List.getElem?_replicate]; split <;> rfl
      case round =>
        as_aux_lemma =>
          obtain ⟨l, hl, rfl, hbl, hgl, R2, HR2⟩ := hrel
          have hbD : Below D W1 wr := hw3.trans (hbl.mono (by omega))
          rcases l with _ | l
          · go_wp2_with fail
            go_roundw
            case rel =>
              exact ⟨k, by omega, by go_num, hbD, by omega, vs3, g2, R2, ⟨HVK.out.1, HD3.out.below hbl hDg⟩, fun _ => ⟨HVK.out.2, hDg, hgl, HR2.out.2.1, HR2.out.1, fun j hj => HR2.out.2.2.1 j (Nat.zero_le _) hj⟩⟩
            case measure => simp [intOf]
          rw [show ((l + 1 : Nat) : Int) - 1 = l by omega]
          have hwr := hw1.trans (hbD.mono (by omega : w.heap.size ≤ D))
          have HDr := Lib.hid (HD3.out.below hbl hDg)
          have zDk := HDr.out.cell HVK.out.2
          have zl := HR2.out.2.1.icell (k := l) (by rw [HR2.out.1]; omega)
          have zf := HR2.out.2.1.frozen l
          by_cases hk3 : k = n3
          · as_aux_lemma =>
              subst hk3
              by_cases hl4 : l = n4
              · subst hl4
                go_wp2
                go_roundw
                case rel =>
                  refine ⟨l, by omega, by go_num, hbl, hgl, R2, HR2.out.1, HR2.out.2.1, fun j h1 h2 => ?_, fun j h1 => HR2.out.2.2.2 j (by omega)⟩
                  obtain rfl : j = l := by omega
                  rw [HR2.out.2.2.2 j (by omega), eb_nn ll3.out ll4.out]
                case measure => simp [intOf]
              · have hbn : ((l : Int) == n4) = false := by simp; omega
                have hln : l < n4 := by omega
                obtain ⟨tn, htn, htm, _⟩ := HT.out l hln
                obtain ⟨b4, off4, rfl, hb4, hc4⟩ := RdI.at_ (HH4.out.below (hwr.mono hB)) (by rw [ll4.out]; omega)
                have z4 := hc4 l (by rw [ll4.out]; exact hln)
                obtain ⟨b1, off1, rfl, hb1, hc1⟩ := RdI.at_ (HH1.out.below (hwr.mono hB)) (by rw [ll1.out]; omega)
                have zp := hc1 tn (by rw [ll1.out]; omega)
                have zk0 := (hbD.cell (p := ⟨w.heap.size, 0, none⟩) hDw).trans HK0.out
                have zr := HR2.out.2.1.icell (k := l + 1) (by rw [HR2.out.1]; omega)
                rw [HR2.out.2.2.1 (l + 1) (by omega) (by omega)] at zr
                have hnext := @eb_ns P L F T k l ll3.out (by rw [ll4.out]; exact hln)
                have hpb := HPB.out tn
                rw [htn] at z4 hnext
                have hpe : nthI P tn = nth P tn := by unfold nthI; simp
                rw [hpe] at hpb hnext
                have hxb := HBD.out k (l + 1)
                rw [ll3.out, ll4.out] at hxb
                obtain ⟨p, hp⟩ : ∃ p, p = nth P tn := ⟨_, rfl⟩
                rw [← hp] at zp hpb hnext
                obtain ⟨x, hx⟩ : ∃ x, x = eb P L F T k (l + 1) := ⟨_, rfl⟩
                rw [← hx] at zr hnext hxb
                obtain ⟨y, hy⟩ : ∃ y, y = nth R2 l := ⟨_, rfl⟩
                rw [← hy] at zl
                have HN := Lib.hid hnext; clear hnext hpe hc4 hc1 hp hx hy htn
                obtain ⟨hp0, hp1⟩ := hpb
                obtain ⟨hx0, hx1⟩ := hxb
                go_wp2_with fail
                go_region
                go_wp2
                go_roundw
                case rel =>
                  refine ⟨l, by omega, by go_num, (hbl.setCell (by simp) _).drew, by show _ < (World.setCell _ _ _).heap.size; rw [setCell_size]; exact hgl, R2.set l (x + p), by rw [List.length_set]; exact HR2.out.1, (HR2.out.2.1.iset l (x + p)).drew, fun j h1 h2 => ?_, fun j h1 => ?_⟩
                  · rw [nth_set (by rw [HR2.out.1]; omega)]
                    by_cases hjk : l = j
                    · rw [if_pos hjk, ← hjk, HN.out]
                    · rw [if_neg hjk]; exact HR2.out.2.2.1 j (by omega) h2
                  · rw [nth_set (by rw [HR2.out.1]; omega), if_neg (by omega)]; exact HR2.out.2.2.2 j (by omega)
                case measure => simp [intOf]
          · as_aux_lemma =>
              have hbk : ((k : Int) == n3) = false := by simp; omega
              have hkn : k < n3 := by omega
              obtain ⟨q1, q2, q3, q4, q5, q6⟩ := HR3.out (by omega)
              have zD1 := HDr.out.cell q1
              have q3' := q3
              have HRr := Lib.hid (q4.below hbl q3)
              have zr0 := HRr.out.icell (k := l) (by rw [q5]; omega)
              rw [q6 l (by omega)] at zr0
              have HQ6 := Lib.hid q6; have HQ5 := Lib.hid q5; clear q1 q4 q5 q6
              obtain ⟨fn, hfn, _, hfm⟩ := HF.out k hkn
              obtain ⟨b3, off3, rfl, hb3, hc3⟩ := RdI.at_ (HH3.out.below (hwr.mono hB)) (by rw [ll3.out]; omega)
              have z3 := hc3 k (by rw [ll3.out]; exact hkn)
              obtain ⟨b2, off2, rfl, hb2, hc2⟩ := RdI.at_ (HH2.out.below (hwr.mono hB)) (by rw [ll2.out]; omega)
              have zq := hc2 fn (by rw [ll2.out]; omega)
              have zk1 := (hbD.cell (p := ⟨w.heap.size, 1, none⟩) hDw).trans HK1.out
              have hqb := HLB.out fn
              have hqe : nthI L fn = nth L fn := by unfold nthI; simp
              rw [hfn] at z3
              rw [hqe] at hqb
              have hxb := HBD.out (k + 1) l
              rw [ll3.out, ll4.out] at hxb
              obtain ⟨q, hq⟩ : ∃ q, q = nth L fn := ⟨_, rfl⟩
              rw [← hq] at zq hqb hqe
              obtain ⟨x, hx⟩ : ∃ x, x = eb P L F T (k + 1) l := ⟨_, rfl⟩
              rw [← hx] at zr0 hxb
              obtain ⟨y, hy⟩ : ∃ y, y = nth R2 l := ⟨_, rfl⟩
              rw [← hy] at zl
              have HQE := Lib.hid hqe; have HFN := Lib.hid hfn; have HX := Lib.hid hx
              clear hc3 hc2 hq hx hy hfn hqe
              obtain ⟨hq0, hq1⟩ := hqb
              obtain ⟨hx0, hx1⟩ := hxb
              by_cases hl4 : l = n4
              · as_aux_lemma =>
                  subst hl4
                  have HN : Hid (eb P L F T k l = x + q) := Lib.hid (by rw [eb_sn (by rw [ll3.out]; exact hkn) ll4.out, HFN.out, HQE.out, ← HX.out])
                  go_wp2_with fail
                  go_region
                  go_wp2
                  go_roundw
                  case rel =>
                    refine ⟨l, by omega, by go_num, (hbl.setCell (by simp) _).drew, by show _ < (World.setCell _ _ _).heap.size; rw [setCell_size]; exact hgl, R2.set l (x + q), by rw [List.length_set]; exact HR2.out.1, (HR2.out.2.1.iset l (x + q)).drew, fun j h1 h2 => ?_, fun j h1 => ?_⟩
                    · rw [nth_set (by rw [HR2.out.1]; omega)]
                      by_cases hjk : l = j
                      · rw [if_pos hjk, ← hjk, HN.out]
                      · exact absurd h2 (by omega)
                    · rw [nth_set (by rw [HR2.out.1]; omega), if_neg (by omega)]; exact HR2.out.2.2.2 j (by omega)
                  case measure => simp [intOf]
              · as_aux_lemma =>
                  have hbn : ((l : Int) == n4) = false := by simp; omega
                  have hln : l < n4 := by omega
                  obtain ⟨tn, htn, htm, _⟩ := HT.out l hln
                  obtain ⟨b4, off4, rfl, hb4, hc4⟩ := RdI.at_ (HH4.out.below (hwr.mono hB)) (by rw [ll4.out]; omega)
                  have z4 := hc4 l (by rw [ll4.out]; exact hln)
                  obtain ⟨b1, off1, rfl, hb1, hc1⟩ := RdI.at_ (HH1.out.below (hwr.mono hB)) (by rw [ll1.out]; omega)
                  have zp := hc1 tn (by rw [ll1.out]; omega)
                  have zk0 := (hbD.cell (p := ⟨w.heap.size, 0, none⟩) hDw).trans HK0.out
                  have zr := HR2.out.2.1.icell (k := l + 1) (by rw [HR2.out.1]; omega)
                  rw [HR2.out.2.2.1 (l + 1) (by omega) (by omega)] at zr
                  have zc := HRr.out.icell (k := l + 1) (by rw [HQ5.out]; omega)
                  rw [HQ6.out (l + 1) (by omega)] at zc
                  have hpb := HPB.out tn
                  rw [htn] at z4
                  have hpe : nthI P tn = nth P tn := by unfold nthI; simp
                  rw [hpe] at hpb
                  have hab := HBD.out k (l + 1)
                  have hcb := HBD.out (k + 1) (l + 1)
                  rw [ll3.out, ll4.out] at hab hcb
                  have hne : tn ≠ fn → eb P L F T k l = min (x + q) (eb P L F T k (l + 1) + nth P tn) := by
                    intro hne
                    rw [@eb_ne P L F T k l (by rw [ll3.out]; exact hkn) (by rw [ll4.out]; exact hln) (by rw [HFN.out, htn]; omega), HFN.out, htn, HQE.out, hpe, HX.out]
                  have hee : tn = fn → eb P L F T k l = min (min (x + q) (eb P L F T k (l + 1) + nth P tn)) (eb P L F T (k + 1) (l + 1)) := by
                    intro hee
                    rw [@eb_eq P L F T k l (by rw [ll3.out]; exact hkn) (by rw [ll4.out]; exact hln) (by rw [HFN.out, htn]; omega), HFN.out, htn, HQE.out, hpe, HX.out]
                  obtain ⟨p, hp⟩ : ∃ p, p = nth P tn := ⟨_, rfl⟩
                  obtain ⟨a, ha⟩ : ∃ a, a = eb P L F T k (l + 1) := ⟨_, rfl⟩
                  obtain ⟨c, hc⟩ : ∃ c, c = eb P L F T (k + 1) (l + 1) := ⟨_, rfl⟩
                  rw [← hp] at zp hpb hne hee
                  rw [← ha] at zr hab hne hee
                  rw [← hc] at zc hcb hee
                  obtain ⟨m1, hm1⟩ : ∃ m1, m1 = min (x + q) (a + p) := ⟨_, rfl⟩
                  rw [← hm1] at hne hee
                  have HNE := Lib.hid hne; have HEE := Lib.hid hee
                  obtain ⟨hp0, hp1⟩ := hpb
                  obtain ⟨ha0, ha1⟩ := hab
                  have hcall := least_any (x + q) (a + p) wr.drew
                  rw [← hm1] at hcall
                  clear hne hee hc4 hc1 hpe hp ha hc htn hcb hm1
                  obtain ⟨w2, hw2⟩ : ∃ w2, w2 = wr.drew := ⟨_, rfl⟩
                  have hcl : ∀ p, w2.cell? p = wr.cell? p := by intro p; rw [hw2]; rfl
                  have y1 := (hcl _).trans zDk
                  have y2 := (hcl _).trans zD1
                  have y3 := (hcl _).trans zr0
                  have y4 := (hcl _).trans z3
                  have y5 := (hcl _).trans zq
                  have y6 := (hcl _).trans zk1
                  have y7 := (hcl _).trans zk0
                  have y8 := (hcl _).trans z4
                  have y9 := (hcl _).trans zp
                  have y10 := (hcl _).trans zr
                  have y11 := (hcl _).trans zl
                  have y12 := (hcl _).trans zc
                  clear hcl
                  rw [← hw2] at hcall
                  have HC := Lib.hid hcall; clear hcall
                  go_wp2_with fail
                  refine wp_region_still_tail 41 (by kernel_rfl) (by kernel_rfl) ?_
                  simp only [List.take_succ_cons, List.take_zero, List.drop_succ_cons, List.drop_zero]
                  change wpStill _ _ wr.drew (fun a' => wpList _ _ _ _ a' wr.drew) _ _
                  rw [← hw2]
                  have HW2 := Lib.hid hw2
                  have zf2 : w2.frozen? ⟨g2, l, none⟩ = false := by rw [hw2]; exact zf
                  clear hw2 zDk zD1 zr0 z3 zq zk1 zk0 z4 zp zr zl zf
                  refine wpStill_of_quiet _ _ ?_
                  repeat (first | go_big_quiet_skip | (go_big_quiet_want; go_big_quiet_op; go_big_quiet_on))
                  go_big_quiet_want
                  go_big_quiet_op
                  refine ⟨.int .i64 m1, HC.out.mono (by rintro e w' ⟨rfl, rfl⟩; exact ⟨rfl, rfl⟩), ?_⟩
                  go_big_quiet_on
                  repeat (first | go_big_quiet_skip | (go_big_quiet_want; go_big_quiet_op; go_big_quiet_on))
                  refine wpQuiet_nil ?_
                  go_wp2_with fail
                  obtain ⟨W5, hW5⟩ : ∃ W5, W5 = w2.setCell ⟨g2, l, none⟩ (.int .i64 m1) := ⟨_, rfl⟩
                  rw [← hW5]
                  have hw5 : Below g2 W3 W5 := by rw [hW5, HW2.out]; exact (hbl.drew).setCell (by simp) _
                  have hB5 := Lib.hid (show Blk W5 g2 3 (iv (R2.set l m1)) by rw [hW5, HW2.out]; exact (HR2.out.2.1.drew).iset l m1)
                  have hL5 : Hid ((R2.set l m1).length = n4 + 1) := Lib.hid (by rw [List.length_set]; exact HR2.out.1)
                  have hN5 : Hid (∀ j', nth (R2.set l m1) j' = if l = j' then m1 else nth R2 j') := Lib.hid (fun j' => nth_set (by rw [HR2.out.1]; omega))
                  have hf5 : Below g2 w2 W5 := by rw [hW5]; exact (Below.refl _ _).setCell (by simp) _
                  have hs5 : g2 < W5.heap.size := hB5.out.lt
                  have x1 := (hf5.cell (p := ⟨D, k, none⟩) hDg).trans y1
                  have x2 := (hf5.cell (p := ⟨D, k + 1, none⟩) hDg).trans y2
                  have x4 := (hf5.cell (p := ⟨b3, off3 + k, none⟩) (by simp; omega)).trans y4
                  have x8 := (hf5.cell (p := ⟨b4, off4 + l, none⟩) (by simp; omega)).trans y8
                  have x3 := (hf5.cell (p := ⟨g, l + 1, none⟩) q3').trans y12
                  obtain ⟨R5, hR5⟩ : ∃ R5, R5 = R2.set l m1 := ⟨_, rfl⟩
                  rw [← hR5] at hB5 hL5 hN5
                  have x0 := hB5.out.icell (k := l) (by rw [hL5.out]; omega)
                  rw [hN5.out, if_pos rfl] at x0
                  have x9 := hB5.out.frozen l
                  clear hW5 hR5 hf5 y1 y2 y3 y4 y5 y6 y7 y8 y9 y10 y11 y12 zf2 HC HW2
                  by_cases hft : fn = tn
                  · as_aux_lemma =>
                      subst hft
                      have hq : ((fn : Int) == fn) = true := by simp
                      go_quiet (fail)
                      go_wp2_with fail
                      have hcall := least_any m1 c (W5.drewN nq).drew
                      obtain ⟨m2, hm2⟩ : ∃ m2, m2 = min m1 c := ⟨_, rfl⟩
                      rw [← hm2] at hcall
                      have HM2 := Lib.hid hm2; clear hm2
                      refine wp_region_still_tail 23 (by kernel_rfl) (by kernel_rfl) ?_
                      simp only [List.take_succ_cons, List.take_zero, List.drop_succ_cons, List.drop_zero]
                      change wpStill _ _ (W5.drewN nq).drew (fun a' => wpList _ _ _ _ a' (W5.drewN nq).drew) _ _
                      obtain ⟨W6, hW6⟩ : ∃ W6, W6 = (W5.drewN nq).drew := ⟨_, rfl⟩
                      rw [← hW6] at hcall ⊢
                      have HC := Lib.hid hcall; clear hcall
                      have hcl : ∀ p, W6.cell? p = W5.cell? p := by intro p; rw [hW6]; rfl
                      have y0 := (hcl _).trans x0
                      have y1 := (hcl _).trans x1
                      have y2 := (hcl _).trans x2
                      have y3 := (hcl _).trans x3
                      have hw6 : Below g2 W3 W6 := by rw [hW6]; exact hw5.trans ⟨rfl, rfl, rfl, Nat.le_refl _, fun _ _ => rfl⟩
                      have HB6 := Lib.hid (show Blk W6 g2 3 (iv R5) by rw [hW6]; exact (hB5.out.drewN _).drew)
                      have y9 := HB6.out.frozen l
                      clear hcl hW6 x0 x1 x2 x3 x4 x8 x9 hB5 hw5
                      refine wpStill_of_quiet _ _ ?_
                      repeat (first | go_big_quiet_skip | (go_big_quiet_want; go_big_quiet_op; go_big_quiet_on))
                      go_big_quiet_want
                      go_big_quiet_op
                      refine ⟨.int .i64 m2, HC.out.mono (by rintro e w' ⟨rfl, rfl⟩; exact ⟨rfl, rfl⟩), ?_⟩
                      go_big_quiet_on
                      repeat (first | go_big_quiet_skip | (go_big_quiet_want; go_big_quiet_op; go_big_quiet_on))
                      refine wpQuiet_nil ?_
                      go_wp2_with fail
                      go_roundw
                      case rel =>
                        refine ⟨l, by omega, by go_num, hw6.setCell (by simp) _, by rw [setCell_size]; exact HB6.out.lt, R5.set l m2, by rw [List.length_set]; exact hL5.out, HB6.out.iset l m2, fun j h1 h2 => ?_, fun j h1 => ?_⟩
                        · rw [nth_set (by rw [hL5.out]; omega)]
                          by_cases hjk : l = j
                          · rw [if_pos hjk, ← hjk, HEE.out (by simp), HM2.out]
                          · rw [if_neg hjk, hN5.out, if_neg hjk]; exact HR2.out.2.2.1 j (by omega) h2
                        · rw [nth_set (by rw [hL5.out]; omega), if_neg (by omega), hN5.out, if_neg (by omega)]; exact HR2.out.2.2.2 j (by omega)
                      case measure => simp [intOf]
                  · as_aux_lemma =>
                      have hq : ((fn : Int) == tn) = false := by simp; omega
                      go_quiet (fail)
                      go_wp2_with fail
                      go_roundw
                      case rel =>
                        refine ⟨l, by omega, by go_num, (hw5.trans ⟨rfl, rfl, rfl, Nat.le_refl _, fun _ _ => rfl⟩), hs5, R5, hL5.out, hB5.out.drewN _, fun j h1 h2 => ?_, fun j h1 => ?_⟩
                        · rw [hN5.out]
                          by_cases hjk : l = j
                          · rw [if_pos hjk, ← hjk, HNE.out (fun h => hft h.symm)]
                          · rw [if_neg hjk]; exact HR2.out.2.2.1 j (by omega) h2
                        · rw [hN5.out, if_neg (by omega)]; exact HR2.out.2.2.2 j (by omega)
                      case measure => simp [intOf]
end Go.Proofs.Ytgfchgnebpogjaa
