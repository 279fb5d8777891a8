/- The document's sets: Canon, All, SameSet, Size. · The program's counts; slices.Equal at ranges. · The program's text of points and of sets. -/
import Derived.Test.YtaachamblagbhaaGreatDoorQ10
import Derived.Test.YtaachamblagbhaaGreatDoorQ1
import Derived.Test.YtaachamblagbhaaGreatDoorQ9
import Derived.Test.YtaachamblagbhaaGreatDoorQ4
import Derived.Test.YtaachamblagbhaaGreatDoorQ8
namespace Go.Proofs.YtaachamblagbhaaGreatDoor
open Go.RowKit BigFrame
set_option linter.unusedVariables false
set_option linter.unusedSimpArgs false
set_option maxRecDepth 100000

theorem bothP_one {l : List Rg} {p : Int} : bothP 1 l [] p = inR l p := by
  unfold bothP wantB
  rw [if_pos rfl]
  have : inR [] p = false := by unfold inR memR; simp
  rw [this, Bool.or_false]

theorem rCanon_any (A : Option Addr) (n c : Nat) (l : List Rg) (w : World) (B : Nat) (hB : B ≤ w.heap.size) (hr : RdG w B A l) (hl : l.length = n) (hn : n ≤ 400) :
    Calls Tryz.prog 23 #[.slice A n c] w fun e w' => ∃ v out, e = .returned v ∧ OwG w' w.heap.size v out ∧ IsCan out (inR l) ∧ Below w.heap.size w w' ∧ out.length ≤ 2000 := by
  have hb := both_any A none n c 0 0 l [] 1 w B hB hr hl hn (Rd.nil _ _ _) rfl (by omega)
  have HB := Lib.hid hb
  clear hb hr hl
  go_enter Tryz.func23, Tryz.ntmps23
  go_wp2_with fail
  refine HB.out.mono ?_
  rintro e w1 ⟨v, out, rfl, h1, h2, h3, h4⟩
  have H1 := Lib.hid h1; have H2 := Lib.hid (h2.congr fun p => bothP_one); have H3 := Lib.hid h3; have H4 := Lib.hid h4
  clear h1 h2 h3 h4
  go_wp2_with fail
  go_ret
  exact ⟨v, out, rfl, H1.out, H2.out, H3.out, H4.out⟩
theorem rAll_any (w : World) : Calls Tryz.prog 106 #[] w fun e w' => ∃ v, e = .returned v ∧ OwG w' w.heap.size v [(0, 1114111)] ∧ Below w.heap.size w w' := by
  go_enter Tryz.func106, Tryz.ntmps106
  go_wp2_with fail
  go_ret
  refine ⟨_, rfl, ⟨rfl, .inr ⟨w.heap.size, 1, #[.int .i64 0, .int .i64 1114111], rfl, Nat.le_refl _, heap_alloc_new w _, Nat.le_refl _, by unfold maxLen; decide, rfl, rfl⟩⟩, (Below.refl _ w).alloc (Nat.le_refl _) _⟩
theorem ext_nthR {l l2 : List Rg} (hl : l.length = l2.length) (h : ∀ k, k < l.length → nthR l k = nthR l2 k) : l = l2 := by
  apply List.ext_getElem hl
  intro k h1 h2
  have := h k h1
  rwa [nthR_get h1, nthR_get h2] at this

theorem same_any (A A2 : Option Addr) (n c n2 c2 : Nat) (l l2 : List Rg) (w : World) (B B2 : Nat) (hr : RdG w B A l) (hl : l.length = n) (hn : n ≤ 100000) (hr2 : RdG w B2 A2 l2) (hl2 : l2.length = n2) (hn2 : n2 ≤ 100000) :
    Calls Tryz.prog 20 #[.slice A n c, .slice A2 n2 c2] w fun e w' => e = .returned (.bool (decide (l = l2))) ∧ Below w.heap.size w w' := by
  have HR := Lib.hid hr; have HL := Lib.hid hl; have HR2 := Lib.hid hr2; have HL2 := Lib.hid hl2
  clear hr hl hr2 hl2
  by_cases he : n = n2
  · subst he
    go_enter Tryz.func20, Tryz.ntmps20
    go_wp2_with fail
    go_loopw [5] (fun i wr => ∃ k : Nat, k ≤ n ∧ i = .int .i64 (k : Int) ∧ Hid (∀ j, j < k → nthR l j = nthR l2 j) ∧ Hid (Below w.heap.size w wr) ∧ Hid (RdG wr B A l) ∧ Hid (RdG wr B2 A2 l2)) (fun i _ => n - (intOf i).toNat)
    case atStart => exact ⟨0, Nat.zero_le _, rfl, fun j hj => by omega, Below.refl _ _, HR.out, HR2.out⟩
    case round =>
      as_aux_lemma =>
        clear HR HR2
        obtain ⟨k, hk, rfl, HT, HB, HR, HR2⟩ := hrel
        by_cases hlt : k < n
        · obtain ⟨b, off, rfl, hb, hc⟩ := HR.out.at_ (by rw [HL.out]; omega)
          obtain ⟨b2, off2, rfl, hb2, hc2⟩ := HR2.out.at_ (by rw [HL2.out]; omega)
          obtain ⟨z1, z2⟩ := hc k (by rw [HL.out]; exact hlt)
          obtain ⟨z3, z4⟩ := hc2 k (by rw [HL2.out]; exact hlt)
          have hs : nthR l k = nthR l2 k → ∀ j, j < k + 1 → nthR l j = nthR l2 j := fun q j hj => by
            by_cases e : j = k
            · subst e; exact q
            · exact HT.out j (by omega)
          have hno : nthR l k ≠ nthR l2 k → decide (l = l2) = false := fun q => decide_eq_false fun e => q (by rw [e])
          generalize nthR l k = r at *
          generalize nthR l2 k = r2 at *
          obtain ⟨x, y⟩ := r
          obtain ⟨x2, y2⟩ := r2
          simp only at z1 z2 z3 z4
          have hbd : Below w.heap.size w wr.drew := HB.out.drew
          have hrd : RdG wr.drew B (some ⟨b, off, none⟩) l ∧ RdG wr.drew B2 (some ⟨b2, off2, none⟩) l2 := ⟨HR.out.below ⟨rfl, rfl, rfl, Nat.le_refl _, fun _ _ => rfl⟩, HR2.out.below ⟨rfl, rfl, rfl, Nat.le_refl _, fun _ _ => rfl⟩⟩
          have HBD := Lib.hid hbd; have HRD := Lib.hid hrd.1; have HRD2 := Lib.hid hrd.2
          clear hc hc2 hbd hrd
          by_cases hq : (x, y) = (x2, y2)
          · cases hq
            have HS := Lib.hid (hs rfl)
            clear hs hno
            go_wp2_with fail
            go_quiet (fail)
            go_wp2_with fail
            go_roundw
            case rel => exact ⟨k + 1, by omega, by go_num, HS.out, below_drewN HB.out nq, HR.out.below (below_drewN (Below.refl B wr) nq), HR2.out.below (below_drewN (Below.refl B2 wr) nq)⟩
            case measure => simp [intOf]; omega
          · have HNO := Lib.hid (hno hq)
            clear hs hno
            by_cases hx : x = x2
            · subst hx
              have hy : ¬ y = y2 := fun e => hq (by rw [e])
              have d2 : (y == y2) = false := by simpa using hy
              have d3 : decide (y = y2) = false := decide_eq_false hy
              clear hq
              go_wp2_with fail
              go_quiet (fail)
              go_wp2_with fail
              go_ret
              exact ⟨by rw [HNO.out]; rfl, below_drewN HB.out nq⟩
            · have d2 : (x == x2) = false := by simpa using hx
              have d3 : decide (x = x2) = false := decide_eq_false hx
              clear hq
              go_wp2_with fail
              go_quiet (fail)
              go_wp2_with fail
              go_ret
              exact ⟨by rw [HNO.out]; rfl, below_drewN HB.out nq⟩
        · have hx : l = l2 := ext_nthR (by rw [HL.out, HL2.out]) (fun j hj => HT.out j (by rw [HL.out] at hj; omega))
          have HX := Lib.hid (show decide (l = l2) = true from decide_eq_true hx)
          clear hx
          go_wp2_with fail
          go_ret
          exact ⟨by rw [HX.out]; rfl, HB.out⟩
  · have hne : decide (l = l2) = false := decide_eq_false fun e => he (by rw [← HL.out, ← HL2.out, e])
    have d1 : ((n : Int) == (n2 : Int)) = false := by simp; omega
    have HNE := Lib.hid hne
    clear hne
    go_enter Tryz.func20, Tryz.ntmps20
    go_wp2_with fail
    go_ret
    exact ⟨by rw [HNE.out]; rfl, Below.refl _ _⟩
/-- How many points. -/
def sizeR : List Rg → Int
  | [] => 0
  | (a, b) :: t => (b - a + 1) + sizeR t
theorem sizeR_snoc : ∀ (l : List Rg) (a b : Int), sizeR (l ++ [(a, b)]) = sizeR l + (b - a + 1)
  | [], a, b => by simp [sizeR]
  | (x, y) :: t, a, b => by rw [List.cons_append, sizeR, sizeR, sizeR_snoc t a b]; omega
theorem CanF.take : ∀ {l : List Rg} {f : Int} (k : Nat), CanF f l → CanF f (l.take k)
  | [], f, k, h => by simpa using h
  | (a, b) :: t, f, 0, h => trivial
  | (a, b) :: t, f, k + 1, h => ⟨h.1, h.2.1, h.2.2.1, CanF.take k h.2.2.2⟩
theorem CanF.size : ∀ {l : List Rg} {f : Int}, CanF f l → 0 ≤ sizeR l ∧ (sizeR l = 0 ∨ sizeR l ≤ MP + 1 - f)
  | [], f, _ => ⟨Int.le_refl _, .inl rfl⟩
  | (a, b) :: t, f, h => by
    obtain ⟨h1, h2, h3, h4⟩ := h
    have := CanF.size h4
    unfold sizeR
    omega
theorem sizeR_take {l : List Rg} {k : Nat} (h : k < l.length) : sizeR (l.take (k + 1)) = sizeR (l.take k) + ((nthR l k).2 - (nthR l k).1 + 1) := by
  rw [List.take_succ_eq_append_getElem h, nthR_get h, ← sizeR_snoc]

end Go.Proofs.YtaachamblagbhaaGreatDoor
namespace Go.Proofs.YtaachamblagbhaaGreatDoor
open Go.RowKit BigFrame
set_option linter.unusedVariables false
set_option linter.unusedSimpArgs false
set_option maxRecDepth 100000

set_option maxHeartbeats 4000000 in
theorem counts_any (k : Int) (n : Nat) (w : World) (hn : n ≤ 9223372036854775807) :
    Calls Tryz.prog 25 #[.int .i64 k, .int .i64 (n : Int)] w fun e w' => e = .returned (.bool (cntOk k n)) ∧ w' = w := by
  by_cases k1 : k = 1
  · by_cases q : n = 0
    · have HE : Hid (cntOk k n = true) := Lib.hid (by unfold cntOk; subst k1; simp [q])
      subst q
      subst k1
      go_enter Tryz.func25, Tryz.ntmps25
      go_wp2_with fail
      go_ret
      exact ⟨ret_eq (by rw [HE.out]; rfl), rfl⟩
    · have HE : Hid (cntOk k n = false) := Lib.hid (by unfold cntOk; subst k1; simp [q])
      have c1 : ((n : Int) == 0) = false := by rw [beq_eq_false_iff_ne]; omega
      have c2 : ((n : Int) != 0) = true := by rw [bne_iff_ne]; omega
      subst k1
      go_enter Tryz.func25, Tryz.ntmps25
      go_wp2_with fail
      go_ret
      exact ⟨ret_eq (by rw [HE.out]; rfl), rfl⟩
  by_cases k2 : k = 2
  · by_cases q : n = 1
    · have HE : Hid (cntOk k n = false) := Lib.hid (by unfold cntOk; subst k2; simp [q])
      subst q
      subst k2
      go_enter Tryz.func25, Tryz.ntmps25
      go_wp2_with fail
      go_ret
      exact ⟨ret_eq (by rw [HE.out]; rfl), rfl⟩
    · have HE : Hid (cntOk k n = true) := Lib.hid (by unfold cntOk; subst k2; simp [q])
      have c1 : ((n : Int) == 1) = false := by rw [beq_eq_false_iff_ne]; omega
      have c2 : ((n : Int) != 1) = true := by rw [bne_iff_ne]; omega
      subst k2
      go_enter Tryz.func25, Tryz.ntmps25
      go_wp2_with fail
      go_ret
      exact ⟨ret_eq (by rw [HE.out]; rfl), rfl⟩
  by_cases k3 : k = 3
  · by_cases q : 2 ≤ n
    · have HE : Hid (cntOk k n = true) := Lib.hid (by unfold cntOk; subst k3; simp [q])
      have c1 : decide ((2 : Int) ≤ (n : Int)) = true := by simp; omega
      have c2 : decide (2 ≤ n) = true := by simp; omega
      subst k3
      go_enter Tryz.func25, Tryz.ntmps25
      go_wp2_with fail
      go_ret
      exact ⟨ret_eq (by rw [HE.out]; rfl), rfl⟩
    · have HE : Hid (cntOk k n = false) := Lib.hid (by unfold cntOk; subst k3; simp [q])
      have c1 : decide ((2 : Int) ≤ (n : Int)) = false := by simp; omega
      have c2 : decide (2 ≤ n) = false := by simp; omega
      subst k3
      go_enter Tryz.func25, Tryz.ntmps25
      go_wp2_with fail
      go_ret
      exact ⟨ret_eq (by rw [HE.out]; rfl), rfl⟩
  by_cases k4 : k = 4
  · by_cases q : 2 ≤ n
    · have HE : Hid (cntOk k n = true) := Lib.hid (by unfold cntOk; subst k4; simp [q])
      have c1 : decide ((2 : Int) ≤ (n : Int)) = true := by simp; omega
      have c2 : decide (2 ≤ n) = true := by simp; omega
      subst k4
      go_enter Tryz.func25, Tryz.ntmps25
      go_wp2_with fail
      go_ret
      exact ⟨ret_eq (by rw [HE.out]; rfl), rfl⟩
    · have HE : Hid (cntOk k n = false) := Lib.hid (by unfold cntOk; subst k4; simp [q])
      have c1 : decide ((2 : Int) ≤ (n : Int)) = false := by simp; omega
      have c2 : decide (2 ≤ n) = false := by simp; omega
      subst k4
      go_enter Tryz.func25, Tryz.ntmps25
      go_wp2_with fail
      go_ret
      exact ⟨ret_eq (by rw [HE.out]; rfl), rfl⟩
  by_cases k5 : k = 5
  · by_cases q : n = 1
    · have HE : Hid (cntOk k n = true) := Lib.hid (by unfold cntOk; subst k5; simp [q])
      subst q
      subst k5
      go_enter Tryz.func25, Tryz.ntmps25
      go_wp2_with fail
      go_ret
      exact ⟨ret_eq (by rw [HE.out]; rfl), rfl⟩
    · have HE : Hid (cntOk k n = false) := Lib.hid (by unfold cntOk; subst k5; simp [q])
      have c1 : ((n : Int) == 1) = false := by rw [beq_eq_false_iff_ne]; omega
      have c2 : ((n : Int) != 1) = true := by rw [bne_iff_ne]; omega
      subst k5
      go_enter Tryz.func25, Tryz.ntmps25
      go_wp2_with fail
      go_ret
      exact ⟨ret_eq (by rw [HE.out]; rfl), rfl⟩
  by_cases k6 : k = 6
  · by_cases q : n = 1
    · have HE : Hid (cntOk k n = true) := Lib.hid (by unfold cntOk; subst k6; simp [q])
      subst q
      subst k6
      go_enter Tryz.func25, Tryz.ntmps25
      go_wp2_with fail
      go_ret
      exact ⟨ret_eq (by rw [HE.out]; rfl), rfl⟩
    · have HE : Hid (cntOk k n = false) := Lib.hid (by unfold cntOk; subst k6; simp [q])
      have c1 : ((n : Int) == 1) = false := by rw [beq_eq_false_iff_ne]; omega
      have c2 : ((n : Int) != 1) = true := by rw [bne_iff_ne]; omega
      subst k6
      go_enter Tryz.func25, Tryz.ntmps25
      go_wp2_with fail
      go_ret
      exact ⟨ret_eq (by rw [HE.out]; rfl), rfl⟩
  have HE : Hid (cntOk k n = false) := Lib.hid (by unfold cntOk; simp [k1, k2, k3, k4, k5, k6])
  have c1 : (k == 1) = false := by rw [beq_eq_false_iff_ne]; exact k1
  have c2 : (k == 2) = false := by rw [beq_eq_false_iff_ne]; exact k2
  have c3 : (k == 3) = false := by rw [beq_eq_false_iff_ne]; exact k3
  have c4 : (k == 4) = false := by rw [beq_eq_false_iff_ne]; exact k4
  have c5 : (k == 5) = false := by rw [beq_eq_false_iff_ne]; exact k5
  have c6 : (k == 6) = false := by rw [beq_eq_false_iff_ne]; exact k6
  go_enter Tryz.func25, Tryz.ntmps25
  go_wp2_with fail
  go_ret
  exact ⟨ret_eq (by rw [HE.out]; rfl), rfl⟩

theorem dn_belowP (w : World) (d : Nat) : Below w.heap.size w (w.drewN d) := ⟨rfl, rfl, rfl, Nat.le_refl _, fun _ _ => rfl⟩
set_option maxHeartbeats 4000000 in
theorem equal_any (A A2 : Option Addr) (n c n2 c2 : Nat) (l l2 : List Rg) (w : World) (B B2 : Nat) (hr : RdG w B A l) (hl : l.length = n) (hn : n ≤ 100000) (hr2 : RdG w B2 A2 l2) (hl2 : l2.length = n2) (hn2 : n2 ≤ 100000) (hB : B ≤ w.heap.size) (hB2 : B2 ≤ w.heap.size) :
    Calls Tryz.prog 26 #[.slice A n c, .slice A2 n2 c2] w fun e w' => e = .returned (.bool (decide (l = l2))) ∧ Below w.heap.size w w' := by
  have HR := Lib.hid hr; have HL := Lib.hid hl; have HR2 := Lib.hid hr2; have HL2 := Lib.hid hl2
  clear hr hl hr2 hl2
  by_cases he : n = n2
  · subst he
    have d0 : ((n : Int) != (n : Int)) = false := by simp
    go_enter Tryz.func26, Tryz.ntmps26
    go_wp2_with fail
    go_loopw [13, 5] (fun i u wr => ∃ k : Nat, k ≤ n ∧ i = .int .i64 (k : Int) ∧ Hid (∀ j, j < k → nthR l j = nthR l2 j) ∧ Hid (Below w.heap.size w wr)) (fun i _ _ => n - (intOf i).toNat)
    case atStart => exact ⟨0, Nat.zero_le _, rfl, fun j h => absurd h (Nat.not_lt_zero _), Below.refl _ _⟩
    case round =>
      as_aux_lemma =>
        obtain ⟨k, hk, rfl, HE, HB⟩ := hrel
        by_cases hlt : k < n
        · as_aux_lemma =>
            obtain ⟨b, off, rfl, hb, hc⟩ := HR.out.at_ (by rw [HL.out]; omega)
            obtain ⟨b2, off2, rfl, hb2, hc2⟩ := HR2.out.at_ (by rw [HL2.out]; omega)
            obtain ⟨x1, x2⟩ := hc k (by rw [HL.out]; exact hlt)
            obtain ⟨y1, y2⟩ := hc2 k (by rw [HL2.out]; exact hlt)
            have z1 := (HB.out.cell (p := ⟨b, off + k * 2, none⟩) (show b < w.heap.size by omega)).trans x1
            have z2 := (HB.out.cell (p := ⟨b, off + k * 2 + 1, none⟩) (show b < w.heap.size by omega)).trans x2
            have z3 := (HB.out.cell (p := ⟨b2, off2 + k * 2, none⟩) (show b2 < w.heap.size by omega)).trans y1
            have z4 := (HB.out.cell (p := ⟨b2, off2 + k * 2 + 1, none⟩) (show b2 < w.heap.size by omega)).trans y2
            clear hc hc2 x1 x2 y1 y2
            obtain ⟨a1, ha1⟩ : ∃ a1, a1 = (nthR l k).1 := ⟨_, rfl⟩
            obtain ⟨a2, ha2⟩ : ∃ a2, a2 = (nthR l k).2 := ⟨_, rfl⟩
            obtain ⟨b1, hb1⟩ : ∃ b1, b1 = (nthR l2 k).1 := ⟨_, rfl⟩
            obtain ⟨b2', hb2'⟩ : ∃ b2, b2 = (nthR l2 k).2 := ⟨_, rfl⟩
            rw [← ha1] at z1
            rw [← ha2] at z2
            rw [← hb1] at z3
            rw [← hb2'] at z4
            have hiff : nthR l k = nthR l2 k ↔ (a1 = b1 ∧ a2 = b2') := by rw [ha1, ha2, hb1, hb2', Prod.ext_iff]
            have HI := Lib.hid hiff
            clear ha1 ha2 hb1 hb2' hiff
            have hsz := HB.out.size
            obtain ⟨wo, rfl⟩ : ∃ wo : World, wo = wr := ⟨_, rfl⟩
            by_cases h1 : a1 = b1
            · by_cases h2 : a2 = b2'
              · as_aux_lemma =>
                  subst h1 h2
                  have HN : Hid (∀ j, j < k + 1 → nthR l j = nthR l2 j) := Lib.hid (fun j hj => by
                    rcases Nat.lt_or_ge j k with q | q
                    · exact HE.out j q
                    · obtain rfl : j = k := by omega
                      exact HI.out.2 ⟨rfl, rfl⟩)
                  go_wp2_with fail
                  go_quiet (fail)
                  have HB2 := Lib.hid (HB.out.trans ((dn_belowP wo nq).mono hsz))
                  obtain ⟨w2, hw2⟩ : ∃ w2, w2 = wo.drewN nq := ⟨_, rfl⟩
                  rw [← hw2] at HB2 ⊢
                  clear hw2
                  go_wp2_with fail
                  go_roundw
                  case rel => exact ⟨k + 1, by omega, by go_num, HN, HB2⟩
                  case measure => simp [intOf]; omega
              · as_aux_lemma =>
                  subst h1
                  have HF : Hid (decide (l = l2) = false) := Lib.hid (decide_eq_false fun e => h2 ((HI.out.1 (by rw [e])).2))
                  go_wp2_with fail
                  go_quiet (fail)
                  have HB2 := Lib.hid (HB.out.trans ((dn_belowP wo nq).mono hsz))
                  go_wp2_with fail
                  go_ret
                  exact ⟨ret_eq (by rw [HF.out]; rfl), HB2.out⟩
            · as_aux_lemma =>
                have HF : Hid (decide (l = l2) = false) := Lib.hid (decide_eq_false fun e => h1 ((HI.out.1 (by rw [e])).1))
                go_wp2_with fail
                go_quiet (fail)
                have HB2 := Lib.hid (HB.out.trans ((dn_belowP wo nq).mono hsz))
                go_wp2_with fail
                go_ret
                exact ⟨ret_eq (by rw [HF.out]; rfl), HB2.out⟩
        · as_aux_lemma =>
            obtain rfl : k = n := by omega
            have HF : Hid (decide (l = l2) = true) := Lib.hid (decide_eq_true (ext_nthR (by rw [HL.out, HL2.out]) (fun j hj => HE.out j (by rw [HL.out] at hj; exact hj))))
            go_wp2_with fail
            go_ret
            exact ⟨ret_eq (by rw [HF.out]; rfl), HB.out⟩
  · have hne : decide (l = l2) = false := decide_eq_false fun e => he (by rw [← HL.out, ← HL2.out, e])
    have HE := Lib.hid hne
    have d0 : ((n : Int) != (n2 : Int)) = true := by rw [bne_iff_ne]; omega
    clear hne
    go_enter Tryz.func26, Tryz.ntmps26
    go_wp2_with fail
    go_ret
    exact ⟨ret_eq (by rw [HE.out]; rfl), Below.refl _ _⟩
end Go.Proofs.YtaachamblagbhaaGreatDoor
namespace Go.Proofs.YtaachamblagbhaaGreatDoor
open Go.RowKit BigFrame
set_option linter.unusedVariables false
set_option linter.unusedSimpArgs false
set_option maxRecDepth 100000

theorem ba_cat2 (a b : List UInt8) : (⟨a.toArray⟩ : ByteArray) ++ ⟨b.toArray⟩ = ⟨(a ++ b).toArray⟩ := by
  apply ByteArray.ext
  rw [ByteArray.data_append]
  simp
/-- What the table of the digits' signs holds, for base 16. -/
structure Tz (w : World) (B : Nat) : Prop where
  h : w.cell? ⟨11, 15, none⟩ = some (.int .u8 4)
  g : 11 < B
theorem Tz.below {w w' : World} {B : Nat} (h : Tz w B) (hb : Below B w w') : Tz w' B := ⟨(hb.cell (p := ⟨11, 15, none⟩) h.g).trans h.h, h.g⟩

set_option maxHeartbeats 4000000 in
theorem pointText_any (p : Int) (h0 : 0 ≤ p) (h1 : p ≤ MP) (w : World) (B : Nat) (hB : B ≤ w.heap.size) (ht : Tz w B) :
    Calls Tryz.prog 40 #[.int .i64 p] w fun e w' => e = .returned (bs (ptx p)) ∧ Below w.heap.size w w' := by
  unfold MP at h1
  by_cases hal : (48 ≤ p ∧ p ≤ 57) ∨ (65 ≤ p ∧ p ≤ 90) ∨ (97 ≤ p ∧ p ≤ 122)
  · have HE : Hid (ptx p = [p.toNat.toUInt8]) := Lib.hid (if_pos hal)
    have HU : Hid (Utf8.encode p = ⟨[p.toNat.toUInt8].toArray⟩) := Lib.hid (by
      have key : ∀ n : Nat, n < 123 → Utf8.encode (n : Int) = ⟨[n.toUInt8].toArray⟩ := by decide
      have := key p.toNat (by omega)
      rwa [show ((p.toNat : Nat) : Int) = p by omega] at this)
    clear ht
    by_cases c1 : 48 ≤ p ∧ p ≤ 57
    · as_aux_lemma =>
        obtain ⟨a1, a2⟩ := c1
        clear hal
        go_enter Tryz.func40, Tryz.ntmps40
        go_wp2_with fail
        go_ret
        exact ⟨ret_eq (by rw [HE.out]; show Value.string (Utf8.encode p) = _; rw [HU.out]; rfl), Below.refl _ _⟩
    · by_cases c2 : 65 ≤ p ∧ p ≤ 90
      · as_aux_lemma =>
          obtain ⟨a1, a2⟩ := c2
          have a3 : ¬ p ≤ 57 := by omega
          have a4 : 48 ≤ p := by omega
          clear hal c1
          go_enter Tryz.func40, Tryz.ntmps40
          go_wp2_with fail
          go_ret
          exact ⟨ret_eq (by rw [HE.out]; show Value.string (Utf8.encode p) = _; rw [HU.out]; rfl), Below.refl _ _⟩
      · as_aux_lemma =>
          have a1 : 97 ≤ p := by omega
          have a2 : p ≤ 122 := by omega
          have a3 : ¬ p ≤ 57 := by omega
          have a4 : ¬ p ≤ 90 := by omega
          have a5 : 48 ≤ p := by omega
          have a6 : 65 ≤ p := by omega
          clear hal c1 c2
          go_enter Tryz.func40, Tryz.ntmps40
          go_wp2_with fail
          go_ret
          exact ⟨ret_eq (by rw [HE.out]; show Value.string (Utf8.encode p) = _; rw [HU.out]; rfl), Below.refl _ _⟩
  · obtain ⟨u, rfl⟩ : ∃ u : Nat, p = (u : Int) := ⟨p.toNat, by omega⟩
    have HE : Hid (ptx (u : Int) = [92, 117, 123] ++ hexD u ++ [125]) := Lib.hid (by
      have : ptx (u : Int) = [92, 117, 123] ++ hexD (u : Int).toNat ++ [125] := if_neg hal
      rw [this, Int.toNat_natCast])
    have HF := Lib.hid (fmtInt_any u (by omega) w ht.h (by have := ht.g; omega))
    have hl := hexD_len 5 u (by omega)
    obtain ⟨l, hl0⟩ : ∃ l, l = hexD u := ⟨_, rfl⟩
    rw [← hl0] at HE HF hl
    have e1 : ¬ ((48 : Int) ≤ u ∧ (u : Int) ≤ 57) := fun q => hal (.inl q)
    have e2 : ¬ ((65 : Int) ≤ u ∧ (u : Int) ≤ 90) := fun q => hal (.inr (.inl q))
    have e3 : ¬ ((97 : Int) ≤ u ∧ (u : Int) ≤ 122) := fun q => hal (.inr (.inr q))
    obtain ⟨l1, l2⟩ := hl
    have hc1 : ¬ 9223372036854775807 < 3 + l.length := by omega
    have hc2 : ¬ 9223372036854775807 < 3 + l.length + 1 := by omega
    clear hal ht hl0
    by_cases c0 : u < 48
    · as_aux_lemma =>
        have a1 : ¬ (48 : Int) ≤ (u : Int) := by omega
        have a2 : ¬ (65 : Int) ≤ (u : Int) := by omega
        have a3 : ¬ (97 : Int) ≤ (u : Int) := by omega
        clear e1 e2 e3 c0
        go_enter Tryz.func40, Tryz.ntmps40
        go_wp2_with fail
        refine HF.out.mono ?_
        rintro e w1 ⟨rfl, hb1⟩
        have HB1 := Lib.hid hb1
        clear hb1
        go_wp2_with fail
        go_ret
        exact ⟨ret_eq (by rw [HE.out]; show Value.string _ = Value.string _; congr 1), HB1.out⟩
    by_cases c0 : u < 65
    · as_aux_lemma =>
        have a1 : (48 : Int) ≤ (u : Int) := by omega
        have a1b : ¬ (u : Int) ≤ 57 := by omega
        have a2 : ¬ (65 : Int) ≤ (u : Int) := by omega
        have a3 : ¬ (97 : Int) ≤ (u : Int) := by omega
        clear e1 e2 e3 c0
        go_enter Tryz.func40, Tryz.ntmps40
        go_wp2_with fail
        refine HF.out.mono ?_
        rintro e w1 ⟨rfl, hb1⟩
        have HB1 := Lib.hid hb1
        clear hb1
        go_wp2_with fail
        go_ret
        exact ⟨ret_eq (by rw [HE.out]; show Value.string _ = Value.string _; congr 1), HB1.out⟩
    by_cases c0 : u < 97
    · as_aux_lemma =>
        have a1 : (48 : Int) ≤ (u : Int) := by omega
        have a1b : ¬ (u : Int) ≤ 57 := by omega
        have a2 : (65 : Int) ≤ (u : Int) := by omega
        have a2b : ¬ (u : Int) ≤ 90 := by omega
        have a3 : ¬ (97 : Int) ≤ (u : Int) := by omega
        clear e1 e2 e3 c0
        go_enter Tryz.func40, Tryz.ntmps40
        go_wp2_with fail
        refine HF.out.mono ?_
        rintro e w1 ⟨rfl, hb1⟩
        have HB1 := Lib.hid hb1
        clear hb1
        go_wp2_with fail
        go_ret
        exact ⟨ret_eq (by rw [HE.out]; show Value.string _ = Value.string _; congr 1), HB1.out⟩
    · as_aux_lemma =>
        have a1 : (48 : Int) ≤ (u : Int) := by omega
        have a1b : ¬ (u : Int) ≤ 57 := by omega
        have a2 : (65 : Int) ≤ (u : Int) := by omega
        have a2b : ¬ (u : Int) ≤ 90 := by omega
        have a3 : (97 : Int) ≤ (u : Int) := by omega
        have a3b : ¬ (u : Int) ≤ 122 := by omega
        clear e1 e2 e3
        go_enter Tryz.func40, Tryz.ntmps40
        go_wp2_with fail
        refine HF.out.mono ?_
        rintro e w1 ⟨rfl, hb1⟩
        have HB1 := Lib.hid hb1
        clear hb1
        go_wp2_with fail
        go_ret
        exact ⟨ret_eq (by rw [HE.out]; show Value.string _ = Value.string _; congr 1), HB1.out⟩
end Go.Proofs.YtaachamblagbhaaGreatDoor
