/- The program's sets: Has. · The program's sets: Meet, Less. · Classes sorted by their first points: slices.SortFunc's contract at points.Classes' call. -/
import Derived.Test.YtkcpfpofimkkiaaGreatDoorQ23
import Derived.Test.YtkcpfpofimkkiaaGreatDoorQ11
import Derived.Shelf.SlSortCmp.Whole1
namespace Go.Proofs.YtkcpfpofimkkiaaGreatDoor
open Go.RowKit BigFrame
set_option linter.unusedVariables false
set_option linter.unusedSimpArgs false
set_option maxRecDepth 100000

end Go.Proofs.YtkcpfpofimkkiaaGreatDoor
namespace Go.Proofs.YtkcpfpofimkkiaaGreatDoor
open Go.RowKit BigFrame
set_option linter.unusedVariables false
set_option linter.unusedSimpArgs false
set_option maxRecDepth 100000

def lenV : Value → Nat
  | .slice _ n _ => n
  | _ => 0
theorem RdG.tail {w : World} {B : Nat} {b off : Nat} {r : Rg} {t : List Rg} (h : RdG w B (some ⟨b, off, none⟩) (r :: t)) : RdG w B (some ⟨b, off + 2, none⟩) t := fun hne => by
  obtain ⟨b2, o2, e, hb, hc⟩ := h (by intro q; have := rv_len (r :: t); rw [q] at this; simp at this)
  cases e
  refine ⟨b, off + 2, rfl, hb, fun j u hu => ?_⟩
  have e : rv (r :: t) = .int .i64 r.1 :: .int .i64 r.2 :: rv t := rfl
  have := hc (j + 2) u (by rw [e]; simpa using hu)
  rw [show off + 2 + j = off + (j + 2) by omega]
  exact this

set_option maxHeartbeats 4000000 in
theorem meet_any (A A2 : Option Addr) (n c n2 c2 : Nat) (l l2 : List Rg) (w : World) (B B2 : Nat) (hB : B ≤ w.heap.size) (hB2 : B2 ≤ w.heap.size) (hr : RdG w B A l) (hl : l.length = n) (hn : n ≤ 350) (hr2 : RdG w B2 A2 l2) (hl2 : l2.length = n2) (hn2 : n2 ≤ 200) :
    Calls Tryz.prog 46 #[.slice A n c, .slice A2 n2 c2] w fun e w' => ∃ v out, e = .returned v ∧ OwG w' w.heap.size v out ∧ IsCan out (fun p => inR l p && inR l2 p) ∧ Below w.heap.size w w' ∧ out.length ≤ n + n2 := by
  have HC1 := Lib.hid (canon_any A n c l w B hB hr hl (by omega))
  have HR2 := Lib.hid hr2; have HL2 := Lib.hid hl2
  clear hr hl hr2 hl2
  go_enter Tryz.func46, Tryz.ntmps46
  go_wp2_with fail
  refine HC1.out.mono ?_
  rintro e w1 ⟨v1, d1, rfl, o1, k1, b1, l1⟩
  clear HC1
  have HC2 := Lib.hid (canon_any A2 n2 c2 l2 w1 B2 (by have := b1.size; omega) (HR2.out.below (b1.mono hB2)) HL2.out (by omega))
  obtain ⟨A1, e1, rfl, p1, p2, p3⟩ := o1.form
  have HD1 := Lib.hid p3; have HB1 := Lib.hid b1; have HK1 := Lib.hid k1; have HL1 := Lib.hid l1
  clear o1 k1 b1 l1 p3
  go_wp2_with fail
  refine HC2.out.mono ?_
  rintro e w2 ⟨v2, d2, rfl, o2, k2, b2, l2'⟩
  clear HC2
  obtain ⟨A3, e3, rfl, p4, p5, p6⟩ := o2.form
  have HD2 := Lib.hid p6; have HB2 := Lib.hid (HB1.out.trans (b2.mono HB1.out.size)); have HK2 := Lib.hid k2; have HL2' := Lib.hid l2'
  have HD1' := Lib.hid ((HD1.out.below b2).more b2.size)
  have HST := Lib.hid (MtI.start HK1.out.can HK2.out.can)
  have q1 := HL1.out
  clear o2 k2 b2 l2' p6 HD1
  unfold maxLen at p2 p5
  have HBND : Hid (d1.length + d2.length ≤ n + n2) := Lib.hid (by have := HL1.out; have := HL2'.out; omega)
  go_wp2_with fail
  go_loopw [0, 1, 5] (fun va vb vo wr => ∃ (a b out : List Rg) (X Y : Option Addr) (cx cy : Nat), va = .slice X a.length cx ∧ vb = .slice Y b.length cy ∧ a.length ≤ cx ∧ b.length ≤ cy ∧ cx ≤ 9223372036854775807 ∧ cy ≤ 9223372036854775807 ∧ Hid (RdG wr w2.heap.size X a) ∧ Hid (RdG wr w2.heap.size Y b) ∧ Hid (MtI d1 d2 a b out) ∧ Hid (OwG wr w2.heap.size vo out) ∧ Hid (out.length + a.length + b.length ≤ n + n2) ∧ Hid (Below w2.heap.size w2 wr)) (fun va vb _ _ => lenV va + lenV vb)
  case atStart => exact ⟨d1, d2, [], A1, A3, e1, e3, rfl, rfl, p1, p4, by omega, by omega, HD1'.out, HD2.out, HST.out, OwG.nil _ _, by have := HBND.out; show 0 + d1.length + d2.length ≤ n + n2; omega, Below.refl _ _⟩
  case round =>
    as_aux_lemma =>
      clear HD1' HD2 HST
      obtain ⟨a, b, out, X, Y, cx, cy, rfl, rfl, ha, hb, hcx, hcy, HX, HY, HM, HO, HN, HB⟩ := hrel
      have hsz := HB.out.size
      cases a with
      | nil =>
        as_aux_lemma =>
          have hdn := HM.out.done (.inl rfl) HK1.out HK2.out
          have HDN := Lib.hid hdn
          have HBW := Lib.hid (HB2.out.trans (HB.out.mono HB2.out.size))
          have HLN : Hid (out.length ≤ n + n2) := Lib.hid (by have := HN.out; omega)
          clear hdn
          simp only [List.length_nil] at *
          go_wp2_with fail
          go_ret
          exact ⟨_, out, rfl, HO.out.base HB2.out.size, HDN.out, HBW.out, HLN.out⟩
      | cons x a =>
        cases b with
        | nil =>
          as_aux_lemma =>
            have hdn := HM.out.done (.inr rfl) HK1.out HK2.out
            have HDN := Lib.hid hdn
            have HBW := Lib.hid (HB2.out.trans (HB.out.mono HB2.out.size))
            have HLN : Hid (out.length ≤ n + n2) := Lib.hid (by have := HN.out; omega)
            clear hdn
            simp only [List.length_nil, List.length_cons] at *
            go_wp2_with fail
            go_ret
            exact ⟨_, out, rfl, HO.out.base HB2.out.size, HDN.out, HBW.out, HLN.out⟩
        | cons y b =>
          as_aux_lemma =>
            obtain ⟨xb, xo, rfl, hxb, hxc⟩ := HX.out.at_ (by simp)
            obtain ⟨yb, yo, rfl, hyb, hyc⟩ := HY.out.at_ (by simp)
            obtain ⟨z1, z2⟩ := hxc 0 (by simp)
            obtain ⟨z3, z4⟩ := hyc 0 (by simp)
            obtain ⟨x1, x2⟩ := x
            obtain ⟨y1, y2⟩ := y
            have hst := HM.out.step
            have HST := Lib.hid hst
            have HXT := Lib.hid HX.out.tail; have HYT := Lib.hid HY.out.tail
            have HO1 := Lib.hid (HO.out.ext (w' := wr.drew) ⟨rfl, rfl, rfl, Nat.le_refl _, fun _ _ => rfl⟩)
            have HB3 := Lib.hid HB.out.drew
            clear hxc hyc hst
            simp only [nthR, List.getD_cons_zero, Nat.zero_mul, Nat.add_zero] at z1 z2 z3 z4
            simp only [List.length_cons] at *
            go_wp2_with fail
            go_region
            have HBR0 : Hid (Below w2.heap.size wr wr.drew) := Lib.hid (Below.refl _ wr).drew
            have hn4 : out.length ≤ 600 := by have := HN.out; omega
            generalize wr.drew = wd at *
            by_cases hmet : max x1 y1 ≤ min x2 y2
            · as_aux_lemma =>
                have d1' : decide (max x1 y1 ≤ min x2 y2) = true := decide_eq_true hmet
                have HMO : Hid (metOut out (x1, x2) (y1, y2) = out ++ [(max x1 y1, min x2 y2)]) := Lib.hid (if_pos hmet)
                go_wp2_with (first
                  | (at_builtin; refine wpList_app elRg rfl (.tmp 41) (.tmp 45) rfl w2.heap.size _ out.length 1 (rv out) [.int .i64 (max x1 y1), .int .i64 (min x2 y2)] rfl HO1.out rfl rfl (by simp [Value.oneCell']) (by omega) (by omega) HB3.out.size ?_; intro v5 w5 hown5 hg5 hat5; have HO5 := Lib.hid (OwG.snoc hown5 rfl); have HB5 := Lib.hid (HB3.out.grown hg5 HB3.out.size (fun k e => own_base HO1.out k e)); have HBR := Lib.hid ((HBR0.out).grown hg5 HB3.out.size (fun k e => own_base HO1.out k e)); have t2 := (HBR.out.cell (p := ⟨xb, xo + 1, none⟩) hxb).trans z2; have t4 := (HBR.out.cell (p := ⟨yb, yo + 1, none⟩) hyb).trans z4; clear hown5 hg5 hat5))
                have HN5 : Hid ((out ++ [(max x1 y1, min x2 y2)]).length ≤ out.length + 1) := Lib.hid (by rw [List.length_append]; exact Nat.le_refl _)
                clear hmet z1 z2 z3 z4 HO1 HB3 HBR0
                by_cases hlt : x2 < y2
                · as_aux_lemma =>
                    have d2 : decide (x2 < y2) = true := decide_eq_true hlt
                    have HM2 := Lib.hid (HST.out.1 hlt)
                    rw [HMO.out] at HM2
                    clear HST HMO hlt
                    by_cases hcap : cx = 1
                    · subst hcap
                      obtain rfl : a = [] := List.eq_nil_of_length_eq_zero (by omega)
                      simp only [List.length_nil, Nat.zero_add] at *
                      have HN6 : Hid ((out ++ [(max x1 y1, min x2 y2)]).length + ([] : List Rg).length + ((y1, y2) :: b).length ≤ n + n2) := Lib.hid (by have h1 := HN.out; have h2 := HN5.out; simp only [List.length_cons, List.length_nil] at h1 h2 ⊢; omega)
                      go_wp2_with fail
                      go_quiet (fail)
                      go_wp2_with fail
                      go_roundw
                      case rel => exact ⟨[], (y1, y2) :: b, (out ++ [(max x1 y1, min x2 y2)]), some ⟨xb, xo, none⟩, some ⟨yb, yo, none⟩, 0, cy, by first | rfl | simp, by first | rfl | simp, by first | omega | simp, by first | omega | simp, by omega, by omega, Rd.nil _ _ _, HY.out.below (below_drewN HBR.out nq), HM2.out, HO5.out.ext (below_drewN (Below.refl _ _) nq), HN6.out, below_drewN HB5.out nq⟩
                      case measure => simp [lenV] <;> omega
                    ·
                      have HN6 : Hid ((out ++ [(max x1 y1, min x2 y2)]).length + a.length + ((y1, y2) :: b).length ≤ n + n2) := Lib.hid (by have h1 := HN.out; have h2 := HN5.out; simp only [List.length_cons, List.length_nil] at h1 h2 ⊢; omega)
                      go_wp2_with fail
                      go_quiet (fail)
                      go_wp2_with fail
                      go_roundw
                      case rel => exact ⟨a, (y1, y2) :: b, (out ++ [(max x1 y1, min x2 y2)]), some ⟨xb, xo + 2, none⟩, some ⟨yb, yo, none⟩, (cx - 1), cy, by first | rfl | simp, by first | rfl | simp, by first | omega | simp, by first | omega | simp, by omega, by omega, HXT.out.below (below_drewN HBR.out nq), HY.out.below (below_drewN HBR.out nq), HM2.out, HO5.out.ext (below_drewN (Below.refl _ _) nq), HN6.out, below_drewN HB5.out nq⟩
                      case measure => simp [lenV] <;> omega
                · as_aux_lemma =>
                    have d2 : decide (x2 < y2) = false := decide_eq_false hlt
                    have HM2 := Lib.hid (HST.out.2 (by omega))
                    rw [HMO.out] at HM2
                    clear HST HMO hlt
                    by_cases hcap : cy = 1
                    · subst hcap
                      obtain rfl : b = [] := List.eq_nil_of_length_eq_zero (by omega)
                      simp only [List.length_nil, Nat.zero_add] at *
                      have HN6 : Hid ((out ++ [(max x1 y1, min x2 y2)]).length + ((x1, x2) :: a).length + ([] : List Rg).length ≤ n + n2) := Lib.hid (by have h1 := HN.out; have h2 := HN5.out; simp only [List.length_cons, List.length_nil] at h1 h2 ⊢; omega)
                      go_wp2_with fail
                      go_quiet (fail)
                      go_wp2_with fail
                      go_roundw
                      case rel => exact ⟨(x1, x2) :: a, [], (out ++ [(max x1 y1, min x2 y2)]), some ⟨xb, xo, none⟩, some ⟨yb, yo, none⟩, cx, 0, by first | rfl | simp, by first | rfl | simp, by first | omega | simp, by first | omega | simp, by omega, by omega, HX.out.below (below_drewN HBR.out nq), Rd.nil _ _ _, HM2.out, HO5.out.ext (below_drewN (Below.refl _ _) nq), HN6.out, below_drewN HB5.out nq⟩
                      case measure => simp [lenV] <;> omega
                    ·
                      have HN6 : Hid ((out ++ [(max x1 y1, min x2 y2)]).length + ((x1, x2) :: a).length + b.length ≤ n + n2) := Lib.hid (by have h1 := HN.out; have h2 := HN5.out; simp only [List.length_cons, List.length_nil] at h1 h2 ⊢; omega)
                      go_wp2_with fail
                      go_quiet (fail)
                      go_wp2_with fail
                      go_roundw
                      case rel => exact ⟨(x1, x2) :: a, b, (out ++ [(max x1 y1, min x2 y2)]), some ⟨xb, xo, none⟩, some ⟨yb, yo + 2, none⟩, cx, (cy - 1), by first | rfl | simp, by first | rfl | simp, by first | omega | simp, by first | omega | simp, by omega, by omega, HX.out.below (below_drewN HBR.out nq), HYT.out.below (below_drewN HBR.out nq), HM2.out, HO5.out.ext (below_drewN (Below.refl _ _) nq), HN6.out, below_drewN HB5.out nq⟩
                      case measure => simp [lenV] <;> omega
            · as_aux_lemma =>
                have d1' : decide (max x1 y1 ≤ min x2 y2) = false := decide_eq_false hmet
                have HMO : Hid (metOut out (x1, x2) (y1, y2) = out) := Lib.hid (if_neg hmet)
                have HO5 := HO1; have HB5 := HB3; have HBR := HBR0
                have t2 := (HBR.out.cell (p := ⟨xb, xo + 1, none⟩) hxb).trans z2; have t4 := (HBR.out.cell (p := ⟨yb, yo + 1, none⟩) hyb).trans z4
                have HN5 : Hid (out.length ≤ out.length + 1) := Lib.hid (by omega)
                clear hmet z1 z2 z3 z4 HO1 HB3 HBR0
                by_cases hlt : x2 < y2
                · as_aux_lemma =>
                    have d2 : decide (x2 < y2) = true := decide_eq_true hlt
                    have HM2 := Lib.hid (HST.out.1 hlt)
                    rw [HMO.out] at HM2
                    clear HST HMO hlt
                    by_cases hcap : cx = 1
                    · subst hcap
                      obtain rfl : a = [] := List.eq_nil_of_length_eq_zero (by omega)
                      simp only [List.length_nil, Nat.zero_add] at *
                      have HN6 : Hid (out.length + ([] : List Rg).length + ((y1, y2) :: b).length ≤ n + n2) := Lib.hid (by have h1 := HN.out; have h2 := HN5.out; simp only [List.length_cons, List.length_nil] at h1 h2 ⊢; omega)
                      go_wp2_with fail
                      go_quiet (fail)
                      go_wp2_with fail
                      go_roundw
                      case rel => exact ⟨[], (y1, y2) :: b, out, some ⟨xb, xo, none⟩, some ⟨yb, yo, none⟩, 0, cy, by first | rfl | simp, by first | rfl | simp, by first | omega | simp, by first | omega | simp, by omega, by omega, Rd.nil _ _ _, HY.out.below (below_drewN HBR.out nq), HM2.out, HO5.out.ext (below_drewN (Below.refl _ _) nq), HN6.out, below_drewN HB5.out nq⟩
                      case measure => simp [lenV] <;> omega
                    ·
                      have HN6 : Hid (out.length + a.length + ((y1, y2) :: b).length ≤ n + n2) := Lib.hid (by have h1 := HN.out; have h2 := HN5.out; simp only [List.length_cons, List.length_nil] at h1 h2 ⊢; omega)
                      go_wp2_with fail
                      go_quiet (fail)
                      go_wp2_with fail
                      go_roundw
                      case rel => exact ⟨a, (y1, y2) :: b, out, some ⟨xb, xo + 2, none⟩, some ⟨yb, yo, none⟩, (cx - 1), cy, by first | rfl | simp, by first | rfl | simp, by first | omega | simp, by first | omega | simp, by omega, by omega, HXT.out.below (below_drewN HBR.out nq), HY.out.below (below_drewN HBR.out nq), HM2.out, HO5.out.ext (below_drewN (Below.refl _ _) nq), HN6.out, below_drewN HB5.out nq⟩
                      case measure => simp [lenV] <;> omega
                · as_aux_lemma =>
                    have d2 : decide (x2 < y2) = false := decide_eq_false hlt
                    have HM2 := Lib.hid (HST.out.2 (by omega))
                    rw [HMO.out] at HM2
                    clear HST HMO hlt
                    by_cases hcap : cy = 1
                    · subst hcap
                      obtain rfl : b = [] := List.eq_nil_of_length_eq_zero (by omega)
                      simp only [List.length_nil, Nat.zero_add] at *
                      have HN6 : Hid (out.length + ((x1, x2) :: a).length + ([] : List Rg).length ≤ n + n2) := Lib.hid (by have h1 := HN.out; have h2 := HN5.out; simp only [List.length_cons, List.length_nil] at h1 h2 ⊢; omega)
                      go_wp2_with fail
                      go_quiet (fail)
                      go_wp2_with fail
                      go_roundw
                      case rel => exact ⟨(x1, x2) :: a, [], out, some ⟨xb, xo, none⟩, some ⟨yb, yo, none⟩, cx, 0, by first | rfl | simp, by first | rfl | simp, by first | omega | simp, by first | omega | simp, by omega, by omega, HX.out.below (below_drewN HBR.out nq), Rd.nil _ _ _, HM2.out, HO5.out.ext (below_drewN (Below.refl _ _) nq), HN6.out, below_drewN HB5.out nq⟩
                      case measure => simp [lenV] <;> omega
                    ·
                      have HN6 : Hid (out.length + ((x1, x2) :: a).length + b.length ≤ n + n2) := Lib.hid (by have h1 := HN.out; have h2 := HN5.out; simp only [List.length_cons, List.length_nil] at h1 h2 ⊢; omega)
                      go_wp2_with fail
                      go_quiet (fail)
                      go_wp2_with fail
                      go_roundw
                      case rel => exact ⟨(x1, x2) :: a, b, out, some ⟨xb, xo, none⟩, some ⟨yb, yo + 2, none⟩, cx, (cy - 1), by first | rfl | simp, by first | rfl | simp, by first | omega | simp, by first | omega | simp, by omega, by omega, HX.out.below (below_drewN HBR.out nq), HYT.out.below (below_drewN HBR.out nq), HM2.out, HO5.out.ext (below_drewN (Below.refl _ _) nq), HN6.out, below_drewN HB5.out nq⟩
                      case measure => simp [lenV] <;> omega

theorem less_any (A A2 : Option Addr) (n c n2 c2 : Nat) (l l2 : List Rg) (w : World) (B : Nat) (hB : B ≤ w.heap.size) (hr : RdG w B A l) (hl : l.length = n) (hn : n ≤ 350) (hr2 : RdG w B A2 l2) (hl2 : l2.length = n2) (hn2 : n2 ≤ 100) :
    Calls Tryz.prog 47 #[.slice A n c, .slice A2 n2 c2] w fun e w' => ∃ v out, e = .returned v ∧ OwG w' w.heap.size v out ∧ IsCan out (fun p => inR l p && !inR l2 p) ∧ Below w.heap.size w w' ∧ out.length ≤ n + n2 + 1 := by
  have HO := Lib.hid (other_any A2 n2 c2 l2 w B hB hr2 hl2 (by omega))
  have HR := Lib.hid hr; have HL := Lib.hid hl
  clear hr hl hr2 hl2
  go_enter Tryz.func47, Tryz.ntmps47
  go_wp2_with fail
  refine HO.out.mono ?_
  rintro e w1 ⟨v1, d1, rfl, o1, k1, b1, l1⟩
  clear HO
  obtain ⟨A1, e1, rfl, p1, p2, p3⟩ := o1.form
  have HM := Lib.hid (meet_any A A1 n c d1.length e1 l d1 w1 B w1.heap.size (by have := b1.size; omega) (Nat.le_refl _) (HR.out.below (b1.mono hB)) HL.out (by omega) p3 rfl (by omega))
  have HB1 := Lib.hid b1; have HK1 := Lib.hid k1; have HL1 := Lib.hid l1
  clear o1 k1 b1 l1 p1 p2 p3 HR HL
  go_wp2_with fail
  refine HM.out.mono ?_
  rintro e w2 ⟨v, out, rfl, h1, h2, h3, h4⟩
  have h5 : IsCan out (fun p => inR l p && !inR l2 p) := h2.congr fun p => by
    have e := HK1.out.inR p
    have hi : inR l p = (isPt p && inR l p) := by unfold inR; cases isPt p <;> simp
    rw [e]
    cases hp : isPt p
    · rw [hi, hp]; simp
    · simp
  have H1 := Lib.hid (h1.base HB1.out.size); have H2 := Lib.hid h5; have H3 := Lib.hid (HB1.out.trans (h3.mono HB1.out.size)); have H4 := Lib.hid (show out.length ≤ n + n2 + 1 by have := HL1.out; omega)
  clear h1 h2 h3 h4 h5
  go_wp2_with fail
  go_ret
  exact ⟨v, out, rfl, H1.out, H2.out, H3.out, H4.out⟩
end Go.Proofs.YtkcpfpofimkkiaaGreatDoor
namespace Go.Proofs.YtkcpfpofimkkiaaGreatDoor
open Go.RowKit BigFrame Go.Sort Go.Shelf
set_option linter.unusedVariables false
set_option linter.unusedSimpArgs false
set_option maxRecDepth 100000

theorem sortRowsL : Go.Proofs.SlLaysF.n6 Tryz.prog sortRows_ren := { sortRows with a24 := Tryz.isAgg36, z24 := Tryz.sizeOf36 }
/-- A row that reads its ranges in a block of its own. -/
def okR (w : World) (blk : Nat) (p : Value × List Rg) : Prop :=
  ∃ b c, p.1 = .slice (some ⟨b, 0, none⟩) p.2.length c ∧ b ≠ blk ∧ b < w.heap.size ∧ RdG w w.heap.size (some ⟨b, 0, none⟩) p.2 ∧ 0 < p.2.length ∧ 0 ≤ fstR p.2 ∧ fstR p.2 ≤ 1114111
abbrev RowR (w : World) (blk : Nat) := {p : Value × List Rg // okR w blk p}
def cfR {w : World} {blk : Nat} (x y : RowR w blk) : Int := fstR x.1.2 - fstR y.1.2
def encR {w : World} {blk : Nat} (x : RowR w blk) : Value := x.1.1
section
variable {w : World} {blk : Nat}
theorem ltR (x y : RowR w blk) : ltOf cfR x y = decide (fstR x.1.2 < fstR y.1.2) := by
  unfold ltOf cfR
  rw [decide_eq_decide]; omega
theorem swoR : SWO (ltOf (cfR (w := w) (blk := blk))) where
  irrefl x := by rw [ltR]; simp
  trans x y z h1 h2 := by rw [ltR] at *; simp at *; omega
  ntrans x y z h1 h2 := by rw [ltR] at *; simp at *; omega
theorem oneR : Go.Proofs.OneCell (encR (w := w) (blk := blk)) := fun x => by
  obtain ⟨p, b, c, e, _⟩ := x
  show p.1.oneCell' = true
  rw [e]; rfl
theorem cmpR [Inhabited (RowR w blk)] (off size : Nat) : Go.Proofs.CmpLays1 Tryz.prog 49 #[] (encR (w := w) (blk := blk)) cfR blk off size w := fun m os dk _ x y => by
  obtain ⟨⟨v, l⟩, b, c, e, hne, hb, hr, h0, hl1, hl2⟩ := x
  obtain ⟨⟨v2, l2⟩, b2, c2, e2, hne2, hb2, hr2, h02, hl3, hl4⟩ := y
  simp only at e e2 hr hr2 h0 h02 hl1 hl2 hl3 hl4
  subst e
  subst e2
  have hsz : (putRow encR (Sort.ahead w m) blk off dk).heap.size = w.heap.size := by simp [putRow, mapBlock, Sort.ahead]
  have hc : ∀ (a : Addr), a.block ≠ blk → a.block < w.heap.size → (sortWorld encR w blk off m dk os).cell? a = w.cell? a := fun a h1 h2 => by
    unfold sortWorld
    rw [cell?_grow _ _ _ (by rw [hsz]; exact h2), cell?_putRow_other _ _ _ _ _ _ (.inl h1)]
    rfl
  have tr : ∀ {bb : Nat} {ll : List Rg}, bb ≠ blk → bb < w.heap.size → RdG w w.heap.size (some ⟨bb, 0, none⟩) ll → RdG (sortWorld encR w blk off m dk os) w.heap.size (some ⟨bb, 0, none⟩) ll := fun {bb ll} q1 q2 h hne => by
    obtain ⟨b3, o3, e3, hb3, hc3⟩ := h hne
    cases e3
    exact ⟨bb, 0, rfl, hb3, fun j u hu => (hc ⟨bb, 0 + j, none⟩ q1 q2).trans (hc3 j u hu)⟩
  refine (classes1_any (some ⟨b, 0, none⟩) (some ⟨b2, 0, none⟩) l.length c l2.length c2 l l2 _ w.heap.size w.heap.size (tr hne hb hr) (tr hne2 hb2 hr2) rfl rfl h0 h02 ⟨hl1, hl2⟩ ⟨hl3, hl4⟩).mono ?_
  rintro e w' ⟨rfl, q, rfl⟩
  exact ⟨rfl, q, #[], (grow_empty _).symm⟩
end
theorem rowsR {w : World} {blk : Nat} : ∀ (vs : List Value) (R : List (List Rg)), vs.length = R.length → (∀ k u, vs[k]? = some u → okR w blk (u, nthS R k)) → ∃ L : List (RowR w blk), L.map encR = vs ∧ L.map (fun x => x.1.2) = R
  | [], [], _, _ => ⟨[], rfl, rfl⟩
  | [], _ :: _, h, _ => by simp at h
  | _ :: _, [], h, _ => by simp at h
  | u :: vs, c :: R, h, hk => by
    obtain ⟨L, h1, h2⟩ := rowsR vs R (by simpa using h) (fun k u hu => hk (k + 1) u (by simpa using hu))
    exact ⟨⟨(u, c), hk 0 u rfl⟩ :: L, by rw [List.map_cons, h1]; rfl, by rw [List.map_cons, h2]⟩

theorem sortRows_any (base : Nat) (v : Value) (vs : List Value) (R : List (List Rg)) (w : World) (h : ClV w base v vs R) (h0 : 0 < R.length) (hn : R.length ≤ 100000)
    (hb : ∀ c ∈ R, 0 < c.length ∧ 0 ≤ fstR c ∧ fstR c ≤ 1114111) :
    Calls Tryz.prog 48 #[v, .func (.func 49) #[] #[]] w fun e w' => e = .returned (.tuple #[]) ∧ ∃ vs' R', R'.Perm R ∧ R'.Pairwise (fun a b => fstR a ≤ fstR b) ∧ Below base w w' ∧
      w'.ownsRow base 36 1 v R'.length vs' ∧ vs'.length = R'.length ∧ (∀ k u, vs'[k]? = some u → ∃ A c, u = .slice A (nthS R' k).length c ∧ RdG w' w'.heap.size A (nthS R' k)) := by
  rcases h.row.2 with ⟨_, q⟩ | ⟨g, cap, cur, rfl, hbb, hg, hnc, hc, hs, ht⟩
  · omega
  · have hgs : g < w.heap.size := (Array.getElem?_eq_some_iff.1 hg).1
    obtain ⟨L, hL1, hL2⟩ := rowsR (w := w) (blk := g) vs R h.l (fun k u hu => by
      have hk : k < R.length := by rw [← h.l]; exact (List.getElem?_eq_some_iff.1 hu).1
      obtain ⟨q1, q2, q3⟩ := hb _ (nthS_mem hk)
      obtain ⟨b, c, e, e2, _, q4, _, _, _⟩ := (h.cl k u hu).blk q1
      obtain ⟨A, c', e3, _, _, q5⟩ := (h.cl k u hu).form
      rw [e] at e3
      simp only [Value.slice.injEq] at e3
      obtain ⟨rfl, _, rfl⟩ := e3
      exact ⟨b, c, e, fun z => h.ro k u b hu e2 (by rw [z]; rfl), q4, q5, q1, q2, q3⟩)
    have hlen : L.length = R.length := by rw [← hL2, List.length_map]
    have hin : Inhabited (RowR w g) := by
      cases L with
      | nil => simp at hlen; omega
      | cons x L => exact ⟨x⟩
    have hH : Holds (encR (w := w) (blk := g)) w g 0 L.toArray := fun j hj => by
      have hj2 : j < L.length := by simpa using hj
      refine ⟨?_, by simp [World.frozen?, hg]⟩
      have hv : vs[j]? = some (encR L[j]) := by rw [← hL1, List.getElem?_map, List.getElem?_eq_getElem hj2]; rfl
      rw [cell_of_row w g (0 + j) cur 36 (0, 0) hg, Nat.zero_add, ← Array.getElem?_toList]
      rw [← ht, List.getElem?_take] at hv
      split at hv
      · rw [hv]; simp [hj2]
      · cases hv
    have eg : ∀ args w, (callFunc 49 args).run Tryz.prog w = .ok (.enter 49 args) w := enters_of Tryz.func49 (by kernel_rfl) rfl
    have hcon := Go.Proofs.Any.slices_SortFunc sortRowsL encR oneR cfR swoR 49 #[] g 0 cap L.toArray w eg (cmpR 0 L.toArray.size) hH hgs (by rw [List.size_toArray, hlen]; omega)
    change Calls Tryz.prog 48 _ _ _ at hcon
    rw [List.size_toArray, hlen] at hcon
    refine hcon.mono ?_
    rintro e w' ⟨rfl, d', n, os, ⟨hp1, _, hp2⟩, hsd, rfl⟩
    have hds : d'.size = R.length := by rw [hp1, List.size_toArray, hlen]
    have he1 : d'.extract 0 R.length = d' := by rw [← hds]; exact Array.extract_size
    have he2 : L.toArray.extract 0 R.length = L.toArray := by
      have e : L.toArray.size = R.length := by rw [List.size_toArray, hlen]
      rw [← e]; exact Array.extract_size
    rw [he1, he2] at hp2
    have hp3 : (d'.toList.map (fun x => x.1.2)).Perm R := by
      have := hp2.map (fun x : RowR w g => x.1.2)
      rwa [List.toList_toArray, hL2] at this
    have hll : (d'.toList.map (fun x : RowR w g => x.1.2)).length = R.length := hp3.length_eq
    have hsz : (putRow encR (Sort.ahead w n) g 0 d').heap.size = w.heap.size := by simp [putRow, mapBlock, Sort.ahead]
    have hcell : ∀ (a : Addr), a.block ≠ g → a.block < w.heap.size → (sortWorld encR w g 0 n d' os).cell? a = w.cell? a := fun a h1 h2 => by
      unfold sortWorld
      rw [cell?_grow _ _ _ (by rw [hsz]; exact h2), cell?_putRow_other _ _ _ _ _ _ (.inl h1)]
      rfl
    have hwsz : w.heap.size ≤ (sortWorld encR w g 0 n d' os).heap.size := by unfold sortWorld; simp [putRow, mapBlock, Sort.ahead]
    refine ⟨rfl, d'.toList.map encR, d'.toList.map (fun x => x.1.2), hp3, ?_, ?_, ?_, by simp, ?_⟩
    · rw [List.pairwise_map, List.pairwise_iff_getElem]
      intro i j hi hj hij
      have hi' : i < d'.size := by simpa using hi
      have hj' : j < d'.size := by simpa using hj
      have := hsd i j (Nat.zero_le _) hij (by omega)
      rw [ltR, getElem!_pos d' i hi', getElem!_pos d' j hj'] at this
      simp only [decide_eq_false_iff_not] at this
      simp only [Array.getElem_toList]
      omega
    · refine ⟨rfl, rfl, rfl, hwsz, fun k hk => ?_⟩
      unfold sortWorld
      rw [heap_grow_old _ _ (by rw [hsz]; omega)]
      have : g ≠ k := by omega
      simp [putRow, mapBlock, Sort.ahead, Array.getElem?_modify, this]
    · refine ⟨by simp, .inr ⟨g, cap, putCells encR 0 d' cur, by rw [hll], hbb, ?_, by rw [hll]; exact hnc, hc, by simp [putCells, hs], ?_⟩⟩
      · unfold sortWorld
        rw [heap_grow_old _ _ (by rw [hsz]; exact hgs)]
        simp [putRow, mapBlock, Sort.ahead, Array.getElem?_modify, hg, onCells]
      · rw [hll]
        apply List.ext_getElem?
        intro j
        by_cases hj : j < R.length
        · have hjc : j < cur.size := by rw [hs]; omega
          have hjf : j < d'.size := by rw [hds]; exact hj
          rw [List.getElem?_take, if_pos (by omega), Array.getElem?_toList, List.getElem?_map, Array.getElem?_toList]
          simp only [putCells, Array.getElem?_mapIdx, Array.getElem?_eq_getElem hjc, Option.map_some, Nat.zero_le, true_and, Nat.zero_add, Nat.sub_zero]
          rw [if_pos hjf, getElem!_pos _ j hjf, Array.getElem?_eq_getElem hjf]
          rfl
        · rw [List.getElem?_take, if_neg (by omega), List.getElem?_eq_none (by simp [hds]; omega)]
    · intro k u hu
      rw [List.getElem?_map] at hu
      cases hx : d'.toList[k]? with
      | none => rw [hx] at hu; cases hu
      | some x =>
        rw [hx] at hu
        simp only [Option.map_some, Option.some.injEq] at hu
        have hn2 : nthS (d'.toList.map (fun x : RowR w g => x.1.2)) k = x.1.2 := by
          unfold nthS; rw [List.getD_eq_getElem?_getD, List.getElem?_map, hx]; rfl
        rw [hn2]
        obtain ⟨⟨v2, l2⟩, b, c, e, q1, q2, q3, q4, q5, q6⟩ := x
        simp only at e q3
        subst e
        refine ⟨some ⟨b, 0, none⟩, c, hu.symm, ?_⟩
        intro hne
        obtain ⟨b3, o3, e3, hb3, hc3⟩ := q3 hne
        cases e3
        exact ⟨b, 0, rfl, Nat.lt_of_lt_of_le hb3 hwsz, fun j u hu => (hcell ⟨b, 0 + j, none⟩ q1 q2).trans (hc3 j u hu)⟩
end Go.Proofs.YtkcpfpofimkkiaaGreatDoor
