/- The program's text of a set. · The program's rank, within. · The document's kidsOk, timesOk, most, shaped. -/
import Derived.Test.YtaachamblagbhaaGreatDoorQ11
import Derived.Test.YtaachamblagbhaaGreatDoorQ18
import Derived.Deep.Cut
import Derived.Deep.CutRange
import Derived.Test.YtaachamblagbhaaGreatDoorQ16
import Derived.Test.YtaachamblagbhaaGreatDoorQ14
import Derived.Test.YtaachamblagbhaaGreatDoorQ1
import Derived.Test.YtaachamblagbhaaGreatDoorQ8
import Derived.Test.YtaachamblagbhaaGreatDoorQ9
import Derived.Test.YtaachamblagbhaaGreatDoorQ4
namespace Go.Proofs.YtaachamblagbhaaGreatDoor
open Go.RowKit BigFrame
set_option linter.unusedVariables false
set_option linter.unusedSimpArgs false
set_option maxRecDepth 100000

theorem rgsx_take {l : List Rg} {k : Nat} (h : k < l.length) : rgsx (l.take (k + 1)) = rgsx (l.take k) ++ (ptx (nthR l k).1 ++ (if (nthR l k).1 < (nthR l k).2 then [45] ++ ptx (nthR l k).2 else [])) := by
  rw [List.take_succ_eq_append_getElem h, rgsx_append, rgsx, rgsx, List.append_nil, ← nthR_get h]; rfl
theorem CanF.takeF : ∀ {l : List Rg} {f : Int} (k : Nat), CanF f l → CanF f (l.take k)
  | [], f, k, h => by simpa using h
  | (a, b) :: t, f, 0, h => trivial
  | (a, b) :: t, f, k + 1, h => ⟨h.1, h.2.1, h.2.2.1, CanF.takeF k h.2.2.2⟩

set_option maxHeartbeats 8000000 in
theorem setText_any (A : Option Addr) (n c : Nat) (l : List Rg) (w : World) (B : Nat) (hB : B ≤ w.heap.size) (hr : RdG w B A l) (hl : l.length = n) (h12 : n ≤ 12) (hc : Can l) (ht : Tz w B) :
    Calls Tryz.prog 28 #[.slice A n c] w fun e w' => e = .returned (bs (setx l)) ∧ Below w.heap.size w w' := by
  have hall := CanF.all (Int.le_refl 0) hc
  have HR := Lib.hid hr; have HL := Lib.hid hl; have HT := Lib.hid ht; have HALL := Lib.hid hall
  by_cases hone : oneP l = true
  · as_aux_lemma =>
      obtain ⟨a, rfl⟩ := oneP_form hone
      obtain rfl : n = 1 := by simpa using hl.symm
      obtain ⟨b, off, rfl, hb, hcl⟩ := hr.at_ (by simp)
      obtain ⟨z0, z1⟩ := hcl 0 (by simp)
      simp only [nthR, List.getD_cons_zero, Nat.zero_mul, Nat.add_zero] at z0 z1
      have ha := hall (a, a) (by simp)
      have HE : Hid (setx [(a, a)] = ptx a) := Lib.hid (by unfold setx; rw [if_pos hone]; rfl)
      have d0 : (a == a) = true := by simp
      have HP : Hid (∀ q, Calls Tryz.prog 40 #[.int .i64 a] (w.drewN q) fun e w' => e = .returned (bs (ptx a)) ∧ Below (w.drewN q).heap.size (w.drewN q) w') := Lib.hid (fun q => pointText_any a ha.1 ha.2.2 (w.drewN q) B hB (ht.below ((dn_belowP w q).mono hB)))
      clear hcl hall hr ht hc hone hl
      go_enter Tryz.func28, Tryz.ntmps28
      go_wp2_with fail
      go_quiet (fail)
      have HPQ := Lib.hid (HP.out nq)
      have hbq := dn_belowP w nq
      obtain ⟨w1, hw1⟩ : ∃ w1, w1 = w.drewN nq := ⟨_, rfl⟩
      rw [← hw1] at HPQ hbq ⊢
      have zz := (hbq.cell (p := ⟨b, off, none⟩) (show b < w.heap.size by omega)).trans z0
      have HBQ := Lib.hid hbq
      have hsq := hbq.size
      clear hw1 HP hbq z0 z1
      go_wp2_with fail
      refine HPQ.out.mono ?_
      rintro e w2 ⟨rfl, hb2⟩
      have HB2 := Lib.hid (HBQ.out.trans (hb2.mono hsq))
      clear hb2
      go_wp2_with fail
      go_ret
      exact ⟨ret_eq (by rw [HE.out]; rfl), HB2.out⟩
  · have HE : Hid (setx l = [91] ++ rgsx l ++ [93]) := Lib.hid (by unfold setx; rw [if_neg hone])
    have HTK : Hid (∀ k, AsT (rgsx (l.take k)) ∧ (rgsx (l.take k)).length ≤ 252) := Lib.hid (fun k => by
      have := rgsx_asc (Int.le_refl 0) (CanF.takeF k hc)
      refine ⟨this.1, ?_⟩
      have h2 := this.2
      have h3 : (l.take k).length ≤ 12 := by rw [List.length_take]; omega
      omega)
    -- the first test
    clear hr hl ht hall
    go_enter Tryz.func28, Tryz.ntmps28
    go_upto_region 1 with (fail)
    go_cut [19] from 6 (fun t wx => t = .bool false ∧ Hid (Below w.heap.size w wx))
    case first =>
      as_aux_lemma =>
        by_cases h1 : n = 1
        · subst h1
          obtain ⟨⟨a, b0⟩, rfl⟩ := List.length_eq_one_iff.1 HL.out
          obtain ⟨b, off, rfl, hb, hcl⟩ := HR.out.at_ (by simp)
          obtain ⟨z0, z1⟩ := hcl 0 (by simp)
          simp only [nthR, List.getD_cons_zero, Nat.zero_mul, Nat.add_zero] at z0 z1
          have hne : (a == b0) = false := by
            rw [beq_eq_false_iff_ne]
            intro e
            exact hone (by unfold oneP; simp [e])
          clear hcl
          go_wp2_with fail
          go_quiet (fail)
          have HB2 := Lib.hid (dn_belowP w nq)
          go_wp2_with fail
          go_meet
          case rel => exact ⟨rfl, HB2⟩
        · have h1' : ((n : Int) == 1) = false := by rw [beq_eq_false_iff_ne]; omega
          go_wp2_with fail
          go_quiet (fail)
          have HB2 := Lib.hid (dn_belowP w nq)
          go_wp2_with fail
          go_meet
          case rel => exact ⟨rfl, HB2⟩
    case rest =>
      obtain ⟨rfl, HB1⟩ := hcut
      obtain ⟨w1, rfl⟩ : ∃ w1 : World, w1 = wc := ⟨_, rfl⟩
      have hs1 := HB1.out.size
      as_aux_lemma =>
        go_wp2_with fail
        go_loopw [3, 5, 27] (fun s u i wr => ∃ (k : Nat) (L : List UInt8), k ≤ n ∧ i = .int .i64 (k : Int) ∧ s = .string ⟨L.toArray⟩ ∧ L.length ≤ 260 ∧ Hid (L = [91] ++ rgsx (l.take k)) ∧ Hid (Below w.heap.size w wr)) (fun _ _ i _ => n - (intOf i).toNat)
        case atStart => exact ⟨0, [91], Nat.zero_le _, rfl, rfl, by simp, Lib.hid (by simp [rgsx]), HB1.out⟩
        case round =>
          as_aux_lemma =>
            obtain ⟨k, L, hk, rfl, rfl, hLl, HLL, HB⟩ := hrel
            have hsz := HB.out.size
            by_cases hlt : k < n
            · as_aux_lemma =>
                have hkl : k < l.length := by rw [HL.out]; exact hlt
                obtain ⟨b, off, rfl, hb, hcl⟩ := HR.out.at_ (by rw [HL.out]; omega)
                obtain ⟨x0, x1⟩ := hcl k hkl
                have y0 := ((HB.out.mono hB).cell (p := ⟨b, off + k * 2, none⟩) hb).trans x0
                have y1 := ((HB.out.mono hB).cell (p := ⟨b, off + k * 2 + 1, none⟩) hb).trans x1
                obtain ⟨r1, r2, r3⟩ := HALL.out (nthR l k) (by rw [nthR_get hkl]; exact List.getElem_mem hkl)
                have htk := rgsx_take hkl
                obtain ⟨lo, hlo⟩ : ∃ lo, lo = (nthR l k).1 := ⟨_, rfl⟩
                obtain ⟨hi_, hhi⟩ : ∃ hi_, hi_ = (nthR l k).2 := ⟨_, rfl⟩
                rw [← hlo] at y0 r1 r2 htk
                rw [← hhi] at y1 r2 r3 htk
                have HTA := Lib.hid htk
                obtain ⟨wo, rfl⟩ : ∃ wo : World, wo = wr := ⟨_, rfl⟩
                obtain ⟨kb, hkb⟩ : ∃ kb, kb = wo.heap.size := ⟨_, rfl⟩
                obtain ⟨w2, hw2⟩ : ∃ w2, w2 = wo.alloc (.cells #[.int .i64 lo, .int .i64 hi_] 57) := ⟨_, rfl⟩
                have hb2 : Below wo.heap.size wo w2 := by rw [hw2]; exact (Below.refl _ _).alloc (Nat.le_refl _) _
                have hk2 : Blk w2 kb 57 [.int .i64 lo, .int .i64 hi_] := by rw [hw2, hkb]; exact Blk.new wo _ _
                have HB2 := Lib.hid (HB.out.trans (hb2.mono hsz))
                have HK2 := Lib.hid hk2
                have hs2 : wo.heap.size ≤ w2.heap.size := hb2.size
                have HP := Lib.hid (pointText_any lo r1 (by omega) w2 B (by omega) (HT.out.below (HB2.out.mono hB)))
                have hpl := (ptx_asc r1 (show lo ≤ MP by omega)).2
                obtain ⟨pl, hpl0⟩ : ∃ pl, pl = ptx lo := ⟨_, rfl⟩
                rw [← hpl0] at HP hpl HTA
                have hc1 : ¬ 9223372036854775807 < L.length + pl.length := by omega
                have hkbl : kb < w2.heap.size := hk2.lt
                clear hcl x0 x1 htk hlo hhi hb2 hk2 hpl0
                go_upto_region 7 with (fail)
                rw [← hkb, ← hw2]
                clear hw2 hkb y0 y1
                have z0 := HK2.out.cell (i := 0) rfl
                go_wp2_with fail
                refine HP.out.mono ?_
                clear HP
                rintro e w3 ⟨rfl, hb3⟩
                have hk3 := HK2.out.below' hb3
                have z0 := hk3.cell (i := 0) rfl
                have z1 := hk3.cell (i := 1) rfl
                have hs3 := hb3.size
                have HB3 := Lib.hid (HB2.out.trans (hb3.mono (by omega)))
                clear hb3 hk3
                have hcat1 := ba_cat2 L pl
                by_cases hlh : lo < hi_
                · as_aux_lemma =>
                    have hd : decide (lo < hi_) = true := decide_eq_true hlh
                    have HP := Lib.hid (pointText_any hi_ (by omega) r3 w3 B (by omega) (HT.out.below (HB3.out.mono hB)))
                    have hql := (ptx_asc (show 0 ≤ hi_ by omega) r3).2
                    have hta := HTA.out
                    rw [if_pos hlh] at hta
                    obtain ⟨ql, hql0⟩ : ∃ ql, ql = ptx hi_ := ⟨_, rfl⟩
                    rw [← hql0] at HP hql hta
                    have HTB := Lib.hid hta
                    have HNW : Hid (L ++ pl ++ ([45] ++ ql) = [91] ++ rgsx (l.take (k + 1)) ∧ (L ++ pl ++ ([45] ++ ql)).length ≤ 260) := Lib.hid (by
                      have e : L ++ pl ++ ([45] ++ ql) = [91] ++ rgsx (l.take (k + 1)) := by rw [HLL.out, HTB.out]; simp
                      refine ⟨e, ?_⟩
                      rw [e]
                      have := (HTK.out (k + 1)).2
                      simp only [List.length_append, List.length_cons, List.length_nil]; omega)
                    have hc2 : ¬ 9223372036854775807 < 1 + ql.length := by omega
                    have hc3 : ¬ 9223372036854775807 < L.length + pl.length + (1 + ql.length) := by omega
                    clear hta hql0
                    unfold bs
                    go_wp2_with fail
                    refine HP.out.mono ?_
                    clear HP
                    rintro e w4 ⟨rfl, hb4⟩
                    have HB4 := Lib.hid (HB3.out.trans (hb4.mono (by omega)))
                    clear hb4
                    unfold bs
                    go_wp2_with fail
                    go_roundw
                    case rel => exact ⟨k + 1, _, by omega, by go_num, by rw [ba_cat2, ba_cat2], HNW.out.2, Lib.hid HNW.out.1, HB4⟩
                    case measure => simp [intOf]; omega
                · as_aux_lemma =>
                    have hd : decide (lo < hi_) = false := decide_eq_false hlh
                    have hta := HTA.out
                    rw [if_neg hlh] at hta
                    have HTB := Lib.hid hta
                    have HNW : Hid (L ++ pl = [91] ++ rgsx (l.take (k + 1)) ∧ (L ++ pl).length ≤ 260) := Lib.hid (by
                      have e : L ++ pl = [91] ++ rgsx (l.take (k + 1)) := by rw [HLL.out, HTB.out]; simp
                      refine ⟨e, ?_⟩
                      rw [e]
                      have := (HTK.out (k + 1)).2
                      simp only [List.length_append, List.length_cons, List.length_nil]; omega)
                    clear hta
                    unfold bs
                    go_wp2_with fail
                    go_roundw
                    case rel => exact ⟨k + 1, _, by omega, by go_num, rfl, HNW.out.2, Lib.hid HNW.out.1, HB3⟩
                    case measure => simp [intOf]; omega
            · as_aux_lemma =>
                obtain rfl : k = n := by omega
                have HF : Hid (L ++ [93] = setx l) := Lib.hid (by
                  rw [HE.out, HLL.out, List.take_of_length_le (by rw [HL.out]; exact Nat.le_refl _)])
                have hc1 : ¬ 9223372036854775807 < L.length + 1 := by omega
                go_wp2_with fail
                go_ret
                exact ⟨ret_eq (by rw [← HF.out]; exact congrArg Value.string (ba_cat2 L [93])), HB.out⟩
end Go.Proofs.YtaachamblagbhaaGreatDoor
namespace Go.Proofs.YtaachamblagbhaaGreatDoor
open Go.RowKit BigFrame
set_option linter.unusedVariables false
set_option linter.unusedSimpArgs false
set_option maxRecDepth 100000

theorem rank_any (b : Nat) (k : Int) (s : List Rg) (mn mx : Int) (ks : List Rx) (w : World) (z0 : w.cell? ⟨b, 0, none⟩ = some (.int .i64 k)) :
    Calls Tryz.prog 41 #[.pointer (some ⟨b, 0, none⟩)] w fun e w' => e = .returned (.int .i64 ((rank (.node k s mn mx ks) : Nat) : Int)) ∧ w' = w := by
  by_cases k3 : k = 3
  · have HE : Hid (rank (.node k s mn mx ks) = 0) := Lib.hid (by unfold rank; subst k3; rfl)
    subst k3
    go_enter Tryz.func41, Tryz.ntmps41
    go_wp2_with fail
    go_ret
    exact ⟨ret_eq (by rw [HE.out]; rfl), rfl⟩
  by_cases k4 : k = 4
  · have HE : Hid (rank (.node k s mn mx ks) = 1) := Lib.hid (by unfold rank; subst k4; rfl)
    subst k4
    go_enter Tryz.func41, Tryz.ntmps41
    go_wp2_with fail
    go_ret
    exact ⟨ret_eq (by rw [HE.out]; rfl), rfl⟩
  by_cases k2 : k = 2
  · have HE : Hid (rank (.node k s mn mx ks) = 2) := Lib.hid (by unfold rank; subst k2; rfl)
    subst k2
    go_enter Tryz.func41, Tryz.ntmps41
    go_wp2_with fail
    go_ret
    exact ⟨ret_eq (by rw [HE.out]; rfl), rfl⟩
  by_cases k6 : k = 6
  · have HE : Hid (rank (.node k s mn mx ks) = 3) := Lib.hid (by unfold rank; subst k6; rfl)
    subst k6
    go_enter Tryz.func41, Tryz.ntmps41
    go_wp2_with fail
    go_ret
    exact ⟨ret_eq (by rw [HE.out]; rfl), rfl⟩
  have HE : Hid (rank (.node k s mn mx ks) = 4) := Lib.hid (by simp [rank, k2, k3, k4, k6])
  have c2 : (k == 2) = false := by rw [beq_eq_false_iff_ne]; exact k2
  have c3 : (k == 3) = false := by rw [beq_eq_false_iff_ne]; exact k3
  have c4 : (k == 4) = false := by rw [beq_eq_false_iff_ne]; exact k4
  have c6 : (k == 6) = false := by rw [beq_eq_false_iff_ne]; exact k6
  go_enter Tryz.func41, Tryz.ntmps41
  go_wp2_with fail
  go_ret
  exact ⟨ret_eq (by rw [HE.out]; rfl), rfl⟩
set_option maxHeartbeats 4000000 in
theorem within_any (p : Rx) (n : Nat) (v : Value) (w : World) (hT : RxB w w.heap.size v p) (hp : p ≠ .nil) (hl : (txX p).length ≤ 100000)
    (htx : Calls Tryz.prog 16 #[v] w fun e w' => e = .returned (bs (txX p)) ∧ Below w.heap.size w w') :
    Calls Tryz.prog 29 #[v, .int .i64 (n : Int)] w fun e w' => e = .returned (bs (witX n p)) ∧ Below w.heap.size w w' := by
  cases p with
  | nil => exact absurd rfl hp
  | node k s mn mx ks =>
    obtain ⟨b, A, c, A', c', rfl, hb, z0, z1, z2, z3, z4, h1, h2, h3, h4, h5, h6⟩ := hT.node_inv
    have HR := Lib.hid (rank_any b k s mn mx ks w z0)
    have HTX := Lib.hid htx
    obtain ⟨t, ht⟩ : ∃ t, t = txX (.node k s mn mx ks) := ⟨_, rfl⟩
    rw [← ht] at HTX hl
    have HW : Hid (witX n (.node k s mn mx ks) = if rank (.node k s mn mx ks) < n then brk t else t) := Lib.hid (by unfold witX; rw [ht])
    obtain ⟨rk, hrk⟩ : ∃ rk, rk = rank (.node k s mn mx ks) := ⟨_, rfl⟩
    rw [← hrk] at HR HW
    have hc1 : ¬ 9223372036854775807 < 1 + t.length := by omega
    have hc2 : ¬ 9223372036854775807 < 1 + t.length + 1 := by omega
    clear ht hrk hT htx z0 z1 z2 z3 z4 h5 h6
    by_cases hlt : rk < n
    · as_aux_lemma =>
        have HE : Hid (witX n (.node k s mn mx ks) = [40] ++ t ++ [41]) := Lib.hid (by rw [HW.out, if_pos hlt]; rfl)
        have hd : decide ((rk : Int) < (n : Int)) = true := decide_eq_true (by omega)
        have hd2 : decide (rk < n) = true := decide_eq_true hlt
        go_enter Tryz.func29, Tryz.ntmps29
        go_wp2_with fail
        refine HR.out.mono ?_
        rintro e w' ⟨rfl, rfl⟩
        go_wp2_with fail
        refine HTX.out.mono ?_
        rintro e w1 ⟨rfl, hb1⟩
        have HB1 := Lib.hid hb1
        unfold bs
        clear hb1
        go_wp2_with fail
        go_ret
        exact ⟨ret_eq (by rw [HE.out]; show Value.string _ = Value.string _; congr 1), HB1.out⟩
    · as_aux_lemma =>
        have HE : Hid (witX n (.node k s mn mx ks) = t) := Lib.hid (by rw [HW.out, if_neg hlt])
        have hd : decide ((rk : Int) < (n : Int)) = false := decide_eq_false (by omega)
        have hd2 : decide (rk < n) = false := decide_eq_false hlt
        go_enter Tryz.func29, Tryz.ntmps29
        go_wp2_with fail
        refine HR.out.mono ?_
        rintro e w' ⟨rfl, rfl⟩
        go_wp2_with fail
        refine HTX.out.mono ?_
        rintro e w1 ⟨rfl, hb1⟩
        have HB1 := Lib.hid hb1
        clear hb1
        go_wp2_with fail
        go_ret
        exact ⟨ret_eq (by rw [HE.out]; rfl), HB1.out⟩
end Go.Proofs.YtaachamblagbhaaGreatDoor
namespace Go.Proofs.YtaachamblagbhaaGreatDoor
open Go.RowKit BigFrame
set_option linter.unusedVariables false
set_option linter.unusedSimpArgs false
set_option maxRecDepth 100000

theorem dn_below' (w : World) (d : Nat) : Below w.heap.size w (w.drewN d) := ⟨rfl, rfl, rfl, Nat.le_refl _, fun _ _ => rfl⟩
set_option maxHeartbeats 4000000 in
theorem kidsOk_any (k : Int) (n : Nat) (w : World) (hn : n ≤ 9223372036854775807) :
    Calls Tryz.prog 21 #[.int .i64 k, .int .i64 (n : Int)] w fun e w' => e = .returned (.bool (cntOk k n)) ∧ w' = w := by
  by_cases k1 : k = 1
  · by_cases q : n = 0
    · have HE : Hid (cntOk k n = true) := Lib.hid (by unfold cntOk; subst k1; simp [q])
      subst q
      subst k1
      go_enter Tryz.func21, Tryz.ntmps21
      go_wp2_with fail
      go_ret
      exact ⟨ret_eq (by rw [HE.out]; rfl), rfl⟩
    · have HE : Hid (cntOk k n = false) := Lib.hid (by unfold cntOk; subst k1; simp [q])
      have c1 : ((n : Int) == 0) = false := by rw [beq_eq_false_iff_ne]; omega
      have c2 : ((n : Int) != 0) = true := by rw [bne_iff_ne]; omega
      subst k1
      go_enter Tryz.func21, Tryz.ntmps21
      go_wp2_with fail
      go_ret
      exact ⟨ret_eq (by rw [HE.out]; rfl), rfl⟩
  by_cases k2 : k = 2
  · by_cases q : n = 1
    · have HE : Hid (cntOk k n = false) := Lib.hid (by unfold cntOk; subst k2; simp [q])
      subst q
      subst k2
      go_enter Tryz.func21, Tryz.ntmps21
      go_wp2_with fail
      go_ret
      exact ⟨ret_eq (by rw [HE.out]; rfl), rfl⟩
    · have HE : Hid (cntOk k n = true) := Lib.hid (by unfold cntOk; subst k2; simp [q])
      have c1 : ((n : Int) == 1) = false := by rw [beq_eq_false_iff_ne]; omega
      have c2 : ((n : Int) != 1) = true := by rw [bne_iff_ne]; omega
      subst k2
      go_enter Tryz.func21, Tryz.ntmps21
      go_wp2_with fail
      go_ret
      exact ⟨ret_eq (by rw [HE.out]; rfl), rfl⟩
  by_cases k3 : k = 3
  · by_cases q : 2 ≤ n
    · have HE : Hid (cntOk k n = true) := Lib.hid (by unfold cntOk; subst k3; simp [q])
      have c1 : decide ((1 : Int) < (n : Int)) = true := by simp; omega
      subst k3
      go_enter Tryz.func21, Tryz.ntmps21
      go_wp2_with fail
      go_ret
      exact ⟨ret_eq (by rw [HE.out]; rfl), rfl⟩
    · have HE : Hid (cntOk k n = false) := Lib.hid (by unfold cntOk; subst k3; simp [q])
      have c1 : decide ((1 : Int) < (n : Int)) = false := by simp; omega
      subst k3
      go_enter Tryz.func21, Tryz.ntmps21
      go_wp2_with fail
      go_ret
      exact ⟨ret_eq (by rw [HE.out]; rfl), rfl⟩
  by_cases k4 : k = 4
  · by_cases q : 2 ≤ n
    · have HE : Hid (cntOk k n = true) := Lib.hid (by unfold cntOk; subst k4; simp [q])
      have c1 : decide ((1 : Int) < (n : Int)) = true := by simp; omega
      subst k4
      go_enter Tryz.func21, Tryz.ntmps21
      go_wp2_with fail
      go_ret
      exact ⟨ret_eq (by rw [HE.out]; rfl), rfl⟩
    · have HE : Hid (cntOk k n = false) := Lib.hid (by unfold cntOk; subst k4; simp [q])
      have c1 : decide ((1 : Int) < (n : Int)) = false := by simp; omega
      subst k4
      go_enter Tryz.func21, Tryz.ntmps21
      go_wp2_with fail
      go_ret
      exact ⟨ret_eq (by rw [HE.out]; rfl), rfl⟩
  by_cases k5 : k = 5
  · by_cases q : n = 1
    · have HE : Hid (cntOk k n = true) := Lib.hid (by unfold cntOk; subst k5; simp [q])
      subst q
      subst k5
      go_enter Tryz.func21, Tryz.ntmps21
      go_wp2_with fail
      go_ret
      exact ⟨ret_eq (by rw [HE.out]; rfl), rfl⟩
    · have HE : Hid (cntOk k n = false) := Lib.hid (by unfold cntOk; subst k5; simp [q])
      have c1 : ((n : Int) == 1) = false := by rw [beq_eq_false_iff_ne]; omega
      have c2 : ((n : Int) != 1) = true := by rw [bne_iff_ne]; omega
      subst k5
      go_enter Tryz.func21, Tryz.ntmps21
      go_wp2_with fail
      go_ret
      exact ⟨ret_eq (by rw [HE.out]; rfl), rfl⟩
  by_cases k6 : k = 6
  · by_cases q : n = 1
    · have HE : Hid (cntOk k n = true) := Lib.hid (by unfold cntOk; subst k6; simp [q])
      subst q
      subst k6
      go_enter Tryz.func21, Tryz.ntmps21
      go_wp2_with fail
      go_ret
      exact ⟨ret_eq (by rw [HE.out]; rfl), rfl⟩
    · have HE : Hid (cntOk k n = false) := Lib.hid (by unfold cntOk; subst k6; simp [q])
      have c1 : ((n : Int) == 1) = false := by rw [beq_eq_false_iff_ne]; omega
      have c2 : ((n : Int) != 1) = true := by rw [bne_iff_ne]; omega
      subst k6
      go_enter Tryz.func21, Tryz.ntmps21
      go_wp2_with fail
      go_ret
      exact ⟨ret_eq (by rw [HE.out]; rfl), rfl⟩
  have HE : Hid (cntOk k n = false) := Lib.hid (by unfold cntOk; simp [k1, k2, k3, k4, k5, k6])
  have c1 : (k == 1) = false := by rw [beq_eq_false_iff_ne]; exact k1
  have c2 : (k == 2) = false := by rw [beq_eq_false_iff_ne]; exact k2
  have c3 : (k == 3) = false := by rw [beq_eq_false_iff_ne]; exact k3
  have c4 : (k == 4) = false := by rw [beq_eq_false_iff_ne]; exact k4
  have c5 : (k == 5) = false := by rw [beq_eq_false_iff_ne]; exact k5
  have c6 : (k == 6) = false := by rw [beq_eq_false_iff_ne]; exact k6
  go_enter Tryz.func21, Tryz.ntmps21
  go_wp2_with fail
  go_ret
  exact ⟨ret_eq (by rw [HE.out]; rfl), rfl⟩
set_option maxHeartbeats 4000000 in
theorem timesOk_any (b : Nat) (k mn mx : Int) (w : World) (z0 : w.cell? ⟨b, 0, none⟩ = some (.int .i64 k)) (z2 : w.cell? ⟨b, 2, none⟩ = some (.int .i64 mn)) (z3 : w.cell? ⟨b, 3, none⟩ = some (.int .i64 mx)) :
    Calls Tryz.prog 22 #[.pointer (some ⟨b, 0, none⟩)] w fun e w' => e = .returned (.bool (tmsOk k mn mx)) ∧ Below w.heap.size w w' := by
  by_cases k6 : k = 6
  · have c0 : (k != 6) = false := by rw [bne_eq_false_iff_eq]; exact k6
    by_cases q1 : mn < 0
    · have HE : Hid (tmsOk k mn mx = false) := Lib.hid (by unfold tmsOk; rw [if_pos k6]; simp; omega)
      subst k6
      go_enter Tryz.func22, Tryz.ntmps22
      go_wp2_with fail
      go_ret
      exact ⟨ret_eq (by rw [HE.out]; rfl), Below.refl _ _⟩
    · by_cases q2 : 50 < mn
      · have HE : Hid (tmsOk k mn mx = false) := Lib.hid (by unfold tmsOk; rw [if_pos k6]; simp; omega)
        subst k6
        go_enter Tryz.func22, Tryz.ntmps22
        go_wp2_with fail
        go_ret
        exact ⟨ret_eq (by rw [HE.out]; rfl), Below.refl _ _⟩
      · by_cases q3 : mx = -1
        · have HE : Hid (tmsOk k mn mx = true) := Lib.hid (by unfold tmsOk; rw [if_pos k6]; simp; omega)
          subst k6 q3
          go_enter Tryz.func22, Tryz.ntmps22
          go_wp2_with fail
          go_quiet (fail)
          go_wp2_with fail
          go_ret
          exact ⟨ret_eq (by rw [HE.out]; rfl), dn_below' _ _⟩
        · have c3 : (mx == -1) = false := by rw [beq_eq_false_iff_ne]; exact q3
          by_cases q4 : mn ≤ mx
          · have c4 : decide (mn ≤ mx) = true := decide_eq_true q4
            by_cases q5 : 1 ≤ mx
            · have c5 : decide (1 ≤ mx) = true := decide_eq_true q5
              by_cases q6 : mx ≤ 50
              · have c6 : decide (mx ≤ 50) = true := decide_eq_true q6
                have HE : Hid (tmsOk k mn mx = true) := Lib.hid (by unfold tmsOk; rw [if_pos k6]; simp; omega)
                subst k6
                go_enter Tryz.func22, Tryz.ntmps22
                go_wp2_with fail
                go_quiet (fail)
                go_wp2_with fail
                go_ret
                exact ⟨ret_eq (by rw [HE.out]; rfl), dn_below' _ _⟩
              · have c6 : decide (mx ≤ 50) = false := decide_eq_false q6
                have HE : Hid (tmsOk k mn mx = false) := Lib.hid (by unfold tmsOk; rw [if_pos k6]; simp; omega)
                subst k6
                go_enter Tryz.func22, Tryz.ntmps22
                go_wp2_with fail
                go_quiet (fail)
                go_wp2_with fail
                go_ret
                exact ⟨ret_eq (by rw [HE.out]; rfl), dn_below' _ _⟩
            · have c5 : decide (1 ≤ mx) = false := decide_eq_false q5
              have HE : Hid (tmsOk k mn mx = false) := Lib.hid (by unfold tmsOk; rw [if_pos k6]; simp; omega)
              subst k6
              go_enter Tryz.func22, Tryz.ntmps22
              go_wp2_with fail
              go_quiet (fail)
              go_wp2_with fail
              go_ret
              exact ⟨ret_eq (by rw [HE.out]; rfl), dn_below' _ _⟩
          · have c4 : decide (mn ≤ mx) = false := decide_eq_false q4
            have HE : Hid (tmsOk k mn mx = false) := Lib.hid (by unfold tmsOk; rw [if_pos k6]; simp; omega)
            subst k6
            go_enter Tryz.func22, Tryz.ntmps22
            go_wp2_with fail
            go_quiet (fail)
            go_wp2_with fail
            go_ret
            exact ⟨ret_eq (by rw [HE.out]; rfl), dn_below' _ _⟩
  · have c0 : (k != 6) = true := by rw [bne_iff_ne]; exact k6
    by_cases q1 : mn = 0
    · by_cases q2 : mx = 0
      · have HE : Hid (tmsOk k mn mx = true) := Lib.hid (by unfold tmsOk; rw [if_neg k6]; simp [q1, q2])
        subst q1 q2
        go_enter Tryz.func22, Tryz.ntmps22
        go_wp2_with fail
        go_ret
        exact ⟨ret_eq (by rw [HE.out]; rfl), Below.refl _ _⟩
      · have HE : Hid (tmsOk k mn mx = false) := Lib.hid (by unfold tmsOk; rw [if_neg k6]; simp [q1, q2])
        have c2 : (mx == 0) = false := by rw [beq_eq_false_iff_ne]; exact q2
        subst q1
        go_enter Tryz.func22, Tryz.ntmps22
        go_wp2_with fail
        go_ret
        exact ⟨ret_eq (by rw [HE.out]; rfl), Below.refl _ _⟩
    · have HE : Hid (tmsOk k mn mx = false) := Lib.hid (by unfold tmsOk; rw [if_neg k6]; simp [q1])
      have c1 : (mn == 0) = false := by rw [beq_eq_false_iff_ne]; exact q1
      go_enter Tryz.func22, Tryz.ntmps22
      go_wp2_with fail
      go_ret
      exact ⟨ret_eq (by rw [HE.out]; rfl), Below.refl _ _⟩
theorem most_any (a b : Int) (w : World) : Calls Tryz.prog 24 #[.int .i64 a, .int .i64 b] w fun e w' => e = .returned (.int .i64 (max a b)) ∧ w' = w := by
  by_cases q : b < a
  · have HE : Hid (max a b = a) := Lib.hid (by omega)
    go_enter Tryz.func24, Tryz.ntmps24
    go_wp2_with fail
    go_ret
    exact ⟨ret_eq (by rw [HE.out]; rfl), rfl⟩
  · have HE : Hid (max a b = b) := Lib.hid (by omega)
    go_enter Tryz.func24, Tryz.ntmps24
    go_wp2_with fail
    go_ret
    exact ⟨ret_eq (by rw [HE.out]; rfl), rfl⟩
end Go.Proofs.YtaachamblagbhaaGreatDoor
