/- How many ranges the sets of moves hold. · The program's First. · The program's Apart. -/
import Derived.Test.YtkcpfpofimkkiaaGreatDoorQ19
import Derived.Test.YtkcpfpofimkkiaaGreatDoorQ14
import Derived.Test.YtkcpfpofimkkiaaGreatDoorQ37
import Derived.Test.YtkcpfpofimkkiaaGreatDoorQ26
import Derived.Test.YtkcpfpofimkkiaaGreatDoorQ27
import Derived.Test.YtkcpfpofimkkiaaGreatDoorQ31
import Derived.Test.YtkcpfpofimkkiaaGreatDoorQ12
import Derived.Test.YtkcpfpofimkkiaaGreatDoorQ32
import Derived.Test.YtkcpfpofimkkiaaGreatDoorQ21
import Derived.Deep.Cut
namespace Go.Proofs.YtkcpfpofimkkiaaGreatDoor
set_option linter.unusedVariables false
set_option linter.unusedSimpArgs false

theorem sum_one {α : Type} [DecidableEq α] {g : α → Nat} {t0 : α} : ∀ {L : List α}, L.Nodup → t0 ∈ L → (L.map fun t => if t0 = t then g t + 1 else g t).sum = (L.map g).sum + 1
  | [], _, h => by simp at h
  | a :: L, hn, h => by
    rw [List.nodup_cons] at hn
    rw [List.map_cons, List.sum_cons, List.map_cons, List.sum_cons]
    by_cases e : t0 = a
    · subst e
      have : (L.map fun t => if t0 = t then g t + 1 else g t) = L.map g := List.map_congr_left fun t ht => by
        have hne : ¬ (t0 = t) := fun q => hn.1 (by rw [q]; exact ht)
        rw [if_neg hne]
      rw [this, if_pos rfl]; omega
    · have := sum_one (g := g) hn.2 (by rcases List.mem_cons.1 h with q | q; exact absurd q e; exact q)
      rw [this, if_neg e]; omega
theorem totR_moves (ms : List Mv) : totR ((tosOf ms).map (toSet ms)) = ms.length := by
  suffices H : ∀ n (ms : List Mv), ms.length = n → totR ((tosOf ms).map (toSet ms)) = n from H _ ms rfl
  intro n
  induction n with
  | zero => intro ms h; have : ms = [] := List.length_eq_zero_iff.1 h; subst this; rfl
  | succ n ih =>
    intro ms h
    rcases List.eq_nil_or_concat ms with q | ⟨r, m, rfl⟩
    · subst q; simp at h
    · have hr := ih r (by simpa using h)
      unfold totR at hr ⊢
      rw [List.map_map] at hr ⊢
      rw [List.concat_eq_append, tosOf_snoc]
      have hf : (List.length ∘ toSet (r ++ [m])) = fun t => if m.2.2 = t then (List.length ∘ toSet r) t + 1 else (List.length ∘ toSet r) t := by
        funext t
        simp only [Function.comp, toSet_snoc]
        split
        · simp
        · rfl
      rw [hf]
      by_cases e : m.2.2 ∈ tosOf r
      · have hnd : (tosOf r).Nodup := distinct_nodup _
        rw [if_pos e, sum_one hnd e, hr]
      · rw [if_neg e, List.map_append, List.sum_append]
        have h2 : ((tosOf r).map fun t => if m.2.2 = t then (List.length ∘ toSet r) t + 1 else (List.length ∘ toSet r) t) = (tosOf r).map (List.length ∘ toSet r) := List.map_congr_left fun t ht => by
          have hne : ¬ (m.2.2 = t) := fun q => e (by rw [q]; exact ht)
          rw [if_neg hne]
        rw [h2, hr]
        simp [toSet_none e]
theorem totR_setsP (l : List St) : totR (setsP l) = totM l := by
  induction l with
  | nil => rfl
  | cons s l ih =>
    have e : setsP (s :: l) = (tosOf s.2).map (toSet s.2) ++ setsP l := rfl
    have a : totR (setsP (s :: l)) = totR ((tosOf s.2).map (toSet s.2)) + totR (setsP l) := by rw [e]; unfold totR; rw [List.map_append, List.sum_append]
    rw [a, totR_moves, ih]
    unfold totM; simp
end Go.Proofs.YtkcpfpofimkkiaaGreatDoor
namespace Go.Proofs.YtkcpfpofimkkiaaGreatDoor
open Go.RowKit BigFrame
set_option linter.unusedVariables false
set_option linter.unusedSimpArgs false
set_option maxRecDepth 100000

theorem setsP_le60 {l : List St} (hm : totM l ≤ 60) : ∀ s ∈ setsP l, s.length ≤ 60 := fun s hs => by
  obtain ⟨i, hi, rfl⟩ := List.getElem_of_mem hs
  have h1 := totR_take hi
  have h2 := totR_take_le (setsP l) (i + 1)
  have h3 := totR_setsP l
  omega
theorem okA_wf {l : List St} (hok : okA l = true) (hl : l.length ≤ 1000000) : ∀ s ∈ l, ∀ m ∈ s.2, wfI m.2.2 := fun s hs m hm => by
  have := okA_mvs hok s hs m hm
  obtain ⟨a, b⟩ := this.2.2.2
  obtain ⟨k, e⟩ := Int.eq_ofNat_of_zero_le a
  rw [e]; exact wfI_nat (by omega)
theorem first1_any (r s rule : Int) (gr : Nat) (w : World) (h : w.cell? ⟨gr, 0, none⟩ = some (.int .i64 rule)) :
    Calls Tryz.prog 18 #[.int .i64 r, .int .i64 s, .pointer (some ⟨gr, 0, none⟩)] w fun e w' => e = .returned (.bool (r == rule)) ∧ Below w.heap.size w w' := by
  go_enter Tryz.func18, Tryz.ntmps18
  go_wp2_with fail
  go_ret
  exact ⟨rfl, Below.refl _ _⟩
theorem apart1_any (r s : Int) (w : World) :
    Calls Tryz.prog 17 #[.int .i64 r, .int .i64 s] w fun e w' => e = .returned (.bool (r != s)) ∧ Below w.heap.size w w' := by
  go_enter Tryz.func17, Tryz.ntmps17
  go_wp2_with fail
  go_ret
  exact ⟨rfl, Below.refl _ _⟩

/-- What the program's First answers. -/
def PFirR (l : List St) (rule : Int) (r : Option (List Int)) : Prop := (okA l = false ∧ r = none) ∨ (okA l = true ∧ FirR l rule r)
set_option maxHeartbeats 8000000 in
theorem pFirst_any (A : Option Addr) (n c : Nat) (l : List St) (rule : Int) (w : World) (B : Nat) (hB : B ≤ w.heap.size) (h : (shL shState).rd w (Lo B) l [.slice A n c])
    (hl : l.length = n) (hn : n ≤ 14) (hm : totM l ≤ 60) :
    Calls Tryz.prog 7 #[.agg #[.slice A n c], .int .i64 rule] w fun e w' => ∃ r, PFirR l rule r ∧ e = .returned (.tuple #[.string (wayP r), .bool r.isSome]) ∧ Below w.heap.size w w' := by
  have H := Lib.hid h; have HL := Lib.hid hl; have HM := Lib.hid hm
  obtain ⟨g, hg⟩ : ∃ g, w.heap.size = g := ⟨_, rfl⟩
  obtain ⟨W0, hW0⟩ : ∃ W0, W0 = (w.alloc (.cells #[.slice A n c] 24)).alloc (.cells #[.int .i64 rule] 3) := ⟨_, rfl⟩
  have hb0 : Below g w W0 := by rw [hW0, ← hg]; exact ((Below.refl _ _).alloc (Nat.le_refl _) _).alloc (by simp) _
  have hk1 : Blk W0 g 24 [.slice A n c] := by rw [hW0, ← hg]; exact (Blk.new w _ _).alloc _
  have hk2 : Blk W0 (g + 1) 3 [.int .i64 rule] := by
    have := Blk.new (w.alloc (.cells #[.slice A n c] 24)) 3 [.int .i64 rule]
    rw [show (w.alloc (.cells #[.slice A n c] 24)).heap.size = g + 1 by rw [← hg]; simp] at this
    rw [hW0]; exact this
  have hs0 : W0.heap.size = g + 2 := by rw [hW0, ← hg]; simp
  have hgB : B ≤ g := by omega
  have HAO := Lib.hid (autoOk_any A n c l W0 (Sh.up (Sh.below h (hb0.mono hgB)) (by omega)) hl (by omega))
  have HB0 := Lib.hid hb0; have HK1 := Lib.hid hk1; have HK2 := Lib.hid hk2; have HS0 := Lib.hid hs0; have HG := Lib.hid hg
  have z1 := hk1.cell (i := 0) rfl
  clear h hl hm hb0 hk1 hk2
  go_enter Tryz.func7, Tryz.ntmps7
  go_wp2_with fail
  rw [← hW0]
  clear hW0 hg
  go_wp2_with fail
  refine HAO.out.mono ?_
  rintro e w1 ⟨rfl, hb1⟩
  have hz1 := hb1.size
  have HB1 : Hid (Below g w w1) := Lib.hid (HB0.out.trans (hb1.mono (by omega)))
  have k1 := HK1.out.below' hb1
  have k2 := HK2.out.below' hb1
  have HKK1 := Lib.hid k1; have HKK2 := Lib.hid k2
  have z1 := k1.cell (i := 0) rfl
  have z2 := k2.cell (i := 0) rfl
  clear hb1 k1 k2 HAO
  cases hok : okA l with
  | false =>
    as_aux_lemma =>
      have HP : Hid (PFirR l rule none) := Lib.hid (.inl ⟨hok, rfl⟩)
      clear hok
      go_wp2_with fail
      go_ret2
      exact ⟨none, HP.out, rfl, by rw [HG.out]; exact HB1.out⟩
  | true =>
    as_aux_lemma =>
      have HOK := Lib.hid hok
      by_cases hr : rule < 0
      · as_aux_lemma =>
          have d1 : decide (rule < 0) = true := decide_eq_true hr
          have HP : Hid (PFirR l rule none) := Lib.hid (.inr ⟨hok, .inl ⟨hr, rfl⟩⟩)
          clear hok
          go_wp2_with fail
          go_ret2
          exact ⟨none, HP.out, rfl, by rw [HG.out]; exact HB1.out⟩
      · as_aux_lemma =>
          have d1 : decide (rule < 0) = false := decide_eq_false hr
          have HMV := Lib.hid (pMoveSets_any A n c l w1 B (by omega) (Sh.below H.out (HB1.out.mono hgB)) HL.out (by omega) HM.out (okA_wf hok (by rw [HL.out]; omega)))
          clear hok
          go_wp2_with fail
          refine HMV.out.mono ?_
          rintro e w2 ⟨v2, vs2, rfl, hv2, hb2⟩
          have hz2 := hb2.size
          obtain ⟨A2, c2, rfl, -, -, hr2⟩ := hv2.rds
          have HNA := Lib.hid (newAlphabet_any A2 (setsP l).length c2 (setsP l) w2 w2.heap.size (Nat.le_refl _) hr2 rfl (by rw [totR_setsP]; have h1 := HM.out; have h2 := setsP_len l; omega) (setsP_le60 HM.out))
          have HB2 : Hid (Below (g + 2) w1 w2) := Lib.hid (hb2.mono (by omega))
          clear hv2 hb2 hr2 HMV
          go_wp2_with fail
          refine HNA.out.mono ?_
          rintro e w3 ⟨C, X, Y, Ax, cx, Ay, cy, rfl, hAl, hx1, hx2, hy1, hy2, hXr, hYr, hb3⟩
          have hz3 := hb3.size
          obtain ⟨P, hP⟩ : ∃ P, P = X.length := ⟨_, rfl⟩
          obtain ⟨K, hK⟩ : ∃ K, K = C.length := ⟨_, rfl⟩
          rw [← hP] at hx1 hy1
          rw [← hP, ← hK]
          obtain ⟨gx, hgx⟩ : ∃ gx, w3.heap.size = gx := ⟨_, rfl⟩
          obtain ⟨w4, hw4⟩ : ∃ w4, w4 = w3.alloc (.cells #[.slice Ax P cx, .slice Ay P cy, .int .i64 (K : Int)] 39) := ⟨_, rfl⟩
          have hb4 : Below gx w3 w4 := by rw [hw4, ← hgx]; exact (Below.refl _ _).alloc (Nat.le_refl _) _
          have hk4 : Blk w4 gx 39 [.slice Ax P cx, .slice Ay P cy, .int .i64 (K : Int)] := by rw [hw4, ← hgx]; exact Blk.new w3 _ _
          have hs4 : w4.heap.size = gx + 1 := by rw [hw4, ← hgx]; simp
          have HB4 : Hid (Below (g + 2) w1 w4) := Lib.hid (HB2.out.trans ((hb3.mono (by omega)).trans (hb4.mono (by omega))))
          have HX4 := Lib.hid (RdG.below (show RdG w3 gx Ax X by rw [← hgx]; exact hXr) hb4)
          have HY4 := Lib.hid (RdI.below (show RdI w3 gx Ay Y by rw [← hgx]; exact hYr) hb4)
          have HAL := Lib.hid hAl; have HP := Lib.hid hP; have HK := Lib.hid hK; have HK4 := Lib.hid hk4
          have hK322 : K ≤ 322 := by rw [hK]; exact hAl.k
          have hP6 : P ≤ 106260 := by rw [hP]; exact hAl.sz
          have hgx2 : g + 2 ≤ gx := by omega
          have k1 := HKK1.out.below HB4.out (show g < g + 2 by omega)
          have k2 := HKK2.out.below HB4.out (show g + 1 < g + 2 by omega)
          have z1 := k1.cell (i := 0) rfl
          have x0 := hk4.cell (i := 0) rfl
          have x1 := hk4.cell (i := 1) rfl
          have x2 := hk4.cell (i := 2) rfl
          have HBW4 : Hid (Below g w w4) := Lib.hid (HB1.out.trans (HB4.out.mono (by omega)))
          have HCL := Lib.hid (cls_of_parted hAl.p (fun s p q hp hq h => setsP_const HOK.out hp hq h))
          have HTH := Lib.hid (thick_any A Ax Ay n c P cx cy K l C X Y w4 gx (by omega) (Sh.up (Sh.below H.out (HBW4.out.mono hgB)) (by omega)) HOK.out HL.out (by omega) HX4.out hP.symm ⟨hx1, hx2⟩ HY4.out ⟨hy1, hy2⟩ hAl.a hK.symm (by omega) (by omega) HCL.out)
          have HKK4 := Lib.hid k1; have HKR4 := Lib.hid k2
          have x0A := x0; have x1A := x1; have x2A := x2; have z1A := z1
          rw [hw4] at x0A x1A x2A z1A
          clear hb3 hb4 hk4 hXr hYr hAl hP hK HNA z2 k1 k2
          go_wp2_with fail
          rw [← hw4]
          clear hw4 hgx x0A x1A x2A z1A
          refine HTH.out.mono ?_
          rintro e w5 ⟨Ar, Am, cr, cm, rfl, hr1, hr2, hm1, hm2, hR5, hM5, hb5⟩
          have hz5 := hb5.size
          obtain ⟨gd, hgd⟩ : ∃ gd, w5.heap.size = gd := ⟨_, rfl⟩
          obtain ⟨w6, hw6⟩ : ∃ w6, w6 = w5.alloc (.cells #[.int .i64 (K : Int), .slice Ar (n + 1) cr, .slice Am (n + 1) cm] 46) := ⟨_, rfl⟩
          have hb6 : Below gd w5 w6 := by rw [hw6, ← hgd]; exact (Below.refl _ _).alloc (Nat.le_refl _) _
          have hk6 : Blk w6 gd 46 [.int .i64 (K : Int), .slice Ar (n + 1) cr, .slice Am (n + 1) cm] := by rw [hw6, ← hgd]; exact Blk.new w5 _ _
          have hs6 : w6.heap.size = gd + 1 := by rw [hw6, ← hgd]; simp
          have hgd6 : gx + 1 ≤ gd := by omega
          have hb46 : Below (gx + 1) w4 w6 := (hb5.mono (by omega)).trans (hb6.mono (by omega))
          have y0 := hk6.cell (i := 0) rfl
          have y1 := hk6.cell (i := 1) rfl
          have y2 := hk6.cell (i := 2) rfl
          have kx6 := HK4.out.below hb46 (by omega)
          have x0 := kx6.cell (i := 0) rfl
          have x1 := kx6.cell (i := 1) rfl
          have x2 := kx6.cell (i := 2) rfl
          have kr6 := HKR4.out.below hb46 (show g + 1 < gx + 1 by omega)
          have HBW6 : Hid (Below g w w6) := Lib.hid (HBW4.out.trans (hb46.mono (by omega)))
          have HRW6 : Hid (RdI w6 gd Ar (fulR l)) := Lib.hid (RdI.below (show RdI w5 gd Ar (fulR l) by rw [← hgd]; exact hR5) hb6)
          have HMW6 : Hid (RdM w6 gd Am (fulM l C)) := Lib.hid ((show RdM w5 gd Am (fulM l C) by rw [← hgd]; exact hM5).below hb6)
          have hcr0 := kr6.cell (i := 0) rfl
          have HSE := Lib.hid (search_any 18 #[.pointer (some ⟨g + 1, 0, none⟩)] (hitD l l rule) (enters_of Tryz.func18 (by kernel_rfl) rfl) Ar Am Ar Am Ax Ay n n P K cr cm cr cm cx cy l l C X Y w6 (gd + 1) (by omega)
            (fun W hW x y hx hy => by
              have e1 : hitD l l rule (x, y) = (rul l x == rule) := by unfold hitD; rw [if_pos (by omega)]
              rw [e1]
              exact first1_any _ _ rule (g + 1) W ((hW.cell (p := ⟨g + 1, 0, none⟩) (by show g + 1 < gd + 1; omega)).trans hcr0))
            HOK.out HOK.out HL.out HL.out hn hn (RdI.more HRW6.out (by omega)) (RdM.more HMW6.out (by omega)) (RdI.more HRW6.out (by omega)) (RdM.more HMW6.out (by omega)) (RdG.more (RdG.below HX4.out (hb46.mono (by omega))) (by omega)) HP.out.symm (RdI.more (RdI.below HY4.out (hb46.mono (by omega))) (by omega)) HAL.out.a HK.out.symm hP6 (by omega) HCL.out HCL.out
            (fun r hr => by have := HAL.out.c.ok r hr; exact ⟨⟨by omega, by omega⟩, ⟨by omega, by omega⟩⟩) HAL.out.one ⟨hr1, hr2⟩ ⟨hm1, hm2⟩ ⟨hr1, hr2⟩ ⟨hm1, hm2⟩ ⟨hx1, hx2⟩ ⟨hy1, hy2⟩)
          have y0A := y0; have y1A := y1; have y2A := y2; have x0A := x0; have x1A := x1; have x2A := x2
          rw [hw6] at y0A y1A y2A x0A x1A x2A
          clear hb5 hb6 hk6 hb46 hR5 hM5 kx6 kr6 hcr0 HTH z1
          go_wp2_with fail
          rw [← hw6]
          clear hw6 hgd y0A y1A y2A x0A x1A x2A
          refine HSE.out.mono ?_
          rintro e w7 ⟨r, hr7, rfl, hb7⟩
          have HPF : Hid (PFirR l rule r) := Lib.hid (.inr ⟨HOK.out, .inr ⟨by omega, pro_ans HAL.out HCL.out HCL.out hr7⟩⟩)
          have HB7 : Hid (Below g w w7) := Lib.hid (HBW6.out.trans (hb7.mono (by omega)))
          clear hr7 hb7 HSE
          go_wp2_with fail
          go_ret2
          exact ⟨r, HPF.out, rfl, by rw [HG.out]; exact HB7.out⟩
end Go.Proofs.YtkcpfpofimkkiaaGreatDoor
namespace Go.Proofs.YtkcpfpofimkkiaaGreatDoor
open Go.RowKit BigFrame
set_option linter.unusedVariables false
set_option linter.unusedSimpArgs false
set_option maxRecDepth 100000

/-- An alphabet in memory behind the world w, for sets S. -/
def AlpM (w W : World) (S : List (List Rg)) (s : Value) : Prop := ∃ C X Y Ax cx Ay cy gx, s = .pointer (some ⟨gx, 0, none⟩) ∧ w.heap.size ≤ gx ∧ Blk W gx 39 [.slice Ax (List.length X) cx, .slice Ay (List.length X) cy, .int .i64 (List.length C : Int)] ∧ Alph S C X Y ∧ X.length ≤ cx ∧ cx ≤ maxLen ∧ X.length ≤ cy ∧ cy ≤ maxLen ∧
  RdG W W.heap.size Ax X ∧ RdI W W.heap.size Ay Y ∧ Below w.heap.size w W
theorem pro_sets {la lb : List St} (hm : totM la ≤ 60) (hm' : totM lb ≤ 60) : (setsP la ++ setsP lb).length ≤ 160 ∧ totR (setsP la ++ setsP lb) ≤ 160 ∧ ∀ s ∈ setsP la ++ setsP lb, s.length ≤ 60 := by
  refine ⟨by rw [List.length_append]; have := setsP_len la; have := setsP_len lb; omega, by rw [tR_app, totR_setsP, totR_setsP]; omega, fun s hs => ?_⟩
  rcases List.mem_append.1 hs with hs | hs
  · exact setsP_le60 hm s hs
  · exact setsP_le60 hm' s hs
/-- Classes of the program's sets joined tell the states of both apart. -/
theorem cls_joinedP {la lb : List St} {C : List (List Rg)} (hP : Parted (setsP la ++ setsP lb) C) (hok : okA la = true) (hok' : okA lb = true) : Cls la C.length (repOf C) (clsOf C) ∧ Cls lb C.length (repOf C) (clsOf C) := by
  have key : ∀ p q, sig (setsP la ++ setsP lb) p = sig (setsP la ++ setsP lb) q → sig (setsP la) p = sig (setsP la) q ∧ sig (setsP lb) p = sig (setsP lb) q := fun p q e => by
    unfold Go.Proofs.YtkcpfpofimkkiaaGreatDoor.sig at e ⊢
    rw [List.map_append, List.map_append] at e
    exact List.append_inj e (by simp)
  exact ⟨cls_of_parted hP (fun s p q hp hq e => setsP_const hok hp hq (key p q e).1), cls_of_parted hP (fun s p q hp hq e => setsP_const hok' hp hq (key p q e).2)⟩
/-- A row and its elements, of a call's own, as cells. -/
theorem SsV.rd_cells {w : World} {base : Nat} {v : Value} {vs : List Value} {S : List (List Rg)} (h : SsV w base v vs S) : ∃ A c, v = .slice A S.length c ∧ S.length ≤ c ∧ Rd w w.heap.size A vs ∧ ∀ u ∈ vs, u.oneCell' = true := by
  obtain ⟨A, c, e, h1, h2, h3⟩ := own_form h.row
  exact ⟨A, c, e, h1, h3, fun u hu => by
    obtain ⟨k, hk, rfl⟩ := List.getElem_of_mem hu
    exact own1 (h.cl k _ (List.getElem?_eq_getElem hk))⟩

theorem AlpM.mk {w W : World} {S C : List (List Rg)} {X : List Rg} {Y : List Int} {gx lx lc b1 cx cy : Nat} {Ax Ay : Option Addr} (hb : Below w.heap.size w W) (hg : w.heap.size ≤ gx) (hk : Blk W gx 39 [.slice none 0 0, .slice none 0 0, .int .i64 0]) (hA : Alph S C X Y) (hlx : lx = X.length) (hlc : lc = C.length)
    (h1 : lx ≤ cx) (h2 : cx ≤ maxLen) (h3 : lx ≤ cy) (h4 : cy ≤ maxLen) (hX : OwG W b1 (.slice Ax lx cx) X) (hY : W.ownsRow b1 3 1 (.slice Ay lx cy) Y.length (iv Y)) :
    AlpM w (((W.setCell ⟨gx, 0, none⟩ (.slice Ax lx cx)).setCell ⟨gx, 1, none⟩ (.slice Ay lx cy)).setCell ⟨gx, 2, none⟩ (.int .i64 (lc : Int))) S (.pointer (some ⟨gx, 0, none⟩)) := by
  subst hlx hlc
  have n1 := blk_own_ne hk hX (by decide)
  have n2 := blk_own_ne hk hY (by decide)
  refine ⟨C, X, Y, Ax, cx, Ay, cy, gx, rfl, hg, ((hk.set_ 0 _).set_ 1 _).set_ 2 _, hA, h1, h2, h3, h4, ?_, ?_, ((hb.setCell (p := ⟨gx, 0, none⟩) hg _).setCell (p := ⟨gx, 1, none⟩) hg _).setCell (p := ⟨gx, 2, none⟩) hg _⟩
  · have h := ownsRow_setCell_other (a := ⟨gx, 2, none⟩) (ownsRow_setCell_other (a := ⟨gx, 1, none⟩) (ownsRow_setCell_other (a := ⟨gx, 0, none⟩) hX n1 (.slice Ax X.length cx)) n1 (.slice Ay X.length cy)) n1 (.int .i64 (C.length : Int))
    obtain ⟨A2, c2, e, _, _, h⟩ := OwG.form h
    simp only [Value.slice.injEq] at e
    rw [← e.1] at h; exact h
  · exact own_rdS (ownsRow_setCell_other (a := ⟨gx, 2, none⟩) (ownsRow_setCell_other (a := ⟨gx, 1, none⟩) (ownsRow_setCell_other (a := ⟨gx, 0, none⟩) hY n2 (.slice Ax X.length cx)) n2 (.slice Ay X.length cy)) n2 (.int .i64 (C.length : Int)))
/-- What Apart answers, by points. -/
def PApR (la lb : List St) (r : Option (List Int)) : Prop := ((okA la = false ∨ okA lb = false) ∧ r = none) ∨ (okA la = true ∧ okA lb = true ∧ AnsN (stP la lb) ((pts 0 1114112).filter vpt) (hitD la lb (-1)) r)
set_option maxHeartbeats 8000000 in
theorem pApart_any (A A' : Option Addr) (n c n' c' : Nat) (la lb : List St) (w : World) (B : Nat) (hB : B ≤ w.heap.size) (h : (shL shState).rd w (Lo B) la [.slice A n c]) (h' : (shL shState).rd w (Lo B) lb [.slice A' n' c'])
    (hl : la.length = n) (hl' : lb.length = n') (hn : n ≤ 14) (hn' : n' ≤ 14) (hm : totM la ≤ 60) (hm' : totM lb ≤ 60) :
    Calls Tryz.prog 6 #[.agg #[.slice A n c], .agg #[.slice A' n' c']] w fun e w' => ∃ r, PApR la lb r ∧ e = .returned (.tuple #[.string (wayP r), .bool r.isSome]) ∧ Below w.heap.size w w' := by
  have H := Lib.hid h; have H' := Lib.hid h'; have HL := Lib.hid hl; have HL' := Lib.hid hl'; have HM := Lib.hid hm; have HM' := Lib.hid hm'
  obtain ⟨g, hg⟩ : ∃ g, w.heap.size = g := ⟨_, rfl⟩
  obtain ⟨W0, hW0⟩ : ∃ W0, W0 = (w.alloc (.cells #[.slice A n c] 24)).alloc (.cells #[.slice A' n' c'] 24) := ⟨_, rfl⟩
  have hb0 : Below g w W0 := by rw [hW0, ← hg]; exact ((Below.refl _ _).alloc (Nat.le_refl _) _).alloc (by simp) _
  have hk1 : Blk W0 g 24 [.slice A n c] := by rw [hW0, ← hg]; exact (Blk.new w _ _).alloc _
  have hk2 : Blk W0 (g + 1) 24 [.slice A' n' c'] := by
    have := Blk.new (w.alloc (.cells #[.slice A n c] 24)) 24 [.slice A' n' c']
    rw [show (w.alloc (.cells #[.slice A n c] 24)).heap.size = g + 1 by rw [← hg]; simp] at this
    rw [hW0]; exact this
  have hs0 : W0.heap.size = g + 2 := by rw [hW0, ← hg]; simp
  have hgB : B ≤ g := by omega
  have HAO := Lib.hid (autoOk_any A n c la W0 (Sh.up (Sh.below h (hb0.mono hgB)) (by omega)) hl (by omega))
  have HB0 := Lib.hid hb0; have HK1 := Lib.hid hk1; have HK2 := Lib.hid hk2; have HS0 := Lib.hid hs0; have HG := Lib.hid hg
  have z1 := hk1.cell (i := 0) rfl
  have z2 := hk2.cell (i := 0) rfl
  clear h h' hl hl' hm hm' hb0 hk1 hk2
  go_enter Tryz.func6, Tryz.ntmps6
  go_wp2_with fail
  rw [← hW0]
  clear hW0 hg
  go_wp2_with fail
  refine HAO.out.mono ?_
  rintro e w1 ⟨rfl, hb1⟩
  have hz1 := hb1.size
  have HB1 : Hid (Below g w w1) := Lib.hid (HB0.out.trans (hb1.mono (by omega)))
  have k1 := HK1.out.below' hb1
  have k2 := HK2.out.below' hb1
  have HKK1 := Lib.hid k1; have HKK2 := Lib.hid k2
  have z1 := k1.cell (i := 0) rfl
  have z2 := k2.cell (i := 0) rfl
  have HBO := Lib.hid (autoOk_any A' n' c' lb w1 (Sh.up (Sh.below H'.out (HB1.out.mono hgB)) (by omega)) HL'.out (by omega))
  clear hb1 k1 k2 HAO
  cases hok : okA la with
  | false =>
    as_aux_lemma =>
      have HP : Hid (PApR la lb none) := Lib.hid (.inl ⟨.inl hok, rfl⟩)
      clear hok
      go_wp2_with fail
      go_ret2
      exact ⟨none, HP.out, rfl, by rw [HG.out]; exact HB1.out⟩
  | true =>
    as_aux_lemma =>
      have HOK := Lib.hid hok
      clear hok
      go_wp2_with fail
      refine HBO.out.mono ?_
      rintro e w2 ⟨rfl, hb2⟩
      have hz2 := hb2.size
      have HB2 : Hid (Below g w w2) := Lib.hid (HB1.out.trans (hb2.mono (by omega)))
      have k1 := HKK1.out.below' hb2
      have k2 := HKK2.out.below' hb2
      have HKL1 := Lib.hid k1; have HKL2 := Lib.hid k2
      clear hb2 HBO z1 z2
      cases hok' : okA lb with
      | false =>
        as_aux_lemma =>
          have HP : Hid (PApR la lb none) := Lib.hid (.inl ⟨.inr hok', rfl⟩)
          clear hok'
          go_wp2_with fail
          go_ret2
          exact ⟨none, HP.out, rfl, by rw [HG.out]; exact HB2.out⟩
      | true =>
        as_aux_lemma =>
          have HOK' := Lib.hid hok'
          clear hok'
          go_upto_region 3 with (fail)
          go_cut [6] from 15 (fun s wx => Hid (AlpM w2 wx (setsP la ++ setsP lb) s))
          case first =>
            as_aux_lemma =>
              obtain ⟨wd, hwd⟩ : ∃ wd, wd = w2.drew := ⟨_, rfl⟩
              have hbd : Below w2.heap.size w2 wd := by rw [hwd]; exact (Below.refl _ _).drew
              have hsd : wd.heap.size = w2.heap.size := by rw [hwd]; rfl
              have kk1 := HKL1.out.below' hbd
              have kk2 := HKL2.out.below' hbd
              have k0 : ∀ X : WB wd.heap.size wd, X.val.cell? ⟨g, 0, none⟩ = some (.slice A n c) := fun X => (X.bel.cell (p := ⟨g, 0, none⟩) kk1.lt).trans (kk1.cell (i := 0) rfl)
              have k1 : ∀ X : WB wd.heap.size wd, X.val.cell? ⟨g + 1, 0, none⟩ = some (.slice A' n' c') := fun X => (X.bel.cell (p := ⟨g + 1, 0, none⟩) kk2.lt).trans (kk2.cell (i := 0) rfl)
              have HBD := Lib.hid hbd
              have hdz : g + 2 ≤ wd.heap.size := by omega
              have HPS := Lib.hid (pro_sets HM.out HM'.out)
              have hma : (setsP la).length ≤ 60 := by have := setsP_len la; have := HM.out; omega
              have hmb : (setsP lb).length ≤ 60 := by have := setsP_len lb; have := HM'.out; omega
              clear hbd kk1 kk2
              refine wp_region_S (fun w' => ∃ X : WB wd.heap.size wd, w' = X.val) (by kernel_rfl) ?_
              rw [← hwd]
              clear hwd
              show wpAnyS _ _ _ _ _ (7 + 1) _ _ _
              refine takeS 7 0 1 (by kernel_rfl) (by kernel_rfl) (fun _ _ d _ _ h => by cases d <;> exact h) ⟨⟨_, Below.refl _ _⟩, rfl⟩ ?_
              simp only [List.take_succ_cons, List.take_zero, List.drop_succ_cons, List.drop_zero]
              repeat (first | go_big_quiet_skip | (go_big_quiet_want; go_big_quiet_op; go_big_quiet_on))
              refine wpQuiet_nil ?_
              show wpAnyS _ _ _ _ _ (6 + 1) _ _ _
              refine takeS 6 2 1 (by kernel_rfl) (by kernel_rfl) (fun _ _ d _ _ h => by cases d <;> exact h) ⟨⟨_, Below.refl _ _⟩, rfl⟩ ?_
              simp only [List.take_succ_cons, List.take_zero, List.drop_succ_cons, List.drop_zero]
              repeat (first | go_big_quiet_skip | (go_big_quiet_want; go_big_quiet_op; go_big_quiet_on))
              refine wpQuiet_nil ?_
              clear k0 k1
              clear hsd
              have HBwd : Hid (Below wd.heap.size wd wd) := Lib.hid (Below.refl _ _)
              refine twoS 5 1 6 (by kernel_rfl) (by decide) (by decide) ?_ ?_
              · focus
                  simp only [List.take_succ_cons, List.take_zero, List.drop_succ_cons, List.drop_zero]
                  have HCwz1 := Lib.hid (pMoveSets_any A n c la wd B (by have := HBwd.out.size; omega) (Sh.below H.out (((HB2.out.trans (HBD.out.mono (by omega))).trans (HBwd.out.mono (by omega))).mono hgB)) HL.out (by omega) HM.out (okA_wf HOK.out (by rw [HL.out]; omega)))
                  go_wp2_with fail
                  refine HCwz1.out.mono ?_
                  rintro e wz1 ⟨vwz1, vswz1, rfl, hvwz1, hbwz1⟩
                  have HBwz1 : Hid (Below wd.heap.size wd wz1) := Lib.hid (HBwd.out.trans (hbwz1.mono HBwd.out.size))
                  have hsswz1 := SsV.base (ClV.ss hvwz1) (show wd.heap.size ≤ wd.heap.size from HBwd.out.size)
                  obtain ⟨Awz1, cwz1, rfl, -, -⟩ := own_len hsswz1.row
                  have HS1wz1 := Lib.hid hsswz1
                  clear hvwz1 hbwz1 hsswz1 HCwz1
                  go_wp2_with fail
                  refine ⟨⟨WB.mk _ HBwz1.out, rfl⟩, ?_⟩
                  refine twoS 4 3 6 (by kernel_rfl) (by decide) (by decide) ?_ ?_
                  · focus
                      simp only [List.take_succ_cons, List.take_zero, List.drop_succ_cons, List.drop_zero]
                      have HCwz2 := Lib.hid (pMoveSets_any A' n' c' lb wz1 B (by have := HBwz1.out.size; omega) (Sh.below H'.out (((HB2.out.trans (HBD.out.mono (by omega))).trans (HBwz1.out.mono (by omega))).mono hgB)) HL'.out (by omega) HM'.out (okA_wf HOK'.out (by rw [HL'.out]; omega)))
                      go_wp2_with fail
                      refine HCwz2.out.mono ?_
                      rintro e wz2 ⟨vwz2, vswz2, rfl, hvwz2, hbwz2⟩
                      have HBwz2 : Hid (Below wd.heap.size wd wz2) := Lib.hid (HBwz1.out.trans (hbwz2.mono HBwz1.out.size))
                      have HS1wz2 := Lib.hid (HS1wz1.out.ext hbwz2)
                      have hsswz2 := SsV.base (ClV.ss hvwz2) (show wd.heap.size ≤ wz1.heap.size from HBwz1.out.size)
                      obtain ⟨Awz2, cwz2, rfl, -, -⟩ := own_len hsswz2.row
                      have HS2wz2 := Lib.hid hsswz2
                      clear hvwz2 hbwz2 hsswz2 HCwz2
                      go_wp2_with fail
                      refine ⟨⟨WB.mk _ HBwz2.out, rfl⟩, ?_⟩
                      refine twoS 3 4 6 (by kernel_rfl) (by decide) (by decide) ?_ ?_
                      · focus
                          simp only [List.take_succ_cons, List.take_zero, List.drop_succ_cons, List.drop_zero]
                          have hqwz3 := HS2wz2.out.rd_cells
                          obtain ⟨Aqwz3, cqwz3, eqwz3, -, hrdwz3, honwz3⟩ := hqwz3
                          simp only [Value.slice.injEq] at eqwz3
                          obtain ⟨rfl, -, rfl⟩ := eqwz3
                          have HRDwz3 := Lib.hid hrdwz3; have HONwz3 := Lib.hid honwz3
                          have hl2wz3 : vswz2.length = (setsP lb).length := HS2wz2.out.l
                          have hzwz3 := HBwz2.out.size
                          clear hrdwz3 honwz3
                          go_wp2_with (at_builtin; refine wpList_app_rd elRow rfl (.tmp 16) (.tmp 18) rfl wd.heap.size (.slice Awz1 (setsP la).length cwz1) (setsP la).length (setsP lb).length cwz2 wz2.heap.size Awz2 vswz1 vswz2 rfl HS1wz2.out.row rfl (by rw [hl2wz3, Nat.mul_one]) HRDwz3.out HONwz3.out (by omega) (by omega) hzwz3 ?_; intro vwz3 wz3 hownwz3 hgwz3 hatwz3)
                          have HBwz3 : Hid (Below wd.heap.size wd wz3) := Lib.hid (HBwz2.out.grown hgwz3 hzwz3 (own_base HS1wz2.out.row))
                          have HS3wz3 := Lib.hid (HS1wz2.out.app hgwz3 hl2wz3 HS2wz2.out.cl hownwz3)
                          clear hownwz3 hgwz3 hatwz3 hl2wz3
                          refine ⟨⟨WB.mk _ HBwz3.out, rfl⟩, ?_⟩
                          refine twoS 2 5 6 (by kernel_rfl) (by decide) (by decide) ?_ ?_
                          · focus
                              simp only [List.take_succ_cons, List.take_zero, List.drop_succ_cons, List.drop_zero]
                              obtain ⟨Aqwz4, cqwz4, eqwz4, -, -, hrwz4⟩ := HS3wz3.out.rds
                              subst eqwz4
                              have HCwz4 := Lib.hid (newAlphabet_own Aqwz4 (setsP la ++ setsP lb).length cqwz4 (setsP la ++ setsP lb) wz3 wz3.heap.size (Nat.le_refl _) hrwz4 rfl ⟨HPS.out.1, HPS.out.2.1⟩ HPS.out.2.2)
                              clear hrwz4
                              rw [List.length_append] at HCwz4
                              (try rw [List.length_append])
                              go_wp2_with fail
                              refine HCwz4.out.mono ?_
                              rintro e wz4 ⟨C, X, Y, Ax, cx, Ay, cy, rfl, hAl, hx1, hx2, hy1, hy2, hXr, hYr, hbwz4⟩
                              have HBwz4 : Hid (Below wd.heap.size wd wz4) := Lib.hid (HBwz3.out.trans (hbwz4.mono HBwz3.out.size))
                              have HAL := Lib.hid hAl; have HXRwz4 := Lib.hid hXr; have HYRwz4 := Lib.hid hYr
                              obtain ⟨lx, hlx⟩ : ∃ lx, lx = X.length := ⟨_, rfl⟩
                              obtain ⟨lc, hlc⟩ : ∃ lc, lc = C.length := ⟨_, rfl⟩
                              rw [← hlx] at hx1 hy1 HXRwz4 HYRwz4 ⊢
                              rw [← hlc]
                              have HLX := Lib.hid hlx; have HLC := Lib.hid hlc
                              clear hAl hXr hYr hbwz4 HCwz4 hlx hlc
                              go_wp2_with fail
                              refine ⟨⟨WB.mk _ HBwz4.out, rfl⟩, ?_⟩
                              refine oneS 1 6 (by kernel_rfl) (by decide) ?_
                              simp only [List.take_succ_cons, List.take_zero, List.drop_succ_cons, List.drop_zero]
                              go_wp2_with fail
                              obtain ⟨wz5, hwz5⟩ : ∃ wz5, wz5 = wz4.alloc (.cells #[.slice none 0 0, .slice none 0 0, .int .i64 0] 39) := ⟨_, rfl⟩
                              have hbwz5 : Below wz4.heap.size wz4 wz5 := by rw [hwz5]; exact (Below.refl _ _).alloc (Nat.le_refl _) _
                              have hkwz5 : Blk wz5 wz4.heap.size 39 [.slice none 0 0, .slice none 0 0, .int .i64 0] := by rw [hwz5]; exact Blk.new wz4 _ _
                              have HXRwz5 := Lib.hid (own_ext HXRwz4.out hbwz5)
                              have HYRwz5 := Lib.hid (own_ext HYRwz4.out hbwz5)
                              have HKwz5 := Lib.hid hkwz5
                              have HBwz5 : Hid (Below wd.heap.size wd wz5) := Lib.hid (HBwz4.out.trans (hbwz5.mono HBwz4.out.size))
                              rw [← hwz5]
                              clear hbwz5 hkwz5 hwz5
                              refine ⟨⟨WB.mk _ HBwz5.out, rfl⟩, ?_⟩
                              have e0 := HKwz5.out.cell (i := 0) rfl
                              have e1 := HKwz5.out.cell (i := 1) rfl
                              have e2 := HKwz5.out.cell (i := 2) rfl
                              have f0 := HKwz5.out.frozen 0
                              have f1 := HKwz5.out.frozen 1
                              have f2 := HKwz5.out.frozen 2
                              refine oneS 0 7 (by kernel_rfl) (by decide) ?_
                              simp only [List.take_succ_cons, List.take_zero, List.drop_succ_cons, List.drop_zero]
                              go_wp2_with fail
                              have hgz : wd.heap.size ≤ wz4.heap.size := HBwz4.out.size
                              refine ⟨⟨WB.mk _ (((HBwz5.out.setCell (p := ⟨wz4.heap.size, 0, none⟩) hgz _).setCell (p := ⟨wz4.heap.size, 1, none⟩) hgz _).setCell (p := ⟨wz4.heap.size, 2, none⟩) hgz _), rfl⟩, ?_⟩
                              refine endS (by kernel_rfl) ?_
                              go_wp2_with fail
                              go_meet
                              case rel => exact Lib.hid (AlpM.mk (HBD.out.trans (HBwz5.out.mono HBD.out.size)) (Nat.le_trans HBD.out.size hgz) HKwz5.out HAL.out HLX.out HLC.out hx1 hx2 hy1 hy2 HXRwz5.out HYRwz5.out)
                          · focus
                              simp only [List.take_succ_cons, List.take_zero, List.drop_succ_cons, List.drop_zero]
                              go_wp2_with fail
                              obtain ⟨wz6, hwz6⟩ : ∃ wz6, wz6 = wz3.alloc (.cells #[.slice none 0 0, .slice none 0 0, .int .i64 0] 39) := ⟨_, rfl⟩
                              have hbwz6 : Below wz3.heap.size wz3 wz6 := by rw [hwz6]; exact (Below.refl _ _).alloc (Nat.le_refl _) _
                              have hkwz6 : Blk wz6 wz3.heap.size 39 [.slice none 0 0, .slice none 0 0, .int .i64 0] := by rw [hwz6]; exact Blk.new wz3 _ _
                              have HS3wz6 := Lib.hid (HS3wz3.out.ext hbwz6)
                              have HKwz6 := Lib.hid hkwz6
                              have HBwz6 : Hid (Below wd.heap.size wd wz6) := Lib.hid (HBwz3.out.trans (hbwz6.mono HBwz3.out.size))
                              rw [← hwz6]
                              clear hbwz6 hkwz6 hwz6
                              refine ⟨⟨WB.mk _ HBwz6.out, rfl⟩, ?_⟩
                              refine oneS 1 5 (by kernel_rfl) (by decide) ?_
                              simp only [List.take_succ_cons, List.take_zero, List.drop_succ_cons, List.drop_zero]
                              obtain ⟨Aqwz7, cqwz7, eqwz7, -, -, hrwz7⟩ := HS3wz6.out.rds
                              subst eqwz7
                              have HCwz7 := Lib.hid (newAlphabet_own Aqwz7 (setsP la ++ setsP lb).length cqwz7 (setsP la ++ setsP lb) wz6 wz6.heap.size (Nat.le_refl _) hrwz7 rfl ⟨HPS.out.1, HPS.out.2.1⟩ HPS.out.2.2)
                              clear hrwz7
                              rw [List.length_append] at HCwz7
                              (try rw [List.length_append])
                              go_wp2_with fail
                              refine HCwz7.out.mono ?_
                              rintro e wz7 ⟨C, X, Y, Ax, cx, Ay, cy, rfl, hAl, hx1, hx2, hy1, hy2, hXr, hYr, hbwz7⟩
                              have HBwz7 : Hid (Below wd.heap.size wd wz7) := Lib.hid (HBwz6.out.trans (hbwz7.mono HBwz6.out.size))
                              have HAL := Lib.hid hAl; have HXRwz7 := Lib.hid hXr; have HYRwz7 := Lib.hid hYr
                              have hgb := HKwz6.out.lt
                              have HKwz7 := Lib.hid (HKwz6.out.below' hbwz7)
                              obtain ⟨lx, hlx⟩ : ∃ lx, lx = X.length := ⟨_, rfl⟩
                              obtain ⟨lc, hlc⟩ : ∃ lc, lc = C.length := ⟨_, rfl⟩
                              rw [← hlx] at hx1 hy1 HXRwz7 HYRwz7 ⊢
                              rw [← hlc]
                              have HLX := Lib.hid hlx; have HLC := Lib.hid hlc
                              clear hAl hXr hYr hbwz7 HCwz7 hlx hlc
                              go_wp2_with fail
                              refine ⟨⟨WB.mk _ HBwz7.out, rfl⟩, ?_⟩
                              have e0 := HKwz7.out.cell (i := 0) rfl
                              have e1 := HKwz7.out.cell (i := 1) rfl
                              have e2 := HKwz7.out.cell (i := 2) rfl
                              have f0 := HKwz7.out.frozen 0
                              have f1 := HKwz7.out.frozen 1
                              have f2 := HKwz7.out.frozen 2
                              refine oneS 0 7 (by kernel_rfl) (by decide) ?_
                              simp only [List.take_succ_cons, List.take_zero, List.drop_succ_cons, List.drop_zero]
                              go_wp2_with fail
                              have hgz : wd.heap.size ≤ wz3.heap.size := HBwz3.out.size
                              refine ⟨⟨WB.mk _ (((HBwz7.out.setCell (p := ⟨wz3.heap.size, 0, none⟩) hgz _).setCell (p := ⟨wz3.heap.size, 1, none⟩) hgz _).setCell (p := ⟨wz3.heap.size, 2, none⟩) hgz _), rfl⟩, ?_⟩
                              refine endS (by kernel_rfl) ?_
                              go_wp2_with fail
                              go_meet
                              case rel => exact Lib.hid (AlpM.mk (HBD.out.trans (HBwz7.out.mono HBD.out.size)) (Nat.le_trans HBD.out.size hgz) HKwz7.out HAL.out HLX.out HLC.out hx1 hx2 hy1 hy2 HXRwz7.out HYRwz7.out)
                      · focus
                          simp only [List.take_succ_cons, List.take_zero, List.drop_succ_cons, List.drop_zero]
                          go_wp2_with fail
                          obtain ⟨wz8, hwz8⟩ : ∃ wz8, wz8 = wz2.alloc (.cells #[.slice none 0 0, .slice none 0 0, .int .i64 0] 39) := ⟨_, rfl⟩
                          have hbwz8 : Below wz2.heap.size wz2 wz8 := by rw [hwz8]; exact (Below.refl _ _).alloc (Nat.le_refl _) _
                          have hkwz8 : Blk wz8 wz2.heap.size 39 [.slice none 0 0, .slice none 0 0, .int .i64 0] := by rw [hwz8]; exact Blk.new wz2 _ _
                          have HS1wz8 := Lib.hid (HS1wz2.out.ext hbwz8)
                          have HS2wz8 := Lib.hid (HS2wz2.out.ext hbwz8)
                          have HKwz8 := Lib.hid hkwz8
                          have HBwz8 : Hid (Below wd.heap.size wd wz8) := Lib.hid (HBwz2.out.trans (hbwz8.mono HBwz2.out.size))
                          rw [← hwz8]
                          clear hbwz8 hkwz8 hwz8
                          refine ⟨⟨WB.mk _ HBwz8.out, rfl⟩, ?_⟩
                          refine oneS 2 4 (by kernel_rfl) (by decide) ?_
                          simp only [List.take_succ_cons, List.take_zero, List.drop_succ_cons, List.drop_zero]
                          have hqwz9 := HS2wz8.out.rd_cells
                          obtain ⟨Aqwz9, cqwz9, eqwz9, -, hrdwz9, honwz9⟩ := hqwz9
                          simp only [Value.slice.injEq] at eqwz9
                          obtain ⟨rfl, -, rfl⟩ := eqwz9
                          have HRDwz9 := Lib.hid hrdwz9; have HONwz9 := Lib.hid honwz9
                          have hl2wz9 : vswz2.length = (setsP lb).length := HS2wz8.out.l
                          have hzwz9 := HBwz8.out.size
                          clear hrdwz9 honwz9
                          go_wp2_with (at_builtin; refine wpList_app_rd elRow rfl (.tmp 16) (.tmp 18) rfl wd.heap.size (.slice Awz1 (setsP la).length cwz1) (setsP la).length (setsP lb).length cwz2 wz8.heap.size Awz2 vswz1 vswz2 rfl HS1wz8.out.row rfl (by rw [hl2wz9, Nat.mul_one]) HRDwz9.out HONwz9.out (by omega) (by omega) hzwz9 ?_; intro vwz9 wz9 hownwz9 hgwz9 hatwz9)
                          have HBwz9 : Hid (Below wd.heap.size wd wz9) := Lib.hid (HBwz8.out.grown hgwz9 hzwz9 (own_base HS1wz8.out.row))
                          have HS3wz9 := Lib.hid (HS1wz8.out.app hgwz9 hl2wz9 HS2wz8.out.cl hownwz9)
                          have HKwz9 := Lib.hid (HKwz8.out.grown hgwz9 (fun e => blk_own_ne HKwz8.out HS1wz8.out.row (by decide) e.symm))
                          clear hownwz9 hgwz9 hatwz9 hl2wz9
                          refine ⟨⟨WB.mk _ HBwz9.out, rfl⟩, ?_⟩
                          refine oneS 1 5 (by kernel_rfl) (by decide) ?_
                          simp only [List.take_succ_cons, List.take_zero, List.drop_succ_cons, List.drop_zero]
                          obtain ⟨Aqwz10, cqwz10, eqwz10, -, -, hrwz10⟩ := HS3wz9.out.rds
                          subst eqwz10
                          have HCwz10 := Lib.hid (newAlphabet_own Aqwz10 (setsP la ++ setsP lb).length cqwz10 (setsP la ++ setsP lb) wz9 wz9.heap.size (Nat.le_refl _) hrwz10 rfl ⟨HPS.out.1, HPS.out.2.1⟩ HPS.out.2.2)
                          clear hrwz10
                          rw [List.length_append] at HCwz10
                          (try rw [List.length_append])
                          go_wp2_with fail
                          refine HCwz10.out.mono ?_
                          rintro e wz10 ⟨C, X, Y, Ax, cx, Ay, cy, rfl, hAl, hx1, hx2, hy1, hy2, hXr, hYr, hbwz10⟩
                          have HBwz10 : Hid (Below wd.heap.size wd wz10) := Lib.hid (HBwz9.out.trans (hbwz10.mono HBwz9.out.size))
                          have HAL := Lib.hid hAl; have HXRwz10 := Lib.hid hXr; have HYRwz10 := Lib.hid hYr
                          have hgb := HKwz9.out.lt
                          have HKwz10 := Lib.hid (HKwz9.out.below' hbwz10)
                          obtain ⟨lx, hlx⟩ : ∃ lx, lx = X.length := ⟨_, rfl⟩
                          obtain ⟨lc, hlc⟩ : ∃ lc, lc = C.length := ⟨_, rfl⟩
                          rw [← hlx] at hx1 hy1 HXRwz10 HYRwz10 ⊢
                          rw [← hlc]
                          have HLX := Lib.hid hlx; have HLC := Lib.hid hlc
                          clear hAl hXr hYr hbwz10 HCwz10 hlx hlc
                          go_wp2_with fail
                          refine ⟨⟨WB.mk _ HBwz10.out, rfl⟩, ?_⟩
                          have e0 := HKwz10.out.cell (i := 0) rfl
                          have e1 := HKwz10.out.cell (i := 1) rfl
                          have e2 := HKwz10.out.cell (i := 2) rfl
                          have f0 := HKwz10.out.frozen 0
                          have f1 := HKwz10.out.frozen 1
                          have f2 := HKwz10.out.frozen 2
                          refine oneS 0 7 (by kernel_rfl) (by decide) ?_
                          simp only [List.take_succ_cons, List.take_zero, List.drop_succ_cons, List.drop_zero]
                          go_wp2_with fail
                          have hgz : wd.heap.size ≤ wz2.heap.size := HBwz2.out.size
                          refine ⟨⟨WB.mk _ (((HBwz10.out.setCell (p := ⟨wz2.heap.size, 0, none⟩) hgz _).setCell (p := ⟨wz2.heap.size, 1, none⟩) hgz _).setCell (p := ⟨wz2.heap.size, 2, none⟩) hgz _), rfl⟩, ?_⟩
                          refine endS (by kernel_rfl) ?_
                          go_wp2_with fail
                          go_meet
                          case rel => exact Lib.hid (AlpM.mk (HBD.out.trans (HBwz10.out.mono HBD.out.size)) (Nat.le_trans HBD.out.size hgz) HKwz10.out HAL.out HLX.out HLC.out hx1 hx2 hy1 hy2 HXRwz10.out HYRwz10.out)
                  · focus
                      simp only [List.take_succ_cons, List.take_zero, List.drop_succ_cons, List.drop_zero]
                      go_wp2_with fail
                      obtain ⟨wz11, hwz11⟩ : ∃ wz11, wz11 = wz1.alloc (.cells #[.slice none 0 0, .slice none 0 0, .int .i64 0] 39) := ⟨_, rfl⟩
                      have hbwz11 : Below wz1.heap.size wz1 wz11 := by rw [hwz11]; exact (Below.refl _ _).alloc (Nat.le_refl _) _
                      have hkwz11 : Blk wz11 wz1.heap.size 39 [.slice none 0 0, .slice none 0 0, .int .i64 0] := by rw [hwz11]; exact Blk.new wz1 _ _
                      have HS1wz11 := Lib.hid (HS1wz1.out.ext hbwz11)
                      have HKwz11 := Lib.hid hkwz11
                      have HBwz11 : Hid (Below wd.heap.size wd wz11) := Lib.hid (HBwz1.out.trans (hbwz11.mono HBwz1.out.size))
                      rw [← hwz11]
                      clear hbwz11 hkwz11 hwz11
                      refine ⟨⟨WB.mk _ HBwz11.out, rfl⟩, ?_⟩
                      refine oneS 3 3 (by kernel_rfl) (by decide) ?_
                      simp only [List.take_succ_cons, List.take_zero, List.drop_succ_cons, List.drop_zero]
                      have HCwz12 := Lib.hid (pMoveSets_any A' n' c' lb wz11 B (by have := HBwz11.out.size; omega) (Sh.below H'.out (((HB2.out.trans (HBD.out.mono (by omega))).trans (HBwz11.out.mono (by omega))).mono hgB)) HL'.out (by omega) HM'.out (okA_wf HOK'.out (by rw [HL'.out]; omega)))
                      go_wp2_with fail
                      refine HCwz12.out.mono ?_
                      rintro e wz12 ⟨vwz12, vswz12, rfl, hvwz12, hbwz12⟩
                      have HBwz12 : Hid (Below wd.heap.size wd wz12) := Lib.hid (HBwz11.out.trans (hbwz12.mono HBwz11.out.size))
                      have HS1wz12 := Lib.hid (HS1wz11.out.ext hbwz12)
                      have HKwz12 : Hid (Blk wz12 wz1.heap.size 39 [.slice none 0 0, .slice none 0 0, .int .i64 0]) := Lib.hid (HKwz11.out.below' hbwz12)
                      have hsswz12 := SsV.base (ClV.ss hvwz12) (show wd.heap.size ≤ wz11.heap.size from HBwz11.out.size)
                      obtain ⟨Awz12, cwz12, rfl, -, -⟩ := own_len hsswz12.row
                      have HS2wz12 := Lib.hid hsswz12
                      clear hvwz12 hbwz12 hsswz12 HCwz12
                      go_wp2_with fail
                      refine ⟨⟨WB.mk _ HBwz12.out, rfl⟩, ?_⟩
                      refine oneS 2 4 (by kernel_rfl) (by decide) ?_
                      simp only [List.take_succ_cons, List.take_zero, List.drop_succ_cons, List.drop_zero]
                      have hqwz13 := HS2wz12.out.rd_cells
                      obtain ⟨Aqwz13, cqwz13, eqwz13, -, hrdwz13, honwz13⟩ := hqwz13
                      simp only [Value.slice.injEq] at eqwz13
                      obtain ⟨rfl, -, rfl⟩ := eqwz13
                      have HRDwz13 := Lib.hid hrdwz13; have HONwz13 := Lib.hid honwz13
                      have hl2wz13 : vswz12.length = (setsP lb).length := HS2wz12.out.l
                      have hzwz13 := HBwz12.out.size
                      clear hrdwz13 honwz13
                      go_wp2_with (at_builtin; refine wpList_app_rd elRow rfl (.tmp 16) (.tmp 18) rfl wd.heap.size (.slice Awz1 (setsP la).length cwz1) (setsP la).length (setsP lb).length cwz12 wz12.heap.size Awz12 vswz1 vswz12 rfl HS1wz12.out.row rfl (by rw [hl2wz13, Nat.mul_one]) HRDwz13.out HONwz13.out (by omega) (by omega) hzwz13 ?_; intro vwz13 wz13 hownwz13 hgwz13 hatwz13)
                      have HBwz13 : Hid (Below wd.heap.size wd wz13) := Lib.hid (HBwz12.out.grown hgwz13 hzwz13 (own_base HS1wz12.out.row))
                      have HS3wz13 := Lib.hid (HS1wz12.out.app hgwz13 hl2wz13 HS2wz12.out.cl hownwz13)
                      have HKwz13 := Lib.hid (HKwz12.out.grown hgwz13 (fun e => blk_own_ne HKwz12.out HS1wz12.out.row (by decide) e.symm))
                      clear hownwz13 hgwz13 hatwz13 hl2wz13
                      refine ⟨⟨WB.mk _ HBwz13.out, rfl⟩, ?_⟩
                      refine oneS 1 5 (by kernel_rfl) (by decide) ?_
                      simp only [List.take_succ_cons, List.take_zero, List.drop_succ_cons, List.drop_zero]
                      obtain ⟨Aqwz14, cqwz14, eqwz14, -, -, hrwz14⟩ := HS3wz13.out.rds
                      subst eqwz14
                      have HCwz14 := Lib.hid (newAlphabet_own Aqwz14 (setsP la ++ setsP lb).length cqwz14 (setsP la ++ setsP lb) wz13 wz13.heap.size (Nat.le_refl _) hrwz14 rfl ⟨HPS.out.1, HPS.out.2.1⟩ HPS.out.2.2)
                      clear hrwz14
                      rw [List.length_append] at HCwz14
                      (try rw [List.length_append])
                      go_wp2_with fail
                      refine HCwz14.out.mono ?_
                      rintro e wz14 ⟨C, X, Y, Ax, cx, Ay, cy, rfl, hAl, hx1, hx2, hy1, hy2, hXr, hYr, hbwz14⟩
                      have HBwz14 : Hid (Below wd.heap.size wd wz14) := Lib.hid (HBwz13.out.trans (hbwz14.mono HBwz13.out.size))
                      have HAL := Lib.hid hAl; have HXRwz14 := Lib.hid hXr; have HYRwz14 := Lib.hid hYr
                      have hgb := HKwz13.out.lt
                      have HKwz14 := Lib.hid (HKwz13.out.below' hbwz14)
                      obtain ⟨lx, hlx⟩ : ∃ lx, lx = X.length := ⟨_, rfl⟩
                      obtain ⟨lc, hlc⟩ : ∃ lc, lc = C.length := ⟨_, rfl⟩
                      rw [← hlx] at hx1 hy1 HXRwz14 HYRwz14 ⊢
                      rw [← hlc]
                      have HLX := Lib.hid hlx; have HLC := Lib.hid hlc
                      clear hAl hXr hYr hbwz14 HCwz14 hlx hlc
                      go_wp2_with fail
                      refine ⟨⟨WB.mk _ HBwz14.out, rfl⟩, ?_⟩
                      have e0 := HKwz14.out.cell (i := 0) rfl
                      have e1 := HKwz14.out.cell (i := 1) rfl
                      have e2 := HKwz14.out.cell (i := 2) rfl
                      have f0 := HKwz14.out.frozen 0
                      have f1 := HKwz14.out.frozen 1
                      have f2 := HKwz14.out.frozen 2
                      refine oneS 0 7 (by kernel_rfl) (by decide) ?_
                      simp only [List.take_succ_cons, List.take_zero, List.drop_succ_cons, List.drop_zero]
                      go_wp2_with fail
                      have hgz : wd.heap.size ≤ wz1.heap.size := HBwz1.out.size
                      refine ⟨⟨WB.mk _ (((HBwz14.out.setCell (p := ⟨wz1.heap.size, 0, none⟩) hgz _).setCell (p := ⟨wz1.heap.size, 1, none⟩) hgz _).setCell (p := ⟨wz1.heap.size, 2, none⟩) hgz _), rfl⟩, ?_⟩
                      refine endS (by kernel_rfl) ?_
                      go_wp2_with fail
                      go_meet
                      case rel => exact Lib.hid (AlpM.mk (HBD.out.trans (HBwz14.out.mono HBD.out.size)) (Nat.le_trans HBD.out.size hgz) HKwz14.out HAL.out HLX.out HLC.out hx1 hx2 hy1 hy2 HXRwz14.out HYRwz14.out)
              · focus
                  simp only [List.take_succ_cons, List.take_zero, List.drop_succ_cons, List.drop_zero]
                  go_wp2_with fail
                  obtain ⟨wz15, hwz15⟩ : ∃ wz15, wz15 = wd.alloc (.cells #[.slice none 0 0, .slice none 0 0, .int .i64 0] 39) := ⟨_, rfl⟩
                  have hbwz15 : Below wd.heap.size wd wz15 := by rw [hwz15]; exact (Below.refl _ _).alloc (Nat.le_refl _) _
                  have hkwz15 : Blk wz15 wd.heap.size 39 [.slice none 0 0, .slice none 0 0, .int .i64 0] := by rw [hwz15]; exact Blk.new wd _ _
                  have HKwz15 := Lib.hid hkwz15
                  have HBwz15 : Hid (Below wd.heap.size wd wz15) := Lib.hid (HBwd.out.trans (hbwz15.mono HBwd.out.size))
                  rw [← hwz15]
                  clear hbwz15 hkwz15 hwz15
                  refine ⟨⟨WB.mk _ HBwz15.out, rfl⟩, ?_⟩
                  refine oneS 4 1 (by kernel_rfl) (by decide) ?_
                  simp only [List.take_succ_cons, List.take_zero, List.drop_succ_cons, List.drop_zero]
                  have HCwz16 := Lib.hid (pMoveSets_any A n c la wz15 B (by have := HBwz15.out.size; omega) (Sh.below H.out (((HB2.out.trans (HBD.out.mono (by omega))).trans (HBwz15.out.mono (by omega))).mono hgB)) HL.out (by omega) HM.out (okA_wf HOK.out (by rw [HL.out]; omega)))
                  go_wp2_with fail
                  refine HCwz16.out.mono ?_
                  rintro e wz16 ⟨vwz16, vswz16, rfl, hvwz16, hbwz16⟩
                  have HBwz16 : Hid (Below wd.heap.size wd wz16) := Lib.hid (HBwz15.out.trans (hbwz16.mono HBwz15.out.size))
                  have HKwz16 : Hid (Blk wz16 wd.heap.size 39 [.slice none 0 0, .slice none 0 0, .int .i64 0]) := Lib.hid (HKwz15.out.below' hbwz16)
                  have hsswz16 := SsV.base (ClV.ss hvwz16) (show wd.heap.size ≤ wz15.heap.size from HBwz15.out.size)
                  obtain ⟨Awz16, cwz16, rfl, -, -⟩ := own_len hsswz16.row
                  have HS1wz16 := Lib.hid hsswz16
                  clear hvwz16 hbwz16 hsswz16 HCwz16
                  go_wp2_with fail
                  refine ⟨⟨WB.mk _ HBwz16.out, rfl⟩, ?_⟩
                  refine oneS 3 3 (by kernel_rfl) (by decide) ?_
                  simp only [List.take_succ_cons, List.take_zero, List.drop_succ_cons, List.drop_zero]
                  have HCwz17 := Lib.hid (pMoveSets_any A' n' c' lb wz16 B (by have := HBwz16.out.size; omega) (Sh.below H'.out (((HB2.out.trans (HBD.out.mono (by omega))).trans (HBwz16.out.mono (by omega))).mono hgB)) HL'.out (by omega) HM'.out (okA_wf HOK'.out (by rw [HL'.out]; omega)))
                  go_wp2_with fail
                  refine HCwz17.out.mono ?_
                  rintro e wz17 ⟨vwz17, vswz17, rfl, hvwz17, hbwz17⟩
                  have HBwz17 : Hid (Below wd.heap.size wd wz17) := Lib.hid (HBwz16.out.trans (hbwz17.mono HBwz16.out.size))
                  have HKwz17 : Hid (Blk wz17 wd.heap.size 39 [.slice none 0 0, .slice none 0 0, .int .i64 0]) := Lib.hid (HKwz16.out.below' hbwz17)
                  have HS1wz17 := Lib.hid (HS1wz16.out.ext hbwz17)
                  have hsswz17 := SsV.base (ClV.ss hvwz17) (show wd.heap.size ≤ wz16.heap.size from HBwz16.out.size)
                  obtain ⟨Awz17, cwz17, rfl, -, -⟩ := own_len hsswz17.row
                  have HS2wz17 := Lib.hid hsswz17
                  clear hvwz17 hbwz17 hsswz17 HCwz17
                  go_wp2_with fail
                  refine ⟨⟨WB.mk _ HBwz17.out, rfl⟩, ?_⟩
                  refine oneS 2 4 (by kernel_rfl) (by decide) ?_
                  simp only [List.take_succ_cons, List.take_zero, List.drop_succ_cons, List.drop_zero]
                  have hqwz18 := HS2wz17.out.rd_cells
                  obtain ⟨Aqwz18, cqwz18, eqwz18, -, hrdwz18, honwz18⟩ := hqwz18
                  simp only [Value.slice.injEq] at eqwz18
                  obtain ⟨rfl, -, rfl⟩ := eqwz18
                  have HRDwz18 := Lib.hid hrdwz18; have HONwz18 := Lib.hid honwz18
                  have hl2wz18 : vswz17.length = (setsP lb).length := HS2wz17.out.l
                  have hzwz18 := HBwz17.out.size
                  clear hrdwz18 honwz18
                  go_wp2_with (at_builtin; refine wpList_app_rd elRow rfl (.tmp 16) (.tmp 18) rfl wd.heap.size (.slice Awz16 (setsP la).length cwz16) (setsP la).length (setsP lb).length cwz17 wz17.heap.size Awz17 vswz16 vswz17 rfl HS1wz17.out.row rfl (by rw [hl2wz18, Nat.mul_one]) HRDwz18.out HONwz18.out (by omega) (by omega) hzwz18 ?_; intro vwz18 wz18 hownwz18 hgwz18 hatwz18)
                  have HBwz18 : Hid (Below wd.heap.size wd wz18) := Lib.hid (HBwz17.out.grown hgwz18 hzwz18 (own_base HS1wz17.out.row))
                  have HS3wz18 := Lib.hid (HS1wz17.out.app hgwz18 hl2wz18 HS2wz17.out.cl hownwz18)
                  have HKwz18 := Lib.hid (HKwz17.out.grown hgwz18 (fun e => blk_own_ne HKwz17.out HS1wz17.out.row (by decide) e.symm))
                  clear hownwz18 hgwz18 hatwz18 hl2wz18
                  refine ⟨⟨WB.mk _ HBwz18.out, rfl⟩, ?_⟩
                  refine oneS 1 5 (by kernel_rfl) (by decide) ?_
                  simp only [List.take_succ_cons, List.take_zero, List.drop_succ_cons, List.drop_zero]
                  obtain ⟨Aqwz19, cqwz19, eqwz19, -, -, hrwz19⟩ := HS3wz18.out.rds
                  subst eqwz19
                  have HCwz19 := Lib.hid (newAlphabet_own Aqwz19 (setsP la ++ setsP lb).length cqwz19 (setsP la ++ setsP lb) wz18 wz18.heap.size (Nat.le_refl _) hrwz19 rfl ⟨HPS.out.1, HPS.out.2.1⟩ HPS.out.2.2)
                  clear hrwz19
                  rw [List.length_append] at HCwz19
                  (try rw [List.length_append])
                  go_wp2_with fail
                  refine HCwz19.out.mono ?_
                  rintro e wz19 ⟨C, X, Y, Ax, cx, Ay, cy, rfl, hAl, hx1, hx2, hy1, hy2, hXr, hYr, hbwz19⟩
                  have HBwz19 : Hid (Below wd.heap.size wd wz19) := Lib.hid (HBwz18.out.trans (hbwz19.mono HBwz18.out.size))
                  have HAL := Lib.hid hAl; have HXRwz19 := Lib.hid hXr; have HYRwz19 := Lib.hid hYr
                  have hgb := HKwz18.out.lt
                  have HKwz19 := Lib.hid (HKwz18.out.below' hbwz19)
                  obtain ⟨lx, hlx⟩ : ∃ lx, lx = X.length := ⟨_, rfl⟩
                  obtain ⟨lc, hlc⟩ : ∃ lc, lc = C.length := ⟨_, rfl⟩
                  rw [← hlx] at hx1 hy1 HXRwz19 HYRwz19 ⊢
                  rw [← hlc]
                  have HLX := Lib.hid hlx; have HLC := Lib.hid hlc
                  clear hAl hXr hYr hbwz19 HCwz19 hlx hlc
                  go_wp2_with fail
                  refine ⟨⟨WB.mk _ HBwz19.out, rfl⟩, ?_⟩
                  have e0 := HKwz19.out.cell (i := 0) rfl
                  have e1 := HKwz19.out.cell (i := 1) rfl
                  have e2 := HKwz19.out.cell (i := 2) rfl
                  have f0 := HKwz19.out.frozen 0
                  have f1 := HKwz19.out.frozen 1
                  have f2 := HKwz19.out.frozen 2
                  refine oneS 0 7 (by kernel_rfl) (by decide) ?_
                  simp only [List.take_succ_cons, List.take_zero, List.drop_succ_cons, List.drop_zero]
                  go_wp2_with fail
                  have hgz : wd.heap.size ≤ wd.heap.size := Nat.le_refl _
                  refine ⟨⟨WB.mk _ (((HBwz19.out.setCell (p := ⟨wd.heap.size, 0, none⟩) hgz _).setCell (p := ⟨wd.heap.size, 1, none⟩) hgz _).setCell (p := ⟨wd.heap.size, 2, none⟩) hgz _), rfl⟩, ?_⟩
                  refine endS (by kernel_rfl) ?_
                  go_wp2_with fail
                  go_meet
                  case rel => exact Lib.hid (AlpM.mk (HBD.out.trans (HBwz19.out.mono HBD.out.size)) (Nat.le_trans HBD.out.size hgz) HKwz19.out HAL.out HLX.out HLC.out hx1 hx2 hy1 hy2 HXRwz19.out HYRwz19.out)
          case rest =>
            obtain ⟨C, X, Y, Ax, cx, Ay, cy, gx, hs, hgx, hkx, hAl, hx1, hx2, hy1, hy2, hXr, hYr, hbc⟩ := hcut
            rw [hs]
            clear hs
            have hzc := hbc.size
            obtain ⟨P, hP⟩ : ∃ P, P = X.length := ⟨_, rfl⟩
            obtain ⟨K, hK⟩ : ∃ K, K = C.length := ⟨_, rfl⟩
            rw [← hP] at hx1 hy1 hkx
            rw [← hK] at hkx
            have hK322 : K ≤ 322 := by rw [hK]; exact hAl.k
            have hP6 : P ≤ 106260 := by rw [hP]; exact hAl.sz
            have HBC : Hid (Below g w wc) := Lib.hid (HB2.out.trans (hbc.mono (by omega)))
            have HCL := Lib.hid (cls_joinedP hAl.p HOK.out HOK'.out)
            have HAL := Lib.hid hAl; have HP := Lib.hid hP; have HK := Lib.hid hK; have HXr := Lib.hid hXr; have HYr := Lib.hid hYr
            have kk1 := HKL1.out.below' hbc
            have kk2 := HKL2.out.below' hbc
            obtain ⟨wd, hwd⟩ : ∃ wd, wd = wc.drew := ⟨_, rfl⟩
            have hbd : Below wc.heap.size wc wd := by rw [hwd]; exact (Below.refl _ _).drew
            have hsd : wd.heap.size = wc.heap.size := by rw [hwd]; rfl
            have j1 := kk1.below' hbd
            have j2 := kk2.below' hbd
            have j3 := hkx.below' hbd
            have k0 : ∀ X : WB wd.heap.size wd, X.val.cell? ⟨g, 0, none⟩ = some (.slice A n c) := fun X => (X.bel.cell (p := ⟨g, 0, none⟩) j1.lt).trans (j1.cell (i := 0) rfl)
            have k1 : ∀ X : WB wd.heap.size wd, X.val.cell? ⟨g + 1, 0, none⟩ = some (.slice A' n' c') := fun X => (X.bel.cell (p := ⟨g + 1, 0, none⟩) j2.lt).trans (j2.cell (i := 0) rfl)
            have k2 : ∀ X : WB wd.heap.size wd, X.val.cell? ⟨gx, 0, none⟩ = some (.slice Ax P cx) := fun X => (X.bel.cell (p := ⟨gx, 0, none⟩) j3.lt).trans (j3.cell (i := 0) rfl)
            have k3 : ∀ X : WB wd.heap.size wd, X.val.cell? ⟨gx, 1, none⟩ = some (.slice Ay P cy) := fun X => (X.bel.cell (p := ⟨gx, 1, none⟩) j3.lt).trans (j3.cell (i := 1) rfl)
            have k4 : ∀ X : WB wd.heap.size wd, X.val.cell? ⟨gx, 2, none⟩ = some (.int .i64 (K : Int)) := fun X => (X.bel.cell (p := ⟨gx, 2, none⟩) j3.lt).trans (j3.cell (i := 2) rfl)
            have HBWd : Hid (Below g w wd) := Lib.hid (HBC.out.trans (hbd.mono (by omega)))
            have HXd : Hid (RdG wd wd.heap.size Ax X) := Lib.hid (RdG.more (RdG.below hXr hbd) (by omega))
            have HYd : Hid (RdI wd wd.heap.size Ay Y) := Lib.hid (RdI.more (RdI.below hYr hbd) (by omega))
            have hgd : g ≤ wd.heap.size := by omega
            have HT1 := Lib.hid (thick_any A Ax Ay n c P cx cy K la C X Y wd wd.heap.size (Nat.le_refl _) (Sh.up (Sh.below H.out (HBWd.out.mono hgB)) (by omega)) HOK.out HL.out (by omega) HXd.out hP.symm ⟨hx1, hx2⟩ HYd.out ⟨hy1, hy2⟩ hAl.a hK.symm (by omega) (by omega) HCL.out.1)
            clear hkx hAl hXr hYr hbc hP hK kk1 kk2 hbd j1 j2 j3 hsd
            go_wp2_with fail
            refine wp_region_S (fun w' => ∃ X : WB wd.heap.size wd, w' = X.val) (by kernel_rfl) ?_
            rw [← hwd]
            clear hwd
            show wpAnyS _ _ _ _ _ (10 + 2) _ _ _
            refine takeS 10 0 2 (by kernel_rfl) (by kernel_rfl) (fun _ _ d _ _ h => by cases d <;> exact h) ⟨⟨_, Below.refl _ _⟩, rfl⟩ ?_
            simp only [List.take_succ_cons, List.take_zero, List.drop_succ_cons, List.drop_zero]
            repeat (first | go_big_quiet_skip | (go_big_quiet_want; go_big_quiet_op; go_big_quiet_on))
            refine wpQuiet_nil ?_
            show wpAnyS _ _ _ _ _ (8 + 2) _ _ _
            refine takeS 8 3 2 (by kernel_rfl) (by kernel_rfl) (fun _ _ d _ _ h => by cases d <;> exact h) ⟨⟨_, Below.refl _ _⟩, rfl⟩ ?_
            simp only [List.take_succ_cons, List.take_zero, List.drop_succ_cons, List.drop_zero]
            repeat (first | go_big_quiet_skip | (go_big_quiet_want; go_big_quiet_op; go_big_quiet_on))
            refine wpQuiet_nil ?_
            show wpAnyS _ _ _ _ _ (7 + 1) _ _ _
            refine takeS 7 6 1 (by kernel_rfl) (by kernel_rfl) (fun _ _ d _ _ h => by cases d <;> exact h) ⟨⟨_, Below.refl _ _⟩, rfl⟩ ?_
            simp only [List.take_succ_cons, List.take_zero, List.drop_succ_cons, List.drop_zero]
            repeat (first | go_big_quiet_skip | (go_big_quiet_want; go_big_quiet_op; go_big_quiet_on))
            refine wpQuiet_nil ?_
            clear k0 k1 k2 k3 k4
            refine oneS 6 2 (by kernel_rfl) (by decide) ?_
            simp only [List.take_succ_cons, List.take_zero, List.drop_succ_cons, List.drop_zero]
            go_wp2_with fail
            refine HT1.out.mono ?_
            rintro e w5 ⟨Ar, Am, cr, cm, rfl, hr1, hr2, hm1, hm2, hR5, hM5, hb5⟩
            have hz5 := hb5.size
            have HB5 := Lib.hid hb5
            have HT2 := Lib.hid (thick_any A' Ax Ay n' c' P cx cy K lb C X Y w5 wd.heap.size hz5 (Sh.up (Sh.below H'.out ((HBWd.out.trans (hb5.mono hgd)).mono hgB)) (by omega)) HOK'.out HL'.out (by omega) (RdG.below HXd.out hb5) HP.out.symm ⟨hx1, hx2⟩ (RdI.below HYd.out hb5) ⟨hy1, hy2⟩ HAL.out.a HK.out.symm (by omega) (by omega) HCL.out.2)
            have HR5 := Lib.hid hR5; have HM5 := Lib.hid hM5
            clear hR5 hM5 hb5 HT1
            go_wp2_with fail
            refine ⟨⟨WB.mk _ HB5.out, rfl⟩, ?_⟩
            refine oneS 5 5 (by kernel_rfl) (by decide) ?_
            simp only [List.take_succ_cons, List.take_zero, List.drop_succ_cons, List.drop_zero]
            go_wp2_with fail
            refine HT2.out.mono ?_
            rintro e w6 ⟨Ar', Am', cr', cm', rfl, hr1', hr2', hm1', hm2', hR6, hM6, hb6⟩
            have hz6 := hb6.size
            have HB6 : Hid (Below wd.heap.size wd w6) := Lib.hid (HB5.out.trans (hb6.mono hz5))
            have HSE := Lib.hid (search_any 17 #[] (hitD la lb (-1)) (enters_of Tryz.func17 (by kernel_rfl) rfl) Ar Am Ar' Am' Ax Ay n n' P K cr cm cr' cm' cx cy la lb C X Y w6 w6.heap.size (Nat.le_refl _)
              (fun W hW x y hx hy => by
                have e1 : hitD la lb (-1) (x, y) = (rul la x != rul lb y) := by unfold hitD; rw [if_neg (by omega)]
                rw [e1]
                exact apart1_any _ _ W)
              HOK.out HOK'.out HL.out HL'.out hn hn' (RdI.more (RdI.below HR5.out hb6) hz6) (RdM.more (HM5.out.below hb6) hz6) hR6 hM6 (RdG.more (RdG.below HXd.out HB6.out) (by omega)) HP.out.symm (RdI.more (RdI.below HYd.out HB6.out) (by omega)) HAL.out.a HK.out.symm hP6 (by omega) HCL.out.1 HCL.out.2
              (fun r hr => by have := HAL.out.c.ok r hr; exact ⟨⟨by omega, by omega⟩, ⟨by omega, by omega⟩⟩) HAL.out.one ⟨hr1, hr2⟩ ⟨hm1, hm2⟩ ⟨hr1', hr2'⟩ ⟨hm1', hm2'⟩ ⟨hx1, hx2⟩ ⟨hy1, hy2⟩)
            clear hR6 hM6 hb6 HT2
            go_wp2_with fail
            refine ⟨⟨WB.mk _ HB6.out, rfl⟩, ?_⟩
            refine oneS 4 7 (by kernel_rfl) (by decide) ?_
            simp only [List.take_succ_cons, List.take_zero, List.drop_succ_cons, List.drop_zero]
            go_wp2_with fail
            refine HSE.out.mono ?_
            rintro e w7 ⟨r, hr7, rfl, hb7⟩
            have HPF : Hid (PApR la lb r) := Lib.hid (.inr ⟨HOK.out, HOK'.out, pro_ans HAL.out HCL.out.1 HCL.out.2 hr7⟩)
            have HB7 : Hid (Below wd.heap.size wd w7) := Lib.hid (HB6.out.trans (hb7.mono HB6.out.size))
            clear hr7 hb7 HSE
            go_wp2_with fail
            refine ⟨⟨WB.mk _ HB7.out, rfl⟩, ?_⟩
            show wpAnyS _ _ _ _ _ (0 + 4) _ _ _
            refine takeS 0 8 4 (by kernel_rfl) (by kernel_rfl) (fun _ _ d _ _ h => by cases d <;> exact h) ⟨⟨_, HB7.out⟩, rfl⟩ ?_
            simp only [List.take_succ_cons, List.take_zero, List.drop_succ_cons, List.drop_zero]
            repeat (first | go_big_quiet_skip | (go_big_quiet_want; go_big_quiet_op; go_big_quiet_on))
            refine wpQuiet_nil ?_
            refine endS (by kernel_rfl) ?_
            go_wp2_with fail
            go_ret2
            exact ⟨r, HPF.out, rfl, by rw [HG.out]; exact HBWd.out.trans (HB7.out.mono hgd)⟩
end Go.Proofs.YtkcpfpofimkkiaaGreatDoor
