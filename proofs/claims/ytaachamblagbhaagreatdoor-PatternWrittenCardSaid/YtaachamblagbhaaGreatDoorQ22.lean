/- The program's text of a valid pattern. -/
import Derived.Test.YtaachamblagbhaaGreatDoorQ19
import Derived.Test.YtaachamblagbhaaGreatDoorQ16
import Derived.Test.YtaachamblagbhaaGreatDoorQ21
namespace Go.Proofs.YtaachamblagbhaaGreatDoor
open Go.RowKit BigFrame
set_option linter.unusedVariables false
set_option linter.unusedSimpArgs false
set_option maxRecDepth 100000

theorem elSt : ElTy Tryz.prog 58 9 1 16 (.string { data := #[] }) := ⟨Tryz.underlying58, by kernel_rfl, rfl, by decide⟩
theorem itoa_natU (i : Nat) : Lib.itoa (i : Int) = Lib.decDigits i := by
  unfold Lib.itoa
  rw [if_neg (by omega), Int.toNat_natCast]
/-- What Join makes of a row of texts. -/
theorem join_row (v : Value) (base n : Nat) (l : List (List UInt8)) (sep : List UInt8) (w : World) (hr : w.ownsRow base 9 1 v n (l.map bs)) (hn : n ≠ 1) (h60 : n ≤ 60) (hs : sep.length ≤ 1) (hsum : sumL l ≤ 100000) :
    Calls Tryz.prog 30 #[v, bs sep] w fun e w' => e = .returned (bs (joinB sep l)) ∧ Below w.heap.size w w' := by
  have hl : l.length = n := by have := hr.1; simpa using this
  by_cases h0 : n = 0
  · subst h0
    obtain rfl := List.eq_nil_of_length_eq_zero hl
    obtain ⟨A, c, rfl, _, _⟩ := own_form hr
    exact (join_none A c sep w).mono fun e w' ⟨h1, h2⟩ => ⟨h1, by rw [h2]; exact Below.refl _ _⟩
  · obtain ⟨g, cap, rfl, h1, h2, h3, _, h5⟩ := own_atR hr (by omega)
    refine join_many g 0 n cap l sep w (fun j x hx => ?_) h3 hl (by omega) h60 h1 (by unfold maxLen at h2; omega) hs hsum
    rw [Nat.zero_add]
    exact h5 j (bs x) (by rw [List.getElem?_map, hx]; rfl)
theorem sumL_txL {d n : Nat} {ks : List Rx} (h : ∀ x ∈ ks, shp d x = true) (hS : ∀ x ∈ ks, SetS x) (hw : weiL ks ≤ 60) : sumL (ks.map (witX n)) ≤ 16200 := by
  have h1 := (txL_asc (n := n) h hS).2
  rw [txL_map] at h1
  have key : ∀ l : List (List UInt8), sumL l ≤ (l.map fun t => t.length + 1).sum := fun l => by
    induction l with
    | nil => simp [sumL]
    | cons y l ih =>
      unfold sumL at ih ⊢
      rw [List.map_cons, List.sum_cons, List.map_cons, List.sum_cons]
      omega
  have h2 := key (ks.map (witX n))
  omega
theorem wit_len {d n : Nat} {p : Rx} (h : shp d p = true) (hS : SetS p) (hw : wei p ≤ 60) : (witX n p).length ≤ 16300 := by
  have := (txX_asc h hS).2
  unfold witX brk
  split
  · simp; omega
  · omega

set_option maxHeartbeats 8000000 in
theorem text_node (k : Int) (s : List Rg) (mn mx : Int) (ks : List Rx) (d : Nat) (hsh : shp d (.node k s mn mx ks) = true) (hS : SetS (.node k s mn mx ks)) (hwt : wei (.node k s mn mx ks) ≤ 60) (B : Nat) (v : Value) (w : World) (hB : B ≤ w.heap.size) (ht : Tz w B) (hT : RxB w B v (.node k s mn mx ks))
    (ih : ∀ x ∈ ks, wei x ≤ 60 → ∀ (u : Value) (W : World), B ≤ W.heap.size → Tz W B → RxB W B u x → Calls Tryz.prog 16 #[u] W fun e w' => e = .returned (bs (txX x)) ∧ Below W.heap.size W w') :
    Calls Tryz.prog 16 #[v] w fun e w' => e = .returned (bs (txX (.node k s mn mx ks))) ∧ Below w.heap.size w w' := by
  obtain ⟨b, A, c, A', c', rfl, hb, z0, z1, z2, z3, z4, h1, h2, h3, h4, h5, h6⟩ := hT.node_inv
  obtain ⟨g1, g2, g3, g4, g5⟩ := shp_node hsh
  obtain ⟨hs12, hSk⟩ := hS.inv
  by_cases k1 : k = 1
  · as_aux_lemma =>
      have hc : Can s := by
        unfold setOk at g4
        rw [Bool.and_eq_true] at g4
        exact canB_iff.1 g4.1
      have HS := Lib.hid (setText_any A s.length c s w B hB (h5.rd fun _ q => q) rfl hs12 hc ht)
      have HE : Hid (txX (.node k s mn mx ks) = setx s) := Lib.hid (txX_one k1)
      obtain ⟨m, hm⟩ : ∃ m, m = s.length := ⟨_, rfl⟩
      rw [← hm] at HS z1
      subst k1
      clear hT h5 h6 ih hs12 hSk h1 g2 g3 g4 g5 hsh hS hwt hm hc ht
      go_enter Tryz.func16, Tryz.ntmps16
      go_wp2_with fail
      refine HS.out.mono ?_
      rintro e w1 ⟨rfl, hb1⟩
      have HB1 := Lib.hid hb1
      clear hb1
      go_wp2_with fail
      go_ret
      exact ⟨ret_eq (by rw [HE.out]; rfl), HB1.out⟩
  have hwl : weiL ks ≤ 60 := Nat.le_trans (wei_kid k1) hwt
  have hkl : ks.length ≤ 60 := Nat.le_trans (weiL_len g5) hwl
  -- a kid's text, in brackets where asked
  have hwith : ∀ n x u (W : World), x ∈ ks → Below B w W → B ≤ W.heap.size → RxB W B u x → Calls Tryz.prog 29 #[u, .int .i64 ((n : Nat) : Int)] W fun e w' => e = .returned (bs (witX n x)) ∧ Below W.heap.size W w' := fun n x u W hx hbw hBW hu => by
    have hwx := Nat.le_trans (weiL_mem hx) hwl
    refine within_any x n u W (hu.more hBW) (fun e => by have := g5 x hx; rw [e, shp] at this; cases this) ?_ (ih x hx hwx u W hBW (ht.below hbw) hu)
    have := (txX_asc (g5 x hx) (hSk x hx)).2
    omega
  have HWI := Lib.hid hwith
  have HC : Hid (∀ W, Below B w W → W.cell? ⟨b, 0, none⟩ = some (.int .i64 k) ∧ W.cell? ⟨b, 2, none⟩ = some (.int .i64 mn) ∧ W.cell? ⟨b, 3, none⟩ = some (.int .i64 mx) ∧ W.cell? ⟨b, 4, none⟩ = some (.slice A' ks.length c')) :=
    Lib.hid (fun W hb2 => ⟨(hb2.cell (p := ⟨b, 0, none⟩) hb).trans z0, (hb2.cell (p := ⟨b, 2, none⟩) hb).trans z2, (hb2.cell (p := ⟨b, 3, none⟩) hb).trans z3, (hb2.cell (p := ⟨b, 4, none⟩) hb).trans z4⟩)
  have HKS := Lib.hid h6
  have HSL : Hid (∀ n, sumL (ks.map (witX n)) ≤ 16200) := Lib.hid (fun n => sumL_txL g5 hSk hwl)
  have HCN := Lib.hid g2; have HTM := Lib.hid g3
  have HWL : Hid (∀ n x, x ∈ ks → (witX n x).length ≤ 16300) := Lib.hid (fun n x hx => wit_len (g5 x hx) (hSk x hx) (Nat.le_trans (weiL_mem hx) hwl))
  unfold maxLen at h4
  obtain ⟨n, hn⟩ : ∃ n, n = ks.length := ⟨_, rfl⟩
  have HN := Lib.hid hn
  rw [← hn] at HC z4 h3 hkl HKS HCN
  obtain ⟨res, hres⟩ : ∃ res, res = txX (.node k s mn mx ks) := ⟨_, rfl⟩
  rw [← hres]
  have HRES := Lib.hid hres
  clear hT h5 h6 ih hs12 hSk g2 g3 g4 g5 hsh hS hwith hn hres ht hwl hwt
  have c1 : (k == 1) = false := by rw [beq_eq_false_iff_ne]; exact k1
  by_cases k3 : k = 3
  · as_aux_lemma =>
      subst k3
      have HTX : Hid (res = joinB [124] (ks.map (witX 1))) := Lib.hid (by rw [HRES.out]; exact txX_or)
      have hn1 : n ≠ 1 := fun e => by
        have := HCN.out
        rw [e] at this
        unfold cntOk at this
        simp at this
      clear z2 z3
      go_enter Tryz.func16, Tryz.ntmps16
      go_wp2_with fail
      go_loopw [3, 5, 29] (fun l u i wr => ∃ j : Nat, j ≤ n ∧ i = .int .i64 (j : Int) ∧ Hid (wr.ownsRow w.heap.size 9 1 l j ((ks.take j).map fun x => bs (witX 1 x))) ∧ Hid (Below w.heap.size w wr)) (fun _ _ i _ => n - (intOf i).toNat)
      case atStart => exact ⟨0, Nat.zero_le _, rfl, World.ownsRow_nil _ _ _ _, Below.refl _ _⟩
      case round =>
        as_aux_lemma =>
          obtain ⟨j, hj, rfl, HO, HBJ⟩ := hrel
          have hsj := HBJ.out.size
          obtain ⟨wo, rfl⟩ : ∃ wo : World, wo = wr := ⟨_, rfl⟩
          by_cases hlt : j < n
          · as_aux_lemma =>
              obtain ⟨x, hx⟩ : ∃ x, ks[j]? = some x := ⟨_, List.getElem?_eq_getElem (by rw [← HN.out]; exact hlt)⟩
              obtain ⟨kb, off, rfl, hkb, hkc⟩ := HKS.out (by omega)
              obtain ⟨u, zu, hu⟩ := hkc j x hx
              have zj := ((HBJ.out.mono hB).cell (p := ⟨kb, off + j, none⟩) hkb).trans zu
              obtain ⟨up, rfl⟩ := hu.ptr
              have HI := Lib.hid (HWI.out 1 x (.pointer up) wo (List.mem_of_getElem? hx) (HBJ.out.mono hB) (by omega) (RxB.below hu (HBJ.out.mono hB)))
              rw [show ((1 : Nat) : Int) = 1 from rfl] at HI
              obtain ⟨t, ht⟩ : ∃ t, t = witX 1 x := ⟨_, rfl⟩
              rw [← ht] at HI
              have HTK : Hid ((ks.take (j + 1)).map (fun x => bs (witX 1 x)) = (ks.take j).map (fun x => bs (witX 1 x)) ++ [bs t]) := Lib.hid (by rw [List.take_add_one, hx, List.map_append, ht]; rfl)
              have hrl : ((ks.take j).map fun x => bs (witX 1 x)).length = j := by rw [List.length_map, List.length_take, ← HN.out]; omega
              obtain ⟨rows, hrows⟩ : ∃ rows, rows = (ks.take j).map fun x => bs (witX 1 x) := ⟨_, rfl⟩
              rw [← hrows] at HO HTK hrl
              obtain ⟨Al, cl, rfl, q1, q2, -⟩ := own_form HO.out
              clear hkc zu hu hx ht hrows q1 q2
              go_wp2_with fail
              refine HI.out.mono ?_
              clear HI
              rintro e w5 ⟨rfl, hb5⟩
              have hs5 := hb5.size
              have HO5 := Lib.hid (own_ext HO.out hb5)
              have HB5 := Lib.hid (HBJ.out.trans (hb5.mono hsj))
              have hg5 : w.heap.size ≤ w5.heap.size := by omega
              unfold bs
              unfold bs at HTK
              clear hb5
              go_wp2_with (at_builtin; refine wpList_app elSt rfl (.tmp 33) (.tmp 36) rfl w.heap.size _ j 1 rows [.string ⟨t.toArray⟩] rfl HO5.out rfl rfl (by simp [Value.oneCell']) (by omega) (by omega) hg5 ?_; intro v6 w6 hown6 hgr6 hat6; have HQ6 := Lib.hid hown6; have HB6 := Lib.hid (HB5.out.grown hgr6 hg5 (fun k e => own_base HO5.out k e)); clear hown6 hgr6 hat6)
              go_roundw
              case rel => exact ⟨j + 1, by omega, by go_num, Lib.hid (by have := HTK.out; unfold bs; rw [this]; exact HQ6.out), HB6⟩
              case measure => simp [intOf]; omega
          · as_aux_lemma =>
              obtain rfl : j = n := by omega
              have ho := HO.out
              rw [List.take_of_length_le (by rw [← HN.out]; exact Nat.le_refl _)] at ho
              have ho2 : wo.ownsRow w.heap.size 9 1 u3 j ((ks.map (witX 1)).map bs) := by rw [List.map_map]; exact ho
              have HJ := Lib.hid (join_row _ w.heap.size j (ks.map (witX 1)) [124] wo ho2 hn1 hkl (by simp) (by have := HSL.out 1; omega))
              obtain ⟨Al, cl, rfl, q1, q2, -⟩ := own_form HO.out
              clear ho ho2 q1 q2
              unfold bs at HJ
              go_wp2_with fail
              refine HJ.out.mono ?_
              rintro e w5 ⟨rfl, hb5⟩
              have HB5 := Lib.hid (HBJ.out.trans (hb5.mono hsj))
              clear hb5
              go_wp2_with fail
              go_ret
              exact ⟨ret_eq (by rw [HTX.out]; rfl), HB5.out⟩

  have c3 : (k == 3) = false := by rw [beq_eq_false_iff_ne]; exact k3
  by_cases k4 : k = 4
  · as_aux_lemma =>
      subst k4
      have HTX : Hid (res = joinB [38] (ks.map (witX 2))) := Lib.hid (by rw [HRES.out]; exact txX_and)
      have hn1 : n ≠ 1 := fun e => by
        have := HCN.out
        rw [e] at this
        unfold cntOk at this
        simp at this
      clear z2 z3
      go_enter Tryz.func16, Tryz.ntmps16
      go_wp2_with fail
      go_loopw [3, 7, 48] (fun l u i wr => ∃ j : Nat, j ≤ n ∧ i = .int .i64 (j : Int) ∧ Hid (wr.ownsRow w.heap.size 9 1 l j ((ks.take j).map fun x => bs (witX 2 x))) ∧ Hid (Below w.heap.size w wr)) (fun _ _ i _ => n - (intOf i).toNat)
      case atStart => exact ⟨0, Nat.zero_le _, rfl, World.ownsRow_nil _ _ _ _, Below.refl _ _⟩
      case round =>
        as_aux_lemma =>
          obtain ⟨j, hj, rfl, HO, HBJ⟩ := hrel
          have hsj := HBJ.out.size
          obtain ⟨wo, rfl⟩ : ∃ wo : World, wo = wr := ⟨_, rfl⟩
          by_cases hlt : j < n
          · as_aux_lemma =>
              obtain ⟨x, hx⟩ : ∃ x, ks[j]? = some x := ⟨_, List.getElem?_eq_getElem (by rw [← HN.out]; exact hlt)⟩
              obtain ⟨kb, off, rfl, hkb, hkc⟩ := HKS.out (by omega)
              obtain ⟨u, zu, hu⟩ := hkc j x hx
              have zj := ((HBJ.out.mono hB).cell (p := ⟨kb, off + j, none⟩) hkb).trans zu
              obtain ⟨up, rfl⟩ := hu.ptr
              have HI := Lib.hid (HWI.out 2 x (.pointer up) wo (List.mem_of_getElem? hx) (HBJ.out.mono hB) (by omega) (RxB.below hu (HBJ.out.mono hB)))
              rw [show ((2 : Nat) : Int) = 2 from rfl] at HI
              obtain ⟨t, ht⟩ : ∃ t, t = witX 2 x := ⟨_, rfl⟩
              rw [← ht] at HI
              have HTK : Hid ((ks.take (j + 1)).map (fun x => bs (witX 2 x)) = (ks.take j).map (fun x => bs (witX 2 x)) ++ [bs t]) := Lib.hid (by rw [List.take_add_one, hx, List.map_append, ht]; rfl)
              have hrl : ((ks.take j).map fun x => bs (witX 2 x)).length = j := by rw [List.length_map, List.length_take, ← HN.out]; omega
              obtain ⟨rows, hrows⟩ : ∃ rows, rows = (ks.take j).map fun x => bs (witX 2 x) := ⟨_, rfl⟩
              rw [← hrows] at HO HTK hrl
              obtain ⟨Al, cl, rfl, q1, q2, -⟩ := own_form HO.out
              clear hkc zu hu hx ht hrows q1 q2
              go_wp2_with fail
              refine HI.out.mono ?_
              clear HI
              rintro e w5 ⟨rfl, hb5⟩
              have hs5 := hb5.size
              have HO5 := Lib.hid (own_ext HO.out hb5)
              have HB5 := Lib.hid (HBJ.out.trans (hb5.mono hsj))
              have hg5 : w.heap.size ≤ w5.heap.size := by omega
              unfold bs
              unfold bs at HTK
              clear hb5
              go_wp2_with (at_builtin; refine wpList_app elSt rfl (.tmp 52) (.tmp 55) rfl w.heap.size _ j 1 rows [.string ⟨t.toArray⟩] rfl HO5.out rfl rfl (by simp [Value.oneCell']) (by omega) (by omega) hg5 ?_; intro v6 w6 hown6 hgr6 hat6; have HQ6 := Lib.hid hown6; have HB6 := Lib.hid (HB5.out.grown hgr6 hg5 (fun k e => own_base HO5.out k e)); clear hown6 hgr6 hat6)
              go_roundw
              case rel => exact ⟨j + 1, by omega, by go_num, Lib.hid (by have := HTK.out; unfold bs; rw [this]; exact HQ6.out), HB6⟩
              case measure => simp [intOf]; omega
          · as_aux_lemma =>
              obtain rfl : j = n := by omega
              have ho := HO.out
              rw [List.take_of_length_le (by rw [← HN.out]; exact Nat.le_refl _)] at ho
              have ho2 : wo.ownsRow w.heap.size 9 1 u3 j ((ks.map (witX 2)).map bs) := by rw [List.map_map]; exact ho
              have HJ := Lib.hid (join_row _ w.heap.size j (ks.map (witX 2)) [38] wo ho2 hn1 hkl (by simp) (by have := HSL.out 2; omega))
              obtain ⟨Al, cl, rfl, q1, q2, -⟩ := own_form HO.out
              clear ho ho2 q1 q2
              unfold bs at HJ
              go_wp2_with fail
              refine HJ.out.mono ?_
              rintro e w5 ⟨rfl, hb5⟩
              have HB5 := Lib.hid (HBJ.out.trans (hb5.mono hsj))
              clear hb5
              go_wp2_with fail
              go_ret
              exact ⟨ret_eq (by rw [HTX.out]; rfl), HB5.out⟩

  have c4 : (k == 4) = false := by rw [beq_eq_false_iff_ne]; exact k4
  by_cases k2 : k = 2
  · as_aux_lemma =>
      subst k2
      have HTX : Hid (res = joinB [] (ks.map (witX 3))) := Lib.hid (by rw [HRES.out]; exact txX_cat)
      have hn1 : n ≠ 1 := fun e => by
        have := HCN.out
        rw [e] at this
        unfold cntOk at this
        simp at this
      clear z2 z3
      go_enter Tryz.func16, Tryz.ntmps16
      go_wp2_with fail
      go_loopw [3, 9, 67] (fun l u i wr => ∃ j : Nat, j ≤ n ∧ i = .int .i64 (j : Int) ∧ Hid (wr.ownsRow w.heap.size 9 1 l j ((ks.take j).map fun x => bs (witX 3 x))) ∧ Hid (Below w.heap.size w wr)) (fun _ _ i _ => n - (intOf i).toNat)
      case atStart => exact ⟨0, Nat.zero_le _, rfl, World.ownsRow_nil _ _ _ _, Below.refl _ _⟩
      case round =>
        as_aux_lemma =>
          obtain ⟨j, hj, rfl, HO, HBJ⟩ := hrel
          have hsj := HBJ.out.size
          obtain ⟨wo, rfl⟩ : ∃ wo : World, wo = wr := ⟨_, rfl⟩
          by_cases hlt : j < n
          · as_aux_lemma =>
              obtain ⟨x, hx⟩ : ∃ x, ks[j]? = some x := ⟨_, List.getElem?_eq_getElem (by rw [← HN.out]; exact hlt)⟩
              obtain ⟨kb, off, rfl, hkb, hkc⟩ := HKS.out (by omega)
              obtain ⟨u, zu, hu⟩ := hkc j x hx
              have zj := ((HBJ.out.mono hB).cell (p := ⟨kb, off + j, none⟩) hkb).trans zu
              obtain ⟨up, rfl⟩ := hu.ptr
              have HI := Lib.hid (HWI.out 3 x (.pointer up) wo (List.mem_of_getElem? hx) (HBJ.out.mono hB) (by omega) (RxB.below hu (HBJ.out.mono hB)))
              rw [show ((3 : Nat) : Int) = 3 from rfl] at HI
              obtain ⟨t, ht⟩ : ∃ t, t = witX 3 x := ⟨_, rfl⟩
              rw [← ht] at HI
              have HTK : Hid ((ks.take (j + 1)).map (fun x => bs (witX 3 x)) = (ks.take j).map (fun x => bs (witX 3 x)) ++ [bs t]) := Lib.hid (by rw [List.take_add_one, hx, List.map_append, ht]; rfl)
              have hrl : ((ks.take j).map fun x => bs (witX 3 x)).length = j := by rw [List.length_map, List.length_take, ← HN.out]; omega
              obtain ⟨rows, hrows⟩ : ∃ rows, rows = (ks.take j).map fun x => bs (witX 3 x) := ⟨_, rfl⟩
              rw [← hrows] at HO HTK hrl
              obtain ⟨Al, cl, rfl, q1, q2, -⟩ := own_form HO.out
              clear hkc zu hu hx ht hrows q1 q2
              go_wp2_with fail
              refine HI.out.mono ?_
              clear HI
              rintro e w5 ⟨rfl, hb5⟩
              have hs5 := hb5.size
              have HO5 := Lib.hid (own_ext HO.out hb5)
              have HB5 := Lib.hid (HBJ.out.trans (hb5.mono hsj))
              have hg5 : w.heap.size ≤ w5.heap.size := by omega
              unfold bs
              unfold bs at HTK
              clear hb5
              go_wp2_with (at_builtin; refine wpList_app elSt rfl (.tmp 71) (.tmp 74) rfl w.heap.size _ j 1 rows [.string ⟨t.toArray⟩] rfl HO5.out rfl rfl (by simp [Value.oneCell']) (by omega) (by omega) hg5 ?_; intro v6 w6 hown6 hgr6 hat6; have HQ6 := Lib.hid hown6; have HB6 := Lib.hid (HB5.out.grown hgr6 hg5 (fun k e => own_base HO5.out k e)); clear hown6 hgr6 hat6)
              go_roundw
              case rel => exact ⟨j + 1, by omega, by go_num, Lib.hid (by have := HTK.out; unfold bs; rw [this]; exact HQ6.out), HB6⟩
              case measure => simp [intOf]; omega
          · as_aux_lemma =>
              obtain rfl : j = n := by omega
              have ho := HO.out
              rw [List.take_of_length_le (by rw [← HN.out]; exact Nat.le_refl _)] at ho
              have ho2 : wo.ownsRow w.heap.size 9 1 u3 j ((ks.map (witX 3)).map bs) := by rw [List.map_map]; exact ho
              have HJ := Lib.hid (join_row _ w.heap.size j (ks.map (witX 3)) [] wo ho2 hn1 hkl (by simp) (by have := HSL.out 3; omega))
              obtain ⟨Al, cl, rfl, q1, q2, -⟩ := own_form HO.out
              clear ho ho2 q1 q2
              unfold bs at HJ
              go_wp2_with fail
              refine HJ.out.mono ?_
              rintro e w5 ⟨rfl, hb5⟩
              have HB5 := Lib.hid (HBJ.out.trans (hb5.mono hsj))
              clear hb5
              go_wp2_with fail
              go_ret
              exact ⟨ret_eq (by rw [HTX.out]; rfl), HB5.out⟩

  have c2 : (k == 2) = false := by rw [beq_eq_false_iff_ne]; exact k2
  by_cases k5 : k = 5 ∨ k = 6
  · have hn1 : n = 1 := by
      have := HCN.out
      unfold cntOk at this
      rw [if_neg k1, if_neg k2, if_neg (by omega), if_pos k5] at this
      simpa using this
    obtain ⟨x, hx⟩ : ∃ x, ks = [x] := List.length_eq_one_iff.1 (by rw [← HN.out]; exact hn1)
    subst hn1
    obtain ⟨kb, off, rfl, hkb, hkc⟩ := HKS.out (by omega)
    obtain ⟨u, zu, hu⟩ := hkc 0 x (by rw [hx]; rfl)
    rw [Nat.add_zero] at zu
    obtain ⟨up, rfl⟩ := hu.ptr
    have hxm : x ∈ ks := by rw [hx]; simp
    rcases k5 with k5 | k6
    · as_aux_lemma =>
        have HI := Lib.hid (HWI.out 4 x (.pointer up) w hxm (Below.refl _ _) hB hu)
        rw [show ((4 : Nat) : Int) = 4 from rfl] at HI
        have hwl := HWL.out 4 x hxm
        obtain ⟨t, htt⟩ : ∃ t, t = witX 4 x := ⟨_, rfl⟩
        rw [← htt] at HI hwl
        have HTX : Hid (res = [126] ++ t) := Lib.hid (by rw [HRES.out, hx, htt, k5]; exact txX_not)
        have hc1 : ¬ 9223372036854775807 < 1 + t.length := by omega
        subst k5
        clear hkc hu hx hxm htt
        go_enter Tryz.func16, Tryz.ntmps16
        go_wp2_with fail
        refine HI.out.mono ?_
        rintro e w1 ⟨rfl, hb1⟩
        have HB1 := Lib.hid hb1
        unfold bs
        clear hb1
        go_wp2_with fail
        go_ret
        exact ⟨ret_eq (by rw [HTX.out]; show Value.string _ = Value.string _; congr 1), HB1.out⟩
    · have HI := Lib.hid (HWI.out 3 x (.pointer up) w hxm (Below.refl _ _) hB hu)
      rw [show ((3 : Nat) : Int) = 3 from rfl] at HI
      have hwl := HWL.out 3 x hxm
      obtain ⟨t, htt⟩ : ∃ t, t = witX 3 x := ⟨_, rfl⟩
      rw [← htt] at HI hwl
      have HTX : Hid (res = t ++ pst mn mx) := Lib.hid (by rw [HRES.out, hx, htt, k6]; exact txX_rep)
      have htm := HTM.out
      unfold tmsOk at htm
      rw [if_pos k6] at htm
      simp only [Bool.and_eq_true, Bool.or_eq_true, decide_eq_true_eq] at htm
      obtain ⟨⟨m0, m1⟩, mm⟩ := htm
      have c5 : (k == 5) = false := by rw [beq_eq_false_iff_ne]; omega
      subst k6
      clear hkc hu hx hxm htt
      have hc1 : ¬ 9223372036854775807 < t.length + 1 := by omega
      by_cases q1 : mx = -1
      · subst q1
        by_cases q2 : mn = 0
        · as_aux_lemma =>
            subst q2
            have HP : Hid (res = t ++ [42]) := Lib.hid (by rw [HTX.out]; rfl)
            go_enter Tryz.func16, Tryz.ntmps16
            go_wp2_with fail
            refine HI.out.mono ?_
            rintro e w1 ⟨rfl, hb1⟩
            have HB1 := Lib.hid hb1
            have hs1 := hb1.size
            obtain ⟨-, z2, z3, -⟩ := HC.out w1 (hb1.mono hB)
            unfold bs
            clear hb1
            go_wp2_with fail
            go_ret
            exact ⟨ret_eq (by rw [HP.out]; show Value.string _ = Value.string _; congr 1), HB1.out⟩

        · have e2 : (mn == 0) = false := by rw [beq_eq_false_iff_ne]; exact q2
          by_cases q3 : mn = 1
          · as_aux_lemma =>
              subst q3
              have HP : Hid (res = t ++ [43]) := Lib.hid (by rw [HTX.out]; rfl)
              go_enter Tryz.func16, Tryz.ntmps16
              go_wp2_with fail
              refine HI.out.mono ?_
              rintro e w1 ⟨rfl, hb1⟩
              have HB1 := Lib.hid hb1
              have hs1 := hb1.size
              obtain ⟨-, z2, z3, -⟩ := HC.out w1 (hb1.mono hB)
              unfold bs
              clear hb1
              go_wp2_with fail
              go_ret
              exact ⟨ret_eq (by rw [HP.out]; show Value.string _ = Value.string _; congr 1), HB1.out⟩

          · as_aux_lemma =>
              have e3 : (mn == 1) = false := by rw [beq_eq_false_iff_ne]; exact q3
              obtain ⟨i, rfl⟩ : ∃ i : Nat, mn = (i : Int) := ⟨mn.toNat, by omega⟩
              obtain ⟨Di, hDi⟩ : ∃ Di, Di = Lib.decDigits i := ⟨_, rfl⟩
              have HITi : Hid (∀ W, Calls Tryz.prog 31 #[.int .i64 (i : Int)] W fun e w' => e = .returned (.string ⟨Di.toArray⟩) ∧ w' = W) := Lib.hid (fun W => by rw [hDi]; exact y_strconv_Itoa_small i (by omega) W)
              have hili : Di.length ≤ 2 := by have := (itoa_asc (n := (i : Int)) (by omega) (by omega)).2; rw [itoa_natU, ← hDi] at this; exact this
              have HP : Hid (res = t ++ ([123] ++ Di ++ [44, 125])) := Lib.hid (by
                rw [HTX.out]
                unfold pst
                rw [if_neg (fun q => q2 q.1), if_neg (fun q => q3 q.1), if_neg (fun q => q2 q.1), if_pos rfl, itoa_natU, ← hDi])
              have hc2 : ¬ 9223372036854775807 < t.length + 1 + Di.length := by omega
              have hc3 : ¬ 9223372036854775807 < t.length + 1 + Di.length + 2 := by omega
              clear hDi
              go_enter Tryz.func16, Tryz.ntmps16
              go_wp2_with fail
              refine HI.out.mono ?_
              rintro e w1 ⟨rfl, hb1⟩
              have HB1 := Lib.hid hb1
              have hs1 := hb1.size
              obtain ⟨-, z2, z3, -⟩ := HC.out w1 (hb1.mono hB)
              unfold bs
              clear hb1
              go_wp2_with fail
              refine (HITi.out w1).mono ?_
              rintro e w' ⟨rfl, rfl⟩
              go_wp2_with fail
              go_ret
              exact ⟨ret_eq (by rw [HP.out]; show Value.string _ = Value.string _; congr 1; simp only [ba_cat2, ← List.append_assoc]), HB1.out⟩

      · have e1 : (mx == -1) = false := by rw [beq_eq_false_iff_ne]; exact q1
        by_cases q2 : mn = 0 ∧ mx = 1
        · as_aux_lemma =>
            obtain ⟨rfl, rfl⟩ := q2
            have HP : Hid (res = t ++ [63]) := Lib.hid (by rw [HTX.out]; rfl)
            go_enter Tryz.func16, Tryz.ntmps16
            go_wp2_with fail
            refine HI.out.mono ?_
            rintro e w1 ⟨rfl, hb1⟩
            have HB1 := Lib.hid hb1
            have hs1 := hb1.size
            obtain ⟨-, z2, z3, -⟩ := HC.out w1 (hb1.mono hB)
            unfold bs
            clear hb1
            go_wp2_with fail
            go_ret
            exact ⟨ret_eq (by rw [HP.out]; show Value.string _ = Value.string _; congr 1), HB1.out⟩

        · obtain ⟨i, rfl⟩ : ∃ i : Nat, mn = (i : Int) := ⟨mn.toNat, by omega⟩
          obtain ⟨j, rfl⟩ : ∃ j : Nat, mx = (j : Int) := ⟨mx.toNat, by omega⟩
          by_cases q3 : i = j
          · by_cases p0 : i = 0
            · as_aux_lemma =>
                exfalso
                omega

            · have p0' : ((i : Int) == 0) = false := by rw [beq_eq_false_iff_ne]; omega
              by_cases p1 : i = 1
              · as_aux_lemma =>
                  have p1' : ((i : Int) == 1) = true := by rw [beq_iff_eq]; omega
                  clear p1
                  subst q3
                  have e4 : ((i : Int) == (i : Int)) = true := by simp
                  obtain ⟨Di, hDi⟩ : ∃ Di, Di = Lib.decDigits i := ⟨_, rfl⟩
                  have HITi : Hid (∀ W, Calls Tryz.prog 31 #[.int .i64 (i : Int)] W fun e w' => e = .returned (.string ⟨Di.toArray⟩) ∧ w' = W) := Lib.hid (fun W => by rw [hDi]; exact y_strconv_Itoa_small i (by omega) W)
                  have hili : Di.length ≤ 2 := by have := (itoa_asc (n := (i : Int)) (by omega) (by omega)).2; rw [itoa_natU, ← hDi] at this; exact this
                  have HP : Hid (res = t ++ ([123] ++ Di ++ [125])) := Lib.hid (by
                    rw [HTX.out]
                    unfold pst
                    rw [if_neg (fun q => q1 q.2), if_neg (fun q => q1 q.2), if_neg q2, if_neg q1, if_pos rfl, itoa_natU, ← hDi])
                  have hc2 : ¬ 9223372036854775807 < t.length + 1 + Di.length := by omega
                  have hc3 : ¬ 9223372036854775807 < t.length + 1 + Di.length + 1 := by omega
                  clear hDi
                  go_enter Tryz.func16, Tryz.ntmps16
                  go_wp2_with fail
                  refine HI.out.mono ?_
                  rintro e w1 ⟨rfl, hb1⟩
                  have HB1 := Lib.hid hb1
                  have hs1 := hb1.size
                  obtain ⟨-, z2, z3, -⟩ := HC.out w1 (hb1.mono hB)
                  unfold bs
                  clear hb1
                  go_wp2_with fail
                  go_quiet (fail)
                  obtain ⟨w2, hw2⟩ : ∃ w2, w2 = w1.drewN nq := ⟨_, rfl⟩
                  have hb2 : Below w1.heap.size w1 w2 := by rw [hw2]; exact dn_belowP _ _
                  rw [← hw2]
                  have hb02 := HB1.out.trans (hb2.mono hs1)
                  have hs2 := hb2.size
                  clear z2 z3
                  obtain ⟨-, z2, z3, -⟩ := HC.out w2 (hb02.mono hB)
                  have HB2 := Lib.hid hb02
                  clear hw2 hb2 hb02
                  go_wp2_with fail
                  refine (HITi.out w2).mono ?_
                  rintro e w' ⟨rfl, rfl⟩
                  go_wp2_with fail
                  go_ret
                  exact ⟨ret_eq (by rw [HP.out]; show Value.string _ = Value.string _; congr 1; simp only [ba_cat2, ← List.append_assoc]), HB2.out⟩

              · as_aux_lemma =>
                  have p1' : ((i : Int) == 1) = false := by rw [beq_eq_false_iff_ne]; omega
                  subst q3
                  have e4 : ((i : Int) == (i : Int)) = true := by simp
                  obtain ⟨Di, hDi⟩ : ∃ Di, Di = Lib.decDigits i := ⟨_, rfl⟩
                  have HITi : Hid (∀ W, Calls Tryz.prog 31 #[.int .i64 (i : Int)] W fun e w' => e = .returned (.string ⟨Di.toArray⟩) ∧ w' = W) := Lib.hid (fun W => by rw [hDi]; exact y_strconv_Itoa_small i (by omega) W)
                  have hili : Di.length ≤ 2 := by have := (itoa_asc (n := (i : Int)) (by omega) (by omega)).2; rw [itoa_natU, ← hDi] at this; exact this
                  have HP : Hid (res = t ++ ([123] ++ Di ++ [125])) := Lib.hid (by
                    rw [HTX.out]
                    unfold pst
                    rw [if_neg (fun q => q1 q.2), if_neg (fun q => q1 q.2), if_neg q2, if_neg q1, if_pos rfl, itoa_natU, ← hDi])
                  have hc2 : ¬ 9223372036854775807 < t.length + 1 + Di.length := by omega
                  have hc3 : ¬ 9223372036854775807 < t.length + 1 + Di.length + 1 := by omega
                  clear hDi
                  go_enter Tryz.func16, Tryz.ntmps16
                  go_wp2_with fail
                  refine HI.out.mono ?_
                  rintro e w1 ⟨rfl, hb1⟩
                  have HB1 := Lib.hid hb1
                  have hs1 := hb1.size
                  obtain ⟨-, z2, z3, -⟩ := HC.out w1 (hb1.mono hB)
                  unfold bs
                  clear hb1
                  go_wp2_with fail
                  go_quiet (fail)
                  obtain ⟨w2, hw2⟩ : ∃ w2, w2 = w1.drewN nq := ⟨_, rfl⟩
                  have hb2 : Below w1.heap.size w1 w2 := by rw [hw2]; exact dn_belowP _ _
                  rw [← hw2]
                  have hb02 := HB1.out.trans (hb2.mono hs1)
                  have hs2 := hb2.size
                  clear z2 z3
                  obtain ⟨-, z2, z3, -⟩ := HC.out w2 (hb02.mono hB)
                  have HB2 := Lib.hid hb02
                  clear hw2 hb2 hb02
                  go_wp2_with fail
                  refine (HITi.out w2).mono ?_
                  rintro e w' ⟨rfl, rfl⟩
                  go_wp2_with fail
                  go_ret
                  exact ⟨ret_eq (by rw [HP.out]; show Value.string _ = Value.string _; congr 1; simp only [ba_cat2, ← List.append_assoc]), HB2.out⟩

          · by_cases p0 : i = 0
            · as_aux_lemma =>
                subst p0
                have p1 : ((j : Int) == 1) = false := by rw [beq_eq_false_iff_ne]; omega
                have e4 : (((0 : Nat) : Int) == (j : Int)) = false := by rw [beq_eq_false_iff_ne]; omega
                obtain ⟨Di, hDi⟩ : ∃ Di, Di = Lib.decDigits 0 := ⟨_, rfl⟩
                have HITi : Hid (∀ W, Calls Tryz.prog 31 #[.int .i64 ((0 : Nat) : Int)] W fun e w' => e = .returned (.string ⟨Di.toArray⟩) ∧ w' = W) := Lib.hid (fun W => by rw [hDi]; exact y_strconv_Itoa_small 0 (by omega) W)
                have hili : Di.length ≤ 2 := by have := (itoa_asc (n := ((0 : Nat) : Int)) (by omega) (by omega)).2; rw [itoa_natU, ← hDi] at this; exact this
                obtain ⟨Dj, hDj⟩ : ∃ Dj, Dj = Lib.decDigits j := ⟨_, rfl⟩
                have HITj : Hid (∀ W, Calls Tryz.prog 31 #[.int .i64 (j : Int)] W fun e w' => e = .returned (.string ⟨Dj.toArray⟩) ∧ w' = W) := Lib.hid (fun W => by rw [hDj]; exact y_strconv_Itoa_small j (by omega) W)
                have hilj : Dj.length ≤ 2 := by have := (itoa_asc (n := (j : Int)) (by omega) (by omega)).2; rw [itoa_natU, ← hDj] at this; exact this
                have HP : Hid (res = t ++ ([123] ++ Di ++ [44] ++ Dj ++ [125])) := Lib.hid (by
                  rw [HTX.out]
                  unfold pst
                  rw [if_neg (fun q => q1 q.2), if_neg (fun q => q1 q.2), if_neg q2, if_neg q1, if_neg (by omega), itoa_natU, itoa_natU, ← hDi, ← hDj])
                have hc2 : ¬ 9223372036854775807 < t.length + 1 + Di.length := by omega
                have hc3 : ¬ 9223372036854775807 < t.length + 1 + Di.length + 1 := by omega
                have hc4 : ¬ 9223372036854775807 < t.length + 1 + Di.length + 1 + Dj.length := by omega
                have hc5 : ¬ 9223372036854775807 < t.length + 1 + Di.length + 1 + Dj.length + 1 := by omega
                clear hDi hDj
                go_enter Tryz.func16, Tryz.ntmps16
                go_wp2_with fail
                refine HI.out.mono ?_
                rintro e w1 ⟨rfl, hb1⟩
                have HB1 := Lib.hid hb1
                have hs1 := hb1.size
                obtain ⟨-, z2, z3, -⟩ := HC.out w1 (hb1.mono hB)
                unfold bs
                clear hb1
                go_wp2_with fail
                go_quiet (fail)
                obtain ⟨w2, hw2⟩ : ∃ w2, w2 = w1.drewN nq := ⟨_, rfl⟩
                have hb2 : Below w1.heap.size w1 w2 := by rw [hw2]; exact dn_belowP _ _
                rw [← hw2]
                have hb02 := HB1.out.trans (hb2.mono hs1)
                have hs2 := hb2.size
                clear z2 z3
                obtain ⟨-, z2, z3, -⟩ := HC.out w2 (hb02.mono hB)
                have HB2 := Lib.hid hb02
                clear hw2 hb2 hb02
                go_wp2_with fail
                go_quiet ((first | (go_at_call 31; exact Calls.quiet_of_same (HITi.out _)) | (go_at_call 31; exact Calls.quiet_of_same (HITj.out _))))
                have HB3 := Lib.hid (HB2.out.trans ((dn_belowP w2 nq).mono (by omega)))
                go_wp2_with fail
                go_ret
                exact ⟨ret_eq (by rw [HP.out]; show Value.string _ = Value.string _; congr 1; simp only [ba_cat2, ← List.append_assoc]), HB3.out⟩

            · have p0' : ((i : Int) == 0) = false := by rw [beq_eq_false_iff_ne]; omega
              by_cases p1 : i = 1
              · as_aux_lemma =>
                  have p1' : ((i : Int) == 1) = true := by rw [beq_iff_eq]; omega
                  clear p1
                  have e4 : ((i : Int) == (j : Int)) = false := by rw [beq_eq_false_iff_ne]; omega
                  obtain ⟨Di, hDi⟩ : ∃ Di, Di = Lib.decDigits i := ⟨_, rfl⟩
                  have HITi : Hid (∀ W, Calls Tryz.prog 31 #[.int .i64 (i : Int)] W fun e w' => e = .returned (.string ⟨Di.toArray⟩) ∧ w' = W) := Lib.hid (fun W => by rw [hDi]; exact y_strconv_Itoa_small i (by omega) W)
                  have hili : Di.length ≤ 2 := by have := (itoa_asc (n := (i : Int)) (by omega) (by omega)).2; rw [itoa_natU, ← hDi] at this; exact this
                  obtain ⟨Dj, hDj⟩ : ∃ Dj, Dj = Lib.decDigits j := ⟨_, rfl⟩
                  have HITj : Hid (∀ W, Calls Tryz.prog 31 #[.int .i64 (j : Int)] W fun e w' => e = .returned (.string ⟨Dj.toArray⟩) ∧ w' = W) := Lib.hid (fun W => by rw [hDj]; exact y_strconv_Itoa_small j (by omega) W)
                  have hilj : Dj.length ≤ 2 := by have := (itoa_asc (n := (j : Int)) (by omega) (by omega)).2; rw [itoa_natU, ← hDj] at this; exact this
                  have HP : Hid (res = t ++ ([123] ++ Di ++ [44] ++ Dj ++ [125])) := Lib.hid (by
                    rw [HTX.out]
                    unfold pst
                    rw [if_neg (fun q => q1 q.2), if_neg (fun q => q1 q.2), if_neg q2, if_neg q1, if_neg (by omega), itoa_natU, itoa_natU, ← hDi, ← hDj])
                  have hc2 : ¬ 9223372036854775807 < t.length + 1 + Di.length := by omega
                  have hc3 : ¬ 9223372036854775807 < t.length + 1 + Di.length + 1 := by omega
                  have hc4 : ¬ 9223372036854775807 < t.length + 1 + Di.length + 1 + Dj.length := by omega
                  have hc5 : ¬ 9223372036854775807 < t.length + 1 + Di.length + 1 + Dj.length + 1 := by omega
                  clear hDi hDj
                  go_enter Tryz.func16, Tryz.ntmps16
                  go_wp2_with fail
                  refine HI.out.mono ?_
                  rintro e w1 ⟨rfl, hb1⟩
                  have HB1 := Lib.hid hb1
                  have hs1 := hb1.size
                  obtain ⟨-, z2, z3, -⟩ := HC.out w1 (hb1.mono hB)
                  unfold bs
                  clear hb1
                  go_wp2_with fail
                  go_quiet (fail)
                  obtain ⟨w2, hw2⟩ : ∃ w2, w2 = w1.drewN nq := ⟨_, rfl⟩
                  have hb2 : Below w1.heap.size w1 w2 := by rw [hw2]; exact dn_belowP _ _
                  rw [← hw2]
                  have hb02 := HB1.out.trans (hb2.mono hs1)
                  have hs2 := hb2.size
                  clear z2 z3
                  obtain ⟨-, z2, z3, -⟩ := HC.out w2 (hb02.mono hB)
                  have HB2 := Lib.hid hb02
                  clear hw2 hb2 hb02
                  go_wp2_with fail
                  go_quiet ((first | (go_at_call 31; exact Calls.quiet_of_same (HITi.out _)) | (go_at_call 31; exact Calls.quiet_of_same (HITj.out _))))
                  have HB3 := Lib.hid (HB2.out.trans ((dn_belowP w2 nq).mono (by omega)))
                  go_wp2_with fail
                  go_ret
                  exact ⟨ret_eq (by rw [HP.out]; show Value.string _ = Value.string _; congr 1; simp only [ba_cat2, ← List.append_assoc]), HB3.out⟩

              · as_aux_lemma =>
                  have p1' : ((i : Int) == 1) = false := by rw [beq_eq_false_iff_ne]; omega
                  have e4 : ((i : Int) == (j : Int)) = false := by rw [beq_eq_false_iff_ne]; omega
                  obtain ⟨Di, hDi⟩ : ∃ Di, Di = Lib.decDigits i := ⟨_, rfl⟩
                  have HITi : Hid (∀ W, Calls Tryz.prog 31 #[.int .i64 (i : Int)] W fun e w' => e = .returned (.string ⟨Di.toArray⟩) ∧ w' = W) := Lib.hid (fun W => by rw [hDi]; exact y_strconv_Itoa_small i (by omega) W)
                  have hili : Di.length ≤ 2 := by have := (itoa_asc (n := (i : Int)) (by omega) (by omega)).2; rw [itoa_natU, ← hDi] at this; exact this
                  obtain ⟨Dj, hDj⟩ : ∃ Dj, Dj = Lib.decDigits j := ⟨_, rfl⟩
                  have HITj : Hid (∀ W, Calls Tryz.prog 31 #[.int .i64 (j : Int)] W fun e w' => e = .returned (.string ⟨Dj.toArray⟩) ∧ w' = W) := Lib.hid (fun W => by rw [hDj]; exact y_strconv_Itoa_small j (by omega) W)
                  have hilj : Dj.length ≤ 2 := by have := (itoa_asc (n := (j : Int)) (by omega) (by omega)).2; rw [itoa_natU, ← hDj] at this; exact this
                  have HP : Hid (res = t ++ ([123] ++ Di ++ [44] ++ Dj ++ [125])) := Lib.hid (by
                    rw [HTX.out]
                    unfold pst
                    rw [if_neg (fun q => q1 q.2), if_neg (fun q => q1 q.2), if_neg q2, if_neg q1, if_neg (by omega), itoa_natU, itoa_natU, ← hDi, ← hDj])
                  have hc2 : ¬ 9223372036854775807 < t.length + 1 + Di.length := by omega
                  have hc3 : ¬ 9223372036854775807 < t.length + 1 + Di.length + 1 := by omega
                  have hc4 : ¬ 9223372036854775807 < t.length + 1 + Di.length + 1 + Dj.length := by omega
                  have hc5 : ¬ 9223372036854775807 < t.length + 1 + Di.length + 1 + Dj.length + 1 := by omega
                  clear hDi hDj
                  go_enter Tryz.func16, Tryz.ntmps16
                  go_wp2_with fail
                  refine HI.out.mono ?_
                  rintro e w1 ⟨rfl, hb1⟩
                  have HB1 := Lib.hid hb1
                  have hs1 := hb1.size
                  obtain ⟨-, z2, z3, -⟩ := HC.out w1 (hb1.mono hB)
                  unfold bs
                  clear hb1
                  go_wp2_with fail
                  go_quiet (fail)
                  obtain ⟨w2, hw2⟩ : ∃ w2, w2 = w1.drewN nq := ⟨_, rfl⟩
                  have hb2 : Below w1.heap.size w1 w2 := by rw [hw2]; exact dn_belowP _ _
                  rw [← hw2]
                  have hb02 := HB1.out.trans (hb2.mono hs1)
                  have hs2 := hb2.size
                  clear z2 z3
                  obtain ⟨-, z2, z3, -⟩ := HC.out w2 (hb02.mono hB)
                  have HB2 := Lib.hid hb02
                  clear hw2 hb2 hb02
                  go_wp2_with fail
                  go_quiet ((first | (go_at_call 31; exact Calls.quiet_of_same (HITi.out _)) | (go_at_call 31; exact Calls.quiet_of_same (HITj.out _))))
                  have HB3 := Lib.hid (HB2.out.trans ((dn_belowP w2 nq).mono (by omega)))
                  go_wp2_with fail
                  go_ret
                  exact ⟨ret_eq (by rw [HP.out]; show Value.string _ = Value.string _; congr 1; simp only [ba_cat2, ← List.append_assoc]), HB3.out⟩
  · exfalso
    have := HCN.out
    unfold cntOk at this
    rw [if_neg k1, if_neg k2, if_neg (by omega), if_neg k5] at this
    cases this
end Go.Proofs.YtaachamblagbhaaGreatDoor
