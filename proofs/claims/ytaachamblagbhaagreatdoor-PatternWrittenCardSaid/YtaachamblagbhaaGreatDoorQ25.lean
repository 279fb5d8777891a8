/- The document's PatternOk and SamePattern. · The document's row: patterns one behind the other. · The document's part: a unit, repeated. -/
import Derived.Test.YtaachamblagbhaaGreatDoorQ21
import Derived.Test.YtaachamblagbhaaGreatDoorQ15
import Derived.Test.YtaachamblagbhaaGreatDoorQ17
import Derived.Deep.LoopGhost
namespace Go.Proofs.YtaachamblagbhaaGreatDoor
open Go.RowKit BigFrame
set_option linter.unusedVariables false
set_option linter.unusedSimpArgs false
set_option maxRecDepth 100000

theorem rweight_any (B : Nat) : ∀ (p : Rx) (d : Nat), shp d p = true → ∀ (v : Value) (w : World), B ≤ w.heap.size → RxB w B v p →
    Calls Tryz.prog 13 #[v] w fun e w' => ∃ y, WtA y p ∧ e = .returned (.int .i64 y) ∧ Below w.heap.size w w'
  | .nil, d, h, v, w, hB, hT => by rw [shp] at h; cases h
  | .node k s mn mx ks, d, h, v, w, hB, hT => rweight_node k s mn mx ks B v w hB hT (shp_node h).2.2.1 (fun x hx u W hBW hu => rweight_any B x (d + 1) ((shp_node h).2.2.2.2 x hx) u W hBW hu)
termination_by p => SizeOf.sizeOf p
decreasing_by
  have := List.sizeOf_lt_of_mem hx
  simp only [Rx.node.sizeOf_spec]
  omega

set_option maxHeartbeats 4000000 in
theorem rpatOk_any (B : Nat) (p : Rx) (v : Value) (w : World) (hB : B ≤ w.heap.size) (hT : RxB w B v p) (hS : SetS p) :
    Calls Tryz.prog 6 #[v] w fun e w' => e = .returned (.bool (okX p)) ∧ Below w.heap.size w w' := by
  have HA := Lib.hid (rshaped_any B p 0 (by omega) v w hB hT hS)
  obtain ⟨vp, rfl⟩ := hT.ptr
  have HT := Lib.hid hT
  cases hsh : shp 0 p with
  | false =>
    as_aux_lemma =>
      have HE : Hid (okX p = false) := Lib.hid (by unfold okX; rw [hsh]; rfl)
      rw [hsh] at HA
      clear hT hsh
      go_enter Tryz.func6, Tryz.ntmps6
      go_wp2_with fail
      refine HA.out.mono ?_
      rintro e w1 ⟨rfl, hb1⟩
      have HB1 := Lib.hid hb1
      clear hb1
      go_wp2_with fail
      go_ret
      exact ⟨ret_eq (by rw [HE.out]; rfl), HB1.out⟩
  | true =>
    as_aux_lemma =>
      have HW : Hid (∀ W, Below B w W → B ≤ W.heap.size → _) := Lib.hid (fun W hb hB2 => rweight_any B p 0 hsh (.pointer vp) W hB2 (RxB.below hT hb))
      have HE : Hid (okX p = decide (wei p ≤ 60)) := Lib.hid (by unfold okX; rw [hsh]; rfl)
      rw [hsh] at HA
      clear hT hsh
      go_enter Tryz.func6, Tryz.ntmps6
      go_wp2_with fail
      refine HA.out.mono ?_
      rintro e w1 ⟨rfl, hb1⟩
      have HB1 := Lib.hid hb1
      have hs1 := hb1.size
      have HW1 := Lib.hid (HW.out w1 (hb1.mono hB) (by omega))
      clear hb1
      go_wp2_with fail
      refine HW1.out.mono ?_
      rintro e w2 ⟨y, hy, rfl, hb2⟩
      have HF : Hid (decide (y ≤ 60) = okX p) := Lib.hid (by
        rw [HE.out]
        rcases hy.2.2 with ⟨q1, q2⟩ | ⟨q1, q2⟩
        · rw [decide_eq_true q1, decide_eq_true (by omega)]
        · rw [decide_eq_false (by omega), decide_eq_false (by omega)])
      have HB2 := Lib.hid (HB1.out.trans (hb2.mono hs1))
      clear hy hb2
      go_wp2_with fail
      go_ret
      exact ⟨ret_eq (by rw [← HF.out]; rfl), HB2.out⟩

set_option maxHeartbeats 8000000 in
theorem samePat_node (k : Int) (s : List Rg) (mn mx : Int) (ks : List Rx) (B : Nat) (v u : Value) (w : World) (hB : B ≤ w.heap.size) (hT : RxB w B v (.node k s mn mx ks)) (hU : RxB w B u (.node k s mn mx ks)) (hs : s.length ≤ 12)
    (ih : ∀ x ∈ ks, ∀ (a b : Value) (W : World), B ≤ W.heap.size → RxB W B a x → RxB W B b x → Calls Tryz.prog 11 #[a, b] W fun e w' => e = .returned (.bool true) ∧ Below W.heap.size W w') :
    Calls Tryz.prog 11 #[v, u] w fun e w' => e = .returned (.bool true) ∧ Below w.heap.size w w' := by
  obtain ⟨b, A, c, A', c', rfl, hb, z0, z1, z2, z3, z4, h1, h2, h3, h4, h5, h6⟩ := hT.node_inv
  obtain ⟨b2, A2, c2, A2', c2', rfl, hb2, y0, y1, y2, y3, y4, g1, g2, g3, g4, g5, g6⟩ := hU.node_inv
  have HSM : Hid (∀ X : WB w.heap.size w, Calls Tryz.prog 20 #[.slice A s.length c, .slice A2 s.length c2] X.val fun e w' => e = .returned (.bool true) ∧ Below X.val.heap.size X.val w') := Lib.hid (fun X => by
    have := same_any A A2 s.length c s.length c2 s s X.val B B ((h5.rd fun _ q => q).below (X.bel.mono hB)) rfl (by omega) ((g5.rd fun _ q => q).below (X.bel.mono hB)) rfl (by omega)
    rwa [decide_eq_true rfl] at this)
  have HC : Hid (∀ W, Below B w W → (W.cell? ⟨b, 0, none⟩ = some (.int .i64 k) ∧ W.cell? ⟨b, 2, none⟩ = some (.int .i64 mn) ∧ W.cell? ⟨b, 3, none⟩ = some (.int .i64 mx) ∧ W.cell? ⟨b, 4, none⟩ = some (.slice A' ks.length c')) ∧
      W.cell? ⟨b2, 0, none⟩ = some (.int .i64 k) ∧ W.cell? ⟨b2, 2, none⟩ = some (.int .i64 mn) ∧ W.cell? ⟨b2, 3, none⟩ = some (.int .i64 mx) ∧ W.cell? ⟨b2, 4, none⟩ = some (.slice A2' ks.length c2')) :=
    Lib.hid (fun W q => ⟨⟨(q.cell (p := ⟨b, 0, none⟩) hb).trans z0, (q.cell (p := ⟨b, 2, none⟩) hb).trans z2, (q.cell (p := ⟨b, 3, none⟩) hb).trans z3, (q.cell (p := ⟨b, 4, none⟩) hb).trans z4⟩,
      (q.cell (p := ⟨b2, 0, none⟩) hb2).trans y0, (q.cell (p := ⟨b2, 2, none⟩) hb2).trans y2, (q.cell (p := ⟨b2, 3, none⟩) hb2).trans y3, (q.cell (p := ⟨b2, 4, none⟩) hb2).trans y4⟩)
  have HZ1 : Hid (∀ X : WB w.heap.size w, X.val.cell? ⟨b, 1, none⟩ = some (.slice A s.length c) ∧ X.val.cell? ⟨b2, 1, none⟩ = some (.slice A2 s.length c2)) := Lib.hid (fun X =>
    ⟨(X.bel.cell (p := ⟨b, 1, none⟩) (show b < w.heap.size by omega)).trans z1, (X.bel.cell (p := ⟨b2, 1, none⟩) (show b2 < w.heap.size by omega)).trans y1⟩)
  have HKS := Lib.hid h6; have HKS2 := Lib.hid g6; have HIH := Lib.hid ih
  unfold maxLen at h2 h4 g2 g4
  obtain ⟨n, hn⟩ : ∃ n, n = ks.length := ⟨_, rfl⟩
  obtain ⟨m, hm⟩ : ∃ m, m = s.length := ⟨_, rfl⟩
  have HN := Lib.hid hn
  rw [← hn] at HC h3 g3 HKS HKS2
  rw [← hm] at HSM HZ1 h1 g1
  clear hT hU h5 h6 g5 g6 ih hn hm z0 z1 z2 z3 z4 y0 y1 y2 y3 y4
  go_enter Tryz.func11, Tryz.ntmps11
  go_wp2_with fail
  refine wp_region_cls (B := w.heap.size) (w0 := w) (by kernel_rfl) (by kernel_rfl) (Below.refl _ _) ?_
  have z1 := fun X => (HZ1.out X).1
  have y1 := fun X => (HZ1.out X).2
  repeat (first | go_big_quiet_skip | (go_big_quiet_want; go_big_quiet_op; go_big_quiet_on))
  go_big_quiet_want
  go_big_quiet_op
  refine ⟨.bool true, fun X => X.call (Nat.le_refl _) (HSM.out X), ?_⟩
  go_big_quiet_on
  repeat (first | go_big_quiet_skip | (go_big_quiet_want; go_big_quiet_op; go_big_quiet_on))
  refine wpQuiet_nil ?_
  intro X
  obtain ⟨w1, hw1⟩ : ∃ w1, w1 = X.val := ⟨_, rfl⟩
  have hb1 : Below w.heap.size w w1 := by rw [hw1]; exact X.bel
  rw [← hw1]
  clear hw1 X
  obtain ⟨⟨z0, z2, z3, z4⟩, y0, y2, y3, y4⟩ := HC.out w1 (hb1.mono hB)
  have HB1 := Lib.hid hb1
  have hs1 := hb1.size
  clear z1 y1 HZ1 HSM hb1
  have d1 : (k != k) = false := by simp
  have d2 : (mn != mn) = false := by simp
  have d3 : (mx != mx) = false := by simp
  have d4 : ((n : Int) != (n : Int)) = false := by simp
  go_wp2_with fail
  go_quiet (fail)
  obtain ⟨w2, hw2⟩ : ∃ w2, w2 = w1.drewN nq := ⟨_, rfl⟩
  have hb2' : Below w1.heap.size w1 w2 := by rw [hw2]; exact dn_below' _ _
  rw [← hw2]
  have HB2 := Lib.hid (HB1.out.trans (hb2'.mono hs1))
  clear hw2 hb2' z0 z2 z3 z4 y0 y2 y3 y4
  go_wp2_with fail
  go_loopw [6, 7] (fun i u wr => ∃ j : Nat, j ≤ n ∧ i = .int .i64 (j : Int) ∧ Hid (Below w.heap.size w wr)) (fun i _ _ => n - (intOf i).toNat)
  case atStart => exact ⟨0, Nat.zero_le _, rfl, HB2.out⟩
  case round =>
    as_aux_lemma =>
      obtain ⟨j, hj, rfl, HBJ⟩ := hrel
      have hsj := HBJ.out.size
      obtain ⟨⟨-, -, -, z4⟩, -, -, -, y4⟩ := HC.out wr (HBJ.out.mono hB)
      obtain ⟨wo, rfl⟩ : ∃ wo : World, wo = wr := ⟨_, rfl⟩
      by_cases hlt : j < n
      · as_aux_lemma =>
          obtain ⟨x, hx⟩ : ∃ x, ks[j]? = some x := ⟨_, List.getElem?_eq_getElem (by rw [← HN.out]; exact hlt)⟩
          obtain ⟨kb, off, rfl, hkb, hkc⟩ := HKS.out (by omega)
          obtain ⟨kb2, off2, rfl, hkb2, hkc2⟩ := HKS2.out (by omega)
          obtain ⟨p, zp, hp⟩ := hkc j x hx
          obtain ⟨q, zq, hq⟩ := hkc2 j x hx
          have zj := ((HBJ.out.mono hB).cell (p := ⟨kb, off + j, none⟩) hkb).trans zp
          have yj := ((HBJ.out.mono hB).cell (p := ⟨kb2, off2 + j, none⟩) hkb2).trans zq
          obtain ⟨pp, rfl⟩ := hp.ptr
          obtain ⟨qp, rfl⟩ := hq.ptr
          have HI : Hid (∀ X : WB wo.heap.size wo, Calls Tryz.prog 11 #[.pointer pp, .pointer qp] X.val fun e w' => e = .returned (.bool true) ∧ Below X.val.heap.size X.val w') := Lib.hid (fun X =>
            HIH.out x (List.mem_of_getElem? hx) _ _ X.val (by have := X.bel.size; omega) (RxB.below hp ((HBJ.out.mono hB).trans (X.bel.mono (by omega)))) (RxB.below hq ((HBJ.out.mono hB).trans (X.bel.mono (by omega)))))
          have HZ : Hid (∀ X : WB wo.heap.size wo, (X.val.cell? ⟨b, 4, none⟩ = some (.slice (some ⟨kb, off, none⟩) n c') ∧ X.val.cell? ⟨b2, 4, none⟩ = some (.slice (some ⟨kb2, off2, none⟩) n c2')) ∧ X.val.cell? ⟨kb, off + j, none⟩ = some (.pointer pp) ∧ X.val.cell? ⟨kb2, off2 + j, none⟩ = some (.pointer qp)) := Lib.hid (fun X =>
            ⟨⟨(X.bel.cell (p := ⟨b, 4, none⟩) (show b < wo.heap.size by omega)).trans z4, (X.bel.cell (p := ⟨b2, 4, none⟩) (show b2 < wo.heap.size by omega)).trans y4⟩,
             (X.bel.cell (p := ⟨kb, off + j, none⟩) (show kb < wo.heap.size by omega)).trans zj, (X.bel.cell (p := ⟨kb2, off2 + j, none⟩) (show kb2 < wo.heap.size by omega)).trans yj⟩)
          clear hkc hkc2 zp zq hp hq hx y4
          go_wp2_with fail
          refine wp_region_cls (B := wo.heap.size) (w0 := wo) (by kernel_rfl) (by kernel_rfl) (Below.refl _ _) ?_
          clear z4 zj yj
          have x1 := fun X => (HZ.out X).1.1
          have x2 := fun X => (HZ.out X).1.2
          have x3 := fun X => (HZ.out X).2.1
          have x4 := fun X => (HZ.out X).2.2
          repeat (first | go_big_quiet_skip | (go_big_quiet_want; go_big_quiet_op; go_big_quiet_on))
          go_big_quiet_want
          go_big_quiet_op
          refine ⟨.bool true, fun X => X.call (Nat.le_refl _) (HI.out X), ?_⟩
          go_big_quiet_on
          repeat (first | go_big_quiet_skip | (go_big_quiet_want; go_big_quiet_op; go_big_quiet_on))
          refine wpQuiet_nil ?_
          intro X
          have HBX := Lib.hid (HBJ.out.trans (X.bel.mono hsj))
          clear x1 x2 x3 x4
          go_wp2_with fail
          go_roundw
          case rel => exact ⟨j + 1, by omega, by go_num, HBX⟩
          case measure => simp [intOf]; omega
      · as_aux_lemma =>
          go_wp2_with fail
          go_ret
          exact ⟨rfl, HBJ.out⟩
theorem samePat_any (B : Nat) : ∀ (p : Rx), SetS p → ∀ (v u : Value) (w : World), B ≤ w.heap.size → RxB w B v p → RxB w B u p →
    Calls Tryz.prog 11 #[v, u] w fun e w' => e = .returned (.bool true) ∧ Below w.heap.size w w'
  | .nil, hS, v, u, w, hB, hT, hU => by
    obtain rfl := hT.nil_inv
    obtain rfl := hU.nil_inv
    clear hT hU
    go_enter Tryz.func11, Tryz.ntmps11
    go_wp2_with fail
    go_ret
    exact ⟨rfl, Below.refl _ _⟩
  | .node k s mn mx ks, hS, v, u, w, hB, hT, hU => samePat_node k s mn mx ks B v u w hB hT hU hS.inv.1 (fun x hx a b W hBW ha hb => samePat_any B x (hS.inv.2 x hx) a b W hBW ha hb)
termination_by p => SizeOf.sizeOf p
decreasing_by
  have := List.sizeOf_lt_of_mem hx
  simp only [Rx.node.sizeOf_spec]
  omega
end Go.Proofs.YtaachamblagbhaaGreatDoor
namespace Go.Proofs.YtaachamblagbhaaGreatDoor
open Go.RowKit BigFrame
set_option linter.unusedVariables false
set_option linter.unusedSimpArgs false
set_option maxRecDepth 100000

theorem fst_ne {c : UInt8} (h : fstB c = true) : c.toNat ≠ 124 ∧ c.toNat ≠ 38 ∧ c.toNat ≠ 41 ∧ c.toNat ≠ 42 ∧ c.toNat ≠ 43 ∧ c.toNat ≠ 63 ∧ c.toNat ≠ 123 := by
  have key : ∀ n : Nat, n < 256 → fstB (UInt8.ofNat n) = true → n ≠ 124 ∧ n ≠ 38 ∧ n ≠ 41 ∧ n ≠ 42 ∧ n ≠ 43 ∧ n ≠ 63 ∧ n ≠ 123 := by decide
  exact key c.toNat c.toNat_lt (by rw [UInt8.ofNat_toNat]; exact h)
theorem joinB_flat : ∀ l : List (List UInt8), joinB [] l = l.flatten
  | [] => rfl
  | [a] => by rw [joinB]; simp
  | a :: b :: t => by rw [joinB, joinB_flat (b :: t)]; simp
theorem flat_drop {l : List (List UInt8)} {k : Nat} {a : List UInt8} (h : l[k]? = some a) : (l.drop k).flatten = a ++ (l.drop (k + 1)).flatten := by
  have hk := (List.getElem?_eq_some_iff.1 h).1
  have e : l[k] = a := (List.getElem?_eq_some_iff.1 h).2
  rw [List.drop_eq_getElem_cons hk, List.flatten_cons, e]

set_option maxHeartbeats 4000000 in
theorem row_walk (l : List (List UInt8 × Rx)) (d : Nat) (h60 : l.length ≤ 60) (sub : ∀ x ∈ l, Rdz 3 x.1 x.2 d) (hfst : ∀ x ∈ l, Fst x.1) : Rdz 2 (joinB [] (l.map Prod.fst)) (sevX 2 (l.map Prod.snd)) d := by
  intro rb i o s rest w h hf ho
  obtain ⟨m, hm⟩ : ∃ m, m = l.length := ⟨_, rfl⟩
  obtain ⟨tt, htt⟩ : ∃ tt, tt = l.map Prod.fst := ⟨_, rfl⟩
  obtain ⟨ts, hts⟩ : ∃ ts, ts = l.map Prod.snd := ⟨_, rfl⟩
  have hml : tt.length = m := by rw [htt, hm, List.length_map]
  have hms : ts.length = m := by rw [hts, hm, List.length_map]
  have hff : ∀ a ∈ tt, Fst a := fun a ha => by
    rw [htt] at ha
    obtain ⟨x, hx, rfl⟩ := List.mem_map.1 ha
    exact hfst x hx
  have hsub : ∀ k a p, tt[k]? = some a → ts[k]? = some p → ∀ (i' : Nat) (rest' : List UInt8) (W : World), RS W rb s i' o (a ++ rest') → folR 3 (hdI rest') →
      Calls Tryz.prog 67 #[rdp rb] W fun e w' => ∃ v, e = .returned v ∧ RS w' rb s (i' + a.length) o rest' ∧ Kp (· = rb) W w' ∧ RxIn w' (Frm W.heap.size w') v p := fun k a p ha hp i' rest' W hR hF => by
    rw [htt, List.getElem?_map] at ha
    rw [hts, List.getElem?_map] at hp
    obtain ⟨x, hx, rfl⟩ := Option.map_eq_some_iff.1 ha
    rw [hx] at hp
    simp at hp
    subst hp
    exact sub x (List.mem_of_getElem? hx) rb i' o s rest' W hR hF ho
  rw [← htt, joinB_flat] at h ⊢
  rw [← hts]
  have hm60 : m ≤ 60 := by omega
  have hfo : ∀ k, k ≤ m → folR 3 (hdI ((tt.drop k).flatten ++ rest)) := fun k hk => by
    by_cases q : k < m
    · have hk2 : k < tt.length := by omega
      rw [flat_drop (List.getElem?_eq_getElem hk2)]
      obtain ⟨c, r, e, hc⟩ := hff _ (List.getElem_mem hk2)
      have := fst_ne hc
      rw [e]
      simp only [folR, hdI, List.cons_append]
      omega
    · rw [List.drop_of_length_le (by omega), List.flatten_nil, List.nil_append]
      simp only [folR] at hf ⊢
      omega
  have HSUB := Lib.hid hsub; have HF := Lib.hid hf; have HML := Lib.hid hml; have HMS := Lib.hid hms; have HFO := Lib.hid hfo; have HFF := Lib.hid hff
  obtain ⟨I, hI⟩ : ∃ I, I = i + tt.flatten.length := ⟨_, rfl⟩
  have HI : Hid (i + (tt.drop 0).flatten.length = I) := Lib.hid (by rw [hI, List.drop_zero])
  have HR0 : Hid (RS w rb s i o ((tt.drop 0).flatten ++ rest)) := Lib.hid (by rw [List.drop_zero]; exact h)
  have hrb := h.lt
  rw [← hI]
  obtain ⟨g, hg⟩ : ∃ g, w.heap.size = g := ⟨_, rfl⟩
  rw [hg] at hrb ⊢
  have HG := Lib.hid hg
  clear h hf hml hms hts htt hsub hfo hI sub h60 hm hfst hff hg
  go_enter Tryz.func52, Tryz.ntmps52
  go_wp2_with fail
  go_loopw [3, 4, 5] (fun v u1 u2 wr => ∃ k i' : Nat, k ≤ m ∧ lenV v = k ∧ Hid (PsV wr g v (ts.take k)) ∧ Hid (RS wr rb s i' o ((tt.drop k).flatten ++ rest)) ∧ Hid (i' + (tt.drop k).flatten.length = I) ∧ Hid (Kp (· = rb) w wr)) (fun v _ _ _ => m - lenV v)
  case atStart => exact ⟨0, i, Nat.zero_le _, rfl, PsV.nil _ _, HR0.out, HI.out, Kp.refl _ _⟩
  case round =>
    as_aux_lemma =>
      clear HR0 HI
      obtain ⟨k, i', hk, hlv, HPS, HR, HI, HK⟩ := hrel
      have htk : (ts.take k).length = k := by rw [List.length_take, HMS.out]; omega
      have hsw := HK.out.size
      have hgs : g ≤ wr.heap.size := by rw [← HG.out]; exact hsw
      obtain ⟨wo, rfl⟩ : ∃ wo : World, wo = wr := ⟨_, rfl⟩
      have HN := Lib.hid (now_any rb i' o s _ wo HR.out)
      by_cases hlt : k < m
      · as_aux_lemma =>
          obtain ⟨a, ha⟩ : ∃ a, tt[k]? = some a := ⟨_, List.getElem?_eq_getElem (by rw [HML.out]; exact hlt)⟩
          obtain ⟨p, hp⟩ : ∃ p, ts[k]? = some p := ⟨_, List.getElem?_eq_getElem (by rw [HMS.out]; exact hlt)⟩
          obtain ⟨y, hy⟩ : ∃ y, y = hdI ((tt.drop k).flatten ++ rest) := ⟨_, rfl⟩
          rw [← hy] at HN
          have hyf : 0 ≤ y ∧ y ≠ 124 ∧ y ≠ 38 ∧ y ≠ 41 := by
            rw [hy, flat_drop ha]
            obtain ⟨c, r, e, hc⟩ := HFF.out _ (List.mem_of_getElem? ha)
            have := fst_ne hc
            rw [e]
            simp only [hdI, List.cons_append]
            omega
          obtain ⟨y0, y1, y2, y3⟩ := hyf
          have e1 : decide (y < 0) = false := decide_eq_false (by omega)
          have e2 : (y == 124) = false := by rw [beq_eq_false_iff_ne]; exact y1
          have e3 : (y == 38) = false := by rw [beq_eq_false_iff_ne]; exact y2
          have e4 : (y == 41) = false := by rw [beq_eq_false_iff_ne]; exact y3
          have hrs := HR.out
          have hi := HI.out
          rw [flat_drop ha] at hrs hi
          have hnx : i' + a.length + (tt.drop (k + 1)).flatten.length = I := by
            rw [← hi]
            simp only [List.length_append]; omega
          have HNX := Lib.hid hnx
          have HTK : Hid (ts.take (k + 1) = ts.take k ++ [p]) := Lib.hid (by rw [List.take_add_one, hp]; rfl)
          have HRS : Hid (RS wo rb s i' o (a ++ ((tt.drop (k + 1)).flatten ++ rest))) := Lib.hid (by rw [← List.append_assoc]; exact hrs)
          have HC : Hid (∀ (W : World), RS W rb s i' o (a ++ ((tt.drop (k + 1)).flatten ++ rest)) → _) := Lib.hid (fun W hR => HSUB.out k a p ha hp i' _ W hR (HFO.out (k + 1) (by omega)))
          have HLN := Lib.hid htk
          obtain ⟨A, c, hve, hc1, hc2⟩ := HPS.out.form
          rw [htk] at hve hc1
          unfold maxLen at hc2
          subst hve
          clear hrs hi hnx ha hp hlv htk HI hy HR
          go_wp2_with fail
          refine HN.out.mono ?_
          clear HN
          rintro e w3 ⟨rfl, hb3⟩
          have hk3 : Kp (· = rb) wo w3 := Kp.of hb3
          have HC3 := Lib.hid (HC.out w3 (HRS.out.below hb3))
          have HPS3 := Lib.hid (HPS.out.kp hk3 hrb)
          have HK3 := Lib.hid (HK.out.trans hk3)
          have hs3 := hk3.size
          clear hb3 hk3
          go_wp2_with fail
          refine HC3.out.mono ?_
          rintro e w4 ⟨v4, rfl, hr4, hk4, hx4⟩
          obtain ⟨up, rfl⟩ := hx4.ptr
          have hs4 := hk4.size
          obtain ⟨vs, S, hq1, hq2, hq3⟩ := (HPS3.out.kp hk4 hrb).ex
          rw [HLN.out] at hq1
          have HROW := Lib.hid hq1
          have HR4 := Lib.hid hr4
          have HK4 := Lib.hid (HK3.out.trans hk4)
          have hg4 : g ≤ w4.heap.size := by omega
          have hT : ∀ b, Frm w3.heap.size w4 b → g ≤ b ∧ b < w4.heap.size ∧ (Value.slice A k c).ownBlock ≠ some b := fun b hb => ⟨by have := hb.1; omega, hb.2, fun e => by
            have := (HPS3.out.ex)
            obtain ⟨vs', S', z1, _, _⟩ := this
            have := (z1.lt b e).2
            have := hb.1
            omega⟩
          have hps : ∀ (v2 : Value) (w5 : World), w5.ownsRow g 27 1 v2 (k + 1) (vs ++ [.pointer up]) → w4.grownBy w5 (Value.slice A k c).ownBlock → (v2.ownBlock = (Value.slice A k c).ownBlock ∨ v2.ownBlock = some (w4.heap.size + 1)) →
              PsV w5 g v2 (ts.take (k + 1)) ∧ RS w5 rb s (i' + a.length) o ((tt.drop (k + 1)).flatten ++ rest) ∧ Kp (· = rb) w w5 := fun v2 w5 z1 z2 z3 => by
            refine ⟨?_, ?_, ?_⟩
            · rw [HTK.out]
              refine PsV.push (by rw [HLN.out]; exact hq1) hq2 hq3 hx4 hT z2 (by rw [HLN.out]; exact z1) ?_
              rcases z3 with z3 | z3
              · exact .inl z3
              · exact .inr ⟨_, Nat.le_succ _, z3⟩
            · refine ⟨HR4.out.asc, HR4.out.len, HR4.out.b.grown z2 (fun e => ?_), HR4.out.at_, HR4.out.le⟩
              have := (hq1.lt rb e.symm).1
              omega
            · exact HK4.out.grown z2 (fun b e => .inl (by have := (hq1.lt b e).1; have := HG.out; omega))
          have HPSH := Lib.hid hps
          clear hr4 hk4 hx4 hq1 hq2 hq3 hT hps HR4
          go_wp2_with (at_builtin; refine wpList_app elRx rfl (.tmp 26) (.tmp 28) rfl g _ k 1 vs [.pointer up] rfl HROW.out rfl rfl (by simp [Value.oneCell']) (by omega) (by omega) hg4 ?_; intro v5 w5 hown5 hgr5 hat5; have HP5 := Lib.hid (HPSH.out v5 w5 hown5 hgr5 hat5); obtain ⟨A5, c5, rfl, -, -, -⟩ := own_form hown5; clear hown5 hgr5 hat5)
          go_roundw
          case rel => exact ⟨k + 1, _, by omega, rfl, Lib.hid HP5.out.1, Lib.hid HP5.out.2.1, HNX, Lib.hid HP5.out.2.2⟩
          case measure => simp [lenV]; omega
      · as_aux_lemma =>
          obtain rfl : k = m := by omega
          have hrs := HR.out
          have hi := HI.out
          rw [List.drop_of_length_le (by rw [HML.out]; omega), List.flatten_nil, List.nil_append] at hrs
          rw [List.drop_of_length_le (by rw [HML.out]; omega), List.flatten_nil, List.length_nil, Nat.add_zero] at hi
          rw [List.drop_of_length_le (by rw [HML.out]; omega), List.flatten_nil, List.nil_append] at HN
          subst hi
          have hts : ts.take k = ts := List.take_of_length_le (by rw [HMS.out]; omega)
          rw [hts] at HPS htk
          have HRS := Lib.hid hrs
          obtain ⟨A, c, hve, hc1, hc2⟩ := HPS.out.form
          rw [htk] at hve
          subst hve
          obtain ⟨y, hy⟩ : ∃ y, y = hdI rest := ⟨_, rfl⟩
          have hyf : y = -1 ∨ y = 124 ∨ y = 38 ∨ y = 41 := by rw [hy]; exact HF.out
          rw [← hy] at HN
          have HSV : Hid (∀ w3, Below wo.heap.size wo w3 → Calls Tryz.prog 36 #[.int .i64 2, .slice A k c] w3 fun e w' => ∃ u, e = .returned u ∧ RxIn w' (Frm g w') u (sevX 2 ts) ∧ Below w3.heap.size w3 w') :=
            Lib.hid (fun w3 hb3 => several_any 2 _ ts w3 g (HPS.out.kp (Kp.of hb3) hrb) (by have := hb3.size; omega))
          clear hrs hts hlv htk HR HI hc1 hc2 hy
          go_wp2_with fail
          refine HN.out.mono ?_
          clear HN
          rintro e w3 ⟨rfl, hb3⟩
          have HS := Lib.hid (HSV.out w3 hb3)
          have HR3 := Lib.hid (HRS.out.below hb3)
          have HK3 := Lib.hid (HK.out.trans (Kp.of hb3))
          clear hb3 HSV
          have fin : ∀ (e : Ending) (w4 : World), (∃ u, e = .returned u ∧ RxIn w4 (Frm g w4) u (sevX 2 ts) ∧ Below w3.heap.size w3 w4) → ∃ up, e = .returned (.pointer up) ∧ Hid (RS w4 rb s i' o rest ∧ Kp (· = rb) w w4 ∧ RxIn w4 (Frm g w4) (.pointer up) (sevX 2 ts)) := fun e w4 ⟨u, e1, hx4, hb4⟩ => by
            obtain ⟨up, rfl⟩ := hx4.ptr
            exact ⟨up, e1, ⟨HR3.out.below hb4, HK3.out.trans (Kp.of hb4), hx4⟩⟩
          have HFIN := Lib.hid fin
          clear fin
          rcases hyf with rfl | rfl | rfl | rfl
          · go_wp2_with fail
            refine HS.out.mono ?_
            intro e w4 hq
            obtain ⟨up, rfl, HQ⟩ := HFIN.out e w4 hq
            clear hq
            go_wp2_with fail
            go_ret
            exact ⟨_, rfl, HQ.out.1, HQ.out.2.1, HQ.out.2.2⟩
          · go_wp2_with fail
            refine HS.out.mono ?_
            intro e w4 hq
            obtain ⟨up, rfl, HQ⟩ := HFIN.out e w4 hq
            clear hq
            go_wp2_with fail
            go_ret
            exact ⟨_, rfl, HQ.out.1, HQ.out.2.1, HQ.out.2.2⟩
          · go_wp2_with fail
            refine HS.out.mono ?_
            intro e w4 hq
            obtain ⟨up, rfl, HQ⟩ := HFIN.out e w4 hq
            clear hq
            go_wp2_with fail
            go_ret
            exact ⟨_, rfl, HQ.out.1, HQ.out.2.1, HQ.out.2.2⟩
          · go_wp2_with fail
            refine HS.out.mono ?_
            intro e w4 hq
            obtain ⟨up, rfl, HQ⟩ := HFIN.out e w4 hq
            clear hq
            go_wp2_with fail
            go_ret
            exact ⟨_, rfl, HQ.out.1, HQ.out.2.1, HQ.out.2.2⟩
end Go.Proofs.YtaachamblagbhaaGreatDoor
namespace Go.Proofs.YtaachamblagbhaaGreatDoor
open Go.RowKit BigFrame
set_option linter.unusedVariables false
set_option linter.unusedSimpArgs false
set_option maxRecDepth 100000

theorem rx_rep {w : World} {g kb qb : Nat} {vp : Option Addr} {p : Rx} {mn mx : Int} (h : RxIn w (Frm g w) (.pointer vp) p) (hk : Blk w kb 27 [.pointer vp]) (hq : RpB w qb mn mx (.slice (some ⟨kb, 0, none⟩) 1 1)) (h1 : g ≤ kb) (h2 : g ≤ qb) :
    RxIn w (Frm g w) (.pointer (some ⟨qb, 0, none⟩)) (.node 6 [] mn mx [p]) :=
  RxIn.mk_node (A := none) (c := 0) (A' := some ⟨kb, 0, none⟩) (c' := 1) ⟨h2, hq.lt⟩ (hq.cell rfl) (hq.cell rfl) (hq.cell rfl) (hq.cell rfl) (hq.cell rfl) (Nat.le_refl _) (Nat.zero_le _) (Nat.le_refl _) (by unfold maxLen; decide) (fun q => absurd rfl q) fun _ =>
    ⟨kb, 0, rfl, ⟨h1, hk.lt⟩, fun i k hi => by
      rcases i with _ | i
      · simp at hi
        subst hi
        exact ⟨_, hk.cell rfl, h⟩
      · simp at hi⟩
theorem psts_drop {l : List (Int × Int)} {k : Nat} {x : Int × Int} (h : l[k]? = some x) : psts (l.drop k) = pst x.1 x.2 ++ psts (l.drop (k + 1)) := by
  have hk := (List.getElem?_eq_some_iff.1 h).1
  have e : l[k] = x := (List.getElem?_eq_some_iff.1 h).2
  rw [List.drop_eq_getElem_cons hk, psts, List.flatMap_cons, e]; rfl
theorem reps_take {b : Rx} {l : List (Int × Int)} {k : Nat} {x : Int × Int} (h : l[k]? = some x) : reps b (l.take (k + 1)) = .node 6 [] x.1 x.2 [reps b (l.take k)] := by
  rw [List.take_add_one, h]
  exact reps_snoc _ _ _
/-- The four ways to stand behind. -/
theorem pst_ways (mn mx : Int) : (mn = 0 ∧ mx = -1 ∧ pst mn mx = [42]) ∨ (mn = 1 ∧ mx = -1 ∧ pst mn mx = [43]) ∨ (mn = 0 ∧ mx = 1 ∧ pst mn mx = [63]) ∨ pst mn mx = 123 :: cntx mn mx := by
  unfold pst
  by_cases h1 : mn = 0 ∧ mx = -1
  · exact .inl ⟨h1.1, h1.2, if_pos h1⟩
  · rw [if_neg h1]
    by_cases h2 : mn = 1 ∧ mx = -1
    · exact .inr (.inl ⟨h2.1, h2.2, if_pos h2⟩)
    · rw [if_neg h2]
      by_cases h3 : mn = 0 ∧ mx = 1
      · exact .inr (.inr (.inl ⟨h3.1, h3.2, if_pos h3⟩))
      · rw [if_neg h3]
        refine .inr (.inr (.inr ?_))
        unfold cntx
        split
        · simp
        · split <;> simp

set_option maxHeartbeats 8000000 in
theorem part_walk (t : List UInt8) (bx : Rx) (d : Nat) (hu : Rdz 4 t bx d) (l : List (Int × Int)) (hl : ∀ x ∈ l, tmsOk 6 x.1 x.2 = true) : Rdz 3 (t ++ psts l) (reps bx l) d := by
  intro rb i o s rest w h hf ho
  obtain ⟨m, hm⟩ : ∃ m, m = l.length := ⟨_, rfl⟩
  have H0 := Lib.hid (hu rb i o s (psts l ++ rest) w (by rw [← List.append_assoc]; exact h) trivial ho)
  obtain ⟨I, hI⟩ : ∃ I, I = i + (t ++ psts l).length := ⟨_, rfl⟩
  have HI : Hid (i + t.length + (psts (l.drop 0)).length = I) := Lib.hid (by rw [hI, List.length_append, List.drop_zero]; omega)
  have hrb := h.lt
  have HF := Lib.hid hf; have HL := Lib.hid hl; have HM := Lib.hid hm
  rw [← hI]
  obtain ⟨g, hg⟩ : ∃ g, w.heap.size = g := ⟨_, rfl⟩
  rw [hg] at hrb ⊢
  have HG := Lib.hid hg
  clear h hf hl hm hI hu
  go_enter Tryz.func67, Tryz.ntmps67
  go_wp2_with fail
  refine H0.out.mono ?_
  clear H0
  rintro e w1 ⟨v1, rfl, hr1, hk1, hx1⟩
  rw [hg] at hx1
  obtain ⟨vp, rfl⟩ := hx1.ptr
  have HX1 := Lib.hid hx1; have HR1 := Lib.hid hr1; have HK1 := Lib.hid hk1
  clear hr1 hk1 hx1 hg
  go_wp2_with fail
  go_loopg [3, 4, 5] m (fun M v u1 u2 wr => ∃ k i' : Nat, ∃ vp, k ≤ m ∧ M = m - k ∧ v = .pointer vp ∧ Hid (RxIn wr (Frm g wr) (.pointer vp) (reps bx (l.take k))) ∧ Hid (RS wr rb s i' o (psts (l.drop k) ++ rest)) ∧ Hid (i' + (psts (l.drop k)).length = I) ∧ Hid (Kp (· = rb) w wr))
  case atStart => exact ⟨0, _, vp, Nat.zero_le _, rfl, rfl, HX1.out, Lib.hid (by rw [List.drop_zero]; exact HR1.out), HI, HK1.out⟩
  case round =>
    as_aux_lemma =>
      clear HX1 HR1 HK1 HI
      obtain ⟨k, i', vp, hk, hM, rfl, HX, HR, HI, HK⟩ := hrel
      have hgs : g ≤ wr.heap.size := by rw [← HG.out]; exact HK.out.size
      obtain ⟨wo, rfl⟩ : ∃ wo : World, wo = wr := ⟨_, rfl⟩
      have HN := Lib.hid (now_any rb i' o s _ wo HR.out)
      obtain ⟨y, hy⟩ : ∃ y, y = hdI (psts (l.drop k) ++ rest) := ⟨_, rfl⟩
      rw [← hy] at HN
      have HHY := Lib.hid hy
      clear hy
      go_wp2_with fail
      refine HN.out.mono ?_
      clear HN
      rintro e w1 ⟨rfl, hb1⟩
      have hs1 := hb1.size
      obtain ⟨kb, hkb⟩ : ∃ kb, kb = w1.heap.size := ⟨_, rfl⟩
      obtain ⟨w3, hw3⟩ : ∃ w3, w3 = (w1.alloc (.cells #[.pointer vp] 27)).alloc (.cells #[.int .i64 6, .slice none 0 0, .int .i64 0, .int .i64 0, .slice (some ⟨kb, 0, none⟩) 1 1] 41) := ⟨_, rfl⟩
      have hb3 : Below w1.heap.size w1 w3 := by rw [hw3]; exact ((Below.refl _ _).alloc (Nat.le_refl _) _).alloc (by simp) _
      have hk3 : Blk w3 kb 27 [.pointer vp] := by rw [hw3, hkb]; exact (Blk.new w1 _ _).alloc _
      have hq3 : RpB w3 (kb + 1) 0 0 (.slice (some ⟨kb, 0, none⟩) 1 1) := by
        have := Blk.new (w1.alloc (.cells #[.pointer vp] 27)) 41 [.int .i64 6, .slice none 0 0, .int .i64 0, .int .i64 0, .slice (some ⟨kb, 0, none⟩) 1 1]
        rw [show (w1.alloc (.cells #[.pointer vp] 27)).heap.size = kb + 1 by rw [hkb]; simp] at this
        rw [hw3]; exact this
      have HB3 := Lib.hid (hb1.trans (hb3.mono hs1))
      have HK3 := Lib.hid hk3; have HQ3 := Lib.hid hq3
      have HR3 := Lib.hid ((HR.out.below hb1).below hb3)
      have HKW := Lib.hid (HK.out.trans (Kp.of (hb1.trans (hb3.mono hs1))))
      have HX3 : Hid (RxIn w3 (fun b => g ≤ b ∧ b < kb) (.pointer vp) (reps bx (l.take k))) := Lib.hid (RxIn.keep (fun b hb => HB3.out.block b hb.2) (fun b hb => ⟨hb.1, by have := hb.2; omega⟩) HX.out)
      have hgk : g ≤ kb := by omega
      have hrk : rb < kb := by omega
      have hwk : w.heap.size ≤ kb := by rw [HG.out]; exact hgk
      clear hb1 hb3 hk3 hq3 HR HK HX
      go_upto_region 4 with (fail)
      rw [← hkb, ← hw3]
      clear hw3 hkb
      by_cases hlt : k < m
      · as_aux_lemma =>
          obtain ⟨x, hx⟩ : ∃ x, l[k]? = some x := ⟨_, List.getElem?_eq_getElem (by rw [← HM.out]; exact hlt)⟩
          have htm := HL.out x (List.mem_of_getElem? hx)
          have hi := HI.out
          have hrs := HR3.out
          have hy := HHY.out
          rw [psts_drop hx] at hi hrs hy
          have HXT := Lib.hid (reps_take (b := bx) hx)
          obtain ⟨mn, mx⟩ := x
          simp only at hi hrs hy htm HXT
          obtain ⟨rest2, hrest2⟩ : ∃ rest2, rest2 = psts (l.drop (k + 1)) ++ rest := ⟨_, rfl⟩
          obtain ⟨L2, hL2⟩ : ∃ L2, L2 = (psts (l.drop (k + 1))).length := ⟨_, rfl⟩
          rw [List.length_append, ← hL2] at hi
          rw [List.append_assoc, ← hrest2] at hrs hy
          have HHZ := Lib.hid hy
          have HRS := Lib.hid hrs; have HIL := Lib.hid hi; have HR2E := Lib.hid hrest2; have HL2E := Lib.hid hL2
          have hq0 := HQ3.out
          have q2 := hq0.cell (i := 2) rfl
          have q3 := hq0.cell (i := 3) rfl
          have f2 := hq0.frozen 2
          have f3 := hq0.frozen 3
          -- the end of a round
          have hfin : ∀ (j : Nat) (w6 : World), RS w6 rb s j o rest2 → RpB w6 (kb + 1) mn mx (.slice (some ⟨kb, 0, none⟩) 1 1) → Kp (fun b => b = rb ∨ b = kb + 1) w3 w6 → j + L2 = I →
              Hid (RxIn w6 (Frm g w6) (.pointer (some ⟨kb + 1, 0, none⟩)) (reps bx (l.take (k + 1)))) ∧ Hid (RS w6 rb s j o (psts (l.drop (k + 1)) ++ rest)) ∧ Hid (j + (psts (l.drop (k + 1))).length = I) ∧ Hid (Kp (· = rb) w w6) := fun j w6 a1 a2 a3 a4 => by
            have hks := a3.size
            have hkbl : kb + 1 < w3.heap.size := HQ3.out.lt
            refine ⟨Lib.hid ?_, Lib.hid (by rw [← HR2E.out]; exact a1), Lib.hid (by rw [← HL2E.out]; exact a4), Lib.hid ⟨a3.os.trans HKW.out.os, a3.tape.trans HKW.out.tape, a3.output.trans HKW.out.output, Nat.le_trans HKW.out.size hks, fun b hb hn => ?_⟩⟩
            · rw [HXT.out]
              exact rx_rep (kb := kb) (RxIn.keep (fun b hb => a3.block b (by have := hb.2; omega) (by have := hb.1; have := hb.2; omega)) (fun b hb => ⟨hb.1, by have := hb.2; omega⟩) HX3.out) (HK3.out.kp a3 (by omega)) a2 hgk (by omega)
            · rw [a3.block b (by have := HKW.out.size; omega) (by omega)]
              exact HKW.out.block b hb hn
          have HFIN := Lib.hid hfin
          clear hi hrs hrest2 hL2 hfin hq0 HI HR3 hy HHY
          rcases pst_ways mn mx with ⟨rfl, rfl, e⟩ | ⟨rfl, rfl, e⟩ | ⟨rfl, rfl, e⟩ | e
          · as_aux_lemma =>
              have hr4 := HRS.out
              have hy := HHZ.out
              rw [e] at hr4 hy
              have hil := HIL.out
              rw [e] at hil
              obtain rfl : y = 42 := hy
              have hq4 := HQ3.out
              obtain ⟨w4, hw4⟩ : ∃ w4, w4 = (w3.setCell ⟨kb + 1, 3, none⟩ (.int .i64 (-1))) := ⟨_, rfl⟩
              have hq5 : RpB w4 (kb + 1) 0 (-1) (.slice (some ⟨kb, 0, none⟩) 1 1) := by rw [hw4]; exact (HQ3.out.set_ 3 (.int .i64 (-1)))
              have hk5 : Kp (fun b => b = rb ∨ b = kb + 1) w3 w4 := by rw [hw4]; exact ((Kp.refl (fun b => b = rb ∨ b = kb + 1) w3).set_ (p := ⟨kb + 1, 3, none⟩) (.inr (.inr rfl)) (.int .i64 (-1)))
              have hr5 : RS w4 rb s i' o ([42] ++ rest2) := by rw [hw4]; exact (hr4.far (p := ⟨kb + 1, 3, none⟩) (show rb ≠ kb + 1 by omega) (.int .i64 (-1)))
              have HS := Lib.hid (skip_any rb i' o s 42 rest2 w4 hr5)
              have HQ5 := Lib.hid hq5; have HK5 := Lib.hid hk5; have HIL2 := Lib.hid hil
              clear hq4 hr4 hq5 hk5 hr5 hil HIL e HHZ
              go_upto_region 14 with (fail)
              rw [← hw4]
              clear hw4 q2 q3 f2 f3
              go_wp2_with fail
              refine HS.out.mono ?_
              rintro e w6 ⟨rfl, hr6, hk6⟩
              have HF6 := Lib.hid (HFIN.out (i' + 1) w6 hr6 (HQ5.out.kp hk6 (show ¬ kb + 1 = rb by omega)) (HK5.out.trans (hk6.mono fun _ _ q => .inl q)) (by have := HIL2.out; simp at this; omega))
              clear hr6 hk6
              go_wp2_with fail
              go_roundg (m - (k + 1))
              case measure => omega
              case rel => exact ⟨k + 1, _, _, by omega, rfl, rfl, HF6.out.1, HF6.out.2.1, HF6.out.2.2.1, HF6.out.2.2.2⟩
          · as_aux_lemma =>
              have hr4 := HRS.out
              have hy := HHZ.out
              rw [e] at hr4 hy
              have hil := HIL.out
              rw [e] at hil
              obtain rfl : y = 43 := hy
              have hq4 := HQ3.out
              obtain ⟨w4, hw4⟩ : ∃ w4, w4 = ((w3.setCell ⟨kb + 1, 2, none⟩ (.int .i64 1)).setCell ⟨kb + 1, 3, none⟩ (.int .i64 (-1))) := ⟨_, rfl⟩
              have hq5 : RpB w4 (kb + 1) 1 (-1) (.slice (some ⟨kb, 0, none⟩) 1 1) := by rw [hw4]; exact ((HQ3.out.set_ 2 (.int .i64 1)).set_ 3 (.int .i64 (-1)))
              have hk5 : Kp (fun b => b = rb ∨ b = kb + 1) w3 w4 := by rw [hw4]; exact (((Kp.refl (fun b => b = rb ∨ b = kb + 1) w3).set_ (p := ⟨kb + 1, 2, none⟩) (.inr (.inr rfl)) (.int .i64 1)).set_ (p := ⟨kb + 1, 3, none⟩) (.inr (.inr rfl)) (.int .i64 (-1)))
              have hr5 : RS w4 rb s i' o ([43] ++ rest2) := by rw [hw4]; exact ((hr4.far (p := ⟨kb + 1, 2, none⟩) (show rb ≠ kb + 1 by omega) (.int .i64 1)).far (p := ⟨kb + 1, 3, none⟩) (show rb ≠ kb + 1 by omega) (.int .i64 (-1)))
              have HS := Lib.hid (skip_any rb i' o s 43 rest2 w4 hr5)
              have HQ5 := Lib.hid hq5; have HK5 := Lib.hid hk5; have HIL2 := Lib.hid hil
              clear hq4 hr4 hq5 hk5 hr5 hil HIL e HHZ
              go_upto_region 14 with (fail)
              rw [← hw4]
              clear hw4 q2 q3 f2 f3
              go_wp2_with fail
              refine HS.out.mono ?_
              rintro e w6 ⟨rfl, hr6, hk6⟩
              have HF6 := Lib.hid (HFIN.out (i' + 1) w6 hr6 (HQ5.out.kp hk6 (show ¬ kb + 1 = rb by omega)) (HK5.out.trans (hk6.mono fun _ _ q => .inl q)) (by have := HIL2.out; simp at this; omega))
              clear hr6 hk6
              go_wp2_with fail
              go_roundg (m - (k + 1))
              case measure => omega
              case rel => exact ⟨k + 1, _, _, by omega, rfl, rfl, HF6.out.1, HF6.out.2.1, HF6.out.2.2.1, HF6.out.2.2.2⟩
          · as_aux_lemma =>
              have hr4 := HRS.out
              have hy := HHZ.out
              rw [e] at hr4 hy
              have hil := HIL.out
              rw [e] at hil
              obtain rfl : y = 63 := hy
              have hq4 := HQ3.out
              obtain ⟨w4, hw4⟩ : ∃ w4, w4 = (w3.setCell ⟨kb + 1, 3, none⟩ (.int .i64 1)) := ⟨_, rfl⟩
              have hq5 : RpB w4 (kb + 1) 0 1 (.slice (some ⟨kb, 0, none⟩) 1 1) := by rw [hw4]; exact (HQ3.out.set_ 3 (.int .i64 1))
              have hk5 : Kp (fun b => b = rb ∨ b = kb + 1) w3 w4 := by rw [hw4]; exact ((Kp.refl (fun b => b = rb ∨ b = kb + 1) w3).set_ (p := ⟨kb + 1, 3, none⟩) (.inr (.inr rfl)) (.int .i64 1))
              have hr5 : RS w4 rb s i' o ([63] ++ rest2) := by rw [hw4]; exact (hr4.far (p := ⟨kb + 1, 3, none⟩) (show rb ≠ kb + 1 by omega) (.int .i64 1))
              have HS := Lib.hid (skip_any rb i' o s 63 rest2 w4 hr5)
              have HQ5 := Lib.hid hq5; have HK5 := Lib.hid hk5; have HIL2 := Lib.hid hil
              clear hq4 hr4 hq5 hk5 hr5 hil HIL e HHZ
              go_upto_region 14 with (fail)
              rw [← hw4]
              clear hw4 q2 q3 f2 f3
              go_wp2_with fail
              refine HS.out.mono ?_
              rintro e w6 ⟨rfl, hr6, hk6⟩
              have HF6 := Lib.hid (HFIN.out (i' + 1) w6 hr6 (HQ5.out.kp hk6 (show ¬ kb + 1 = rb by omega)) (HK5.out.trans (hk6.mono fun _ _ q => .inl q)) (by have := HIL2.out; simp at this; omega))
              clear hr6 hk6
              go_wp2_with fail
              go_roundg (m - (k + 1))
              case measure => omega
              case rel => exact ⟨k + 1, _, _, by omega, rfl, rfl, HF6.out.1, HF6.out.2.1, HF6.out.2.2.1, HF6.out.2.2.2⟩
          · as_aux_lemma =>
              have hr4 := HRS.out
              have hy := HHZ.out
              rw [e] at hr4 hy
              have hil := HIL.out
              rw [e] at hil
              obtain rfl : y = 123 := hy
              have HS := Lib.hid (skip_any rb i' o s 123 (cntx mn mx ++ rest2) w3 hr4)
              have HIL2 := Lib.hid hil
              clear hr4 hil HIL e HHZ q2 q3 f2 f3
              go_wp2_with fail
              refine HS.out.mono ?_
              rintro e w4 ⟨rfl, hr4, hk4⟩
              have HT := Lib.hid (times_any' rb (kb + 1) (i' + 1) o s mn mx (.slice (some ⟨kb, 0, none⟩) 1 1) rest2 w4 hr4 (HQ3.out.kp hk4 (show ¬ kb + 1 = rb by omega)) (by omega) htm)
              have HK4 := Lib.hid (hk4.mono (S' := fun b => b = rb ∨ b = kb + 1) fun _ _ q => .inl q)
              clear hr4 hk4
              go_wp2_with fail
              refine HT.out.mono ?_
              rintro e w6 ⟨rfl, hr6, hq6, hk6⟩
              have HF6 := Lib.hid (HFIN.out (i' + 1 + (cntx mn mx).length) w6 hr6 hq6 (HK4.out.trans hk6) (by have := HIL2.out; simp at this; omega))
              clear hr6 hk6 hq6
              go_wp2_with fail
              go_roundg (m - (k + 1))
              case measure => omega
              case rel => exact ⟨k + 1, _, _, by omega, rfl, rfl, HF6.out.1, HF6.out.2.1, HF6.out.2.2.1, HF6.out.2.2.2⟩
      · as_aux_lemma =>
          obtain rfl : k = m := by omega
          have hrs := HR3.out
          have hi := HI.out
          have hy := HHY.out
          rw [List.drop_of_length_le (by rw [← HM.out]; exact Nat.le_refl _)] at hrs hi hy
          have hp0 : psts [] = [] := rfl
          rw [hp0, List.nil_append] at hrs hy
          rw [hp0, List.length_nil, Nat.add_zero] at hi
          subst hi
          have hts : l.take k = l := List.take_of_length_le (by rw [← HM.out]; exact Nat.le_refl _)
          rw [hts] at HX3
          have hyf := HF.out
          simp only [folR] at hyf
          rw [← hy] at hyf
          obtain ⟨y1, y2, y3, y4⟩ := hyf
          have e1 : (y == 42) = false := by rw [beq_eq_false_iff_ne]; exact y1
          have e2 : (y == 43) = false := by rw [beq_eq_false_iff_ne]; exact y2
          have e3 : (y == 63) = false := by rw [beq_eq_false_iff_ne]; exact y3
          have e4 : (y == 123) = false := by rw [beq_eq_false_iff_ne]; exact y4
          have HRS := Lib.hid hrs
          have HX9 : Hid (RxIn w3 (Frm g w3) (.pointer vp) (reps bx l)) := Lib.hid (RxIn.keep (fun _ _ => rfl) (fun b hb => ⟨hb.1, by have := HK3.out.lt; have := hb.2; omega⟩) HX3.out)
          clear hrs hts hy hp0 HHY
          go_wp2_with fail
          go_ret
          exact ⟨_, rfl, HRS.out, HKW.out, HX9.out⟩
end Go.Proofs.YtaachamblagbhaaGreatDoor
