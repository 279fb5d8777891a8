/- auto.moveSets, walked. · Memory for auto.minimal: the order in which states are come to, and the map of their places. -/
import Derived.Test.YthikgdogfkjioaaGreatDoorQ35
import Derived.Test.YthikgdogfkjioaaGreatDoorQ24
import Derived.Test.YthikgdogfkjioaaGreatDoorQ30
import Derived.Test.YthikgdogfkjioaaGreatDoorQ26
import Derived.Test.YthikgdogfkjioaaGreatDoorQ27
import Derived.Test.YthikgdogfkjioaaGreatDoorQ33
namespace Go.Proofs.YthikgdogfkjioaaGreatDoor
open Go.RowKit BigFrame
set_option linter.unusedVariables false
set_option linter.unusedSimpArgs false
set_option maxRecDepth 100000

structure KB (S : Nat → Prop) (w : World) where
  val : World
  kp : Kp S w val
instance (S : Nat → Prop) (w : World) : Nonempty (KB S w) := ⟨⟨w, Kp.refl _ _⟩⟩
theorem blk_own_ne {w : World} {g base : Nat} {e e' : TypeId} {vs xs : List Value} {sz n : Nat} {v : Value} (h : Blk w g e vs) (ho : w.ownsRow base e' sz v n xs) (hne : e ≠ e') : v.ownBlock ≠ some g := fun q => by
  obtain ⟨us, hb⟩ := own_ty ho q
  unfold Blk at h hb
  rw [h] at hb
  simp at hb
  exact hne hb.2
theorem VMap.kb {w : World} {b n : Nat} {f : Int → Option Value} {u : Value} (h : VMap w b n f) (X : KB (fun k => u.ownBlock = some k) w) (hne : u.ownBlock ≠ some b) : VMap X.val b n f :=
  h.kept (row := u.ownBlock) ⟨X.kp.os, X.kp.tape, X.kp.output, X.kp.size, fun k hk hn => X.kp.block k hk (fun e => hn e.symm)⟩ (fun e => hne e.symm)
theorem tosOf_len (ms : List Mv) : (tosOf ms).length ≤ ms.length := by
  unfold tosOf
  have := distinct_le (ms.map fun m => m.2.2)
  rwa [List.length_map] at this
theorem setsP_len (l : List St) : (setsP l).length ≤ totM l := by
  unfold setsP totM
  rw [List.length_flatMap]
  induction l with
  | nil => simp
  | cons s l ih =>
    have := tosOf_len s.2
    simp only [List.map_cons, List.sum_cons, List.length_map]
    simp only [List.length_map] at ih
    omega
set_option maxHeartbeats 4000000 in
theorem pMoveSets_any (A : Option Addr) (n c : Nat) (l : List St) (w : World) (B : Nat) (hB : B ≤ w.heap.size) (h : (shL shState).rd w (Lo B) l [.slice A n c]) (hl : l.length = n) (hn : n ≤ 1000) (hm : totM l ≤ 60) (hwf : ∀ s ∈ l, ∀ m ∈ s.2, wfI m.2.2) :
    Calls Tryz.prog 11 #[.agg #[.slice A n c]] w fun e w' => ∃ v vs, e = .returned v ∧ ClV w' w.heap.size v vs (setsP l) ∧ Below w.heap.size w w' := by
  have Hl := Lib.hid hl; have H := Lib.hid h; have HM := Lib.hid hm; have HWF := Lib.hid hwf
  clear hl h hm hwf
  have hb0 : Below w.heap.size w (w.alloc (.cells #[.slice A n c] 24)) := (Below.refl _ _).alloc (Nat.le_refl _) _
  have hc0 : (w.alloc (.cells #[.slice A n c] 24)).cell? ⟨w.heap.size, 0, none⟩ = some (.slice A n c) := by simp
  have hs0 : (w.alloc (.cells #[.slice A n c] 24)).heap.size = w.heap.size + 1 := by simp
  go_enter Tryz.func11, Tryz.ntmps11
  go_wp2_with fail
  generalize w.alloc (.cells #[.slice A n c] 24) = W0 at *
  have hW : w.heap.size < W0.heap.size := by omega
  have HB0 := Lib.hid hb0
  clear hb0 hs0
  go_loopw [3, 17] (fun v i wr => ∃ (k : Nat) (vs : List Value), k ≤ n ∧ i = .int .i64 (k : Int) ∧ Hid (ClV wr W0.heap.size v vs (setsP (l.take k))) ∧ Hid (Below W0.heap.size W0 wr)) (fun _ i _ => n - (intOf i).toNat)
  case atStart => exact ⟨0, [], Nat.zero_le _, rfl, ClV.nil _ _, Below.refl _ _⟩
  case round =>
    as_aux_lemma =>
      obtain ⟨k, vs, hk, rfl, HV, HB⟩ := hrel
      have hzr := HB.out.size
      have hc1 := (HB.out.cell (p := ⟨w.heap.size, 0, none⟩) hW).trans hc0
      by_cases hlt : k < n
      · as_aux_lemma =>
          have d1 : decide ((k : Int) < (n : Int)) = true := decide_eq_true (by omega)
          have hkl : k < l.length := by rw [Hl.out]; exact hlt
          obtain ⟨b, off, rfl, hb, hst⟩ := states_at (Sh.below H.out (HB0.out.mono hB)) (by omega)
          obtain ⟨g1, A', c', g2, g3, g4, g5⟩ := hst k _ (List.getElem?_eq_getElem hkl)
          have hst := setsP_take (List.getElem?_eq_getElem hkl)
          have htk := totM_take (List.getElem?_eq_getElem hkl)
          have hle := totM_le l (k + 1)
          have hln := setsP_len (l.take k)
          have hwf := HWF.out _ (List.getElem_mem hkl)
          generalize l[k] = s at *
          obtain ⟨r, ms⟩ := s
          simp only at g2 g3 g5 hst htk hwf
          have HWS := Lib.hid hwf; clear hwf
          obtain ⟨m, hm⟩ : ∃ m, m = ms.length := ⟨_, rfl⟩
          rw [← hm] at g2 g3 htk
          have hR : (setsP (l.take k)).length + m ≤ 60 := by have := HM.out; omega
          have HSM := Lib.hid hm; have HST := Lib.hid hst; have HMS := Lib.hid g5; have HLN := Lib.hid hR
          have hbW : b < W0.heap.size := Nat.lt_of_lt_of_le hb (by omega)
          have y1 := (HB.out.cell (p := ⟨b, off + k * 2, none⟩) hbW).trans g1
          have y2 := (HB.out.cell (p := ⟨b, off + k * 2 + 1, none⟩) hbW).trans g2
          unfold maxLen at g4
          clear hm hst g5 htk hle hln g1
          obtain ⟨wo, rfl⟩ : ∃ wo : World, wo = wr := ⟨_, rfl⟩
          have hmm := @run_makeMap Tryz.prog
          obtain ⟨W1, hW1⟩ : ∃ W1, W1 = wo.alloc (.cells #[.int .i64 r, .slice A' m c'] 30) := ⟨_, rfl⟩
          have hb1 : Below wo.heap.size wo W1 := by rw [hW1]; exact (Below.refl _ _).alloc (Nat.le_refl _) _
          have hs1 : W1.heap.size = wo.heap.size + 1 := by rw [hW1]; simp
          have y3 : W1.cell? ⟨wo.heap.size, 1, none⟩ = some (.slice A' m c') := by rw [hW1]; simp
          go_wp2_with fail
          obtain ⟨bm, hbm⟩ : ∃ bm, bm = W1.heap.size := ⟨_, rfl⟩
          have hbm2 : wo.heap.size + 1 = bm := by omega
          have hM0 := Ms.new W1
          rw [← hW1, hbm2]
          rw [← hbm] at hM0
          have HW1 := Lib.hid hW1; have HB1 := Lib.hid hb1; have HM0 := Lib.hid hM0
          have hbW0 : W0.heap.size ≤ bm := by omega
          have HBM0 := Lib.hid hbm
          clear hW1 hb1 hM0 y1 y2 y3 hc1 g2 hc0 hmm hbm2 hbm
          go_loopw [7, 25] (fun v i wr => ∃ (j : Nat) (f : Int → Option Value), j ≤ m ∧ i = .int .i64 (j : Int) ∧ Hid (Ms W1 wr bm bm j f v (tosOf (ms.take j)) (ms.take j))) (fun _ i _ => m - (intOf i).toNat)
          case atStart => exact ⟨0, _, Nat.zero_le _, rfl, HM0⟩
          case round =>
            as_aux_lemma =>
              clear HM0
              obtain ⟨j, f, hj, rfl, HMw⟩ := hrel
              by_cases hjm : j < m
              · as_aux_lemma =>
                  have d1 : decide ((j : Int) < (m : Int)) = true := decide_eq_true (by omega)
                  have hjl : j < ms.length := by rw [← HSM.out]; exact hjm
                  obtain ⟨b2, o2, rfl, hb2, hc2⟩ := moves_at HMS.out (by omega)
                  obtain ⟨u1, u2, u3⟩ := hc2 j _ (List.getElem?_eq_getElem hjl)
                  have hbW2 : b2 < W0.heap.size := Nat.lt_of_lt_of_le hb2 (by omega)
                  have tr : ∀ o, wr.cell? ⟨b2, o, none⟩ = W0.cell? ⟨b2, o, none⟩ := fun o => (HMw.out.b.cell (p := ⟨b2, o, none⟩) (by show b2 < bm; omega)).trans ((HB1.out.cell (p := ⟨b2, o, none⟩) (by show b2 < _; omega)).trans (HB.out.cell (p := ⟨b2, o, none⟩) hbW2))
                  have u1 := (tr _).trans u1
                  have u2 := (tr _).trans u2
                  have u3 := (tr _).trans u3
                  have htj : ms.take (j + 1) = ms.take j ++ [ms[j]] := List.take_succ_eq_append_getElem hjl
                  have hzw := HWS.out _ (List.getElem_mem hjl)
                  generalize ms[j] = mv at *
                  obtain ⟨x, y, z⟩ := mv
                  simp only at u1 u2 u3 hzw
                  have HTJ := Lib.hid htj; have HZ := Lib.hid hzw
                  have hto := @tosOf_snoc (ms.take j) (x, y, z)
                  rw [← htj] at hto
                  have hfs := HMw.out.fs z
                  obtain ⟨lu, hlu⟩ : ∃ lu, lu = (toSet (ms.take j) z).length := ⟨_, rfl⟩
                  obtain ⟨Au, cu, hue, hu2, hu3, -⟩ := (HMw.out.fr z).form
                  rw [← hlu] at hue hu2
                  have hlu60 : lu ≤ 60 := by have h1 := toSet_len (ms := ms.take j) (t := z); rw [List.length_take] at h1; omega
                  unfold maxLen at hu3
                  have HLU := Lib.hid hlu; clear hlu
                  have hu := hue.symm
                  obtain ⟨gm, hgm⟩ : ∃ gm, gm = wr.heap.size := ⟨_, rfl⟩
                  have hb3 : Below wr.heap.size wr (wr.alloc (.cells #[.int .i64 x, .int .i64 y, .int .i64 z] 32)) := (Below.refl _ _).alloc (Nat.le_refl _) _
                  have hM1 := HMw.out.ext hb3
                  have hBM := Blk.new wr 32 [.int .i64 x, .int .i64 y, .int .i64 z]
                  have hsz3 : (wr.alloc (.cells #[.int .i64 x, .int .i64 y, .int .i64 z] 32)).heap.size = wr.heap.size + 1 := by simp
                  have lk2 := hM1.m.look2 hzw
                  rw [← hu] at lk2
                  rw [← hgm] at hBM hsz3
                  have HM1 := Lib.hid hM1; have HBM := Lib.hid hBM; have HU := Lib.hid hu; have HGM := Lib.hid hgm; have HS3 := Lib.hid hsz3
                  have hMk := HMw.out.le
                  clear hc2 tr htj hzw hb3 hM1 hBM hu hue hsz3 HMw
                  cases hs : (f z).isSome
                  · as_aux_lemma =>
                      rw [hs] at lk2 hfs
                      have hnm : z ∉ tosOf (ms.take j) := fun q => by have := hfs.2 q; cases this
                      have hle : tosOf (ms.take (j + 1)) = tosOf (ms.take j) ++ [z] := by rw [hto, if_neg hnm]
                      have HLE := Lib.hid hle.symm
                      have hkl : (tosOf (ms.take j)).length ≤ 60 := by have h1 := tosOf_len (ms.take j); rw [List.length_take] at h1; omega
                      clear hto hfs hs hnm hle
                      go_wp2_with (at_builtin; go_must (refine wpList_app elIn rfl (.tmp 38) (.tmp 41) rfl bm u7 (tosOf (ms.take j)).length 1 _ [.int .i64 z] rfl HM1.out.k (by rw [HS3.out, HGM.out]; rfl) rfl (by simp [Value.oneCell']) (by omega) (by omega) HM1.out.le ?_); intro v5 w5 hown5 hg5 hat5; have HM5 := Lib.hid (HM1.out.key hg5 hown5); have HBM5 := Lib.hid (HBM.out.grown hg5 (fun e => blk_own_ne HBM.out HM1.out.k (by decide) e.symm)); clear hown5 hg5 hat5)
                      rw [← hgm]
                      clear hgm
                      obtain ⟨wt, hwt⟩ : ∃ wt, wt = w5.drew := ⟨_, rfl⟩
                      have hdr : Below w5.heap.size w5 w5.drew := ⟨rfl, rfl, rfl, Nat.le_refl _, fun _ _ => rfl⟩
                      have hMt : Ms W1 wt bm bm j f v5 (tosOf (ms.take j) ++ [z]) (ms.take j) := by rw [hwt]; exact HM5.out.ext hdr
                      have hBt : Blk wt gm 32 [.int .i64 x, .int .i64 y, .int .i64 z] := by rw [hwt]; exact HBM5.out.drew
                      have hGt : bm ≤ wt.heap.size := hMt.le
                      have hfu : OwG wt bm (.slice Au lu cu) (toSet (ms.take j) z) := by rw [HU.out]; exact hMt.fr z
                      have hug := blk_own_ne hBt hfu (by decide)
                      have hub := hMt.m.cells hfu
                      have k0 : ∀ X : KB (fun k => (Value.slice Au lu cu).ownBlock = some k) wt, X.val.cell? ⟨gm, 0, none⟩ = some (.int .i64 x) := fun X => (X.kp.cell (p := ⟨gm, 0, none⟩) hBt.lt hug).trans (hBt.cell (i := 0) rfl)
                      have k1 : ∀ X : KB (fun k => (Value.slice Au lu cu).ownBlock = some k) wt, X.val.cell? ⟨gm, 1, none⟩ = some (.int .i64 y) := fun X => (X.kp.cell (p := ⟨gm, 1, none⟩) hBt.lt hug).trans (hBt.cell (i := 1) rfl)
                      have k2 : ∀ X : KB (fun k => (Value.slice Au lu cu).ownBlock = some k) wt, X.val.cell? ⟨gm, 2, none⟩ = some (.int .i64 z) := fun X => (X.kp.cell (p := ⟨gm, 2, none⟩) hBt.lt hug).trans (hBt.cell (i := 2) rfl)
                      have lk : ∀ X : KB (fun k => (Value.slice Au lu cu).ownBlock = some k) wt, (Instr.lookup 55 (.map (some bm)) (.int .i64 z) false).run Tryz.prog X.val = .ok (.slice Au lu cu) X.val := fun X => by have h := (hMt.m.kb X hub).look1 HZ.out; rw [← HU.out] at h; exact h
                      have HMT := Lib.hid hMt
                      have hln2 := by have h1 := toSet_len (ms := ms.take j) (t := z); rw [List.length_take] at h1; omega
                      have HFU := Lib.hid hfu; have HUB := Lib.hid hub
                      clear hdr hMt hBt hfu hug hub
                      refine wp_region_T (fun w' => ∃ X : KB (fun k => (Value.slice Au lu cu).ownBlock = some k) wt, w' = X.val) 1 14 (by kernel_rfl) 14 (by rfl) ?_
                      rw [← hwt]
                      clear hwt
                      refine takeT 2 0 12 (by kernel_rfl) (by kernel_rfl) (fun _ _ d _ _ h => by cases d <;> exact h) ⟨⟨_, Kp.refl _ _⟩, rfl⟩ ?_
                      simp only [List.take_succ_cons, List.take_zero, List.drop_succ_cons, List.drop_zero]
                      repeat (first | go_big_quiet_skip | (go_big_quiet_want; go_big_quiet_op; go_big_quiet_on))
                      refine wpQuiet_nil ?_
                      clear k0 k1 k2 lk
                      refine oneT 1 12 (by kernel_rfl) (by decide) ?_
                      simp only [List.take_succ_cons, List.take_zero, List.drop_succ_cons, List.drop_zero]
                      go_wp2_with fail
                      refine ⟨⟨KB.mk _ ((Kp.refl _ _).alloc _), rfl⟩, ?_⟩
                      refine oneT 0 13 (by kernel_rfl) (by decide) ?_
                      simp only [List.take_succ_cons, List.take_zero, List.drop_succ_cons, List.drop_zero]
                      refine wpList_app elRg rfl (.tmp 49) (.tmp 55) rfl bm (.slice Au lu cu) lu 1 _ [.int .i64 x, .int .i64 y] rfl (by have h := HFU.out; unfold OwG at h; rw [← HLU.out] at h; exact h) rfl rfl (by simp [Value.oneCell']) (by omega) (by omega) hGt ?_
                      intro v8 w8 hown8 hg8 hat8
                      obtain ⟨w9, hrun9, hm9, hg9⟩ := (HMT.out.m.kept hg8 (fun e => HUB.out e.symm)).put (x := z) HZ.out (vElem_own hown8).choose_spec (by omega)
                      have HMS9 := Lib.hid (Ms.add (mv := (x, y, z)) HMT.out (by rw [← HU.out]; exact hg8) (OwG.snoc hown8 HLU.out) (by rw [← HU.out]; exact hat8) hm9 hg9)
                      have HKP : Hid (Kp (fun k => (Value.slice Au lu cu).ownBlock = some k) wt w8) := Lib.hid ((Kp.refl _ wt).grown hg8 (fun k e => .inr e))
                      clear hown8 hg8 hat8 hm9 hg9
                      go_wp2_with fail
                      refine ⟨⟨KB.mk _ HKP.out, rfl⟩, ?_⟩
                      refine endT (by kernel_rfl) ?_
                      simp only [List.drop_succ_cons, List.drop_zero]
                      go_wp2_with fail
                      go_roundw
                      case rel => exact ⟨j + 1, _, by omega, by go_num, Lib.hid (by have := HMS9.out; rw [← HTJ.out, HLE.out] at this; exact this)⟩
                      case measure => simp [intOf]; omega
                  · as_aux_lemma =>
                      rw [hs] at lk2 hfs
                      have hle : tosOf (ms.take (j + 1)) = tosOf (ms.take j) := by rw [hto, if_pos (hfs.1 rfl)]
                      have HLE := Lib.hid hle.symm
                      clear hto hfs hs hle
                      obtain ⟨w2, hw2⟩ : ∃ w2, w2 = wr.alloc (.cells #[.int .i64 x, .int .i64 y, .int .i64 z] 32) := ⟨_, rfl⟩
                      go_wp2_with fail
                      rw [← hw2, ← hgm]
                      rw [← hw2] at HM1 HBM
                      clear hgm hw2 lk2
                      obtain ⟨wt, hwt⟩ : ∃ wt, wt = w2.drew := ⟨_, rfl⟩
                      have hdr : Below w2.heap.size w2 w2.drew := ⟨rfl, rfl, rfl, Nat.le_refl _, fun _ _ => rfl⟩
                      have hMt : Ms W1 wt bm bm j f u7 (tosOf (ms.take j)) (ms.take j) := by rw [hwt]; exact HM1.out.ext hdr
                      have hBt : Blk wt gm 32 [.int .i64 x, .int .i64 y, .int .i64 z] := by rw [hwt]; exact HBM.out.drew
                      have hGt : bm ≤ wt.heap.size := hMt.le
                      have hfu : OwG wt bm (.slice Au lu cu) (toSet (ms.take j) z) := by rw [HU.out]; exact hMt.fr z
                      have hug := blk_own_ne hBt hfu (by decide)
                      have hub := hMt.m.cells hfu
                      have k0 : ∀ X : KB (fun k => (Value.slice Au lu cu).ownBlock = some k) wt, X.val.cell? ⟨gm, 0, none⟩ = some (.int .i64 x) := fun X => (X.kp.cell (p := ⟨gm, 0, none⟩) hBt.lt hug).trans (hBt.cell (i := 0) rfl)
                      have k1 : ∀ X : KB (fun k => (Value.slice Au lu cu).ownBlock = some k) wt, X.val.cell? ⟨gm, 1, none⟩ = some (.int .i64 y) := fun X => (X.kp.cell (p := ⟨gm, 1, none⟩) hBt.lt hug).trans (hBt.cell (i := 1) rfl)
                      have k2 : ∀ X : KB (fun k => (Value.slice Au lu cu).ownBlock = some k) wt, X.val.cell? ⟨gm, 2, none⟩ = some (.int .i64 z) := fun X => (X.kp.cell (p := ⟨gm, 2, none⟩) hBt.lt hug).trans (hBt.cell (i := 2) rfl)
                      have lk : ∀ X : KB (fun k => (Value.slice Au lu cu).ownBlock = some k) wt, (Instr.lookup 55 (.map (some bm)) (.int .i64 z) false).run Tryz.prog X.val = .ok (.slice Au lu cu) X.val := fun X => by have h := (hMt.m.kb X hub).look1 HZ.out; rw [← HU.out] at h; exact h
                      have HMT := Lib.hid hMt
                      have hln2 := by have h1 := toSet_len (ms := ms.take j) (t := z); rw [List.length_take] at h1; omega
                      have HFU := Lib.hid hfu; have HUB := Lib.hid hub
                      clear hdr hMt hBt hfu hug hub
                      refine wp_region_T (fun w' => ∃ X : KB (fun k => (Value.slice Au lu cu).ownBlock = some k) wt, w' = X.val) 1 14 (by kernel_rfl) 14 (by rfl) ?_
                      rw [← hwt]
                      clear hwt
                      refine takeT 2 0 12 (by kernel_rfl) (by kernel_rfl) (fun _ _ d _ _ h => by cases d <;> exact h) ⟨⟨_, Kp.refl _ _⟩, rfl⟩ ?_
                      simp only [List.take_succ_cons, List.take_zero, List.drop_succ_cons, List.drop_zero]
                      repeat (first | go_big_quiet_skip | (go_big_quiet_want; go_big_quiet_op; go_big_quiet_on))
                      refine wpQuiet_nil ?_
                      clear k0 k1 k2 lk
                      refine oneT 1 12 (by kernel_rfl) (by decide) ?_
                      simp only [List.take_succ_cons, List.take_zero, List.drop_succ_cons, List.drop_zero]
                      go_wp2_with fail
                      refine ⟨⟨KB.mk _ ((Kp.refl _ _).alloc _), rfl⟩, ?_⟩
                      refine oneT 0 13 (by kernel_rfl) (by decide) ?_
                      simp only [List.take_succ_cons, List.take_zero, List.drop_succ_cons, List.drop_zero]
                      refine wpList_app elRg rfl (.tmp 49) (.tmp 55) rfl bm (.slice Au lu cu) lu 1 _ [.int .i64 x, .int .i64 y] rfl (by have h := HFU.out; unfold OwG at h; rw [← HLU.out] at h; exact h) rfl rfl (by simp [Value.oneCell']) (by omega) (by omega) hGt ?_
                      intro v8 w8 hown8 hg8 hat8
                      obtain ⟨w9, hrun9, hm9, hg9⟩ := (HMT.out.m.kept hg8 (fun e => HUB.out e.symm)).put (x := z) HZ.out (vElem_own hown8).choose_spec (by omega)
                      have HMS9 := Lib.hid (Ms.add (mv := (x, y, z)) HMT.out (by rw [← HU.out]; exact hg8) (OwG.snoc hown8 HLU.out) (by rw [← HU.out]; exact hat8) hm9 hg9)
                      have HKP : Hid (Kp (fun k => (Value.slice Au lu cu).ownBlock = some k) wt w8) := Lib.hid ((Kp.refl _ wt).grown hg8 (fun k e => .inr e))
                      clear hown8 hg8 hat8 hm9 hg9
                      go_wp2_with fail
                      refine ⟨⟨KB.mk _ HKP.out, rfl⟩, ?_⟩
                      refine endT (by kernel_rfl) ?_
                      simp only [List.drop_succ_cons, List.drop_zero]
                      go_wp2_with fail
                      go_roundw
                      case rel => exact ⟨j + 1, _, by omega, by go_num, Lib.hid (by have := HMS9.out; rw [← HTJ.out, HLE.out] at this; exact this)⟩
                      case measure => simp [intOf]; omega
              · as_aux_lemma =>
                  have d1 : decide ((j : Int) < (m : Int)) = false := decide_eq_false (by omega)
                  obtain rfl : m = j := by omega
                  rw [List.take_of_length_le (l := ms) (by rw [← HSM.out]; omega)] at HMw
                  obtain ⟨Ak, ck, rfl, hk2, hk3, hkr⟩ := own_form HMw.out.k
                  obtain ⟨kl, hkl⟩ : ∃ kl, kl = (tosOf ms).length := ⟨_, rfl⟩
                  have hkl60 : kl ≤ m := by have := tosOf_len ms; rw [hkl, HSM.out]; exact this
                  have hMg := Mg.start HMw.out HBM0.out (HV.out.ext (HB1.out)) hbW0 (distinct_nodup _)
                  have hBG := HB.out.trans ((HB1.out.mono hzr).trans (HMw.out.b.mono hbW0))
                  rw [← hkl] at hMg hk2 ⊢
                  have HMG := Lib.hid hMg; have HBG := Lib.hid hBG; have HKL := Lib.hid hkl
                  unfold maxLen at hk3
                  have hlr : (setsP (l.take k)).length ≤ 60 := by have := HLN.out; omega
                  clear hMg hBG hkl hkr HMw d1 HV HB
                  go_wp2_with fail
                  obtain ⟨w2, rfl⟩ : ∃ w2 : World, w2 = wr := ⟨_, rfl⟩
                  go_loopw [3, 60] (fun v i wr => ∃ (j : Nat) (vs : List Value), j ≤ kl ∧ i = .int .i64 (j : Int) ∧ Hid (Mg wr W0.heap.size bm bm m f (.slice Ak kl ck) (tosOf ms) ms (setsP (l.take k)) j v vs) ∧ Hid (Below W0.heap.size W0 wr)) (fun _ i _ => kl - (intOf i).toNat)
                  case atStart => exact ⟨0, _, Nat.zero_le _, rfl, HMG, HBG⟩
                  case round =>
                    as_aux_lemma =>
                      clear HMG HBG
                      obtain ⟨j, vs, hj, rfl, HG, HB⟩ := hrel
                      by_cases hjk : j < kl
                      · as_aux_lemma =>
                          have d1 : decide ((j : Int) < (kl : Int)) = true := decide_eq_true (by omega)
                          have hjl : j < (tosOf ms).length := by rw [← HKL.out]; exact hjk
                          obtain ⟨bk, ok, rfl, hbk, hck⟩ := (show RdI wr wr.heap.size Ak (tosOf ms) from by
                            obtain ⟨A2, c2, e, _, _, h⟩ := own_form HG.out.k
                            simp only [Value.slice.injEq] at e
                            rw [e.1]; exact h).at_ (by omega)
                          have y1 := hck j hjl
                          have htm : nth (tosOf ms) j ∈ tosOf ms := by rw [nth_get hjl]; exact List.getElem_mem _
                          have hwt : wfI (nth (tosOf ms) j) := by
                            obtain ⟨mv, h1, h2⟩ := mem_tosOf.1 htm
                            rw [← h2]; exact HWS.out _ h1
                          have lk := HG.out.m.look1 hwt
                          obtain ⟨Au, cu, hue, hu2, hu3, -⟩ := (HG.out.fr (nth (tosOf ms) j)).form
                          obtain ⟨lu, hlu⟩ : ∃ lu, lu = (toSet ms (nth (tosOf ms) j)).length := ⟨_, rfl⟩
                          rw [← hlu] at hue hu2
                          have hlu60 : lu ≤ m := by rw [hlu, HSM.out]; exact toSet_len
                          rw [hue] at lk
                          have HUE := Lib.hid hue
                          unfold maxLen at hu3
                          obtain ⟨tt, htt⟩ : ∃ tt, tt = nth (tosOf ms) j := ⟨_, rfl⟩
                          rw [← htt] at y1 lk
                          have hCl := HG.out.c.row
                          rw [show (setsP (l.take k) ++ ((tosOf ms).take j).map (toSet ms)).length = (setsP (l.take k)).length + j by rw [List.length_append, List.length_map, List.length_take, ← HKL.out]; omega] at hCl
                          have HCL := Lib.hid hCl
                          have hgw : W0.heap.size ≤ wr.heap.size := HB.out.size
                          clear hck htm hwt hue hlu htt hCl
                          go_wp2_with (at_builtin; go_must (refine wpList_app elRow rfl (.tmp 64) (.tmp 68) rfl W0.heap.size _ ((setsP (l.take k)).length + j) 1 vs [.slice Au lu cu] rfl HCL.out rfl rfl (by simp [Value.oneCell']) (by omega) (by omega) hgw ?_); intro v5 w5 hown5 hg5 hat5; have HG5 := Lib.hid (HG.out.next hjl hg5 (by rw [HUE.out]; exact hown5) hat5); have HB5 := Lib.hid (HB.out.grown hg5 hgw (fun k e => own_base HCL.out k e)); clear hown5 hg5 hat5)
                          go_roundw
                          case rel => exact ⟨j + 1, _, by omega, by go_num, HG5, HB5⟩
                          case measure => simp [intOf]; omega
                      · as_aux_lemma =>
                          have d1 : decide ((j : Int) < (kl : Int)) = false := decide_eq_false (by omega)
                          have hc := HG.out.c
                          rw [List.take_of_length_le (l := tosOf ms) (by rw [← HKL.out]; omega), ← HST.out] at hc
                          have HV2 := Lib.hid hc
                          clear hc
                          go_wp2_with fail
                          go_roundw
                          case rel => exact ⟨k + 1, vs, by omega, by go_num, HV2, HB⟩
                          case measure => simp [intOf]; omega
      · as_aux_lemma =>
          have d1 : decide ((k : Int) < (n : Int)) = false := decide_eq_false (by omega)
          have e3 : l.take k = l := List.take_of_length_le (by rw [Hl.out]; omega)
          rw [e3] at HV
          have HV2 := Lib.hid (HV.out.base (Nat.le_of_lt hW))
          have HB2 := Lib.hid (HB0.out.trans (HB.out.mono (Nat.le_of_lt hW)))
          clear e3
          go_wp2_with fail
          go_ret
          exact ⟨_, _, rfl, HV2.out, HB2.out⟩
end Go.Proofs.YthikgdogfkjioaaGreatDoor
namespace Go.Proofs.YthikgdogfkjioaaGreatDoor
open Go.RowKit BigFrame Go.Maps
set_option linter.unusedVariables false
set_option linter.unusedSimpArgs false
set_option maxRecDepth 100000

/-- Where a state stands in the order. -/
def idxI (O : List Nat) (x : Int) : Option Nat := if 0 ≤ x ∧ x.toNat ∈ O then some (O.idxOf x.toNat) else none
theorem idxI_nat {O : List Nat} {t : Nat} : idxI O (t : Int) = if t ∈ O then some (O.idxOf t) else none := by
  unfold idxI; simp
theorem idxI_new {O : List Nat} {t : Nat} (h : t ∉ O) {x : Int} : idxI (O ++ [t]) x = if x = (t : Int) then some O.length else idxI O x := by
  unfold idxI
  by_cases e : x = (t : Int)
  · subst e
    rw [if_pos rfl, if_pos ⟨by omega, by simp⟩]
    rw [Int.toNat_natCast, idx_snoc_new h]
  · rw [if_neg e]
    by_cases h0 : 0 ≤ x
    · have ht : x.toNat ≠ t := fun q => e (by omega)
      by_cases hm : x.toNat ∈ O
      · rw [if_pos ⟨h0, by simp [hm]⟩, if_pos ⟨h0, hm⟩, idx_snoc_old hm]
      · rw [if_neg (fun q => hm (by simpa [ht] using q.2)), if_neg (fun q => hm q.2)]
    · rw [if_neg (fun q => h0 q.1), if_neg (fun q => h0 q.1)]
def nv (O : List Nat) : List Value := O.map intV
theorem nv_len (O : List Nat) : (nv O).length = O.length := by simp [nv]
theorem nv_iv (O : List Nat) : nv O = iv (O.map Int.ofNat) := by unfold nv iv; rw [List.map_map]; rfl
/-- The order and the map, in memory behind the world w. -/
structure Rc (w W : World) (base bm n : Nat) (vo : Value) (O : List Nat) : Prop where
  b : Below base w W
  o : W.ownsRow base 3 1 vo O.length (nv O)
  m : IMap W bm n (idxI O)
  mb : base ≤ bm
  le : base ≤ W.heap.size
section
variable {w W W' W2 : World} {base bm n : Nat} {vo vo' : Value} {O : List Nat}
theorem IMap.cells {w : World} {b n : Nat} {f : Int → Option Nat} (h : IMap w b n f) {base : Nat} {e : TypeId} {sz k : Nat} {v : Value} {xs : List Value} (ho : w.ownsRow base e sz v k xs) : v.ownBlock ≠ some b := fun q => by
  obtain ⟨vs, hb⟩ := own_ty ho q
  obtain ⟨D, hD, _⟩ := h
  obtain ⟨es, clock, hm, _⟩ := hD
  unfold Blk at hb
  rw [hm] at hb
  cases hb
theorem IMap.of_block {w w' : World} {b n : Nat} {f : Int → Option Nat} (h : IMap w b n f) (e : w'.heap[b]? = w.heap[b]?) : IMap w' b n f := by
  obtain ⟨D, hD, q⟩ := h
  obtain ⟨es, clock, hb, rest⟩ := hD
  exact ⟨D, ⟨es, clock, e.trans hb, rest⟩, q⟩
theorem IMap.blk {w : World} {b n g : Nat} {e : TypeId} {vs : List Value} {f : Int → Option Nat} (h : IMap w b n f) (hb : Blk w g e vs) : g ≠ b := by
  rintro rfl
  obtain ⟨D, hD, _⟩ := h
  obtain ⟨es, clock, hm, _⟩ := hD
  unfold Blk at hb
  rw [hm] at hb
  cases hb
theorem Rc.ext (h : Rc w W base bm n vo O) (hb : Below W.heap.size W W') : Rc w W' base bm n vo O :=
  ⟨h.b.trans (hb.mono h.le), own_ext h.o hb, h.m.ext hb, h.mb, Nat.le_trans h.le hb.size⟩
/-- The map has one more, the row not yet. -/
theorem Rc.push (h : Rc w W base bm n vo O) {t : Nat} (ht : t ∉ O) (hm : IMap W' bm (n + 1) (fun y => if y = (t : Int) then some O.length else idxI O y)) (hg : W.grownBy W' (some bm)) :
    W'.ownsRow base 3 1 vo O.length (nv O) ∧ base ≤ W'.heap.size ∧ ∀ W2 vo', W'.grownBy W2 vo.ownBlock → W2.ownsRow base 3 1 vo' (O.length + 1) (nv O ++ [.int .i64 (t : Int)]) → Rc w W2 base bm (n + 1) vo' (O ++ [t]) := by
  have ho : W'.ownsRow base 3 1 vo O.length (nv O) := h.o.kept hg (.inr (fun e => h.m.cells h.o e))
  have hle := Nat.le_trans h.le hg.size
  refine ⟨ho, hle, fun W2 vo' hg2 hr => ⟨(h.b.grown hg h.le (fun q e => by cases e; exact h.mb)).grown hg2 hle (fun q e => (ho.lt q e).1), ?_, ?_, h.mb, Nat.le_trans hle hg2.size⟩⟩
  · rw [List.length_append, show nv (O ++ [t]) = nv O ++ [.int .i64 (t : Int)] by unfold nv; rw [List.map_append]; rfl]
    exact hr
  · exact (hm.kept hg2 (fun e => hm.cells ho e.symm)).congr (fun x _ => idxI_new ht)
/-- The order's cells. -/
theorem Rc.at_ (h : Rc w W base bm n vo O) : ∃ A c, vo = .slice A O.length c ∧ O.length ≤ c ∧ c ≤ maxLen ∧ (0 < O.length → ∃ b, A = some ⟨b, 0, none⟩ ∧ base ≤ b ∧ b < W.heap.size ∧ b ≠ bm ∧ ∀ k, k < O.length → W.cell? ⟨b, k, none⟩ = some (.int .i64 ((oAt O k : Nat) : Int))) := by
  rcases h.o.2 with ⟨rfl, h0⟩ | ⟨g, cap, cur, rfl, hb, hg, hn, hc, hs, ht⟩
  · exact ⟨none, 0, by rw [h0], by omega, Nat.zero_le _, fun q => by omega⟩
  · have hbm : g ≠ bm := fun e => h.m.cells h.o (by rw [← e]; rfl)
    refine ⟨some ⟨g, 0, none⟩, cap, rfl, hn, hc, fun _ => ⟨g, rfl, hb, (Array.getElem?_eq_some_iff.1 hg).1, hbm, fun k hk => ?_⟩⟩
    have := h.o.cells (g := g) rfl k (intV O[k]) (by unfold nv; rw [List.getElem?_map, List.getElem?_eq_getElem hk]; rfl)
    have hadd : (⟨g, 0, none⟩ : Addr).add k = ⟨g, 0 + k, none⟩ := by unfold Addr.add; split <;> simp_all
    rw [hadd, Nat.zero_add] at this
    rw [this, oAt_get hk]; rfl
end
end Go.Proofs.YthikgdogfkjioaaGreatDoor
