/- The document's SameAuto at two that read alike. · The law AutoLeast walked: it returns true. -/
import Derived.Test.YthikgdogfkjioaaGreatDoorQ20
import Derived.Test.YthikgdogfkjioaaGreatDoorQ2
import Derived.Test.YthikgdogfkjioaaGreatDoorQ50
import Derived.Test.YthikgdogfkjioaaGreatDoorQ24
namespace Go.Proofs.YthikgdogfkjioaaGreatDoor
open Go.RowKit BigFrame
set_option linter.unusedVariables false
set_option linter.unusedSimpArgs false
set_option maxRecDepth 100000

set_option maxHeartbeats 4000000 in
theorem sameAuto_any (A A' : Option Addr) (n c c' : Nat) (l : List St) (w : World) (B : Nat) (hB : B ≤ w.heap.size) (h : RdA w B A l) (h' : RdA w B A' l) (hl : l.length = n) (hn : n ≤ 1000) (hm : ∀ s ∈ l, s.2.length ≤ 1200000) :
    Calls Tryz.prog 8 #[.agg #[.slice A n c], .agg #[.slice A' n c']] w fun e w' => e = .returned (.bool true) ∧ Below w.heap.size w w' := by
  obtain ⟨w0, hw0⟩ : ∃ w0, w0 = (w.alloc (.cells #[.slice A n c] 24)).alloc (.cells #[.slice A' n c'] 24) := ⟨_, rfl⟩
  have hb0 : Below w.heap.size w w0 := by rw [hw0]; exact ((Below.refl _ _).alloc (Nat.le_refl _) _).alloc (by simp) _
  have hk0 : Blk w0 w.heap.size 24 [.slice A n c] := by rw [hw0]; exact (Blk.new w 24 [.slice A n c]).alloc _
  have hk1 : Blk w0 (w.heap.size + 1) 24 [.slice A' n c'] := by
    have := Blk.new (w.alloc (.cells #[.slice A n c] 24)) 24 [.slice A' n c']
    rw [show (w.alloc (.cells #[.slice A n c] 24)).heap.size = w.heap.size + 1 by simp] at this
    rw [hw0]; exact this
  have z0 := hk0.cell (i := 0) rfl
  have z1 := hk1.cell (i := 0) rfl
  have HB0 := Lib.hid hb0; have HK0 := Lib.hid hk0; have HK1 := Lib.hid hk1
  have H := Lib.hid h; have H' := Lib.hid h'; have HL := Lib.hid hl; have HM := Lib.hid hm
  have hz0 : w.heap.size + 2 ≤ w0.heap.size := by rw [hw0]; simp
  have HZ0 := Lib.hid hz0
  clear h h' hl hm hb0 hk0 hk1 hz0
  go_enter Tryz.func8, Tryz.ntmps8
  go_wp2_with fail
  rw [← hw0]
  clear hw0
  go_wp2_with fail
  go_loopw [5] (fun i wr => ∃ k : Nat, k ≤ n ∧ i = .int .i64 (k : Int) ∧ Hid (Below w0.heap.size w0 wr)) (fun i _ => n - (intOf i).toNat)
  case atStart => exact ⟨0, Nat.zero_le _, rfl, Below.refl _ _⟩
  case round =>
    clear z0 z1
    obtain ⟨k, hk, rfl, HBr⟩ := hrel
    have hzr := HBr.out.size
    have z0 := (HK0.out.below' HBr.out).cell (i := 0) rfl
    have z1 := (HK1.out.below' HBr.out).cell (i := 0) rfl
    by_cases hlt : k < n
    · as_aux_lemma =>
        have d1 : decide ((k : Int) < (n : Int)) = true := decide_eq_true (by omega)
        have hww : Below w.heap.size w wr := HB0.out.trans (HBr.out.mono (by have := HZ0.out; omega))
        obtain ⟨b, o, rfl, hbb, hc⟩ := (H.out.below (hww.mono hB)) (by rw [HL.out]; omega)
        obtain ⟨b', o', rfl, hbb', hc'⟩ := (H'.out.below (hww.mono hB)) (by rw [HL.out]; omega)
        have hs : l[k]? = some (l[k]'(by rw [HL.out]; exact hlt)) := List.getElem?_eq_getElem _
        obtain ⟨s, hse⟩ : ∃ s, s = l[k]'(by rw [HL.out]; exact hlt) := ⟨_, rfl⟩
        rw [← hse] at hs
        have hsm := HM.out s (List.mem_of_getElem? hs)
        obtain ⟨y0, As, cs, y1, g1, g2, hms⟩ := hc k s hs
        obtain ⟨y0', As', cs', y1', g1', g2', hms'⟩ := hc' k s hs
        have d2 : (s.1 != s.1) = false := by simp
        have d3 : ((s.2.length : Int) != (s.2.length : Int)) = false := by simp
        have HMS := Lib.hid hms; have HMS' := Lib.hid hms'
        have q1 : w.heap.size + 1 < wr.heap.size := by have := HZ0.out; omega
        have q2 : b' < wr.heap.size := Nat.lt_of_lt_of_le hbb' (Nat.le_trans hB hww.size)
        have q3 : b < wr.heap.size := Nat.lt_of_lt_of_le hbb (Nat.le_trans hB hww.size)
        have q0 : w.heap.size < wr.heap.size := by omega
        have HWW := Lib.hid hww
        clear hc hc' hms hms' hse hs hww
        unfold maxLen at g2 g2'
        go_wp2_with fail
        obtain ⟨wm, hwm⟩ : ∃ wm, wm = (wr.alloc (.cells #[.int .i64 s.1, .slice As s.2.length cs] 30)).alloc (.cells #[.int .i64 s.1, .slice As' s.2.length cs'] 30) := ⟨_, rfl⟩
        rw [← hwm]
        have hsm1 : wm.heap.size = wr.heap.size + 2 := by rw [hwm]; simp
        have hbm : Below wr.heap.size wr wm := by rw [hwm]; exact ((Below.refl _ _).alloc (Nat.le_refl _) _).alloc (by simp) _
        have hkx : Blk wm wr.heap.size 30 [.int .i64 s.1, .slice As s.2.length cs] := by rw [hwm]; exact (Blk.new wr 30 [.int .i64 s.1, .slice As s.2.length cs]).alloc _
        have hky : Blk wm (wr.heap.size + 1) 30 [.int .i64 s.1, .slice As' s.2.length cs'] := by
          have := Blk.new (wr.alloc (.cells #[.int .i64 s.1, .slice As s.2.length cs] 30)) 30 [.int .i64 s.1, .slice As' s.2.length cs']
          rw [show (wr.alloc (.cells #[.int .i64 s.1, .slice As s.2.length cs] 30)).heap.size = wr.heap.size + 1 by simp] at this
          rw [hwm]; exact this
        have x1 := hkx.cell (i := 1) rfl
        have y1 := hky.cell (i := 1) rfl
        have HMM := Lib.hid (Rd.below HMS.out (hbm.mono (Nat.le_trans hB HWW.out.size)))
        have HMM' := Lib.hid (Rd.below HMS'.out (hbm.mono (Nat.le_trans hB HWW.out.size)))
        have HBX := Lib.hid (HBr.out.trans (hbm.mono hzr))
        obtain ⟨ms, hms⟩ : ∃ ms, ms = s.2 := ⟨_, rfl⟩
        rw [← hms] at HMM HMM' hsm x1 y1 ⊢
        obtain ⟨m, hm⟩ : ∃ m, m = ms.length := ⟨_, rfl⟩
        have HM2 := Lib.hid hm
        rw [← hm] at hsm x1 y1 ⊢
        have z0 := (hbm.cell (p := ⟨w.heap.size, 0, none⟩) q0).trans z0
        have z1 := (hbm.cell (p := ⟨w.heap.size + 1, 0, none⟩) q1).trans z1
        clear hwm hbm hkx hky HMS HMS' g1 g2 g1' g2' d2 d3 hms hm HBr
        obtain ⟨wo, rfl⟩ : ∃ wo : World, wo = wr := ⟨_, rfl⟩
        go_loopw [8] (fun i wi => ∃ j : Nat, j ≤ m ∧ i = .int .i64 (j : Int) ∧ Hid (∃ q, wi = wm.drewN q)) (fun i _ => m - (intOf i).toNat)
        case atStart => exact ⟨0, Nat.zero_le _, rfl, 0, rfl⟩
        case round =>
          as_aux_lemma =>
            obtain ⟨j, hj, rfl, HQ⟩ := hrel
            have hcq : ∀ p, wr.cell? p = wm.cell? p := fun p => by obtain ⟨q, hq⟩ := HQ.out; rw [hq]; rfl
            have x1 := (hcq _).trans x1
            have y1 := (hcq _).trans y1
            by_cases hjm : j < m
            · as_aux_lemma =>
                have dj : decide ((j : Int) < (m : Int)) = true := decide_eq_true (by omega)
                have hjl : j < ms.length := by rw [← HM2.out]; exact hjm
                obtain ⟨b2, o2, rfl, hb2, hc2⟩ := RdV.at_ HMM.out (by omega)
                obtain ⟨b3, o3, rfl, hb3, hc3⟩ := RdV.at_ HMM'.out (by omega)
                obtain ⟨u1, u2, u3⟩ := hc2 j _ (List.getElem?_eq_getElem hjl)
                obtain ⟨v1, v2, v3⟩ := hc3 j _ (List.getElem?_eq_getElem hjl)
                have u1 := (hcq _).trans u1; have u2 := (hcq _).trans u2; have u3 := (hcq _).trans u3
                have v1 := (hcq _).trans v1; have v2 := (hcq _).trans v2; have v3 := (hcq _).trans v3
                generalize ms[j] = mv at *
                obtain ⟨a1, a2, a3⟩ := mv
                simp only at u1 u2 u3 v1 v2 v3
                have HQ2 : Hid (∀ d, ∃ q, wr.drewN d = wm.drewN q) := Lib.hid (fun d => by obtain ⟨q, hq⟩ := HQ.out; exact ⟨q + d, by rw [hq, World.drewN_drewN]⟩)
                clear hcq hc2 hc3 HQ
                go_wp2_with fail
                go_quiet (fail)
                go_wp2_with fail
                go_roundw
                case rel => exact ⟨j + 1, by omega, by go_num, HQ2.out nq⟩
                case measure => simp [intOf]; omega
            · as_aux_lemma =>
                have dj : decide ((j : Int) < (m : Int)) = false := decide_eq_false (by omega)
                have HB2 := Lib.hid (show Below w0.heap.size w0 wr by obtain ⟨q, hq⟩ := HQ.out; rw [hq]; exact below_drewN HBX.out q)
                clear HQ hcq
                go_wp2_with fail
                go_roundw
                case rel => exact ⟨k + 1, by omega, by go_num, HB2.out⟩
                case measure => simp [intOf]; omega
    · as_aux_lemma =>
        have d1 : decide ((k : Int) < (n : Int)) = false := decide_eq_false (by omega)
        have HBW : Hid (Below w.heap.size w wr) := Lib.hid (HB0.out.trans (HBr.out.mono (by have := HZ0.out; omega)))
        go_wp2_with fail
        go_ret
        exact ⟨rfl, HBW.out⟩
end Go.Proofs.YthikgdogfkjioaaGreatDoor
namespace Go.Proofs.YthikgdogfkjioaaGreatDoor
open Go.RowKit BigFrame
set_option linter.unusedVariables false
set_option linter.unusedSimpArgs false
set_option maxRecDepth 100000

theorem opens_Move : Opens Tryz.prog 32 shMove :=
  opens_struct Tryz.underlying32 (by kernel_rfl) (opF_cons rfl (opens_int Tryz.underlying3 (by kernel_rfl)) (opF_cons rfl (opens_int Tryz.underlying3 (by kernel_rfl)) (opF_one rfl (opens_int Tryz.underlying3 (by kernel_rfl)))))
def shStateW : Sh St := shP shInt (shZ (shL shMove) fun l => l.length * 24 ≤ reachBytes)
theorem opensW_Moves : OpensW Tryz.prog 28 (shZ (shL shMove) fun l => l.length * 24 ≤ reachBytes) := opensW_slice Tryz.underlying28 (by kernel_rfl) (by decide) (by kernel_rfl) (Opens.w opens_Move)
theorem opensW_State : OpensW Tryz.prog 30 shStateW :=
  opensW_struct Tryz.underlying30 (by kernel_rfl) (opFW_cons rfl (Opens.w (opens_int Tryz.underlying3 (by kernel_rfl))) (opFW_one rfl opensW_Moves))
theorem opensW_States : OpensW Tryz.prog 22 (shZ (shL shStateW) fun l => l.length * 32 ≤ reachBytes) := opensW_slice Tryz.underlying22 (by kernel_rfl) (by decide) (by kernel_rfl) opensW_State
theorem opensW_Auto : OpensW Tryz.prog 24 (shZ (shL shStateW) fun l => l.length * 32 ≤ reachBytes) :=
  opensW_struct Tryz.underlying24 (by kernel_rfl) (opFW_one rfl opensW_States)

/-- An automaton that came in. -/
def IsAuto (W : World) (v : Value) : Prop := ∃ A c l, v = .agg #[.slice A (List.length l) c] ∧ l.length ≤ c ∧ c ≤ maxLen ∧ (shL shState).rd W (Lo W.heap.size) l [.slice A l.length c] ∧ l.length * 32 ≤ reachBytes ∧ ∀ s ∈ l, s.2.length * 24 ≤ reachBytes ∧ wfI s.1
theorem open_IsAuto {H : Type} {enc : TypeId × Value → H} {W : World} {base : Nat} {r : Reach} {b0 : Nat} {v : Value} {d : DataW H} {p : List MemPlace} {held : Bool}
    (hv : Value.okWide Tryz.prog W r b0 24 v) (h : DataW.Trod enc Tryz.prog W base (fun _ => true) held 24 v d p) (hw : ∀ n ∈ d.weights Tryz.prog 24, n ≤ reachBytes) : IsAuto W v := by
  obtain ⟨cs, rfl, hsz⟩ := Go.WideShapes.okWide_struct Tryz.underlying24 hv
  obtain ⟨l, ⟨A, c, css, e, h1, h2, h3, h4, h5⟩, hz⟩ := isIn_ofW opensW_Auto h hw
  have e' : cs = #[.slice A l.length c] := by
    apply Array.ext'
    simpa [Value.cells] using e
  subst e'
  refine ⟨A, c, l, rfl, h1, h2, ⟨A, c, css, rfl, h1, h2, h3, fun i a d ha hd => ?_, h5⟩, hz, fun s hs => ?_⟩
  · obtain ⟨c1, d1, e1, x, y, z⟩ := h4 i a d ha hd
    exact ⟨c1, d1, e1, x, y⟩
  · obtain ⟨i, hi, rfl⟩ := List.getElem_of_mem hs
    have hic : i < css.length := by rw [h3]; exact hi
    obtain ⟨c1, d1, e1, x, y, z⟩ := h4 i _ _ (List.getElem?_eq_getElem hi) (List.getElem?_eq_getElem hic)
    exact ⟨z, x.2⟩

set_option maxHeartbeats 4000000 in
theorem pLeast_nil (A : Option Addr) (n c : Nat) (l : List St) (w : World) (h : (shL shState).rd w (Lo w.heap.size) l [.slice A n c]) (hl : l.length = n) (hn : n ≤ 140737488355328) (hno : okA l = false ∨ n = 0) :
    Calls Tryz.prog 6 #[.agg #[.slice A n c]] w fun e w' => e = .returned (.agg #[.slice none 0 0]) ∧ Below w.heap.size w w' := by
  obtain ⟨g, hg⟩ : ∃ g, w.heap.size = g := ⟨_, rfl⟩
  obtain ⟨W1, hW1⟩ : ∃ W1, W1 = (w.alloc (.cells #[.slice A n c] 24)).alloc (.cells #[.slice none 0 0] 24) := ⟨_, rfl⟩
  have hs1 : W1.heap.size = g + 1 + 1 := by rw [hW1, ← hg]; simp
  have hb1 : Below g w W1 := by rw [hW1, ← hg]; exact ((Below.refl _ _).alloc (Nat.le_refl _) _).alloc (by simp) _
  have hk1 : Blk W1 g 24 [.slice A n c] := by rw [hW1, ← hg]; exact (Blk.new w _ _).alloc _
  have hr1 : Blk W1 (g + 1) 24 [.slice none 0 0] := by
    have := Blk.new (w.alloc (.cells #[.slice A n c] 24)) 24 [.slice none 0 0]
    rw [show (w.alloc (.cells #[.slice A n c] 24)).heap.size = g + 1 by rw [← hg]; simp] at this
    rw [hW1]; exact this
  have HB1 := Lib.hid hb1; have HK1 := Lib.hid hk1; have HS1 := Lib.hid hs1; have HG := Lib.hid hg; have HR1 := Lib.hid hr1
  have HA := Lib.hid (autoOk_any A n c l W1 (Sh.up (Sh.below h (by rw [hg]; exact hb1)) (by omega)) hl hn)
  have z0 := hk1.cell (i := 0) rfl
  have HNO := Lib.hid hno
  clear h hl hb1 hk1 hs1 hr1 hno
  go_enter Tryz.func6, Tryz.ntmps6
  go_wp2_with fail
  rw [← hW1]
  clear hW1 hg
  go_wp2_with fail
  refine HA.out.mono ?_
  clear HA
  rintro e w2 ⟨rfl, hb2⟩
  have hs1 := HS1.out
  have HB2 : Hid (Below (g + 1 + 1) W1 w2) := Lib.hid (by rw [hs1] at hb2; exact hb2)
  have z0 := (HK1.out.below HB2.out (by omega)).cell (i := 0) rfl
  have hr2 := HR1.out.below HB2.out (by omega)
  have r0 := hr2.cell (i := 0) rfl
  have r1 := hr2.frozen 0
  have HR2 := Lib.hid (hr2.set_ 0 (.slice none 0 0))
  have HB9 := Lib.hid ((HB1.out.trans (HB2.out.mono (by omega))).setCell (p := ⟨g + 1, 0, none⟩) (show g ≤ g + 1 by omega) (.slice none 0 0))
  clear hb2 hr2
  cases hok : okA l with
  | false =>
    as_aux_lemma =>
      clear hok
      go_wp2_with fail
      refine bodyPost_ret (results_cell_row rfl _ _ (g + 1) _ #[.slice none 0 0] _ _ rfl HR2.out Tryz.underlying24 rfl (by kernel_rfl)) rfl ?_
      have hgw := HG.out
      exact ⟨rfl, by rw [hgw]; exact HB9.out⟩
  | true =>
    as_aux_lemma =>
      have hn0 : n = 0 := by
        rcases HNO.out with q | q
        · rw [hok] at q; cases q
        · exact q
      subst hn0
      clear hok
      go_wp2_with fail
      refine bodyPost_ret (results_cell_row rfl _ _ (g + 1) _ #[.slice none 0 0] _ _ rfl HR2.out Tryz.underlying24 rfl (by kernel_rfl)) rfl ?_
      have hgw := HG.out
      exact ⟨rfl, by rw [hgw]; exact HB9.out⟩
set_option maxHeartbeats 4000000 in
theorem rLeast_nil (A : Option Addr) (c : Nat) (w : World) :
    Calls Tryz.prog 7 #[.agg #[.slice A 0 c]] w fun e w' => e = .returned (.agg #[.slice none 0 0]) ∧ Below w.heap.size w w' := by
  obtain ⟨g, hg⟩ : ∃ g, w.heap.size = g := ⟨_, rfl⟩
  obtain ⟨W1, hW1⟩ : ∃ W1, W1 = (w.alloc (.cells #[.slice A 0 c] 24)).alloc (.cells #[.slice none 0 0] 24) := ⟨_, rfl⟩
  have hb1 : Below g w W1 := by rw [hW1, ← hg]; exact ((Below.refl _ _).alloc (Nat.le_refl _) _).alloc (by simp) _
  have hk1 : Blk W1 g 24 [.slice A 0 c] := by rw [hW1, ← hg]; exact (Blk.new w _ _).alloc _
  have hr1 : Blk W1 (g + 1) 24 [.slice none 0 0] := by
    have := Blk.new (w.alloc (.cells #[.slice A 0 c] 24)) 24 [.slice none 0 0]
    rw [show (w.alloc (.cells #[.slice A 0 c] 24)).heap.size = g + 1 by rw [← hg]; simp] at this
    rw [hW1]; exact this
  have z0 := hk1.cell (i := 0) rfl
  have r0 := hr1.cell (i := 0) rfl
  have r1 := hr1.frozen 0
  have HR2 := Lib.hid hr1
  have HB9 := Lib.hid hb1
  have HG := Lib.hid hg
  clear hb1 hk1 hr1
  go_enter Tryz.func7, Tryz.ntmps7
  go_wp2_with fail
  rw [← hW1]
  clear hW1 hg
  go_wp2_with fail
  refine bodyPost_ret (results_cell_row rfl _ _ (g + 1) _ #[.slice none 0 0] _ _ rfl HR2.out Tryz.underlying24 rfl (by kernel_rfl)) rfl ?_
  have hgw := HG.out
  exact ⟨rfl, by rw [hgw]; exact HB9.out⟩
theorem noFact {X : Prop} (h : X) : True := trivial

set_option maxHeartbeats 4000000 in
theorem walk_AutoLeast (w : World) (f : True) (v : Value) (hv : IsAuto w v) :
    Calls Tryz.prog 3 #[v] w fun e w' => e = .returned (.bool true) ∧ Below w.heap.size w w' := by
  obtain ⟨A, c, l, rfl, hlc, hc, h, hz, hms⟩ := hv
  obtain ⟨n, hn⟩ : ∃ n, n = l.length := ⟨_, rfl⟩
  rw [← hn] at hlc h hz
  rw [← hn]
  have HL := Lib.hid hn.symm
  unfold reachBytes at hz hms
  unfold maxLen at hc
  obtain ⟨g, hg⟩ : ∃ g, w.heap.size = g := ⟨_, rfl⟩
  obtain ⟨W0, hW0⟩ : ∃ W0, W0 = w.alloc (.cells #[.slice A n c] 24) := ⟨_, rfl⟩
  have hs0 : W0.heap.size = g + 1 := by rw [hW0, ← hg]; simp
  have hb0 : Below g w W0 := by rw [hW0, ← hg]; exact (Below.refl _ _).alloc (Nat.le_refl _) _
  have hk0 : Blk W0 g 24 [.slice A n c] := by rw [hW0, ← hg]; exact Blk.new w _ _
  have HB0 := Lib.hid hb0; have HK0 := Lib.hid hk0; have HG := Lib.hid hg; have HS0 := Lib.hid hs0
  have HSH : Hid (∀ W, Below (g + 1) W0 W → (shL shState).rd W (Lo g) l [.slice A n c]) := Lib.hid (fun W hb => by rw [hg] at h; exact Sh.below h (hb0.trans (hb.mono (by omega))))
  have HMS : Hid (∀ s ∈ l, s.2.length ≤ 140737488355328) := Lib.hid (fun s hs => by have := (hms s hs).1; omega)
  have HWR : Hid (∀ s ∈ l, wfI s.1) := Lib.hid (fun s hs => (hms s hs).2)
  have HA := Lib.hid (small_any A n c l W0 (Sh.up (HSH.out W0 (Below.refl _ _)) (by omega)) HL.out (by omega) HMS.out)
  have z0 := hk0.cell (i := 0) rfl
  clear h hms hn hs0 hb0 hk0
  go_enter Tryz.func3, Tryz.ntmps3
  go_wp2_with fail
  rw [← hW0]
  clear hW0 hg
  refine HA.out.mono ?_
  clear HA
  rintro e w1 ⟨rfl, hb1⟩
  have hs0 := HS0.out
  have HB1 : Hid (Below (g + 1) W0 w1) := Lib.hid (by rw [hs0] at hb1; exact hb1)
  have hz1 := hb1.size
  have HBW : Hid (∀ W, Below (g + 1) W0 W → Below g w W) := Lib.hid (fun W hb => HB0.out.trans (hb.mono (by omega)))
  clear hb1
  cases hsm : smallA l with
  | false =>
    as_aux_lemma =>
      clear hsm
      go_wp2_with fail
      go_ret
      have hgw := HG.out
      exact ⟨rfl, by rw [hgw]; exact HBW.out _ HB1.out⟩
  | true =>
    as_aux_lemma =>
      unfold smallA at hsm
      simp only [Bool.and_eq_true, decide_eq_true_eq] at hsm
      have hn14 : n ≤ 14 := by rw [← HL.out]; exact hsm.1
      have HM := Lib.hid hsm.2
      have z0 := (HK0.out.below HB1.out (by omega)).cell (i := 0) rfl
      have HA := Lib.hid (r1AutoOk_any A n c l w1 (Sh.up (HSH.out w1 HB1.out) (by omega)) HL.out (by omega))
      clear hsm
      go_wp2_with fail
      refine HA.out.mono ?_
      clear HA
      rintro e w2 ⟨rfl, hb2⟩
      have hz2 := hb2.size
      have HB2 : Hid (Below (g + 1) W0 w2) := Lib.hid (HB1.out.trans (hb2.mono (by omega)))
      have z0 := (HK0.out.below HB2.out (by omega)).cell (i := 0) rfl
      clear hb2
      cases hok : okA l with
      | false =>
        as_aux_lemma =>
          have HA := Lib.hid (pLeast_nil A n c l w2 (Sh.up (HSH.out w2 HB2.out) (by omega)) HL.out (by omega) (.inl hok))
          clear hok
          go_wp2_with fail
          refine HA.out.mono ?_
          clear HA
          rintro e w3 ⟨rfl, hb3⟩
          have hz3 := hb3.size
          have HB3 := Lib.hid (HB2.out.trans (hb3.mono (by omega)))
          have HB4 := Lib.hid (HB3.out.alloc (by omega) (.cells #[.slice none 0 0] 24))
          clear hb3
          go_wp2_with fail
          go_ret
          have hgw := HG.out
          exact ⟨rfl, by rw [hgw]; exact HBW.out _ HB4.out⟩
      | true =>
        have HOK := Lib.hid hok
        clear hok
        by_cases h0 : n = 0
        · as_aux_lemma =>
            have HA := Lib.hid (pLeast_nil A n c l w2 (Sh.up (HSH.out w2 HB2.out) (by omega)) HL.out (by omega) (.inr h0))
            subst h0
            go_wp2_with fail
            refine HA.out.mono ?_
            clear HA
            rintro e w3 ⟨rfl, hb3⟩
            have hz3 := hb3.size
            have HB3 := Lib.hid (HB2.out.trans (hb3.mono (by omega)))
            obtain ⟨w4, hw4⟩ : ∃ w4, w4 = w3.alloc (.cells #[.slice none 0 0] 24) := ⟨_, rfl⟩
            obtain ⟨gb, hgb⟩ : ∃ gb, gb = w3.heap.size := ⟨_, rfl⟩
            have hb4 : Below w3.heap.size w3 w4 := by rw [hw4]; exact (Below.refl _ _).alloc (Nat.le_refl _) _
            have HKB : Hid (Blk w4 gb 24 [.slice none 0 0]) := Lib.hid (by rw [hw4, hgb]; exact Blk.new w3 _ _)
            have HB4 := Lib.hid (HB3.out.trans (hb4.mono (by omega)))
            have hz4 : w4.heap.size = gb + 1 := by rw [hw4, hgb]; simp
            have HA := Lib.hid (rLeast_nil A c w4)
            have hgbg : g + 1 ≤ gb := by omega
            clear hb3 hb4
            go_upto_region 6 with (fail)
            rw [← hgb, ← hw4]
            clear hw4 hgb
            have z0 := (HK0.out.below HB4.out (by omega)).cell (i := 0) rfl
            go_wp2_with fail
            refine HA.out.mono ?_
            clear HA
            rintro e w5 ⟨rfl, hb5⟩
            have hz5 := hb5.size
            obtain ⟨w6, hw6⟩ : ∃ w6, w6 = w5.alloc (.cells #[.slice none 0 0] 24) := ⟨_, rfl⟩
            obtain ⟨gc, hgc⟩ : ∃ gc, gc = w5.heap.size := ⟨_, rfl⟩
            have hb6 : Below w5.heap.size w5 w6 := by rw [hw6]; exact (Below.refl _ _).alloc (Nat.le_refl _) _
            have hkc : Blk w6 gc 24 [.slice none 0 0] := by rw [hw6, hgc]; exact Blk.new w5 _ _
            have HB6 := Lib.hid (HB4.out.trans ((hb5.mono (by omega)).trans (hb6.mono (by omega))))
            have hkb := HKB.out.below (hb5.trans (hb6.mono hz5)) (by omega)
            have c0 := hkc.cell (i := 0) rfl
            have b0 := hkb.cell (i := 0) rfl
            have HA := Lib.hid (sameAuto_any none none 0 0 0 [] w6 w6.heap.size (Nat.le_refl _) (fun q => absurd q (by simp)) (fun q => absurd q (by simp)) rfl (by omega) (fun s hs => by cases hs))
            have hz6 := hb6.size
            clear hb5 hb6 hkc hkb z0
            go_upto_region 9 with (fail)
            rw [← hgc, ← hw6]
            clear hw6 hgc
            go_wp2_with fail
            refine HA.out.mono ?_
            clear HA
            rintro e w7 ⟨rfl, hb7⟩
            have HB7 := Lib.hid (HB6.out.trans (hb7.mono (by omega)))
            go_wp2_with fail
            go_ret
            have hgw := HG.out
            exact ⟨rfl, by rw [hgw]; exact HBW.out _ HB7.out⟩
        · as_aux_lemma =>
            have HA := Lib.hid (pLeast_any A n c l w2 g (by omega) (HSH.out w2 HB2.out) HOK.out HL.out (by omega) hn14 HM.out HWR.out)
            go_wp2_with fail
            refine HA.out.mono ?_
            clear HA
            rintro e w3 ⟨A3, c3, a3, rfl, hl3, hr3, hb3, hp3⟩
            have hz3 := hb3.size
            obtain ⟨m, hm⟩ : ∃ m, m = a3.length := ⟨_, rfl⟩
            have HB3 := Lib.hid (HB2.out.trans (hb3.mono (by omega)))
            obtain ⟨w4, hw4⟩ : ∃ w4, w4 = w3.alloc (.cells #[.slice A3 m c3] 24) := ⟨_, rfl⟩
            obtain ⟨gb, hgb⟩ : ∃ gb, gb = w3.heap.size := ⟨_, rfl⟩
            have hb4 : Below w3.heap.size w3 w4 := by rw [hw4]; exact (Below.refl _ _).alloc (Nat.le_refl _) _
            have HKB : Hid (Blk w4 gb 24 [.slice A3 m c3]) := Lib.hid (by rw [hw4, hgb]; exact Blk.new w3 _ _)
            have HB4 := Lib.hid (HB3.out.trans (hb4.mono (by omega)))
            have hz4 : w4.heap.size = gb + 1 := by rw [hw4, hgb]; simp
            have HR3 : Hid (RdA w4 gb A3 a3) := Lib.hid (by rw [hgb]; exact hr3.below hb4)
            have HP3 := Lib.hid hp3; have HM3 := Lib.hid hm
            have HA := Lib.hid (rLeast_any A n c l w4 g (by omega) (HSH.out w4 HB4.out) HOK.out HL.out (by omega) hn14 HM.out)
            have hgbg : g + 1 ≤ gb := by omega
            have hm15 : m ≤ 15 := by omega
            rw [← hm]
            clear hb3 hb4 hr3 hp3 hm hl3
            go_upto_region 6 with (fail)
            rw [← hgb, ← hw4]
            clear hw4 hgb
            have z0 := (HK0.out.below HB4.out (by omega)).cell (i := 0) rfl
            go_wp2_with fail
            refine HA.out.mono ?_
            clear HA
            rintro e w5 ⟨A5, c5, a5, rfl, hl5, hr5, hb5, hp5⟩
            have he : a5 = a3 := (lea_pea HOK.out hp5 HP3.out).symm
            subst he
            have hz5 := hb5.size
            rw [← HM3.out]
            obtain ⟨w6, hw6⟩ : ∃ w6, w6 = w5.alloc (.cells #[.slice A5 m c5] 24) := ⟨_, rfl⟩
            obtain ⟨gc, hgc⟩ : ∃ gc, gc = w5.heap.size := ⟨_, rfl⟩
            have hb6 : Below w5.heap.size w5 w6 := by rw [hw6]; exact (Below.refl _ _).alloc (Nat.le_refl _) _
            have hkc : Blk w6 gc 24 [.slice A5 m c5] := by rw [hw6, hgc]; exact Blk.new w5 _ _
            have hb46 : Below w4.heap.size w4 w6 := hb5.trans (hb6.mono hz5)
            have HB6 := Lib.hid (HB4.out.trans (hb46.mono (by omega)))
            have hkb := HKB.out.below hb46 (by omega)
            have c0 := hkc.cell (i := 0) rfl
            have b0 := hkb.cell (i := 0) rfl
            have hz6 := hb6.size
            have HA := Lib.hid (sameAuto_any A3 A5 m c3 c5 a5 w6 w6.heap.size (Nat.le_refl _) ((HR3.out.below (hb46.mono (by omega))).more (by omega)) ((hr5.below hb6).more (by omega)) HM3.out.symm (by omega) (fun s hs => by have := HP3.out.moves s hs; omega))
            clear hb5 hb6 hkc hkb z0 hr5 hp5 hb46 hl5
            go_upto_region 9 with (fail)
            rw [← hgc, ← hw6]
            clear hw6 hgc
            go_wp2_with fail
            refine HA.out.mono ?_
            clear HA
            rintro e w7 ⟨rfl, hb7⟩
            have HB7 := Lib.hid (HB6.out.trans (hb7.mono (by omega)))
            go_wp2_with fail
            go_ret
            have hgw := HG.out
            exact ⟨rfl, by rw [hgw]; exact HBW.out _ HB7.out⟩
end Go.Proofs.YthikgdogfkjioaaGreatDoor
