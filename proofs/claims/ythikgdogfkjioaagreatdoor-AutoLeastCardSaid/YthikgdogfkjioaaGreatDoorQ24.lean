/- small of the law; the document's sets of moves. · The document's sets of moves. -/
import Derived.Test.YthikgdogfkjioaaGreatDoorQ11
import Derived.Test.YthikgdogfkjioaaGreatDoorQ15
import Derived.Test.YthikgdogfkjioaaGreatDoorQ13
namespace Go.Proofs.YthikgdogfkjioaaGreatDoor
open Go.RowKit BigFrame
set_option linter.unusedVariables false
set_option linter.unusedSimpArgs false
set_option maxRecDepth 100000

/-- How many moves states have. -/
def totM (l : List St) : Nat := (l.map fun s => s.2.length).sum
theorem totM_take {l : List St} {k : Nat} {s : St} (h : l[k]? = some s) : totM (l.take (k + 1)) = totM (l.take k) + s.2.length := by
  obtain ⟨hk, rfl⟩ := List.getElem?_eq_some_iff.1 h
  rw [List.take_succ_eq_append_getElem hk]; unfold totM; rw [List.map_append, List.sum_append]; simp
theorem totM_le (l : List St) (k : Nat) : totM (l.take k) ≤ totM l := by
  have h : totM (l.take k ++ l.drop k) = totM (l.take k) + totM (l.drop k) := by unfold totM; rw [List.map_append, List.sum_append]
  rw [List.take_append_drop] at h
  omega
theorem totM_big {l : List St} {m : Nat} (h : ∀ s ∈ l, s.2.length ≤ m) : totM l ≤ l.length * m := by
  induction l with
  | nil => simp [totM]
  | cons a r ih =>
    have h1 := ih fun s hs => h s (List.mem_cons_of_mem _ hs)
    have h2 := h a (List.mem_cons_self ..)
    unfold totM at h1 ⊢
    simp only [List.map_cons, List.sum_cons, List.length_cons]
    rw [Nat.succ_mul]; omega
theorem tot14 {a x : Nat} (h1 : x ≤ a * 140737488355328) (h2 : a ≤ 14) : x ≤ 1970324836974592 := by omega
def smallA (l : List St) : Bool := decide (l.length ≤ 14) && decide (totM l ≤ 60)
set_option maxHeartbeats 4000000 in
theorem small_any (A : Option Addr) (n c : Nat) (l : List St) (w : World) (h : (shL shState).rd w (Lo w.heap.size) l [.slice A n c]) (hl : l.length = n) (hn : n ≤ 140737488355328) (hm : ∀ s ∈ l, s.2.length ≤ 140737488355328) :
    Calls Tryz.prog 4 #[.agg #[.slice A n c]] w fun e w' => e = .returned (.bool (smallA l)) ∧ Below w.heap.size w w' := by
  have Hl := Lib.hid hl; have H := Lib.hid h; have HM := Lib.hid hm
  clear hl h hm
  have hb0 : Below w.heap.size w (w.alloc (.cells #[.slice A n c] 24)) := (Below.refl _ _).alloc (Nat.le_refl _) _
  have hc0 : (w.alloc (.cells #[.slice A n c] 24)).cell? ⟨w.heap.size, 0, none⟩ = some (.slice A n c) := by simp
  have hs0 : (w.alloc (.cells #[.slice A n c] 24)).heap.size = w.heap.size + 1 := by simp
  go_enter Tryz.func4, Tryz.ntmps4
  go_wp2_with fail
  generalize w.alloc (.cells #[.slice A n c] 24) = W0 at *
  have hW : w.heap.size < W0.heap.size := by omega
  have HB0 := Lib.hid hb0
  clear hb0 hs0
  go_loop [3, 4] (fun x i => ∃ (k : Nat) (t : Int), k ≤ n ∧ i = .int .i64 (k : Int) ∧ x = .int .i64 t ∧ Hid (n ≤ 14 → t = (totM (l.take k) : Int))) (fun _ i => n - (intOf i).toNat)
  case atStart => exact ⟨0, 0, Nat.zero_le _, rfl, rfl, Lib.hid fun _ => by simp [totM]⟩
  case round =>
    as_aux_lemma =>
      obtain ⟨k, t, hk, rfl, rfl, HT⟩ := hrel
      by_cases hlt : k < n
      · as_aux_lemma =>
          have d1 : decide ((k : Int) < (n : Int)) = true := decide_eq_true (by omega)
          have hkl : k < l.length := by rw [Hl.out]; exact hlt
          obtain ⟨b, off, rfl, hb, hst⟩ := states_at (Sh.below H.out HB0.out) (by omega)
          obtain ⟨g1, A', c', g2, g3, g4, g5⟩ := hst k _ (List.getElem?_eq_getElem hkl)
          have htk := totM_take (List.getElem?_eq_getElem hkl)
          have hle := totM_le l k
          have hsm := HM.out _ (List.getElem_mem hkl)
          generalize l[k] = s at *
          by_cases h14 : n ≤ 14
          · as_aux_lemma =>
              have e := HT.out h14
              have hbig : totM (l.take k) ≤ 1970324836974592 := tot14 (totM_big (l := l.take k) (m := 140737488355328) (fun s hs => HM.out s (List.mem_of_mem_take hs))) (by rw [List.length_take]; have := Hl.out; omega)
              have HK := Lib.hid htk
              subst e
              generalize totM (l.take k) = x at *
              unfold maxLen at g4
              clear hst g5 htk hle g3 h14
              go_wp2_with fail
              go_roundw
              case rel => exact ⟨k + 1, ((x + s.2.length : Nat) : Int), by omega, by go_num, by go_num, Lib.hid fun _ => by rw [HK.out]⟩
              case measure => simp [intOf]; omega
          · as_aux_lemma =>
              clear hst g5 htk hle g3 HT
              unfold maxLen at g4
              go_wp2_with fail
              go_roundw
              case rel => exact ⟨k + 1, _, by omega, by go_num, rfl, Lib.hid fun q => absurd q h14⟩
              case measure => simp [intOf]; omega
      · as_aux_lemma =>
          have d1 : decide ((k : Int) < (n : Int)) = false := decide_eq_false (by omega)
          have e : k = n := by omega
          by_cases h14 : n ≤ 14
          · have e2 := HT.out h14
            have e3 : l.take k = l := List.take_of_length_le (by rw [Hl.out]; omega)
            rw [e3] at e2
            subst e2
            have d2 : decide ((n : Int) ≤ 14) = true := decide_eq_true (by omega)
            by_cases h60 : totM l ≤ 60
            · have HS : Hid (smallA l = true) := Lib.hid (by unfold smallA; rw [Hl.out, decide_eq_true h14, decide_eq_true h60]; rfl)
              have d3 : decide ((totM l : Int) ≤ 60) = true := decide_eq_true (by omega)
              clear e3 HT h60
              go_wp2_with fail
              go_ret
              exact ⟨ret_eq (by rw [HS.out]; rfl), HB0.out⟩
            · have HS : Hid (smallA l = false) := Lib.hid (by unfold smallA; rw [decide_eq_false h60]; simp)
              have d3 : decide ((totM l : Int) ≤ 60) = false := decide_eq_false (by omega)
              clear e3 HT h60
              go_wp2_with fail
              go_ret
              exact ⟨ret_eq (by rw [HS.out]; rfl), HB0.out⟩
          · have d2 : decide ((n : Int) ≤ 14) = false := decide_eq_false (by omega)
            have HS : Hid (smallA l = false) := Lib.hid (by unfold smallA; rw [Hl.out, decide_eq_false h14]; rfl)
            clear HT
            go_wp2_with fail
            go_ret
            exact ⟨ret_eq (by rw [HS.out]; rfl), HB0.out⟩
end Go.Proofs.YthikgdogfkjioaaGreatDoor
namespace Go.Proofs.YthikgdogfkjioaaGreatDoor
open Go.RowKit BigFrame
set_option linter.unusedVariables false
set_option linter.unusedSimpArgs false
set_option maxRecDepth 100000

def mvSet (m : Mv) : List Rg := [(m.1, m.2.1)]
theorem setsR_take {l : List St} {k : Nat} {s : St} (h : l[k]? = some s) : setsR (l.take (k + 1)) = setsR (l.take k) ++ s.2.map mvSet := by
  obtain ⟨hk, rfl⟩ := List.getElem?_eq_some_iff.1 h
  rw [List.take_succ_eq_append_getElem hk]; unfold setsR; rw [List.flatMap_append]; simp [mvSet]
theorem setsR_len (l : List St) : (setsR l).length = totM l := by
  unfold setsR totM
  rw [List.length_flatMap]; congr 1
  exact List.map_congr_left fun s _ => by simp
/-- One more, a block laid just ahead. -/
theorem ClV.push1 {w0 w' : World} {base bk : Nat} {v v' : Value} {vs : List Value} {R : List (List Rg)} {lo hi : Int} (h : ClV w0 base v vs R) (hb : base ≤ w0.heap.size) (hk : bk = w0.heap.size) (hg : (w0.alloc (.cells #[.int .i64 lo, .int .i64 hi] 52)).grownBy w' v.ownBlock)
    (hr : w'.ownsRow base 33 1 v' (R.length + 1) (vs ++ [.slice (some ⟨bk, 0, none⟩) 1 1])) (ha : v'.ownBlock = v.ownBlock ∨ v'.ownBlock = some ((w0.alloc (.cells #[.int .i64 lo, .int .i64 hi] 52)).heap.size + 1)) :
    ClV w' base v' (vs ++ [.slice (some ⟨bk, 0, none⟩) 1 1]) (R ++ [[(lo, hi)]]) := by
  subst hk
  refine (h.ext ((Below.refl _ _).alloc (Nat.le_refl _) _)).push (u := .slice (some ⟨w0.heap.size, 0, none⟩) 1 1) (c := [(lo, hi)]) hg ⟨rfl, .inr ⟨w0.heap.size, 1, #[.int .i64 lo, .int .i64 hi], rfl, hb, heap_alloc_new _ _, Nat.le_refl _, by decide, rfl, rfl⟩⟩ (fun g e => ?_) hr ha
  have e2 : g = w0.heap.size := by simpa [Value.ownBlock] using e.symm
  subst e2
  exact ⟨fun q => by have := (h.row.lt _ q).2; omega, fun k t hk q => by have := ((h.cl k t hk).lt _ q).2; omega⟩

set_option maxHeartbeats 4000000 in
theorem rMoveSets_any (A : Option Addr) (n c : Nat) (l : List St) (w : World) (B : Nat) (hB : B ≤ w.heap.size) (h : (shL shState).rd w (Lo B) l [.slice A n c]) (hl : l.length = n) (hn : n ≤ 1000) (hm : totM l ≤ 60) :
    Calls Tryz.prog 15 #[.agg #[.slice A n c]] w fun e w' => ∃ v vs, e = .returned v ∧ ClV w' w.heap.size v vs (setsR l) ∧ Below w.heap.size w w' := by
  have Hl := Lib.hid hl; have H := Lib.hid h; have HM := Lib.hid hm
  clear hl h hm
  have hb0 : Below w.heap.size w (w.alloc (.cells #[.slice A n c] 24)) := (Below.refl _ _).alloc (Nat.le_refl _) _
  have hc0 : (w.alloc (.cells #[.slice A n c] 24)).cell? ⟨w.heap.size, 0, none⟩ = some (.slice A n c) := by simp
  have hs0 : (w.alloc (.cells #[.slice A n c] 24)).heap.size = w.heap.size + 1 := by simp
  go_enter Tryz.func15, Tryz.ntmps15
  go_wp2_with fail
  generalize w.alloc (.cells #[.slice A n c] 24) = W0 at *
  have hW : w.heap.size < W0.heap.size := by omega
  have HB0 := Lib.hid hb0
  clear hb0 hs0
  go_loopw [3, 4] (fun v i wr => ∃ (k : Nat) (vs : List Value), k ≤ n ∧ i = .int .i64 (k : Int) ∧ Hid (ClV wr W0.heap.size v vs (setsR (l.take k))) ∧ Hid (Below W0.heap.size W0 wr)) (fun _ i _ => n - (intOf i).toNat)
  case atStart => exact ⟨0, [], Nat.zero_le _, rfl, ClV.nil _ _, Below.refl _ _⟩
  case round =>
    as_aux_lemma =>
      obtain ⟨k, vs, hk, rfl, HV, HB⟩ := hrel
      have hzr := HB.out.size
      have hc1 := (HB.out.cell (p := ⟨w.heap.size, 0, none⟩) hW).trans hc0
      by_cases hlt : k < n
      · as_aux_lemma =>
          have d1 : decide ((k : Int) < (n : Int)) = true := decide_eq_true (by omega)
          have hkl : k < l.length := by rw [Hl.out]; exact hlt
          obtain ⟨b, off, rfl, hb, hst⟩ := states_at (Sh.below H.out (HB0.out.mono hB)) (by omega)
          obtain ⟨g1, A', c', g2, g3, g4, g5⟩ := hst k _ (List.getElem?_eq_getElem hkl)
          have hst := setsR_take (List.getElem?_eq_getElem hkl)
          have htk := totM_take (List.getElem?_eq_getElem hkl)
          have hle := totM_le l (k + 1)
          have hln := setsR_len (l.take k)
          generalize l[k] = s at *
          obtain ⟨r, ms⟩ := s
          simp only at g2 g3 g5 hst htk
          obtain ⟨m, hm⟩ : ∃ m, m = ms.length := ⟨_, rfl⟩
          rw [← hm] at g2 g3 htk
          have hR : (setsR (l.take k)).length + m ≤ 60 := by have := HM.out; omega
          have HSM := Lib.hid hm; have HST := Lib.hid hst; have HMS := Lib.hid g5
          have hbW : b < W0.heap.size := Nat.lt_of_lt_of_le hb (by omega)
          have y2 := (HB.out.cell (p := ⟨b, off + k * 2 + 1, none⟩) hbW).trans g2
          unfold maxLen at g4
          clear hm hst g5 htk hle hln g1
          go_wp2_with fail
          obtain ⟨wo, rfl⟩ : ∃ wo : World, wo = wr := ⟨_, rfl⟩
          go_loopw [3, 5] (fun v i wr => ∃ (j : Nat) (vs : List Value), j ≤ m ∧ i = .int .i64 (j : Int) ∧ Hid (ClV wr W0.heap.size v vs (setsR (l.take k) ++ (ms.take j).map mvSet)) ∧ Hid (Below W0.heap.size W0 wr)) (fun _ i _ => m - (intOf i).toNat)
          case atStart => exact ⟨0, vs, Nat.zero_le _, rfl, Lib.hid (by simpa using HV.out), HB.out⟩
          case round =>
            as_aux_lemma =>
              clear y2 hc1
              obtain ⟨j, vs, hj, rfl, HV, HB⟩ := hrel
              have hzr := HB.out.size
              have hc1 := (HB.out.cell (p := ⟨w.heap.size, 0, none⟩) hW).trans hc0
              have y2 := (HB.out.cell (p := ⟨b, off + k * 2 + 1, none⟩) hbW).trans g2
              clear g2 hc0
              by_cases hjm : j < m
              · as_aux_lemma =>
                  have d1 : decide ((j : Int) < (m : Int)) = true := decide_eq_true (by omega)
                  have hjl : j < ms.length := by rw [← HSM.out]; exact hjm
                  obtain ⟨b2, o2, rfl, hb2, hc2⟩ := moves_at HMS.out (by omega)
                  obtain ⟨u1, u2, u3⟩ := hc2 j _ (List.getElem?_eq_getElem hjl)
                  have hbW2 : b2 < W0.heap.size := Nat.lt_of_lt_of_le hb2 (by omega)
                  have u1 := (HB.out.cell (p := ⟨b2, o2 + j * 3, none⟩) hbW2).trans u1
                  have u2 := (HB.out.cell (p := ⟨b2, o2 + j * 3 + 1, none⟩) hbW2).trans u2
                  have u3 := (HB.out.cell (p := ⟨b2, o2 + j * 3 + 2, none⟩) hbW2).trans u3
                  have htj : ms.take (j + 1) = ms.take j ++ [ms[j]] := List.take_succ_eq_append_getElem hjl
                  generalize ms[j] = mv at *
                  obtain ⟨x, y, z⟩ := mv
                  simp only at u1 u2 u3
                  obtain ⟨R, hR2⟩ : ∃ R, R = setsR (l.take k) ++ (ms.take j).map mvSet := ⟨_, rfl⟩
                  have hRl : R.length ≤ 60 := by rw [hR2, List.length_append, List.length_map, List.length_take]; omega
                  have HRN : Hid (setsR (l.take k) ++ (ms.take (j + 1)).map mvSet = R ++ [[(x, y)]]) := Lib.hid (by rw [htj, List.map_append, ← List.append_assoc, ← hR2]; rfl)
                  rw [← hR2] at HV
                  clear htj hR2 hc2
                  have hb1 : Below wr.heap.size wr (wr.alloc (.cells #[.int .i64 x, .int .i64 y, .int .i64 z] 32)) := (Below.refl _ _).alloc (Nat.le_refl _) _
                  have hs1 : (wr.alloc (.cells #[.int .i64 x, .int .i64 y, .int .i64 z] 32)).heap.size = wr.heap.size + 1 := by simp
                  have HV1 := Lib.hid (HV.out.ext hb1)
                  have HBW1 := Lib.hid (HB.out.trans (hb1.mono hzr))
                  have HS1 := Lib.hid hs1
                  have HVW := Lib.hid (HV1.out.ext ((Below.refl _ _).alloc (Nat.le_refl _) (.cells #[.int .i64 x, .int .i64 y] 52)))
                  have HBW := Lib.hid (HBW1.out.alloc HBW1.out.size (.cells #[.int .i64 x, .int .i64 y] 52))
                  have HS2 : Hid (((wr.alloc (.cells #[.int .i64 x, .int .i64 y, .int .i64 z] 32)).alloc (.cells #[.int .i64 x, .int .i64 y] 52)).heap.size = wr.heap.size + 1 + 1) := Lib.hid (by simp)
                  clear hb1 hs1
                  go_wp2_with (at_builtin; refine wpList_app elRow rfl (.tmp 34) (.tmp 41) rfl W0.heap.size _ R.length 1 vs [.slice (some ⟨wr.heap.size + 1, 0, none⟩) 1 1] rfl HVW.out.row (by rw [HS2.out]; rfl) rfl (by simp [Value.oneCell']) (by omega) (by omega) HBW.out.size ?_; intro v5 w5 hown5 hg5 hat5; have HV5 := Lib.hid (HV1.out.push1 HBW1.out.size HS1.out.symm hg5 hown5 hat5); have HB5 := Lib.hid (HBW.out.grown hg5 HBW.out.size (fun k e => own_base HVW.out.row k e)); clear hown5 hg5 hat5)
                  go_roundw
                  case rel => exact ⟨j + 1, _, by omega, by go_num, Lib.hid (by rw [HRN.out]; exact HV5.out), HB5⟩
                  case measure => simp [intOf]; omega
              · as_aux_lemma =>
                  have d1 : decide ((j : Int) < (m : Int)) = false := decide_eq_false (by omega)
                  have hv := HV.out
                  rw [List.take_of_length_le (l := ms) (by rw [← HSM.out]; omega), ← HST.out] at hv
                  have HV2 := Lib.hid hv
                  clear hv
                  go_wp2_with fail
                  go_roundw
                  case rel => exact ⟨k + 1, vs, by omega, by go_num, HV2, HB⟩
                  case measure => simp [intOf]; omega
      · as_aux_lemma =>
          have d1 : decide ((k : Int) < (n : Int)) = false := decide_eq_false (by omega)
          have e3 : l.take k = l := List.take_of_length_le (by rw [Hl.out]; omega)
          rw [e3] at HV
          have HV2 := Lib.hid (HV.out.base (Nat.le_of_lt hW))
          have HB2 := Lib.hid (HB0.out.trans (HB.out.mono (Nat.le_of_lt hW)))
          clear e3
          go_wp2_with fail
          go_ret
          exact ⟨_, _, rfl, HV2.out, HB2.out⟩
end Go.Proofs.YthikgdogfkjioaaGreatDoor
