/- The document's sets: ends, edges, grow. · The document's sets: grow. · The document's sets: Both, Canon, All. -/
import Derived.Test.YtaachamblagbhaaGreatDoorQ9
import Derived.StillTail
namespace Go.Proofs.YtaachamblagbhaaGreatDoor
open Go.RowKit BigFrame
set_option linter.unusedVariables false
set_option linter.unusedSimpArgs false
set_option maxRecDepth 100000

theorem ins_len {n : Int} : ∀ {l : List Int}, l.length ≤ (ins n l).length ∧ (ins n l).length ≤ l.length + 1
  | [] => by simp [ins]
  | x :: l => by
    have := ins_len (n := n) (l := l)
    unfold ins
    split
    · simp; omega
    · split <;> simp
theorem edgR_len {e : List Int} {r : Rg} : e.length ≤ (edgR e r).length ∧ (edgR e r).length ≤ e.length + 2 := by
  unfold edgR
  simp only
  have h1 := ins_len (n := r.1) (l := e)
  split <;> split
  · have := ins_len (n := r.2 + 1) (l := ins r.1 e); omega
  · have := ins_len (n := r.2 + 1) (l := e); omega
  · omega
  · omega
theorem edg_len : ∀ {s : List Rg} {e : List Int}, e.length ≤ (edg e s).length ∧ (edg e s).length ≤ e.length + 2 * s.length
  | [], e => by simp [edg]
  | r :: s, e => by
    have h1 := edgR_len (e := e) (r := r)
    have h2 := edg_len (s := s) (e := edgR e r)
    have : edg e (r :: s) = edg (edgR e r) s := rfl
    rw [this]; simp only [List.length_cons]; omega
theorem edgR_eq (E : List Int) (lo hi : Int) : edgR E (lo, hi) = if 0 ≤ hi ∧ hi < 1114111 then ins (hi + 1) (if 0 < lo ∧ lo ≤ 1114111 then ins lo E else E) else (if 0 < lo ∧ lo ≤ 1114111 then ins lo E else E) := rfl
theorem edg_snoc {e : List Int} {s : List Rg} {k : Nat} (h : k < s.length) : edg e (s.take (k + 1)) = edgR (edg e (s.take k)) (nthR s k) := by
  unfold edg
  rw [List.take_succ_eq_append_getElem h, List.foldl_append, nthR_get h]; rfl

theorem ends_any (w : World) : Calls Tryz.prog 55 #[] w fun e w' => e = .returned (.slice (some ⟨w.heap.size, 0, none⟩) 2 2) ∧ w' = w.alloc (.cells #[.int .i64 0, .int .i64 1114112] 3) := by
  go_enter Tryz.func55, Tryz.ntmps55
  go_wp2
  go_ret
  exact ⟨rfl, rfl⟩

/-- A list of numbers that is read. -/
structure EdW (w0 w : World) (b off c : Nat) (l : List Int) : Prop where
  c1 : l.length ≤ c
  c2 : c ≤ maxLen
  r : RdI w w.heap.size (some ⟨b, off, none⟩) l
  bel : Below w0.heap.size w0 w

set_option maxHeartbeats 4000000 in
theorem edges_any (b off c : Nat) (e : List Int) (A : Option Addr) (n' c' : Nat) (s : List Rg) (w : World) (B : Nat) (hB : B ≤ w.heap.size) (he : EdW w w b off c e) (h0 : 0 < e.length) (hn : e.length ≤ 1000) (hs : RdG w B A s) (hl : s.length = n') (hn' : n' ≤ 1000) :
    Calls Tryz.prog 56 #[.slice (some ⟨b, off, none⟩) e.length c, .slice A n' c'] w fun q w' => ∃ b' off' c', q = .returned (.slice (some ⟨b', off', none⟩) (edg e s).length c') ∧ EdW w w' b' off' c' (edg e s) := by
  have HE := Lib.hid he; have HS := Lib.hid hs; have HL := Lib.hid hl
  clear he hs hl
  go_enter Tryz.func56, Tryz.ntmps56
  go_wp2_with fail
  go_loopw [0, 5] (fun v i wr => ∃ k b' off' c'', k ≤ n' ∧ i = .int .i64 (k : Int) ∧ v = .slice (some ⟨b', off', none⟩) (edg e (s.take k)).length c'' ∧ Hid (EdW w wr b' off' c'' (edg e (s.take k)))) (fun _ i _ => n' - (intOf i).toNat)
  case atStart => exact ⟨0, b, off, c, Nat.zero_le _, rfl, rfl, HE.out⟩
  case round =>
    as_aux_lemma =>
      clear HE
      obtain ⟨k, b', off', c'', hk, rfl, rfl, HW⟩ := hrel
      by_cases hlt : k < n'
      · as_aux_lemma =>
          have hks : k < s.length := by rw [HL.out]; exact hlt
          have hsw : RdG wr B A s := HS.out.below (HW.out.bel.mono hB)
          obtain ⟨b2, off2, rfl, hb2, hcs⟩ := hsw.at_ (by omega)
          obtain ⟨z1, z2⟩ := hcs k hks
          have hsn := edg_snoc (e := e) hks
          have hll := edg_len (s := s.take k) (e := e)
          rw [List.length_take, show min k s.length = k by omega] at hll
          have HKEEP : Hid (∀ w', Below w.heap.size w w' → RdG w' B (some ⟨b2, off2, none⟩) s) := Lib.hid (fun w' hb => HS.out.below (hb.mono hB))
          have hfin : ∀ w' b3 off3 c3, EdW wr w' b3 off3 c3 (edgR (edg e (s.take k)) (nthR s k)) → EdW w w' b3 off3 c3 (edg e (s.take (k + 1))) := fun w' b3 off3 c3 h => by
            rw [hsn]; exact ⟨h.c1, h.c2, h.r, HW.out.bel.trans (h.bel.mono HW.out.bel.size)⟩
          obtain ⟨⟨lo, hi⟩, hr⟩ : ∃ r, r = nthR s k := ⟨_, rfl⟩
          rw [← hr] at z1 z2 hfin
          simp only at z1 z2
          have hkeep2 : ∀ w', Below wr.heap.size wr w' → w'.cell? ⟨b2, off2 + k * 2, none⟩ = some (.int .i64 lo) ∧ w'.cell? ⟨b2, off2 + k * 2 + 1, none⟩ = some (.int .i64 hi) := fun w' hb => by
            have hbb : b2 < wr.heap.size := by have := HW.out.bel.size; omega
            exact ⟨(hb.cell (p := ⟨b2, off2 + k * 2, none⟩) hbb).trans z1, (hb.cell (p := ⟨b2, off2 + k * 2 + 1, none⟩) hbb).trans z2⟩
          have HK2 := Lib.hid hkeep2; have HFIN := Lib.hid hfin
          have hE1 : EdW wr wr b' off' c'' (edg e (s.take k)) := ⟨HW.out.c1, HW.out.c2, HW.out.r, Below.refl _ _⟩
          obtain ⟨E, hE⟩ : ∃ E, E = edg e (s.take k) := ⟨_, rfl⟩
          rw [← hE] at hll hE1 HFIN HW ⊢
          have HE1 := Lib.hid hE1
          rw [← hE, ← hr] at hsn
          have HSN := Lib.hid hsn
          have hp0 : 0 < E.length := by omega
          have hp1 : E.length ≤ 3000 := by omega
          have hins : ∀ x (W : World) b3 off3 c3 (L : List Int), EdW wr W b3 off3 c3 L → 0 < L.length → L.length ≤ 4000 → Calls Tryz.prog 69 #[.slice (some ⟨b3, off3, none⟩) L.length c3, .int .i64 x] W fun q w' => ∃ b4 off4 c4, q = .returned (.slice (some ⟨b4, off4, none⟩) (ins x L).length c4) ∧ EdW wr w' b4 off4 c4 (ins x L) := fun x W b3 off3 c3 L h h1 h2 =>
            (insert_any b3 off3 L.length c3 L x W h.r rfl h1 (by omega) h.c1 h.c2).mono fun q w' ⟨b4, off4, c4, he, q1, q2, q3, q4⟩ => ⟨b4, off4, c4, he, q1, q2, q3, h.bel.trans (q4.mono h.bel.size)⟩
          have HINS := Lib.hid hins
          have HL1 := Lib.hid (fun x => ins_len (n := x) (l := E))
          clear hsw hcs hsn hll hfin hr hkeep2 hE hE1 hins HKEEP HS
          have hlo : (¬ (0 < lo)) ∨ (0 < lo ∧ ¬ (lo ≤ 1114111)) ∨ (0 < lo ∧ lo ≤ 1114111) := by omega
          have hhi : (¬ (0 ≤ hi)) ∨ (0 ≤ hi ∧ ¬ (hi < 1114111)) ∨ (0 ≤ hi ∧ hi < 1114111) := by omega
          rcases hlo with p1 | ⟨p1, p2⟩ | ⟨p1, p2⟩ <;> rcases hhi with q1 | ⟨q1, q2⟩ | ⟨q1, q2⟩
          · as_aux_lemma =>
              have d1 : decide (0 < lo) = false := decide_eq_false p1
              have d3 : decide (0 ≤ hi) = false := decide_eq_false q1
              have heq : edgR E (lo, hi) = E := by rw [edgR_eq, if_neg (show ¬ (0 ≤ hi ∧ hi < 1114111) from fun z => q1 z.1), if_neg (show ¬ (0 < lo ∧ lo ≤ 1114111) from fun z => p1 z.1)]
              have HE5 : Hid (edg e (s.take (k + 1)) = E) := Lib.hid (by rw [HSN.out, heq])
              rw [heq] at HFIN
              clear heq HSN
              have hi1 := HL1.out lo
              have HE2 := HE1
              have HE3 := HE2
              have HE4 := Lib.hid (HFIN.out _ _ _ _ HE3.out)
              go_wp2_with fail
              go_roundw
              case rel => exact ⟨k + 1, _, _, _, by omega, by go_num, by rw [HE5.out], HE4.out⟩
              case measure => simp [intOf]; omega
          · as_aux_lemma =>
              have d1 : decide (0 < lo) = false := decide_eq_false p1
              have d3 : decide (0 ≤ hi) = true := decide_eq_true q1
              have d4 : decide (hi < 1114111) = false := decide_eq_false q2
              have heq : edgR E (lo, hi) = E := by rw [edgR_eq, if_neg (show ¬ (0 ≤ hi ∧ hi < 1114111) from fun z => q2 z.2), if_neg (show ¬ (0 < lo ∧ lo ≤ 1114111) from fun z => p1 z.1)]
              have HE5 : Hid (edg e (s.take (k + 1)) = E) := Lib.hid (by rw [HSN.out, heq])
              rw [heq] at HFIN
              clear heq HSN
              have hi1 := HL1.out lo
              have HE2 := HE1
              have HE3 := HE2
              have HE4 := Lib.hid (HFIN.out _ _ _ _ HE3.out)
              go_wp2_with fail
              go_roundw
              case rel => exact ⟨k + 1, _, _, _, by omega, by go_num, by rw [HE5.out], HE4.out⟩
              case measure => simp [intOf]; omega
          · as_aux_lemma =>
              have d1 : decide (0 < lo) = false := decide_eq_false p1
              have d3 : decide (0 ≤ hi) = true := decide_eq_true q1
              have d4 : decide (hi < 1114111) = true := decide_eq_true q2
              have heq : edgR E (lo, hi) = ins (hi + 1) (E) := by rw [edgR_eq, if_pos ⟨q1, q2⟩, if_neg (show ¬ (0 < lo ∧ lo ≤ 1114111) from fun z => p1 z.1)]
              have HE5 : Hid (edg e (s.take (k + 1)) = ins (hi + 1) (E)) := Lib.hid (by rw [HSN.out, heq])
              rw [heq] at HFIN
              clear heq HSN
              have hi1 := HL1.out lo
              have HE2 := HE1
              go_wp2_with fail
              refine (HINS.out (hi + 1) _ _ _ _ _ HE2.out (by omega) (by omega)).mono ?_
              rintro q w2 ⟨b5, off5, c5, rfl, hW2⟩
              have HE3 := Lib.hid hW2
              clear hW2
              have HE4 := Lib.hid (HFIN.out _ _ _ _ HE3.out)
              go_wp2_with fail
              go_roundw
              case rel => exact ⟨k + 1, _, _, _, by omega, by go_num, by rw [HE5.out], HE4.out⟩
              case measure => simp [intOf]; omega
          · as_aux_lemma =>
              have d1 : decide (0 < lo) = true := decide_eq_true p1
              have d2 : decide (lo ≤ 1114111) = false := decide_eq_false p2
              have d3 : decide (0 ≤ hi) = false := decide_eq_false q1
              have heq : edgR E (lo, hi) = E := by rw [edgR_eq, if_neg (show ¬ (0 ≤ hi ∧ hi < 1114111) from fun z => q1 z.1), if_neg (show ¬ (0 < lo ∧ lo ≤ 1114111) from fun z => p2 z.2)]
              have HE5 : Hid (edg e (s.take (k + 1)) = E) := Lib.hid (by rw [HSN.out, heq])
              rw [heq] at HFIN
              clear heq HSN
              have hi1 := HL1.out lo
              have HE2 := HE1
              have HE3 := HE2
              have HE4 := Lib.hid (HFIN.out _ _ _ _ HE3.out)
              go_wp2_with fail
              go_roundw
              case rel => exact ⟨k + 1, _, _, _, by omega, by go_num, by rw [HE5.out], HE4.out⟩
              case measure => simp [intOf]; omega
          · as_aux_lemma =>
              have d1 : decide (0 < lo) = true := decide_eq_true p1
              have d2 : decide (lo ≤ 1114111) = false := decide_eq_false p2
              have d3 : decide (0 ≤ hi) = true := decide_eq_true q1
              have d4 : decide (hi < 1114111) = false := decide_eq_false q2
              have heq : edgR E (lo, hi) = E := by rw [edgR_eq, if_neg (show ¬ (0 ≤ hi ∧ hi < 1114111) from fun z => q2 z.2), if_neg (show ¬ (0 < lo ∧ lo ≤ 1114111) from fun z => p2 z.2)]
              have HE5 : Hid (edg e (s.take (k + 1)) = E) := Lib.hid (by rw [HSN.out, heq])
              rw [heq] at HFIN
              clear heq HSN
              have hi1 := HL1.out lo
              have HE2 := HE1
              have HE3 := HE2
              have HE4 := Lib.hid (HFIN.out _ _ _ _ HE3.out)
              go_wp2_with fail
              go_roundw
              case rel => exact ⟨k + 1, _, _, _, by omega, by go_num, by rw [HE5.out], HE4.out⟩
              case measure => simp [intOf]; omega
          · as_aux_lemma =>
              have d1 : decide (0 < lo) = true := decide_eq_true p1
              have d2 : decide (lo ≤ 1114111) = false := decide_eq_false p2
              have d3 : decide (0 ≤ hi) = true := decide_eq_true q1
              have d4 : decide (hi < 1114111) = true := decide_eq_true q2
              have heq : edgR E (lo, hi) = ins (hi + 1) (E) := by rw [edgR_eq, if_pos ⟨q1, q2⟩, if_neg (show ¬ (0 < lo ∧ lo ≤ 1114111) from fun z => p2 z.2)]
              have HE5 : Hid (edg e (s.take (k + 1)) = ins (hi + 1) (E)) := Lib.hid (by rw [HSN.out, heq])
              rw [heq] at HFIN
              clear heq HSN
              have hi1 := HL1.out lo
              have HE2 := HE1
              go_wp2_with fail
              refine (HINS.out (hi + 1) _ _ _ _ _ HE2.out (by omega) (by omega)).mono ?_
              rintro q w2 ⟨b5, off5, c5, rfl, hW2⟩
              have HE3 := Lib.hid hW2
              clear hW2
              have HE4 := Lib.hid (HFIN.out _ _ _ _ HE3.out)
              go_wp2_with fail
              go_roundw
              case rel => exact ⟨k + 1, _, _, _, by omega, by go_num, by rw [HE5.out], HE4.out⟩
              case measure => simp [intOf]; omega
          · as_aux_lemma =>
              have d1 : decide (0 < lo) = true := decide_eq_true p1
              have d2 : decide (lo ≤ 1114111) = true := decide_eq_true p2
              have d3 : decide (0 ≤ hi) = false := decide_eq_false q1
              have heq : edgR E (lo, hi) = ins lo E := by rw [edgR_eq, if_neg (show ¬ (0 ≤ hi ∧ hi < 1114111) from fun z => q1 z.1), if_pos ⟨p1, p2⟩]
              have HE5 : Hid (edg e (s.take (k + 1)) = ins lo E) := Lib.hid (by rw [HSN.out, heq])
              rw [heq] at HFIN
              clear heq HSN
              have hi1 := HL1.out lo
              go_wp2_with fail
              refine (HINS.out lo _ _ _ _ _ HE1.out hp0 (by omega)).mono ?_
              rintro q w1 ⟨b4, off4, c4, rfl, hW1⟩
              have HE2 := Lib.hid hW1
              obtain ⟨z1, z2⟩ := HK2.out w1 hW1.bel
              clear hW1
              have HE3 := HE2
              have HE4 := Lib.hid (HFIN.out _ _ _ _ HE3.out)
              go_wp2_with fail
              go_roundw
              case rel => exact ⟨k + 1, _, _, _, by omega, by go_num, by rw [HE5.out], HE4.out⟩
              case measure => simp [intOf]; omega
          · as_aux_lemma =>
              have d1 : decide (0 < lo) = true := decide_eq_true p1
              have d2 : decide (lo ≤ 1114111) = true := decide_eq_true p2
              have d3 : decide (0 ≤ hi) = true := decide_eq_true q1
              have d4 : decide (hi < 1114111) = false := decide_eq_false q2
              have heq : edgR E (lo, hi) = ins lo E := by rw [edgR_eq, if_neg (show ¬ (0 ≤ hi ∧ hi < 1114111) from fun z => q2 z.2), if_pos ⟨p1, p2⟩]
              have HE5 : Hid (edg e (s.take (k + 1)) = ins lo E) := Lib.hid (by rw [HSN.out, heq])
              rw [heq] at HFIN
              clear heq HSN
              have hi1 := HL1.out lo
              go_wp2_with fail
              refine (HINS.out lo _ _ _ _ _ HE1.out hp0 (by omega)).mono ?_
              rintro q w1 ⟨b4, off4, c4, rfl, hW1⟩
              have HE2 := Lib.hid hW1
              obtain ⟨z1, z2⟩ := HK2.out w1 hW1.bel
              clear hW1
              have HE3 := HE2
              have HE4 := Lib.hid (HFIN.out _ _ _ _ HE3.out)
              go_wp2_with fail
              go_roundw
              case rel => exact ⟨k + 1, _, _, _, by omega, by go_num, by rw [HE5.out], HE4.out⟩
              case measure => simp [intOf]; omega
          · as_aux_lemma =>
              have d1 : decide (0 < lo) = true := decide_eq_true p1
              have d2 : decide (lo ≤ 1114111) = true := decide_eq_true p2
              have d3 : decide (0 ≤ hi) = true := decide_eq_true q1
              have d4 : decide (hi < 1114111) = true := decide_eq_true q2
              have heq : edgR E (lo, hi) = ins (hi + 1) (ins lo E) := by rw [edgR_eq, if_pos ⟨q1, q2⟩, if_pos ⟨p1, p2⟩]
              have HE5 : Hid (edg e (s.take (k + 1)) = ins (hi + 1) (ins lo E)) := Lib.hid (by rw [HSN.out, heq])
              rw [heq] at HFIN
              clear heq HSN
              have hi1 := HL1.out lo
              go_wp2_with fail
              refine (HINS.out lo _ _ _ _ _ HE1.out hp0 (by omega)).mono ?_
              rintro q w1 ⟨b4, off4, c4, rfl, hW1⟩
              have HE2 := Lib.hid hW1
              obtain ⟨z1, z2⟩ := HK2.out w1 hW1.bel
              clear hW1
              go_wp2_with fail
              refine (HINS.out (hi + 1) _ _ _ _ _ HE2.out (by omega) (by omega)).mono ?_
              rintro q w2 ⟨b5, off5, c5, rfl, hW2⟩
              have HE3 := Lib.hid hW2
              clear hW2
              have HE4 := Lib.hid (HFIN.out _ _ _ _ HE3.out)
              go_wp2_with fail
              go_roundw
              case rel => exact ⟨k + 1, _, _, _, by omega, by go_num, by rw [HE5.out], HE4.out⟩
              case measure => simp [intOf]; omega
      · as_aux_lemma =>
          have he : s.take k = s := List.take_of_length_le (by rw [HL.out]; omega)
          have hw := HW.out
          rw [he] at hw ⊢
          have HW2 := Lib.hid hw
          clear he hw HW
          go_wp2_with fail
          go_ret
          exact ⟨b', off', c'', rfl, HW2.out⟩
end Go.Proofs.YtaachamblagbhaaGreatDoor
namespace Go.Proofs.YtaachamblagbhaaGreatDoor
open Go.RowKit BigFrame
set_option linter.unusedVariables false
set_option linter.unusedSimpArgs false
set_option maxRecDepth 100000

theorem rv_cons1 (lo hi : Int) : rv [(lo, hi)] = [.int .i64 lo, .int .i64 hi] := rfl
set_option maxHeartbeats 1000000 in
theorem grow_any (base : Nat) (v : Value) (l : List Rg) (lo hi : Int) (w : World) (ho : OwG w base v l) (hb : base ≤ w.heap.size) (hn : l.length ≤ 100000) (hbd : ∀ r ∈ l, -1 ≤ r.2 ∧ r.2 ≤ 1114111) :
    Calls Tryz.prog 58 #[v, .int .i64 lo, .int .i64 hi] w fun e w' => ∃ v', e = .returned v' ∧ OwG w' base v' (growR l lo hi) ∧ Below base w w' := by
  have hap : ∀ (v' : Value) (w' : World) (l' : List Rg) (n : Nat), w'.ownsRow base 57 2 v' (n + 1) (rv l ++ [.int .i64 lo, .int .i64 hi]) → n = l.length → l' = l ++ [(lo, hi)] → OwG w' base v' l' := fun v' w' l' n h hnl e => by
    subst e; subst hnl
    have e2 : rv l ++ [.int .i64 lo, .int .i64 hi] = rv (l ++ [(lo, hi)]) := by rw [rv_append]; rfl
    rw [e2] at h
    have e3 : (l ++ [(lo, hi)]).length = l.length + 1 := by simp
    unfold OwG; rw [e3]; exact h
  have HAP := Lib.hid hap
  clear hap
  rcases List.eq_nil_or_concat l with hl | ⟨l0, ⟨x, y⟩, hl⟩
  · obtain ⟨A, c, rfl, hc1, hc2, _⟩ := ho.form
    have hz : l.length = 0 := by rw [hl]; rfl
    have HG := Lib.hid (show growR l lo hi = l ++ [(lo, hi)] by rw [hl]; rfl)
    unfold OwG at ho
    rw [hz] at ho hc1 ⊢
    have HZ := Lib.hid hz; have HO := Lib.hid ho
    clear ho hz hl
    go_enter Tryz.func58, Tryz.ntmps58
    go_wp2_with (first
       | (at_builtin; refine wpList_app elRg rfl (.tmp 29) (.tmp 33) rfl base _ 0 1 (rv l) [.int .i64 lo, .int .i64 hi] rfl HO.out rfl rfl (by simp [Value.oneCell']) (by decide) (by decide) hb ?_; intro v2 w2 hown2 hg2 hat2; have HW2 := Lib.hid hown2; have HB2 := Lib.hid ((Below.refl base w).grown hg2 hb (fun k e => own_base HO.out k e)); clear hown2 hg2 hat2))
    go_ret
    exact ⟨_, rfl, HAP.out _ _ _ _ HW2.out HZ.out.symm HG.out, HB2.out⟩
  · rw [List.concat_eq_append] at hl
    have hll : l.length = l0.length + 1 := by rw [hl]; simp
    obtain ⟨g, cap, rfl, hg1, hg2, hg3, hfz, hcs, hst⟩ := ho.blk (by omega)
    obtain ⟨A, c, e2, hc1, hc2, _⟩ := ho.form
    simp only [Value.slice.injEq] at e2
    obtain ⟨rfl, _, rfl⟩ := e2
    unfold maxLen at hc2
    have hnth : nthR l l0.length = (x, y) := by rw [nthR_get (by omega)]; subst hl; simp
    obtain ⟨c1, c2⟩ := hcs l0.length (by omega)
    have hst2 := hst l0.length hi (by omega)
    rw [hnth] at c1 c2 hst2
    simp only at c1 c2 hst2
    have hset : l.set l0.length (x, hi) = l0 ++ [(x, hi)] := by rw [hl, List.set_append_right _ _ (Nat.le_refl _), Nat.sub_self]; rfl
    rw [hset] at hst2
    have hbx := hbd (x, y) (by rw [hl]; simp)
    simp only at hbx
    obtain ⟨hb1, hb2⟩ := hbx
    have hg := growR_snoc l0 x y lo hi
    rw [← hl] at hg
    have f2 := hfz (l0.length * 2 + 1)
    unfold OwG at ho hst2
    have hset2 : (l0 ++ [(x, hi)]).length = l0.length + 1 := by simp
    rw [hset2] at hst2
    have HL1 := Lib.hid hll
    rw [hll] at hc1 ho hst2 ⊢
    have HO := Lib.hid ho; have HST := Lib.hid hst2
    have hm : l0.length ≤ 100000 := by omega
    have HM2 := Lib.hid (show ∃ m, m = l0.length from ⟨_, rfl⟩)
    clear ho hcs hst hst2 hset hset2 hnth hfz hl
    generalize hmm : l0.length = m at *
    have HMM := Lib.hid hmm
    clear hmm
    by_cases he : y + 1 = lo
    · have d1 : (y + 1 == lo) = true := by simpa using he
      rw [if_pos he] at hg
      have HG := Lib.hid hg
      clear hg he
      go_enter Tryz.func58, Tryz.ntmps58
      go_wp2
      go_ret
      have e3 : (l0 ++ [(x, hi)]).length = m + 1 := by rw [List.length_append, HMM.out]; rfl
      refine ⟨_, rfl, ?_, (Below.refl base w).setCell hg2 _⟩
      unfold OwG
      rw [HG.out, e3]
      exact HST.out
    · have d1 : (y + 1 == lo) = false := by simpa using he
      rw [if_neg he] at hg
      have HG := Lib.hid hg
      clear hg he
      go_enter Tryz.func58, Tryz.ntmps58
      go_wp2_with (first
         | (at_builtin; refine wpList_app elRg rfl (.tmp 29) (.tmp 33) rfl base _ (m + 1) 1 (rv l) [.int .i64 lo, .int .i64 hi] rfl HO.out rfl rfl (by simp [Value.oneCell']) (by omega) (by omega) hb ?_; intro v2 w2 hown2 hg2 hat2; have HW2 := Lib.hid hown2; have HB2 := Lib.hid ((Below.refl base w).grown hg2 hb (fun k e => own_base HO.out k e)); clear hown2 hg2 hat2))
      go_ret
      exact ⟨_, rfl, HAP.out _ _ _ _ HW2.out HL1.out.symm HG.out, HB2.out⟩
end Go.Proofs.YtaachamblagbhaaGreatDoor
namespace Go.Proofs.YtaachamblagbhaaGreatDoor
open Go.RowKit BigFrame
set_option linter.unusedVariables false
set_option linter.unusedSimpArgs false
set_option maxRecDepth 100000

theorem CanF.bd : ∀ {l : List Rg} {f : Int}, CanF f l → ∀ r ∈ l, f ≤ r.1 ∧ r.1 ≤ r.2 ∧ r.2 ≤ MP
  | [], _, _, r, hr => by cases hr
  | (a, b) :: t, f, h, r, hr => by
    obtain ⟨h1, h2, h3, h4⟩ := h
    rcases List.mem_cons.1 hr with rfl | q
    · exact ⟨h1, h2, h3⟩
    · have := CanF.bd h4 r q; omega
theorem growR_len {out : List Rg} {lo hi : Int} : (growR out lo hi).length ≤ out.length + 1 := by
  rcases List.eq_nil_or_concat out with rfl | ⟨l0, ⟨x, y⟩, rfl⟩
  · rw [growR_nil]; simp
  · rw [List.concat_eq_append, growR_snoc]
    split <;> simp
theorem nth_mem {l : List Int} {k : Nat} (h : k < l.length) : nth l k ∈ l := by rw [nth_get h]; exact List.getElem_mem h
theorem asc_nth {l : List Int} (h : Asc l) {i j : Nat} (hij : i < j) (hj : j < l.length) : nth l i < nth l j := by
  unfold Asc at h
  rw [List.pairwise_iff_getElem] at h
  rw [nth_get hj, nth_get (by omega)]
  exact h i j (by omega) hj hij
theorem edg_first {e : List Int} (h : EdgO e) : nth e 0 = 0 := by
  obtain ⟨j, hj, hz⟩ := List.getElem_of_mem h.z
  rcases Nat.eq_zero_or_pos j with rfl | q
  · rw [nth_get hj]; exact hz
  · have h1 := asc_nth h.asc q hj
    rw [nth_get hj, hz] at h1
    have h2 := h.bd _ (nth_mem (l := e) (k := 0) (by omega))
    omega
theorem edg_last {e : List Int} (h : EdgO e) {k : Nat} (hk : k + 1 = e.length) : nth e k = MP + 1 := by
  obtain ⟨j, hj, hz⟩ := List.getElem_of_mem h.t
  rcases Nat.lt_or_ge j k with q | q
  · have h1 := asc_nth h.asc q (show k < e.length by omega)
    rw [nth_get hj, hz] at h1
    have h2 := h.bd _ (nth_mem (l := e) (k := k) (by omega))
    omega
  · obtain rfl : j = k := by omega
    rw [nth_get hj]; exact hz
theorem edg_two {e : List Int} (h : EdgO e) : 2 ≤ e.length := by
  apply Classical.byContradiction
  intro q
  have h1 := h.z
  have h2 := h.t
  match e, q with
  | [], _ => cases h1
  | [x], _ => simp at h1 h2; unfold MP at h2; omega
  | x :: y :: t, q => simp at q
/-- The points wanted. -/
def bothP (how : Int) (l l2 : List Rg) (p : Int) : Bool := wantB how (inR l p) (inR l2 p)
theorem inR_low {l : List Rg} {p : Int} (h : p < 0) : inR l p = false := by
  unfold inR isPt; simp; omega
theorem inR_high {l : List Rg} {p : Int} (h : MP < p) : inR l p = false := by
  unfold inR isPt; simp; omega
theorem both_step {how : Int} {l l2 : List Rg} {e : List Int} {out : List Rg} {k : Nat} (he : EdgO e) (h1 : ∀ r ∈ l, EdgB e r) (h2 : ∀ r ∈ l2, EdgB e r) (hk : k + 1 < e.length) (h : GwS out (bothP how l l2) (nth e k)) :
    (bothP how l l2 (nth e k) = true → GwS (growR out (nth e k) (nth e (k + 1) - 1)) (bothP how l l2) (nth e (k + 1))) ∧ (bothP how l l2 (nth e k) = false → GwS out (bothP how l l2) (nth e (k + 1))) := by
  have hlt := asc_nth he.asc (Nat.lt_succ_self k) hk
  have b1 := he.bd _ (nth_mem (show k < e.length by omega))
  have b2 := he.bd _ (nth_mem hk)
  have hc : ∀ p, nth e k ≤ p → p < nth e (k + 1) → bothP how l l2 p = bothP how l l2 (nth e k) := fun p q1 q2 => by
    rw [nth_get (show k < e.length by omega)] at q1 ⊢
    rw [nth_get hk] at q2
    unfold bothP
    rw [edg_const he h1 hk q1 q2, edg_const he h2 hk q1 q2]
  exact ⟨fun q => h.yes hlt b1.1 b2.2 (fun p q1 q2 => (hc p q1 q2).trans q), fun q => h.no hlt (fun p q1 q2 => (hc p q1 q2).trans q)⟩
theorem both_bd {P : Int → Bool} {out : List Rg} {f : Int} (h : GwS out P f) : ∀ r ∈ out, -1 ≤ r.2 ∧ r.2 ≤ 1114111 := fun r hr => by
  have h1 := CanF.bd h.can r hr
  unfold MP at h1
  omega

theorem OwG.base {w : World} {base base' : Nat} {v : Value} {l : List Rg} (h : OwG w base v l) (hb : base' ≤ base) : OwG w base' v l :=
  ⟨h.1, h.2.imp id fun ⟨g, cap, cur, a, b, c⟩ => ⟨g, cap, cur, a, Nat.le_trans hb b, c⟩⟩

set_option maxHeartbeats 1000000 in
theorem both_any (A A2 : Option Addr) (n c n2 c2 : Nat) (l l2 : List Rg) (how : Int) (w : World) (B : Nat) (hB : B ≤ w.heap.size) (hr : RdG w B A l) (hl : l.length = n) (hn : n ≤ 400) (hr2 : RdG w B A2 l2) (hl2 : l2.length = n2) (hn2 : n2 ≤ 400) :
    Calls Tryz.prog 37 #[.slice A n c, .slice A2 n2 c2, .int .i64 how] w fun e w' => ∃ v out, e = .returned v ∧ OwG w' w.heap.size v out ∧ IsCan out (bothP how l l2) ∧ Below w.heap.size w w' ∧ out.length ≤ 2000 := by
  have HR := Lib.hid hr; have HL := Lib.hid hl; have HR2 := Lib.hid hr2; have HL2 := Lib.hid hl2
  have hw1 : EdW w (w.alloc (.cells #[.int .i64 0, .int .i64 1114112] 3)) w.heap.size 0 2 [0, 1114112] := ⟨by decide, by unfold maxLen; decide, fun _ => ⟨w.heap.size, 0, rfl, by simp, fun j u hu => by
    rw [cell_of_row _ w.heap.size (0 + j) #[.int .i64 0, .int .i64 1114112] 3 (0, 0) (heap_alloc_new w _), Nat.zero_add]; simpa using hu⟩, (Below.refl _ w).alloc (Nat.le_refl _) _⟩
  have HW1 := Lib.hid hw1
  clear hr hl hr2 hl2 hw1
  go_enter Tryz.func37, Tryz.ntmps37
  go_wp2_with fail
  refine (ends_any w).mono ?_
  rintro e w1 ⟨rfl, hw1e⟩
  rw [← hw1e] at HW1
  have e1 : EdW w1 w1 w.heap.size 0 2 [0, 1114112] := ⟨HW1.out.c1, HW1.out.c2, HW1.out.r, Below.refl _ _⟩
  have HC1 := edges_any w.heap.size 0 2 [0, 1114112] A n c l w1 B (by have := HW1.out.bel.size; omega) e1 (by decide) (by decide) (HR.out.below (HW1.out.bel.mono hB)) HL.out (by omega)
  have HC1h := Lib.hid HC1
  clear hw1e e1 HC1
  go_wp2_with fail
  refine HC1h.out.mono ?_
  clear HC1h
  rintro e w2 ⟨b2, off2, c2', rfl, hW2⟩
  have HB2 := Lib.hid (HW1.out.bel.trans (hW2.bel.mono HW1.out.bel.size))
  have ok1 := edg_ok l edg0
  have k1 := edg_len (s := l) (e := [0, 1114112])
  have q1 : EdW w2 w2 b2 off2 c2' (edg [0, 1114112] l) := ⟨hW2.c1, hW2.c2, hW2.r, Below.refl _ _⟩
  rw [HL.out] at k1
  simp only [List.length_cons, List.length_nil] at k1
  have HC2 := edges_any b2 off2 c2' (edg [0, 1114112] l) A2 n2 c2 l2 w2 B (by have := HB2.out.size; omega) q1 (by omega) (by omega) (HR2.out.below (HB2.out.mono hB)) HL2.out (by omega)
  have HC2h := Lib.hid HC2
  clear hW2 q1 HC2
  go_wp2_with fail
  refine HC2h.out.mono ?_
  clear HC2h
  rintro e w3 ⟨b3, off3, c3, rfl, hW3⟩
  have HB3 := Lib.hid (HB2.out.trans (hW3.bel.mono HB2.out.size))
  have ok2 := edg_ok l2 ok1.1
  have k2 := edg_len (s := l2) (e := edg [0, 1114112] l)
  rw [HL2.out] at k2
  obtain ⟨E, hE⟩ : ∃ E, E = edg (edg [0, 1114112] l) l2 := ⟨_, rfl⟩
  have hok : EdgO E ∧ (∀ r ∈ l, EdgB E r) ∧ (∀ r ∈ l2, EdgB E r) := by
    rw [hE]
    exact ⟨ok2.1, fun r hr => (ok1.2.1 r hr).more ok2.2.2, ok2.2.1⟩
  rw [← hE] at hW3 k2 ⊢
  have hlen2 := edg_two hok.1
  obtain ⟨bb, oo, ee, hbb, hcs⟩ := hW3.r.at_ (by omega)
  cases ee
  have HCS := Lib.hid hcs
  have HOK := Lib.hid hok; have HLEN := Lib.hid hlen2
  have hle : E.length ≤ 2000 := by omega
  have HLE := Lib.hid hle
  have hGs : GwS [] (bothP how l l2) (nth E 0) := by
    rw [edg_first hok.1]
    exact GwS.start (fun p hp => by unfold bothP; rw [inR_low hp, inR_low hp]; exact wantB_no)
  have HGs := Lib.hid hGs
  have HRw : Hid (∀ wq, Below w.heap.size w wq → RdG wq B A l ∧ RdG wq B A2 l2) := Lib.hid (fun wq hb => ⟨HR.out.below (hb.mono hB), HR2.out.below (hb.mono hB)⟩)
  clear hW3 HB2 ok1 ok2 k1 k2 hE hok hcs hGs HR HR2 hlen2 HW1
  go_wp2_with fail
  go_loopw [8, 9] (fun v i wr => ∃ (k : Nat) (out : List Rg), k + 1 ≤ E.length ∧ i = .int .i64 (k : Int) ∧ Hid (OwG wr w3.heap.size v out) ∧ Hid (GwS out (bothP how l l2) (nth E k)) ∧ Hid (out.length ≤ k) ∧ Hid (Below w3.heap.size w3 wr)) (fun _ i _ => E.length - (intOf i).toNat)
  case atStart => exact ⟨0, [], by have := HLEN.out; omega, rfl, OwG.nil _ _, HGs.out, Nat.zero_le _, Below.refl _ _⟩
  case round =>
    as_aux_lemma =>
      obtain ⟨k, out, hk, rfl, HO, HG, HN, HB⟩ := hrel
      have hsz := HB.out.size
      have hbw : Below w.heap.size w wr := HB3.out.trans (HB.out.mono HB3.out.size)
      by_cases hlt : k + 1 < E.length
      · as_aux_lemma =>
          have z1 := (HB.out.cell (p := ⟨b3, off3 + k, none⟩) hbb).trans (HCS.out k (by omega))
          have z2 := (HB.out.cell (p := ⟨b3, off3 + (k + 1), none⟩) hbb).trans (HCS.out (k + 1) hlt)
          obtain ⟨s1, s2⟩ := both_step HOK.out.1 HOK.out.2.1 HOK.out.2.2 hlt HG.out
          have bdx := HOK.out.1.bd _ (nth_mem (show k < E.length by omega))
          have bdy := HOK.out.1.bd _ (nth_mem hlt)
          unfold MP at bdx bdy
          obtain ⟨r1, r2⟩ := HRw.out wr hbw
          have hwa := wanted_any A A2 n c n2 c2 l l2 how (nth E k) wr B B r1 HL.out (by omega) r2 HL2.out (by omega)
          change Calls _ _ _ _ fun e w' => e = .returned (.bool (bothP how l l2 (nth E k))) ∧ wr = w' at hwa
          have hgr := fun (v : Value) (wq : World) (hq : Below w3.heap.size wr wq) (ho : OwG wq w3.heap.size v out) => grow_any w3.heap.size v out (nth E k) (nth E (k + 1) - 1) wq ho (by have := hq.size; omega) (by have := HN.out; omega) (both_bd HG.out)
          obtain ⟨x, hx⟩ : ∃ x, x = nth E k := ⟨_, rfl⟩
          obtain ⟨y, hy⟩ : ∃ y, y = nth E (k + 1) := ⟨_, rfl⟩
          rw [← hx] at z1 bdx hwa s1 s2 hgr
          rw [← hy] at z2 bdy hgr s1
          have HWA := Lib.hid hwa; have HS1 := Lib.hid s1; have HS2 := Lib.hid s2
          have HGR := Lib.hid hgr; have HY := Lib.hid hy
          clear hwa s1 s2 r1 r2 hgr HG hx hy
          cases hbp : bothP how l l2 x
          · as_aux_lemma =>
              rw [hbp] at HWA
              have HG2 := Lib.hid (HS2.out hbp)
              clear hbp HS1 HS2
              go_wp2_with fail
              refine HWA.out.mono ?_
              rintro e w4 ⟨rfl, rfl⟩
              go_wp2_with fail
              go_roundw
              case rel => exact ⟨k + 1, out, by omega, by go_num, HO, HG2.out, by have := HN.out; show out.length ≤ k + 1; omega, HB⟩
              case measure => simp [intOf]; omega
          · as_aux_lemma =>
              rw [hbp] at HWA
              have HG2 := Lib.hid (HS1.out hbp)
              clear hbp HS1 HS2
              go_wp2_with fail
              refine HWA.out.mono ?_
              rintro e w4 ⟨rfl, rfl⟩
              have y1 : wr.drew.cell? ⟨b3, off3 + k, none⟩ = some (.int .i64 x) := z1
              have y2 : wr.drew.cell? ⟨b3, off3 + (k + 1), none⟩ = some (.int .i64 y) := z2
              have hdr : Below w3.heap.size wr wr.drew := ⟨rfl, rfl, rfl, Nat.le_refl _, fun _ _ => rfl⟩
              have HDR := Lib.hid hdr
              have HGC := Lib.hid (HGR.out _ wr.drew hdr (HO.out.ext ⟨rfl, rfl, rfl, Nat.le_refl _, fun _ _ => rfl⟩))
              go_wp2_with fail
              refine wp_region_still_tail 11 (by kernel_rfl) (by kernel_rfl) ?_
              simp only [List.take_succ_cons, List.take_zero, List.drop_succ_cons, List.drop_zero]
              change wpStill _ _ wr.drew (fun a' => wpList _ _ _ _ a' wr.drew) _ _
              generalize wr.drew = wd at *
              refine wpStill_of_quiet _ _ ?_
              repeat (first | go_big_quiet_skip | (go_big_quiet_want; go_big_quiet_op; go_big_quiet_on))
              refine wpQuiet_nil ?_
              go_wp2_with fail
              refine HGC.out.mono ?_
              rintro e w5 ⟨v5, rfl, hO5, hB5⟩
              have HO5 := Lib.hid hO5; have HB5 := Lib.hid (HB.out.trans (HDR.out.trans hB5))
              have HN5 : Hid ((growR out x (y - 1)).length ≤ k + 1) := Lib.hid (by have h1 := HN.out; have h2 := growR_len (out := out) (lo := x) (hi := y - 1); omega)
              have HG5 : Hid (GwS (growR out x (y - 1)) (bothP how l l2) (nth E (k + 1))) := Lib.hid (by rw [← HY.out]; exact HG2.out)
              clear hO5 hB5 HG2
              go_wp2_with fail
              go_roundw
              case rel => exact ⟨k + 1, growR out x (y - 1), by omega, by go_num, HO5, HG5, HN5, HB5⟩
              case measure => simp [intOf]; omega
      · as_aux_lemma =>
          have hx := HG.out
          rw [edg_last HOK.out.1 (by omega)] at hx
          have hcan := hx.done (fun p hp => by unfold bothP; rw [inR_high hp, inR_high hp]; exact wantB_no)
          have HCAN := Lib.hid hcan
          clear hx hcan HG
          have hk2 : out.length ≤ 2000 := by have := HN.out; omega
          have HK2 := Lib.hid hk2
          go_wp2_with fail
          go_ret
          exact ⟨_, out, rfl, HO.out.base HB3.out.size, HCAN.out, hbw, HK2.out⟩
end Go.Proofs.YtaachamblagbhaaGreatDoor
