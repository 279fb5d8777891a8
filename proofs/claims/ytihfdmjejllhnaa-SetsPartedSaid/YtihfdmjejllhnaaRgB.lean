/- The document's sets: ends, edges, grow. -/
import Derived.Test.YtihfdmjejllhnaaRgA
namespace Go.Proofs.Ytihfdmjejllhnaa
open Go.RowKit BigFrame
set_option linter.unusedVariables false
set_option linter.unusedSimpArgs false
set_option maxRecDepth 100000

theorem ins_len {n : Int} : ∀ {l : List Int}, l.length ≤ (ins n l).length ∧ (ins n l).length ≤ l.length + 1
  | [] => by simp [ins]
  | x :: l => by
    have := ins_len (n := n) (l := l)
    unfold ins
    split
    · simp; omega
    · split <;> simp
theorem edgR_len {e : List Int} {r : Rg} : e.length ≤ (edgR e r).length ∧ (edgR e r).length ≤ e.length + 2 := by
  unfold edgR
  simp only
  have h1 := ins_len (n := r.1) (l := e)
  split <;> split
  · have := ins_len (n := r.2 + 1) (l := ins r.1 e); omega
  · have := ins_len (n := r.2 + 1) (l := e); omega
  · omega
  · omega
theorem edg_len : ∀ {s : List Rg} {e : List Int}, e.length ≤ (edg e s).length ∧ (edg e s).length ≤ e.length + 2 * s.length
  | [], e => by simp [edg]
  | r :: s, e => by
    have h1 := edgR_len (e := e) (r := r)
    have h2 := edg_len (s := s) (e := edgR e r)
    have : edg e (r :: s) = edg (edgR e r) s := rfl
    rw [this]; simp only [List.length_cons]; omega
theorem edgR_eq (E : List Int) (lo hi : Int) : edgR E (lo, hi) = if 0 ≤ hi ∧ hi < 1114111 then ins (hi + 1) (if 0 < lo ∧ lo ≤ 1114111 then ins lo E else E) else (if 0 < lo ∧ lo ≤ 1114111 then ins lo E else E) := rfl
theorem edg_snoc {e : List Int} {s : List Rg} {k : Nat} (h : k < s.length) : edg e (s.take (k + 1)) = edgR (edg e (s.take k)) (nthR s k) := by
  unfold edg
  rw [List.take_succ_eq_append_getElem h, List.foldl_append, nthR_get h]; rfl

theorem ends_any (w : World) : Calls Try.prog 40 #[] w fun e w' => e = .returned (.slice (some ⟨w.heap.size, 0, none⟩) 2 2) ∧ w' = w.alloc (.cells #[.int .i64 0, .int .i64 1114112] 3) := by
  go_enter Try.func40, Try.ntmps40
  go_wp2
  go_ret
  exact ⟨rfl, rfl⟩

/-- A list of numbers that is read. -/
structure EdW (w0 w : World) (b off c : Nat) (l : List Int) : Prop where
  c1 : l.length ≤ c
  c2 : c ≤ maxLen
  r : RdI w w.heap.size (some ⟨b, off, none⟩) l
  bel : Below w0.heap.size w0 w

set_option maxHeartbeats 4000000 in
theorem edges_any (b off c : Nat) (e : List Int) (A : Option Addr) (n' c' : Nat) (s : List Rg) (w : World) (B : Nat) (hB : B ≤ w.heap.size) (he : EdW w w b off c e) (h0 : 0 < e.length) (hn : e.length ≤ 1000) (hs : RdG w B A s) (hl : s.length = n') (hn' : n' ≤ 1000) :
    Calls Try.prog 41 #[.slice (some ⟨b, off, none⟩) e.length c, .slice A n' c'] w fun q w' => ∃ b' off' c', q = .returned (.slice (some ⟨b', off', none⟩) (edg e s).length c') ∧ EdW w w' b' off' c' (edg e s) := by
  have HE := Lib.hid he; have HS := Lib.hid hs; have HL := Lib.hid hl
  clear he hs hl
  go_enter Try.func41, Try.ntmps41
  go_wp2_with fail
  go_loopw [0, 5] (fun v i wr => ∃ k b' off' c'', k ≤ n' ∧ i = .int .i64 (k : Int) ∧ v = .slice (some ⟨b', off', none⟩) (edg e (s.take k)).length c'' ∧ Hid (EdW w wr b' off' c'' (edg e (s.take k)))) (fun _ i _ => n' - (intOf i).toNat)
  case atStart => exact ⟨0, b, off, c, Nat.zero_le _, rfl, rfl, HE.out⟩
  case round =>
    as_aux_lemma =>
      clear HE
      obtain ⟨k, b', off', c'', hk, rfl, rfl, HW⟩ := hrel
      by_cases hlt : k < n'
      · as_aux_lemma =>
          have hks : k < s.length := by rw [HL.out]; exact hlt
          have hsw : RdG wr B A s := HS.out.below (HW.out.bel.mono hB)
          obtain ⟨b2, off2, rfl, hb2, hcs⟩ := hsw.at_ (by omega)
          obtain ⟨z1, z2⟩ := hcs k hks
          have hsn := edg_snoc (e := e) hks
          have hll := edg_len (s := s.take k) (e := e)
          rw [List.length_take, show min k s.length = k by omega] at hll
          have HKEEP : Hid (∀ w', Below w.heap.size w w' → RdG w' B (some ⟨b2, off2, none⟩) s) := Lib.hid (fun w' hb => HS.out.below (hb.mono hB))
          have hfin : ∀ w' b3 off3 c3, EdW wr w' b3 off3 c3 (edgR (edg e (s.take k)) (nthR s k)) → EdW w w' b3 off3 c3 (edg e (s.take (k + 1))) := fun w' b3 off3 c3 h => by
            rw [hsn]; exact ⟨h.c1, h.c2, h.r, HW.out.bel.trans (h.bel.mono HW.out.bel.size)⟩
          obtain ⟨⟨lo, hi⟩, hr⟩ : ∃ r, r = nthR s k := ⟨_, rfl⟩
          rw [← hr] at z1 z2 hfin
          simp only at z1 z2
          have hkeep2 : ∀ w', Below wr.heap.size wr w' → w'.cell? ⟨b2, off2 + k * 2, none⟩ = some (.int .i64 lo) ∧ w'.cell? ⟨b2, off2 + k * 2 + 1, none⟩ = some (.int .i64 hi) := fun w' hb => by
            have hbb : b2 < wr.heap.size := by have := HW.out.bel.size; omega
            exact ⟨(hb.cell (p := ⟨b2, off2 + k * 2, none⟩) hbb).trans z1, (hb.cell (p := ⟨b2, off2 + k * 2 + 1, none⟩) hbb).trans z2⟩
          have HK2 := Lib.hid hkeep2; have HFIN := Lib.hid hfin
          have hE1 : EdW wr wr b' off' c'' (edg e (s.take k)) := ⟨HW.out.c1, HW.out.c2, HW.out.r, Below.refl _ _⟩
          obtain ⟨E, hE⟩ : ∃ E, E = edg e (s.take k) := ⟨_, rfl⟩
          rw [← hE] at hll hE1 HFIN HW ⊢
          have HE1 := Lib.hid hE1
          rw [← hE, ← hr] at hsn
          have HSN := Lib.hid hsn
          have hp0 : 0 < E.length := by omega
          have hp1 : E.length ≤ 3000 := by omega
          have hins : ∀ x (W : World) b3 off3 c3 (L : List Int), EdW wr W b3 off3 c3 L → 0 < L.length → L.length ≤ 4000 → Calls Try.prog 57 #[.slice (some ⟨b3, off3, none⟩) L.length c3, .int .i64 x] W fun q w' => ∃ b4 off4 c4, q = .returned (.slice (some ⟨b4, off4, none⟩) (ins x L).length c4) ∧ EdW wr w' b4 off4 c4 (ins x L) := fun x W b3 off3 c3 L h h1 h2 =>
            (insert_any b3 off3 L.length c3 L x W h.r rfl h1 (by omega) h.c1 h.c2).mono fun q w' ⟨b4, off4, c4, he, q1, q2, q3, q4⟩ => ⟨b4, off4, c4, he, q1, q2, q3, h.bel.trans (q4.mono h.bel.size)⟩
          have HINS := Lib.hid hins
          have HL1 := Lib.hid (fun x => ins_len (n := x) (l := E))
          clear hsw hcs hsn hll hfin hr hkeep2 hE hE1 hins HKEEP HS
          have hlo : (¬ (0 < lo)) ∨ (0 < lo ∧ ¬ (lo ≤ 1114111)) ∨ (0 < lo ∧ lo ≤ 1114111) := by omega
          have hhi : (¬ (0 ≤ hi)) ∨ (0 ≤ hi ∧ ¬ (hi < 1114111)) ∨ (0 ≤ hi ∧ hi < 1114111) := by omega
          rcases hlo with p1 | ⟨p1, p2⟩ | ⟨p1, p2⟩ <;> rcases hhi with q1 | ⟨q1, q2⟩ | ⟨q1, q2⟩
          · as_aux_lemma =>
              have d1 : decide (0 < lo) = false := decide_eq_false p1
              have d3 : decide (0 ≤ hi) = false := decide_eq_false q1
              have heq : edgR E (lo, hi) = E := by rw [edgR_eq, if_neg (show ¬ (0 ≤ hi ∧ hi < 1114111) from fun z => q1 z.1), if_neg (show ¬ (0 < lo ∧ lo ≤ 1114111) from fun z => p1 z.1)]
              have HE5 : Hid (edg e (s.take (k + 1)) = E) := Lib.hid (by rw [HSN.out, heq])
              rw [heq] at HFIN
              clear heq HSN
              have hi1 := HL1.out lo
              have HE2 := HE1
              have HE3 := HE2
              have HE4 := Lib.hid (HFIN.out _ _ _ _ HE3.out)
              go_wp2_with fail
              go_roundw
              case rel => exact ⟨k + 1, _, _, _, by omega, by go_num, by rw [HE5.out], HE4.out⟩
              case measure => simp [intOf]; omega
          · as_aux_lemma =>
              have d1 : decide (0 < lo) = false := decide_eq_false p1
              have d3 : decide (0 ≤ hi) = true := decide_eq_true q1
              have d4 : decide (hi < 1114111) = false := decide_eq_false q2
              have heq : edgR E (lo, hi) = E := by rw [edgR_eq, if_neg (show ¬ (0 ≤ hi ∧ hi < 1114111) from fun z => q2 z.2), if_neg (show ¬ (0 < lo ∧ lo ≤ 1114111) from fun z => p1 z.1)]
              have HE5 : Hid (edg e (s.take (k + 1)) = E) := Lib.hid (by rw [HSN.out, heq])
              rw [heq] at HFIN
              clear heq HSN
              have hi1 := HL1.out lo
              have HE2 := HE1
              have HE3 := HE2
              have HE4 := Lib.hid (HFIN.out _ _ _ _ HE3.out)
              go_wp2_with fail
              go_roundw
              case rel => exact ⟨k + 1, _, _, _, by omega, by go_num, by rw [HE5.out], HE4.out⟩
              case measure => simp [intOf]; omega
          · as_aux_lemma =>
              have d1 : decide (0 < lo) = false := decide_eq_false p1
              have d3 : decide (0 ≤ hi) = true := decide_eq_true q1
              have d4 : decide (hi < 1114111) = true := decide_eq_true q2
              have heq : edgR E (lo, hi) = ins (hi + 1) (E) := by rw [edgR_eq, if_pos ⟨q1, q2⟩, if_neg (show ¬ (0 < lo ∧ lo ≤ 1114111) from fun z => p1 z.1)]
              have HE5 : Hid (edg e (s.take (k + 1)) = ins (hi + 1) (E)) := Lib.hid (by rw [HSN.out, heq])
              rw [heq] at HFIN
              clear heq HSN
              have hi1 := HL1.out lo
              have HE2 := HE1
              go_wp2_with fail
              refine (HINS.out (hi + 1) _ _ _ _ _ HE2.out (by omega) (by omega)).mono ?_
              rintro q w2 ⟨b5, off5, c5, rfl, hW2⟩
              have HE3 := Lib.hid hW2
              clear hW2
              have HE4 := Lib.hid (HFIN.out _ _ _ _ HE3.out)
              go_wp2_with fail
              go_roundw
              case rel => exact ⟨k + 1, _, _, _, by omega, by go_num, by rw [HE5.out], HE4.out⟩
              case measure => simp [intOf]; omega
          · as_aux_lemma =>
              have d1 : decide (0 < lo) = true := decide_eq_true p1
              have d2 : decide (lo ≤ 1114111) = false := decide_eq_false p2
              have d3 : decide (0 ≤ hi) = false := decide_eq_false q1
              have heq : edgR E (lo, hi) = E := by rw [edgR_eq, if_neg (show ¬ (0 ≤ hi ∧ hi < 1114111) from fun z => q1 z.1), if_neg (show ¬ (0 < lo ∧ lo ≤ 1114111) from fun z => p2 z.2)]
              have HE5 : Hid (edg e (s.take (k + 1)) = E) := Lib.hid (by rw [HSN.out, heq])
              rw [heq] at HFIN
              clear heq HSN
              have hi1 := HL1.out lo
              have HE2 := HE1
              have HE3 := HE2
              have HE4 := Lib.hid (HFIN.out _ _ _ _ HE3.out)
              go_wp2_with fail
              go_roundw
              case rel => exact ⟨k + 1, _, _, _, by omega, by go_num, by rw [HE5.out], HE4.out⟩
              case measure => simp [intOf]; omega
          · as_aux_lemma =>
              have d1 : decide (0 < lo) = true := decide_eq_true p1
              have d2 : decide (lo ≤ 1114111) = false := decide_eq_false p2
              have d3 : decide (0 ≤ hi) = true := decide_eq_true q1
              have d4 : decide (hi < 1114111) = false := decide_eq_false q2
              have heq : edgR E (lo, hi) = E := by rw [edgR_eq, if_neg (show ¬ (0 ≤ hi ∧ hi < 1114111) from fun z => q2 z.2), if_neg (show ¬ (0 < lo ∧ lo ≤ 1114111) from fun z => p2 z.2)]
              have HE5 : Hid (edg e (s.take (k + 1)) = E) := Lib.hid (by rw [HSN.out, heq])
              rw [heq] at HFIN
              clear heq HSN
              have hi1 := HL1.out lo
              have HE2 := HE1
              have HE3 := HE2
              have HE4 := Lib.hid (HFIN.out _ _ _ _ HE3.out)
              go_wp2_with fail
              go_roundw
              case rel => exact ⟨k + 1, _, _, _, by omega, by go_num, by rw [HE5.out], HE4.out⟩
              case measure => simp [intOf]; omega
          · as_aux_lemma =>
              have d1 : decide (0 < lo) = true := decide_eq_true p1
              have d2 : decide (lo ≤ 1114111) = false := decide_eq_false p2
              have d3 : decide (0 ≤ hi) = true := decide_eq_true q1
              have d4 : decide (hi < 1114111) = true := decide_eq_true q2
              have heq : edgR E (lo, hi) = ins (hi + 1) (E) := by rw [edgR_eq, if_pos ⟨q1, q2⟩, if_neg (show ¬ (0 < lo ∧ lo ≤ 1114111) from fun z => p2 z.2)]
              have HE5 : Hid (edg e (s.take (k + 1)) = ins (hi + 1) (E)) := Lib.hid (by rw [HSN.out, heq])
              rw [heq] at HFIN
              clear heq HSN
              have hi1 := HL1.out lo
              have HE2 := HE1
              go_wp2_with fail
              refine (HINS.out (hi + 1) _ _ _ _ _ HE2.out (by omega) (by omega)).mono ?_
              rintro q w2 ⟨b5, off5, c5, rfl, hW2⟩
              have HE3 := Lib.hid hW2
              clear hW2
              have HE4 := Lib.hid (HFIN.out _ _ _ _ HE3.out)
              go_wp2_with fail
              go_roundw
              case rel => exact ⟨k + 1, _, _, _, by omega, by go_num, by rw [HE5.out], HE4.out⟩
              case measure => simp [intOf]; omega
          · as_aux_lemma =>
              have d1 : decide (0 < lo) = true := decide_eq_true p1
              have d2 : decide (lo ≤ 1114111) = true := decide_eq_true p2
              have d3 : decide (0 ≤ hi) = false := decide_eq_false q1
              have heq : edgR E (lo, hi) = ins lo E := by rw [edgR_eq, if_neg (show ¬ (0 ≤ hi ∧ hi < 1114111) from fun z => q1 z.1), if_pos ⟨p1, p2⟩]
              have HE5 : Hid (edg e (s.take (k + 1)) = ins lo E) := Lib.hid (by rw [HSN.out, heq])
              rw [heq] at HFIN
              clear heq HSN
              have hi1 := HL1.out lo
              go_wp2_with fail
              refine (HINS.out lo _ _ _ _ _ HE1.out hp0 (by omega)).mono ?_
              rintro q w1 ⟨b4, off4, c4, rfl, hW1⟩
              have HE2 := Lib.hid hW1
              obtain ⟨z1, z2⟩ := HK2.out w1 hW1.bel
              clear hW1
              have HE3 := HE2
              have HE4 := Lib.hid (HFIN.out _ _ _ _ HE3.out)
              go_wp2_with fail
              go_roundw
              case rel => exact ⟨k + 1, _, _, _, by omega, by go_num, by rw [HE5.out], HE4.out⟩
              case measure => simp [intOf]; omega
          · as_aux_lemma =>
              have d1 : decide (0 < lo) = true := decide_eq_true p1
              have d2 : decide (lo ≤ 1114111) = true := decide_eq_true p2
              have d3 : decide (0 ≤ hi) = true := decide_eq_true q1
              have d4 : decide (hi < 1114111) = false := decide_eq_false q2
              have heq : edgR E (lo, hi) = ins lo E := by rw [edgR_eq, if_neg (show ¬ (0 ≤ hi ∧ hi < 1114111) from fun z => q2 z.2), if_pos ⟨p1, p2⟩]
              have HE5 : Hid (edg e (s.take (k + 1)) = ins lo E) := Lib.hid (by rw [HSN.out, heq])
              rw [heq] at HFIN
              clear heq HSN
              have hi1 := HL1.out lo
              go_wp2_with fail
              refine (HINS.out lo _ _ _ _ _ HE1.out hp0 (by omega)).mono ?_
              rintro q w1 ⟨b4, off4, c4, rfl, hW1⟩
              have HE2 := Lib.hid hW1
              obtain ⟨z1, z2⟩ := HK2.out w1 hW1.bel
              clear hW1
              have HE3 := HE2
              have HE4 := Lib.hid (HFIN.out _ _ _ _ HE3.out)
              go_wp2_with fail
              go_roundw
              case rel => exact ⟨k + 1, _, _, _, by omega, by go_num, by rw [HE5.out], HE4.out⟩
              case measure => simp [intOf]; omega
          · as_aux_lemma =>
              have d1 : decide (0 < lo) = true := decide_eq_true p1
              have d2 : decide (lo ≤ 1114111) = true := decide_eq_true p2
              have d3 : decide (0 ≤ hi) = true := decide_eq_true q1
              have d4 : decide (hi < 1114111) = true := decide_eq_true q2
              have heq : edgR E (lo, hi) = ins (hi + 1) (ins lo E) := by rw [edgR_eq, if_pos ⟨q1, q2⟩, if_pos ⟨p1, p2⟩]
              have HE5 : Hid (edg e (s.take (k + 1)) = ins (hi + 1) (ins lo E)) := Lib.hid (by rw [HSN.out, heq])
              rw [heq] at HFIN
              clear heq HSN
              have hi1 := HL1.out lo
              go_wp2_with fail
              refine (HINS.out lo _ _ _ _ _ HE1.out hp0 (by omega)).mono ?_
              rintro q w1 ⟨b4, off4, c4, rfl, hW1⟩
              have HE2 := Lib.hid hW1
              obtain ⟨z1, z2⟩ := HK2.out w1 hW1.bel
              clear hW1
              go_wp2_with fail
              refine (HINS.out (hi + 1) _ _ _ _ _ HE2.out (by omega) (by omega)).mono ?_
              rintro q w2 ⟨b5, off5, c5, rfl, hW2⟩
              have HE3 := Lib.hid hW2
              clear hW2
              have HE4 := Lib.hid (HFIN.out _ _ _ _ HE3.out)
              go_wp2_with fail
              go_roundw
              case rel => exact ⟨k + 1, _, _, _, by omega, by go_num, by rw [HE5.out], HE4.out⟩
              case measure => simp [intOf]; omega
      · as_aux_lemma =>
          have he : s.take k = s := List.take_of_length_le (by rw [HL.out]; omega)
          have hw := HW.out
          rw [he] at hw ⊢
          have HW2 := Lib.hid hw
          clear he hw HW
          go_wp2_with fail
          go_ret
          exact ⟨b', off', c'', rfl, HW2.out⟩
end Go.Proofs.Ytihfdmjejllhnaa
