/- The law SetsParted walked: it returns true. -/
import Derived.Test.YtihfdmjejllhnaaRgN
import Derived.Test.YtihfdmjejllhnaaRgY
namespace Go.Proofs.Ytihfdmjejllhnaa
open Go.RowKit BigFrame
set_option linter.unusedVariables false
set_option linter.unusedSimpArgs false
set_option maxRecDepth 100000

theorem own_at {w : World} {base n : Nat} {e : TypeId} {v : Value} {vs : List Value} (h : w.ownsRow base e 1 v n vs) (h0 : 0 < n) :
    ∃ g cap, v = .slice (some ⟨g, 0, none⟩) n cap ∧ n ≤ cap ∧ cap ≤ maxLen ∧ g < w.heap.size ∧ ∀ k u, vs[k]? = some u → w.cell? ⟨g, k, none⟩ = some u := by
  rcases h.2 with ⟨_, q⟩ | ⟨g, cap, cur, rfl, hb, hg, hn, hc, hs, ht⟩
  · omega
  · refine ⟨g, cap, rfl, hn, hc, (Array.getElem?_eq_some_iff.1 hg).1, fun k u hk => ?_⟩
    rw [cell_of_row w g k cur e (0, 0) hg, ← Array.getElem?_toList]
    rw [← ht, List.getElem?_take] at hk
    split at hk
    · exact hk
    · cases hk

set_option maxHeartbeats 4000000 in
theorem walk_SetsParted (w : World) (v : Value) (hv : IsRgss w v) :
    Calls Try.prog 6 #[v] w fun e w' => e = .returned (.bool true) ∧ Below w.heap.size w w' := by
  obtain ⟨A, n, c, S, rfl, hls, hnc, hc, hr⟩ := hv
  have HL := Lib.hid hls; have HR := Lib.hid hr
  unfold maxLen at hc
  clear hls hr
  by_cases h1 : 12 < n
  · go_enter Try.func6, Try.ntmps6
    go_wp2
    go_ret
    exact ⟨rfl, Below.refl _ _⟩
  · go_enter Try.func6, Try.ntmps6
    go_wp2_with fail
    go_loopw [3] (fun i wr => ∃ k : Nat, k ≤ n ∧ i = .int .i64 (k : Int) ∧ wr = w ∧ Hid (∀ t, t < k → (nthS S t).length ≤ 12)) (fun i _ => n - (intOf i).toNat)
    case atStart => exact ⟨0, Nat.zero_le _, rfl, rfl, fun t ht => (by omega)⟩
    case round =>
      as_aux_lemma =>
        obtain ⟨k, hk, rfl, rfl, HT⟩ := hrel
        by_cases hlt : k < n
        · as_aux_lemma =>
            have hkl : k < S.length := by rw [HL.out]; exact hlt
            obtain ⟨sb, so, rfl, hsb, hsc⟩ := HR.out (by omega)
            obtain ⟨As, cs, zs, q1, q2, -⟩ := hsc k hkl
            clear hsc
            have hTS : Hid ((nthS S k).length ≤ 12 → ∀ t, t < k + 1 → (nthS S t).length ≤ 12) := Lib.hid (fun h t ht => by
              by_cases e : t = k
              · subst e; exact h
              · exact HT.out t (by omega))
            unfold maxLen at q2
            generalize (nthS S k).length = m at *
            by_cases hm : 12 < m
            · go_wp2
              go_ret
              exact ⟨rfl, Below.refl _ _⟩
            · have HT2 := Lib.hid (hTS.out (by omega))
              go_wp2_with fail
              go_roundw
              case rel => exact ⟨k + 1, by omega, by go_num, by first | rfl | trivial, HT2⟩
              case measure => simp [intOf]; omega
        · as_aux_lemma =>
            obtain ⟨wo, rfl⟩ : ∃ wo : World, wo = wr := ⟨_, rfl⟩
            have hs : ∀ s ∈ S, s.length ≤ 12 := fun s hs => by
              obtain ⟨i, hi, rfl⟩ := List.getElem_of_mem hs
              rw [← nthS_get hi]; exact HT.out i (by have := HL.out; omega)
            have HS := Lib.hid hs
            have HC1 := Lib.hid (classes_any A n c S wo wo.heap.size (Nat.le_refl _) HR.out HL.out (by omega) hs)
            clear hs
            go_wp2_with fail
            refine HC1.out.mono ?_
            rintro e w1 ⟨v1, vs1, R1, rfl, hp1, hb1, hn1, hm1, hr1, hl1, hc1⟩
            have HC2 := Lib.hid (rClasses_any A n c S w1 wo.heap.size hb1.size (HR.out.below hb1) HL.out (by omega) HS.out)
            obtain ⟨A1, c1, rfl, p1, p2, -⟩ := own_form hr1
            have HP1 := Lib.hid hp1; have HB1 := Lib.hid hb1; have HW1 := Lib.hid hr1; have HL1 := Lib.hid hl1; have HCL1 := Lib.hid hc1; have HM1 := Lib.hid hm1
            clear HC1 hp1 hb1 hr1 hl1 hc1 hm1
            unfold maxLen at p2
            go_wp2_with fail
            refine HC2.out.mono ?_
            rintro e w2 ⟨v2, vs2, R2, rfl, hv2, hp2, hb2, hn2⟩
            have he := hp2.same HP1.out
            subst he
            obtain ⟨A2, c2, rfl, p3, p4, -⟩ := own_form hv2.row
            have HV2 := Lib.hid hv2; have HB2 := Lib.hid hb2
            unfold maxLen at p4
            clear hp2 hv2 hb2 HC2
            go_wp2_with fail
            go_loopw [6] (fun i wr => ∃ k : Nat, k ≤ R2.length ∧ i = .int .i64 (k : Int) ∧ Hid (Below w2.heap.size w2 wr)) (fun i _ => R2.length - (intOf i).toNat)
            case atStart => exact ⟨0, Nat.zero_le _, rfl, Below.refl _ _⟩
            case round =>
              as_aux_lemma =>
                obtain ⟨k, hk, rfl, HB⟩ := hrel
                by_cases hlt : k < R2.length
                · as_aux_lemma =>
                    have hs := HB.out.size
                    obtain ⟨g, cap, e1, r1, r2, hg, hel⟩ := own_at HW1.out (by omega)
                    cases e1
                    obtain ⟨g2, cap2, e2, -, r3, hg2, r4, r5, -, hel2⟩ := HV2.out.at_ (by omega)
                    cases e2
                    have hkv : k < vs1.length := by rw [HL1.out]; exact hlt
                    have hvk : vs1[k]? = some vs1[k] := List.getElem?_eq_getElem hkv
                    obtain ⟨A5, c5, e5, hrd⟩ := HCL1.out k _ hvk
                    have hB2s := HB2.out.size
                    have z1 := ((HB2.out.trans (HB.out.mono hB2s)).cell (p := ⟨g, k, none⟩) hg).trans (hel k _ hvk)
                    rw [e5] at z1
                    obtain ⟨A6, c6, -, zc, -, r6, r7, hrd6⟩ := hel2 k hlt
                    have z2 := (HB.out.cell (p := ⟨g2, k, none⟩) hg2).trans zc
                    have hlen := HM1.out _ (nthS_mem hlt)
                    have hsm := fun (wx : World) (hb : Below wr.heap.size wr wx) => same_any A5 A6 (nthS R2 k).length c5 (nthS R2 k).length c6 (nthS R2 k) (nthS R2 k) wx w1.heap.size w2.heap.size (hrd.below ((HB2.out.trans (HB.out.mono hB2s)).trans (hb.mono (by omega)))) rfl (by omega) (hrd6.below (HB.out.trans (hb.mono hs))) rfl (by omega)
                    have HSM := Lib.hid (hsm wr.drew ⟨rfl, rfl, rfl, Nat.le_refl _, fun _ _ => rfl⟩)
                    clear hsm hrd hrd6 hel hel2 zc e5 hvk r6 r7
                    generalize (nthS R2 k) = cl at *
                    rw [decide_eq_true rfl] at HSM
                    go_wp2_with fail
                    refine wp_region_still_tail 8 (by kernel_rfl) (by kernel_rfl) ?_
                    simp only [List.take_succ_cons, List.take_zero, List.drop_succ_cons, List.drop_zero]
                    change wpStill _ _ wr.drew (fun a' => wpList _ _ _ _ a' wr.drew) _ _
                    have hdb : Below wr.heap.size wr wr.drew := ⟨rfl, rfl, rfl, Nat.le_refl _, fun _ _ => rfl⟩
                    have HDB := Lib.hid hdb
                    clear hdb
                    have y1 : wr.drew.cell? ⟨g, k, none⟩ = _ := z1
                    have y2 : wr.drew.cell? ⟨g2, k, none⟩ = _ := z2
                    clear z1 z2
                    generalize wr.drew = wd at *
                    refine wpStill_of_quiet _ _ ?_
                    repeat (first | go_big_quiet_skip | (go_big_quiet_want; go_big_quiet_op; go_big_quiet_on))
                    refine wpQuiet_nil ?_
                    go_wp2_with fail
                    refine HSM.out.mono ?_
                    rintro e w5 ⟨rfl, hb5⟩
                    have HB5 := Lib.hid (HB.out.trans ((HDB.out.trans (hb5.mono HDB.out.size)).mono hs))
                    clear hb5
                    go_wp2_with fail
                    go_roundw
                    case rel => exact ⟨k + 1, by omega, by go_num, HB5⟩
                    case measure => simp [intOf]; omega
                · as_aux_lemma =>
                    go_wp2_with fail
                    go_ret
                    exact ⟨rfl, HB1.out.trans ((HB2.out.trans (HB.out.mono HB2.out.size)).mono HB1.out.size)⟩
end Go.Proofs.Ytihfdmjejllhnaa
