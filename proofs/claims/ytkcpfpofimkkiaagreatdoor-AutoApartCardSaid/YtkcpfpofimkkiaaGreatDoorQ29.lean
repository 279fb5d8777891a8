/- The document's find: the first of the shortest ways by which two automata end as asked. -/
import Derived.Test.YtkcpfpofimkkiaaGreatDoorQ15
import Derived.Test.YtkcpfpofimkkiaaGreatDoorQ28
import Derived.Test.YtkcpfpofimkkiaaGreatDoorQ16
import Derived.Test.YtkcpfpofimkkiaaGreatDoorQ14
import Derived.Test.YtkcpfpofimkkiaaGreatDoorQ21
import Derived.Test.YtkcpfpofimkkiaaGreatDoorQ27
import Derived.Deep.Cut
import Derived.Deep.CutRange
import Derived.Deep.LoopGhost
namespace Go.Proofs.YtkcpfpofimkkiaaGreatDoor
open Go.RowKit BigFrame
set_option linter.unusedVariables false
set_option linter.unusedSimpArgs false
set_option maxRecDepth 100000

theorem tR_app (S Q : List (List Rg)) : totR (S ++ Q) = totR S + totR Q := by unfold totR; simp
theorem tR_setsR (l : List St) : totR (setsR l) = totM l := by
  unfold totR setsR totM
  induction l with
  | nil => rfl
  | cons a r ih =>
    rw [List.flatMap_cons, List.map_append, List.sum_append, ih, List.map_cons, List.sum_cons]
    congr 1
    induction a.2 with
    | nil => rfl
    | cons b q ih2 => simp only [List.map_cons, List.sum_cons, List.length_cons, List.length_nil, List.map_map] at ih2 ⊢; omega
theorem setsR_le60 {l : List St} : ∀ s ∈ setsR l, s.length ≤ 60 := fun s hs => by
  unfold setsR at hs
  obtain ⟨st, _, h2⟩ := List.mem_flatMap.1 hs
  obtain ⟨m, _, rfl⟩ := List.mem_map.1 h2
  simp
/-- The document's sets of two automata, and the halves. -/
theorem doc_sets {la lb : List St} (hm : totM la ≤ 60) (hm' : totM lb ≤ 60) : (setsR la ++ setsR lb ++ [halv]).length ≤ 160 ∧ totR (setsR la ++ setsR lb ++ [halv]) ≤ 160 ∧ ∀ s ∈ setsR la ++ setsR lb ++ [halv], s.length ≤ 60 := by
  refine ⟨by rw [List.length_append, List.length_append, setsR_len, setsR_len, List.length_singleton]; omega, by rw [tR_app, tR_app, tR_setsR, tR_setsR]; have : totR [halv] = 1 := rfl; omega, fun s hs => ?_⟩
  rcases List.mem_append.1 hs with hs | hs
  · rcases List.mem_append.1 hs with hs | hs
    · exact setsR_le60 s hs
    · exact setsR_le60 s hs
  · rw [List.mem_singleton] at hs
    rw [hs]; decide

set_option maxHeartbeats 8000000 in
theorem find_any (A A' : Option Addr) (n c n' c' : Nat) (la lb : List St) (rule : Int) (w : World) (B : Nat) (hB : B ≤ w.heap.size) (h : (shL shState).rd w (Lo B) la [.slice A n c]) (h' : (shL shState).rd w (Lo B) lb [.slice A' n' c'])
    (hok : okA la = true) (hok' : okA lb = true) (hl : la.length = n) (hl' : lb.length = n') (hn : n ≤ 14) (hn' : n' ≤ 14) (hm : totM la ≤ 60) (hm' : totM lb ≤ 60) :
    Calls Tryz.prog 23 #[.agg #[.slice A n c], .agg #[.slice A' n' c'], .int .i64 rule] w fun e w' => ∃ r, AnsN (stP la lb) ((pts 0 1114112).filter vpt) (hitD la lb rule) r ∧ (∃ A l c, e = .returned (.tuple #[.slice A (List.length l) c, .bool r.isSome]) ∧ RdI w' w'.heap.size A l ∧ l = r.getD [] ∧ l.length ≤ 1000) ∧ Below w.heap.size w w' := by
  have H := Lib.hid h; have H' := Lib.hid h'; have HOK := Lib.hid hok; have HOK' := Lib.hid hok'; have HL := Lib.hid hl; have HL' := Lib.hid hl'; have HM := Lib.hid hm; have HM' := Lib.hid hm'
  obtain ⟨g, hg⟩ : ∃ g, w.heap.size = g := ⟨_, rfl⟩
  obtain ⟨W0, hW0⟩ : ∃ W0, W0 = (w.alloc (.cells #[.slice A n c] 24)).alloc (.cells #[.slice A' n' c'] 24) := ⟨_, rfl⟩
  have hb0 : Below g w W0 := by rw [hW0, ← hg]; exact ((Below.refl _ _).alloc (Nat.le_refl _) _).alloc (by simp) _
  have hk1 : Blk W0 g 24 [.slice A n c] := by rw [hW0, ← hg]; exact (Blk.new w _ _).alloc _
  have hk2 : Blk W0 (g + 1) 24 [.slice A' n' c'] := by
    have := Blk.new (w.alloc (.cells #[.slice A n c] 24)) 24 [.slice A' n' c']
    rw [show (w.alloc (.cells #[.slice A n c] 24)).heap.size = g + 1 by rw [← hg]; simp] at this
    rw [hW0]; exact this
  have hs0 : W0.heap.size = g + 2 := by rw [hW0, ← hg]; simp
  have hgB : B ≤ g := by omega
  have HB0 := Lib.hid hb0; have HK1 := Lib.hid hk1; have HK2 := Lib.hid hk2; have HS0 := Lib.hid hs0; have HG := Lib.hid hg
  have z1 := hk1.cell (i := 0) rfl
  have z2 := hk2.cell (i := 0) rfl
  have HM1 := Lib.hid (rMoveSets_any A n c la W0 B (by omega) (Sh.below h (hb0.mono hgB)) hl (by omega) hm)
  clear h h' hok hok' hl hl' hm hm' hb0 hk1 hk2
  go_enter Tryz.func23, Tryz.ntmps23
  go_wp2_with fail
  rw [← hW0]
  clear hW0
  go_wp2_with fail
  refine HM1.out.mono ?_
  rintro e w1 ⟨v1, vs1, rfl, hv1, hb1⟩
  have hz1 := hb1.size
  have HB1 : Hid (Below (g + 2) W0 w1) := Lib.hid (hb1.mono (by omega))
  have HX1 := Lib.hid hb1
  have z1 := (HK1.out.below' hb1).cell (i := 0) rfl
  have z2 := (HK2.out.below' hb1).cell (i := 0) rfl
  have HV1 := Lib.hid hv1
  have HM2 := Lib.hid (rMoveSets_any A' n' c' lb w1 B (by omega) (Sh.below H'.out ((HB0.out.mono hgB).trans (hb1.mono (by omega)))) HL'.out (by omega) HM'.out)
  clear hb1 hv1 HM1
  go_wp2_with fail
  refine HM2.out.mono ?_
  rintro e w2 ⟨v2, vs2, rfl, hv2, hb2⟩
  have hz2 := hb2.size
  have HB2 : Hid (Below (g + 2) W0 w2) := Lib.hid (HB1.out.trans (hb2.mono (by omega)))
  have HS2 := Lib.hid (SsV.base (ClV.ss (HV1.out.ext hb2)) (show g + 2 ≤ W0.heap.size by omega))
  obtain ⟨Am2, cm2, rfl, -, -, hrd2⟩ := hv2.rds
  have HR2 := Lib.hid hrd2
  have HW2 := Lib.hid hv2.row
  have HC2 := Lib.hid (SsV.base (ClV.ss hv2) (show g + 2 ≤ w1.heap.size by omega))
  have hsb := setsR_len lb
  have hsa := setsR_len la
  obtain ⟨mb, hmb⟩ : ∃ mb, mb = (setsR lb).length := ⟨_, rfl⟩
  rw [← hmb]
  have hmb60 : mb ≤ 60 := by rw [hmb, hsb]; exact HM'.out
  have hma60 : (setsR la).length ≤ 60 := by rw [hsa]; exact HM.out
  have HMB := Lib.hid hmb
  rw [← hmb] at HW2 HC2
  clear hb2 hv2 HM2 hrd2 hsb hsa hmb
  go_wp2_with fail
  have hne0 : v1.ownBlock ≠ (Value.slice Am2 mb cm2).ownBlock ∨ (Value.slice Am2 mb cm2).ownBlock = none := by
    cases hob : (Value.slice Am2 mb cm2).ownBlock with
    | none => exact .inr rfl
    | some q =>
      refine .inl fun e => ?_
      have h1 := (World.ownsRow.lt HV1.out.row q e).2
      have h2 := (World.ownsRow.lt HW2.out q hob).1
      omega
  have HNE0 := Lib.hid hne0
  clear hne0
  go_loopw [8, 10] (fun v i wr => ∃ (k : Nat) (vs : List Value), k ≤ mb ∧ i = .int .i64 (k : Int) ∧ Hid (SsV wr (g + 2) v vs (setsR la ++ (setsR lb).take k)) ∧ Hid (SsV wr (g + 2) (.slice Am2 mb cm2) vs2 (setsR lb)) ∧ Hid (v.ownBlock ≠ (Value.slice Am2 mb cm2).ownBlock ∨ (Value.slice Am2 mb cm2).ownBlock = none) ∧ Hid (Below (g + 2) W0 wr)) (fun _ i _ => mb - (intOf i).toNat)
  case atStart => exact ⟨0, vs1, Nat.zero_le _, rfl, Lib.hid (by rw [List.take_zero, List.append_nil]; exact HS2.out), HC2.out, HNE0.out, HB2.out⟩
  case round =>
    as_aux_lemma =>
      clear HS2 HC2 HNE0 HB2 HR2 z1 z2
      obtain ⟨k, vs, hk, rfl, HS2, HC2, HNE0, HB2⟩ := hrel
      have hzr : g + 2 ≤ wr.heap.size := by have := HB2.out.size; have := HS0.out; omega
      obtain ⟨S0, hS0⟩ : ∃ S0, S0 = setsR la ++ (setsR lb).take k := ⟨_, rfl⟩
      have hSl : S0.length = (setsR la).length + k := by rw [hS0, List.length_append, List.length_take, ← HMB.out]; omega
      have HSE := Lib.hid hS0
      rw [← hS0] at HS2
      by_cases hlt : k < mb
      · as_aux_lemma =>
          have d0 : decide (k < mb) = true := decide_eq_true hlt
          have hkl : k < (setsR lb).length := by rw [← HMB.out]; exact hlt
          obtain ⟨g2, cap2, A3, c3, e3, hg2, hu3, z3, ho3⟩ := HC2.out.at_ hkl
          have HTK := Lib.hid (setsTake hkl)
          have hg2' : Am2 = some ⟨g2, 0, none⟩ := by simp only [Value.slice.injEq] at e3; exact e3.1
          subst hg2'
          obtain ⟨l3, hl3⟩ : ∃ l3, l3 = (nthS (setsR lb) k).length := ⟨_, rfl⟩
          rw [← hl3] at z3 ho3
          have HO3 := Lib.hid ho3
          have hS120 : S0.length ≤ 120 := by omega
          clear e3 hu3 hl3 hS0 ho3
          go_wp2_with (at_builtin; refine wpList_app elRow rfl (.tmp 35) (.tmp 40) rfl (g + 2) _ S0.length 1 vs [.slice A3 l3 c3] rfl HS2.out.row rfl rfl (by simp [Value.oneCell']) (by omega) (by omega) hzr ?_; intro v4 w4 hown4 hg4 hat4)
          go_roundw
          case rel =>
            refine ⟨k + 1, vs ++ [.slice A3 l3 c3], by omega, by go_num, Lib.hid ?_, Lib.hid (HC2.out.grownR HS2.out.row hg4 ?_), Lib.hid ?_, HB2.out.grown hg4 hzr (own_base HS2.out.row)⟩
            · rw [HTK.out, ← List.append_assoc, ← HSE.out]
              refine HS2.out.app hg4 rfl (fun j u hu => ?_) hown4
              by_cases q : j = 0
              · subst q
                simp at hu
                subst hu
                exact HO3.out
              · rw [List.getElem?_eq_none (by simp; omega)] at hu; cases hu
            · rcases HNE0.out with q | q
              · exact .inr (fun e => q e.symm)
              · exact .inl q
            · rcases HNE0.out with q | q
              · rcases hat4 with e | e
                · exact .inl (by rw [e]; exact q)
                · exact .inl (fun x => by rw [e] at x; simp only [Value.ownBlock, Option.some.injEq] at x; omega)
              · exact .inr q
          case measure => simp [intOf]; omega
      · as_aux_lemma =>
          have d0 : decide (k < mb) = false := decide_eq_false hlt
          obtain rfl : k = mb := by omega
          have hS2 : S0 = setsR la ++ setsR lb := by rw [HSE.out, List.take_of_length_le (by rw [← HMB.out]; omega)]
          have HS3 := Lib.hid (HS2.out.ext ((Below.refl _ _).alloc (Nat.le_refl _) (.cells #[.int .i64 55296, .int .i64 57343] 62)))
          have HB3 : Hid (Below (g + 2) W0 (wr.alloc (.cells #[.int .i64 55296, .int .i64 57343] 62))) := Lib.hid (HB2.out.alloc hzr _)
          have hs3 : (wr.alloc (.cells #[.int .i64 55296, .int .i64 57343] 62)).heap.size = wr.heap.size + 1 := by simp
          have HHV : Hid (OwG (wr.alloc (.cells #[.int .i64 55296, .int .i64 57343] 62)) (g + 2) (.slice (some ⟨wr.heap.size, 0, none⟩) 1 1) halv) := Lib.hid ⟨rfl, .inr ⟨wr.heap.size, 1, #[.int .i64 55296, .int .i64 57343], rfl, hzr, heap_alloc_new _ _, Nat.le_refl _, by unfold maxLen; decide, rfl, rfl⟩⟩
          have hS120 : S0.length ≤ 120 := by omega
          have HS3z := Lib.hid hs3
          have HSX := Lib.hid hS2
          clear hS2 hS0 hs3
          go_wp2_with (at_builtin; refine wpList_app elRow rfl (.tmp 44) (.tmp 46) rfl (g + 2) _ S0.length 1 vs [.slice (some ⟨wr.heap.size, 0, none⟩) 1 1] rfl HS3.out.row (by rw [HS3z.out]; rfl) rfl (by simp [Value.oneCell']) (by omega) (by omega) (by rw [HS3z.out]; omega) ?_; intro v4 w4 hown4 hg4 hat4; have HS4 := Lib.hid (HS3.out.app (us := [.slice (some ⟨wr.heap.size, 0, none⟩) 1 1]) (Q := [halv]) hg4 rfl (fun j u hu => by cases j with | zero => (simp at hu; subst hu; exact HHV.out) | succ j => simp at hu) hown4); have HB4 := Lib.hid (HB3.out.grown hg4 (by rw [HS3z.out]; omega) (own_base HS3.out.row)); clear hown4 hg4 hat4)
          obtain ⟨A4, c4, rfl, -, -, hr4⟩ := HS4.out.rds
          have hds := doc_sets HM.out HM'.out
          rw [← HSX.out] at hds
          have HRC := Lib.hid (rClasses_any A4 (S0 ++ [halv]).length c4 (S0 ++ [halv]) w4 w4.heap.size (Nat.le_refl _) hr4 rfl ⟨hds.1, hds.2.1⟩ hds.2.2)
          have hz4 := HB4.out.size
          clear hds hr4 HS4 HS3 HB3 HHV HNE0 HC2 HS2
          refine HRC.out.mono ?_
          rintro e w5 ⟨v5, vs5, C, rfl, hv5, hP, hb5, hC1, hC2⟩
          have hz5 := hb5.size
          obtain ⟨A5, c5, rfl, hc1, hc2, hr5⟩ := hv5.rds
          have HB5 : Hid (Below (g + 2) W0 w5) := Lib.hid (HB4.out.trans (hb5.mono (by have := HS0.out; omega)))
          have hbw5 : Below g w w5 := HB0.out.trans (HB5.out.mono (by omega))
          have hne : ∀ c ∈ C, c ≠ [] := fun c hc => by
            obtain ⟨p, hp, hm⟩ := (hP.each c hc).self
            exact can_ne hm
          have HCL : Hid (∀ c ∈ C, c.length ≤ 100000) := Lib.hid (fun c hc => by
            obtain ⟨k, hk, rfl⟩ := List.getElem_of_mem hc
            have h1 := totR_take hk
            have h2 := totR_take_le C (k + 1)
            omega)
          have HBW5 := Lib.hid hbw5
          have HR5 := Lib.hid hr5
          obtain ⟨K, hK⟩ : ∃ K, C.length = K := ⟨_, rfl⟩
          have HK := Lib.hid hK
          have HNE := Lib.hid hne
          rw [hK] at hc1 hC1 ⊢
          have HFA := Lib.hid (full_any A A5 n c K c5 la C w5 w5.heap.size (Nat.le_refl _) (Sh.up (Sh.below H.out (hbw5.mono hgB)) (by have := hbw5.size; omega)) HOK.out HL.out (by omega) hr5 hK hc1 hc2 (by omega) hne)
          have z1 := (HK1.out.below (B := g + 2) HB5.out (by omega)).cell (i := 0) rfl
          have HP := Lib.hid hP
          have HP' : Hid (Parted (setsR la ++ setsR lb ++ [halv]) C) := Lib.hid (by rw [← HSX.out]; exact hP)
          clear hv5 hb5 hr5 hP hne hbw5 HRC hK
          go_wp2_with fail
          refine HFA.out.mono ?_
          rintro e w6 ⟨Ar, Am, cr, cm, rfl, hF, hb6⟩
          have hz6 := hb6.size
          obtain ⟨gf, hgf⟩ : ∃ gf, w6.heap.size = gf := ⟨_, rfl⟩
          obtain ⟨w7, hw7⟩ : ∃ w7, w7 = w6.alloc (.cells #[.slice A5 K c5, .slice Ar (n + 1) cr, .slice Am (n + 1) cm] 89) := ⟨_, rfl⟩
          have hb7 : Below gf w6 w7 := by rw [hw7, ← hgf]; exact (Below.refl _ _).alloc (Nat.le_refl _) _
          have hk7 : Blk w7 gf 89 [.slice A5 K c5, .slice Ar (n + 1) cr, .slice Am (n + 1) cm] := by rw [hw7, ← hgf]; exact Blk.new w6 _ _
          have hs7 : w7.heap.size = gf + 1 := by rw [hw7, ← hgf]; simp
          have HF7 : Hid (FuR w7 gf C (fulR la) (fulM la C) A5 Ar Am c5 cr cm) := Lib.hid (by rw [hgf] at hF; exact hF.below hb7)
          have HK7 := Lib.hid hk7
          have HB7 : Hid (Below (g + 2) W0 w7) := Lib.hid (HB5.out.trans ((hb6.mono (by have := HS0.out; omega)).trans (hb7.mono (by have := HS0.out; omega))))
          have hbw7 : Below g w w7 := HB0.out.trans (HB7.out.mono (by omega))
          have hz1 := hgf
          have HGF := Lib.hid hgf
          have hgfg : g + 2 ≤ gf := by have := HS0.out; omega
          have hr7 := HR5.out.below (hb6.trans (hb7.mono (by omega)))
          have HFB := Lib.hid (full_any A' A5 n' c' K c5 lb C w7 w5.heap.size (by omega) (Sh.up (Sh.below H'.out (hbw7.mono hgB)) (by have := HBW5.out.size; omega)) HOK'.out HL'.out (by omega) hr7 HK.out hc1 hc2 (by omega) HNE.out)
          have z2 := (HK2.out.below (B := g + 2) HB7.out (by omega)).cell (i := 0) rfl
          have HBW7 := Lib.hid hbw7
          clear hF hb6 hb7 hk7 hbw7 hr7 HFA z1 hz1
          have z2A := z2
          rw [hw7] at z2A
          go_wp2_with fail
          rw [← hw7]
          clear hw7 hgf z2A
          refine HFB.out.mono ?_
          rintro e w8 ⟨Ar', Am', cr', cm', rfl, hF', hb8⟩
          have hz8 := hb8.size
          obtain ⟨gg, hgg⟩ : ∃ gg, w8.heap.size = gg := ⟨_, rfl⟩
          obtain ⟨w9, hw9⟩ : ∃ w9, w9 = w8.alloc (.cells #[.slice A5 K c5, .slice Ar' (n' + 1) cr', .slice Am' (n' + 1) cm'] 89) := ⟨_, rfl⟩
          have hb9 : Below gg w8 w9 := by rw [hw9, ← hgg]; exact (Below.refl _ _).alloc (Nat.le_refl _) _
          have hk9 : Blk w9 gg 89 [.slice A5 K c5, .slice Ar' (n' + 1) cr', .slice Am' (n' + 1) cm'] := by rw [hw9, ← hgg]; exact Blk.new w8 _ _
          have hs9 : w9.heap.size = gg + 1 := by rw [hw9, ← hgg]; simp
          have HF9' : Hid (FuR w9 gg C (fulR lb) (fulM lb C) A5 Ar' Am' c5 cr' cm') := Lib.hid (by rw [hgg] at hF'; exact hF'.below hb9)
          have hb79 : Below w7.heap.size w7 w9 := hb8.trans (hb9.mono (by omega))
          have HF9 : Hid (FuR w9 gf C (fulR la) (fulM la C) A5 Ar Am c5 cr cm) := Lib.hid (HF7.out.below (hb79.mono (by omega)))
          have HK9 := Lib.hid (HK7.out.below' hb79)
          have HK9' := Lib.hid hk9
          have HB9 : Hid (Below (g + 2) W0 w9) := Lib.hid (HB7.out.trans (hb79.mono (by omega)))
          have HBE := Lib.hid (begins_any A5 (.slice Ar (n + 1) cr) (.slice Am (n + 1) cm) c5 K C w9 gf (by omega) HF9.out.c HK.out hc1 hc2 hC2 (by omega))
          have z7 := HK9.out.cell (i := 0) rfl
          have z8 := HK9.out.cell (i := 1) rfl
          have z9 := HK9.out.cell (i := 2) rfl
          have HGG := Lib.hid hgg
          have hgfgg : gf + 1 ≤ gg := by omega
          clear hF' hb8 hb9 hk9 hb79 HFB z2 HK7 HF7
          have z7A := z7; have z8A := z8; have z9A := z9
          rw [hw9] at z7A z8A z9A
          go_wp2_with fail
          rw [← hw9]
          clear hw9 hgg z7A z8A z9A
          refine HBE.out.mono ?_
          rintro e w10 ⟨eb, eo, ce, E, rfl, hE1, hE2, hE3, hE4⟩
          have hz10 := hE1.bel.size
          obtain ⟨ec1, ec2, er, eb9⟩ := hE1
          obtain ⟨gt, hgt⟩ : ∃ gt, w10.heap.size = gt := ⟨_, rfl⟩
          rw [hgt] at hz10
          have HB10 : Hid (Below (g + 2) W0 w10) := Lib.hid (HB9.out.trans (eb9.mono (by have := HS0.out; omega)))
          have HF10 : Hid (FuR w10 gt C (fulR la) (fulM la C) A5 Ar Am c5 cr cm) := Lib.hid (FuR.more (HF9.out.below (eb9.mono (by omega))) (by omega))
          have HF10' : Hid (FuR w10 gt C (fulR lb) (fulM lb C) A5 Ar' Am' c5 cr' cm') := Lib.hid (FuR.more (HF9'.out.below (eb9.mono (by omega))) (by omega))
          have HK10 := Lib.hid (HK9.out.below' eb9)
          have HK10' := Lib.hid (HK9'.out.below' eb9)
          have HE10 : Hid (RdI w10 gt (some ⟨eb, eo, none⟩) E) := Lib.hid (by rw [hgt] at er; exact er)
          have HES := Lib.hid hE2
          obtain ⟨m, hm⟩ : ∃ m, E.length = m := ⟨_, rfl⟩
          rw [hm] at hE3 hE4 ec1
          rw [hm]
          have HEM := Lib.hid hm
          obtain ⟨w11, hw11⟩ : ∃ w11, w11 = w10.alloc (.cells #[.int .i64 0, .int .i64 0, .slice none 0 0] 93) := ⟨_, rfl⟩
          have hb11 : Below gt w10 w11 := by rw [hw11, ← hgt]; exact (Below.refl _ _).alloc (Nat.le_refl _) _
          have hk11 : Blk w11 gt 93 [.int .i64 0, .int .i64 0, .slice none 0 0] := by rw [hw11, ← hgt]; exact Blk.new w10 _ _
          have HB11 := Lib.hid hb11
          have HK11 := Lib.hid hk11
          have zg := ((HK1.out.below (B := g + 2) HB10.out (by omega)).below (B := gt) hb11 (by have := HS0.out; omega)).cell (i := 0) rfl
          have t0 := hk11.cell (i := 0) rfl
          have t1 := hk11.frozen 0
          have HT11 : Hid (OwT w11 gt (.slice (some ⟨gt, 0, none⟩) 1 1) [.slice none 0 0] [((0, 0), [])]) := Lib.hid (OwT.first hk11 (Nat.le_refl _))
          have HT11' : Hid (OwT (w11.setCell ⟨gt, 0, none⟩ (.int .i64 0)) gt (.slice (some ⟨gt, 0, none⟩) 1 1) [.slice none 0 0] [((0, 0), [])]) := Lib.hid (OwT.first (hk11.set_ 0 (.int .i64 0)) (Nat.le_refl _))
          have HB11' : Hid (Below gt w10 (w11.setCell ⟨gt, 0, none⟩ (.int .i64 0))) := Lib.hid (hb11.setCell (p := ⟨gt, 0, none⟩) (Nat.le_refl _) _)
          have hs11 : w11.heap.size = gt + 1 := by rw [hw11, ← hgt]; simp
          have HS11 := Lib.hid hs11
          have HGT := Lib.hid hgt
          have hgtg : gg + 1 ≤ gt := by omega
          have zgA := zg; have t0A := t0; have t1A := t1
          rw [hw11] at zgA t0A t1A
          clear hb11 hk11 hE2 er eb9 HBE z7 z8 z9 hm HF9 HF9' HK9 HK9' hs11
          go_upto_if 63 with (fail)
          rw [← hw11]
          clear hw11 hgt zgA t0A t1A
          go_cut [] from 64 (fun wx => Hid (OwT wx gt (.slice (some ⟨gt, 0, none⟩) 1 1) [.slice none 0 0] [((0, 0), [])]) ∧ Hid (Below gt w10 wx) ∧ Hid (gt < wx.heap.size))
          case first =>
            as_aux_lemma =>
              by_cases h0 : n = 0
              · have e0 : ((n : Int) == 0) = true := by simp [h0]
                clear h0
                go_wp2_with fail
                go_meet
                case rel => exact ⟨HT11'.out, HB11'.out, by rw [setCell_size, HS11.out]; exact Nat.lt_succ_self _⟩
              · have e0 : ((n : Int) == 0) = false := by simp; omega
                go_wp2_with fail
                go_meet
                case rel => exact ⟨HT11.out, HB11.out, by rw [HS11.out]; exact Nat.lt_succ_self _⟩
          case rest =>
            clear HT11 HT11' HB11 HB11' HK11 t0 t1 zg HS11
            obtain ⟨HT, HBX, HSX2⟩ := hcut
            go_wp2_with fail
            obtain ⟨st, hst⟩ : ∃ st, st = stP la lb := ⟨_, rfl⟩
            obtain ⟨ps, hps⟩ : ∃ ps, ps = (stretches E).filterMap fpt := ⟨_, rfl⟩
            obtain ⟨hit, hhit⟩ : ∃ hit, hit = hitD la lb rule := ⟨_, rfl⟩
            have HST := Lib.hid hst; have HPS := Lib.hid hps; have HHIT := Lib.hid hhit
            have HBD : Hid (∀ j, OkN n n' (stN st ps j)) := Lib.hid (fun j => by
              rw [hst]
              exact OkN.st (fun s p => by rw [← HL.out, ← HL'.out]; exact stP_le HOK.out HOK'.out s p) ps j)
            have hsq : (n + 1) * (n' + 1) ≤ 225 := Nat.le_trans (Nat.mul_le_mul (show n + 1 ≤ 15 by omega) (show n' + 1 ≤ 15 by omega)) (by decide)
            have HSQ := Lib.hid hsq
            clear hst hps hhit hsq
            go_loopw [16, 17] (fun v i wr => ∃ (j : Nat) (us : List Value), i = .int .i64 (j : Int) ∧ Hid (OwT wr gt v us (stN st ps j)) ∧ Hid (SrI st ps hit j) ∧ Hid (Below gt w10 wr) ∧ Hid (gt < wr.heap.size)) (fun _ i _ => 226 - (intOf i).toNat)
            case atStart => exact ⟨0, [.slice none 0 0], rfl, HT.out, SrI.start _ _ _, HBX.out, HSX2.out⟩
            case round =>
              as_aux_lemma =>
                clear HT HBX HSX2
                obtain ⟨j, us, rfl, HT, HSR, HBX, HSX2⟩ := hrel
                have hzx := HSX2.out
                obtain ⟨T, hT⟩ : ∃ T, T = stN st ps j := ⟨_, rfl⟩
                have hok := HBD.out j
                rw [← hT] at HT hok
                have hTl : T.length ≤ 225 := Nat.le_trans hok.len HSQ.out
                have HTE := Lib.hid hT
                have h0 : 0 < T.length := by have := HSR.out.lt; have h1 : (stN st ps j).length = T.length := by rw [hT]
                                             cases hc : T.length with
                                             | zero =>
                                               exfalso
                                               have hr := hok
                                               rw [hc] at h1
                                               cases j with
                                               | zero => rw [stN] at h1; simp at h1
                                               | succ j => omega
                                             | succ q => omega
                obtain ⟨gw, cw, rfl, hgw1, hgw2, hcw1, hcw2, hcell⟩ := HT.out.at_ h0
                have HCELL := Lib.hid hcell
                have HOKN := Lib.hid hok
                clear hcell hT hok h0
                by_cases hlt : j < T.length
                · as_aux_lemma =>
                    have d0 : decide (j < T.length) = true := decide_eq_true hlt
                    have hlt0 := hlt
                    have hnd := nthT_some hlt
                    have hndm := List.mem_of_getElem? hnd
                    have hway := stN_way st ps j
                    rw [← HTE.out] at hway
                    have hwl := hway _ hndm
                    have hbd := HOKN.out.bd _ hndm
                    have hHIT := HHIT.out
                    obtain ⟨Aw, cwy, c0, c1, c2, -, -, rwy⟩ := HCELL.out j hlt
                    have HNX := Lib.hid (fun e => HSR.out.next (n := nthT T j) (by rw [← HTE.out]; exact hnd) e)
                    have HYES := Lib.hid (fun e => HSR.out.yes (n := nthT T j) (by rw [← HTE.out]; exact hnd) e)
                    obtain ⟨nd, hnde⟩ : ∃ nd, nd = nthT T j := ⟨_, rfl⟩
                    rw [← hnde] at c0 c1 c2 rwy hwl hbd HNX HYES
                    have HNDE := Lib.hid hnde
                    obtain ⟨⟨x, y⟩, wy⟩ := nd
                    simp only at c0 c1 c2 rwy hwl hbd
                    obtain ⟨hxn, hyn⟩ := hbd
                    have hkf := HK10.out.below HBX.out (show gf < gt by omega)
                    have hkg := HK10'.out.below HBX.out (show gg < gt by omega)
                    have hfr := HF10.out.below HBX.out
                    have hfr' := HF10'.out.below HBX.out
                    have hsz : gt ≤ wr.heap.size := by omega
                    have HCON : Hid (∀ X : WB wr.heap.size wr, Calls Tryz.prog 42 #[.agg #[.slice A5 K c5, .slice Ar (n + 1) cr, .slice Am (n + 1) cm], .agg #[.slice A5 K c5, .slice Ar' (n' + 1) cr', .slice Am' (n' + 1) cm'], .agg #[.int .i64 (x : Int), .int .i64 (y : Int), .slice Aw wy.length cwy], .int .i64 rule] X.val fun e w' => e = .returned (.bool (hit (x, y))) ∧ Below X.val.heap.size X.val w') := Lib.hid (fun X => by
                      rw [hHIT]
                      exact hits_any A5 Ar Am A5 Ar' Am' Aw K c5 cr cm cr' cm' (n + 1) (n' + 1) wy.length cwy x y la lb rule X.val gt (by have := X.bel.size; omega) (hfr.below (X.bel.mono hsz)).r (hfr'.below (X.bel.mono hsz)).r (by rw [HL.out]; exact hxn) (by rw [HL'.out]; exact hyn) (by rw [HL.out]) (by rw [HL'.out]) (by rw [HL.out]; omega) (by rw [HL'.out]; omega))
                    have x0 : ∀ X : WB wr.heap.size wr, X.val.cell? ⟨gf, 0, none⟩ = some (.slice A5 K c5) := fun X => (X.bel.cell (p := ⟨gf, 0, none⟩) (by show gf < _; omega)).trans (hkf.cell (i := 0) rfl)
                    have x1 : ∀ X : WB wr.heap.size wr, X.val.cell? ⟨gf, 1, none⟩ = some (.slice Ar (n + 1) cr) := fun X => (X.bel.cell (p := ⟨gf, 1, none⟩) (by show gf < _; omega)).trans (hkf.cell (i := 1) rfl)
                    have x2 : ∀ X : WB wr.heap.size wr, X.val.cell? ⟨gf, 2, none⟩ = some (.slice Am (n + 1) cm) := fun X => (X.bel.cell (p := ⟨gf, 2, none⟩) (by show gf < _; omega)).trans (hkf.cell (i := 2) rfl)
                    have y0 : ∀ X : WB wr.heap.size wr, X.val.cell? ⟨gg, 0, none⟩ = some (.slice A5 K c5) := fun X => (X.bel.cell (p := ⟨gg, 0, none⟩) (by show gg < _; omega)).trans (hkg.cell (i := 0) rfl)
                    have y1 : ∀ X : WB wr.heap.size wr, X.val.cell? ⟨gg, 1, none⟩ = some (.slice Ar' (n' + 1) cr') := fun X => (X.bel.cell (p := ⟨gg, 1, none⟩) (by show gg < _; omega)).trans (hkg.cell (i := 1) rfl)
                    have y2 : ∀ X : WB wr.heap.size wr, X.val.cell? ⟨gg, 2, none⟩ = some (.slice Am' (n' + 1) cm') := fun X => (X.bel.cell (p := ⟨gg, 2, none⟩) (by show gg < _; omega)).trans (hkg.cell (i := 2) rfl)
                    have q0 : ∀ X : WB wr.heap.size wr, X.val.cell? ⟨gw, j * 3, none⟩ = some (.int .i64 (x : Int)) := fun X => (X.bel.cell (p := ⟨gw, j * 3, none⟩) (by show gw < _; omega)).trans c0
                    have q1 : ∀ X : WB wr.heap.size wr, X.val.cell? ⟨gw, j * 3 + 1, none⟩ = some (.int .i64 (y : Int)) := fun X => (X.bel.cell (p := ⟨gw, j * 3 + 1, none⟩) (by show gw < _; omega)).trans c1
                    have q2 : ∀ X : WB wr.heap.size wr, X.val.cell? ⟨gw, j * 3 + 2, none⟩ = some (.slice Aw wy.length cwy) := fun X => (X.bel.cell (p := ⟨gw, j * 3 + 2, none⟩) (by show gw < _; omega)).trans c2
                    have HRWY := Lib.hid rwy; have HWL := Lib.hid hwl
                    obtain ⟨hv, hhv⟩ : ∃ hv, hv = hit (x, y) := ⟨_, rfl⟩
                    rw [← hhv] at HCON
                    have HHV := Lib.hid hhv
                    clear hnd hndm hway hnde hkf hkg hfr hfr' c0 c1 c2 rwy hhv hHIT
                    go_wp2_with fail
                    refine wp_region_cls (B := wr.heap.size) (w0 := wr) (by kernel_rfl) (by kernel_rfl) (Below.refl _ _) ?_
                    repeat (first | go_big_quiet_skip | (go_big_quiet_want; go_big_quiet_op; go_big_quiet_on))
                    go_big_quiet_want
                    go_big_quiet_op
                    refine ⟨.bool hv, fun X => X.call (Nat.le_refl _) (HCON.out X), ?_⟩
                    go_big_quiet_on
                    repeat (first | go_big_quiet_skip | (go_big_quiet_want; go_big_quiet_op; go_big_quiet_on))
                    refine wpQuiet_nil ?_
                    intro X
                    obtain ⟨w2, hw2⟩ : ∃ w2, w2 = X.val := ⟨_, rfl⟩
                    have hb2 := X.bel
                    have q2 := q2 X
                    rw [← hw2] at hb2 q2 ⊢
                    clear x0 x1 x2 y0 y1 y2 q0 q1 hw2 X HCON
                    have hz2 := hb2.size
                    have HBX2 : Hid (Below gt w10 w2) := Lib.hid (HBX.out.trans (hb2.mono (by omega)))
                    have HT2 := Lib.hid (HT.out.ext hb2)
                    have HRWY2 := Lib.hid (RdI.more (RdI.below HRWY.out hb2) hz2)
                    have HBW2 : Hid (Below g w w2) := Lib.hid (HB0.out.trans ((HB10.out.mono (by omega)).trans (HBX2.out.mono (by omega))))
                    clear hb2 HBX HT HRWY
                    cases hv with
                    | true =>
                      as_aux_lemma =>
                        have HANS : Hid (AnsN (stP la lb) ((pts 0 1114112).filter vpt) (hitD la lb rule) (some wy)) := Lib.hid (by
                          rw [← HHIT.out]
                          refine doc_ans HP'.out HES.out ?_
                          rw [← HST.out, ← HPS.out]; exact HYES.out HHV.out.symm)
                        go_wp2_with fail
                        go_ret2
                        exact ⟨some wy, HANS.out, ⟨Aw, wy, cwy, rfl, HRWY2.out, rfl, by omega⟩, by rw [HG.out]; exact HBW2.out⟩
                    | false =>
                      as_aux_lemma =>
                        have HNX2 := Lib.hid (HNX.out HHV.out.symm)
                        go_wp2_with fail
                        obtain ⟨wo, rfl⟩ : ∃ wo : World, wo = w2 := ⟨_, rfl⟩
                        obtain ⟨nd, hnde⟩ : ∃ nd : Nd, nd = ((x, y), wy) := ⟨_, rfl⟩
                        have HND := Lib.hid hnde
                        clear hnde
                        go_loopg [16, 19] m (fun gk v i wr => ∃ (t : Nat) (us : List Value), i = .int .i64 (t : Int) ∧ t + 1 ≤ m ∧ gk = m - t ∧ Hid (OwT wr gt v us (rowT st nd (stretches E) t T)) ∧ Hid (Below gt w10 wr) ∧ Hid (gt < wr.heap.size))
                        case atStart => exact ⟨0, us, rfl, by omega, by omega, HT2.out, HBX2.out, Lib.hid (by omega)⟩
                        case round =>
                          as_aux_lemma =>
                            rename_i wr0
                            clear HT2 HBX2 HRWY2 HBW2 q2
                            obtain ⟨t, us, rfl, htm, hgk, HT, HBX, HSZ⟩ := hrel
                            have hzx := HSZ.out
                            obtain ⟨T', hT'⟩ : ∃ T', T' = rowT st nd (stretches E) t T := ⟨_, rfl⟩
                            rw [← hT'] at HT
                            have HTE' := Lib.hid hT'
                            have hjT : j < T'.length := by
                              have := rowT_len (st := st) (n := nd) (X := stretches E) (k := t) (T := T)
                              rw [hT']; omega
                            obtain ⟨gw', cw', rfl, hgw1', hgw2', hcw1', hcw2', hcell'⟩ := HT.out.at_ (by omega)
                            have HCELL' := Lib.hid hcell'
                            have HGK := Lib.hid hgk
                            clear hcell' hT' hgk
                            by_cases hlt : t + 1 < m
                            · as_aux_lemma =>
                                have d1 : decide ((t : Int) + 1 < (m : Int)) = true := decide_eq_true (by omega)
                                have htl : t + 1 < E.length := by rw [HEM.out]; exact hlt
                                have hs2 : t < (stretches E).length := by rw [stretches_len]; omega
                                have hsg := stretches_get E t htl hs2
                                have hmem := List.getElem_mem hs2
                                have hfp := doc_fpt HP'.out HES.out (List.mem_append_right _ (List.mem_singleton.2 rfl)) hmem
                                have hsm : (stretches E)[t]? = some (stretches E)[t] := List.getElem?_eq_getElem hs2
                                obtain ⟨htil, hdt⟩ := doc_tiles HP'.out HES.out
                                have hti := tiles_in htil _ hmem
                                have hisp := (hdt _ hmem _ (Int.le_refl _) hti.2.1).1
                                obtain ⟨ek, hek⟩ : ∃ ek, ek = nth E t := ⟨_, rfl⟩
                                have hek1 : ((stretches E)[t]).1 = ek := by rw [hsg, hek, nth_get (by omega)]
                                rw [hek1] at hfp hisp
                                have HNONE : Hid (55296 ≤ ek ∧ ek ≤ 57343 → rowT st nd (stretches E) (t + 1) T = T') := Lib.hid (fun q => by
                                  rw [if_pos q] at hfp
                                  rw [rowT_none hsm hfp, ← HTE'.out])
                                have HSOME : Hid (¬ (55296 ≤ ek ∧ ek ≤ 57343) → rowT st nd (stretches E) (t + 1) T = addN st nd T' ek) := Lib.hid (fun q => by
                                  rw [if_neg q] at hfp
                                  rw [rowT_some hsm hfp, ← HTE'.out])
                                have HISP := Lib.hid hisp
                                obtain ⟨eb', eo', e9, heb, hec⟩ := HE10.out.at_ (by rw [HEM.out]; omega)
                                simp only [Option.some.injEq, Addr.mk.injEq, and_true] at e9
                                obtain ⟨rfl, rfl⟩ := e9
                                have ze := (HBX.out.cell (p := ⟨eb, eo + t, none⟩) heb).trans (hec t (by omega))
                                rw [← hek] at ze
                                have hek2 : -1 ≤ ek ∧ ek ≤ 1114111 := by unfold isP at hisp; omega
                                obtain ⟨hek3, hek4⟩ := hek2
                                have HEB := Lib.hid heb
                                clear htl hs2 hsg hmem hfp hsm htil hdt hti hisp hek hek1 hec
                                obtain ⟨hf, hhf⟩ : ∃ hf, hf = (decide (55296 ≤ ek) && decide (ek ≤ 57343)) := ⟨_, rfl⟩
                                have HHF := Lib.hid hhf
                                clear hhf
                                obtain ⟨wa, hwa⟩ : ∃ wa : World, wa = wr := ⟨_, rfl⟩
                                go_upto_region 25 with (fail)
                                go_cut [105] from 87 to 161 (fun c wx => c = .bool hf ∧ wx = wr)
                                case first =>
                                  as_aux_lemma =>
                                    by_cases q1 : 55296 ≤ ek
                                    · by_cases q2 : ek ≤ 57343
                                      · have e1 : decide (55296 ≤ ek) = true := decide_eq_true q1
                                        have e2 : decide (ek ≤ 57343) = true := decide_eq_true q2
                                        have HV : Hid (hf = true) := Lib.hid (by rw [HHF.out, e1, e2]; rfl)
                                        go_wp2_with fail
                                        go_meet
                                        case rel => exact ⟨by rw [HV.out], rfl⟩
                                      · have e1 : decide (55296 ≤ ek) = true := decide_eq_true q1
                                        have e2 : decide (ek ≤ 57343) = false := decide_eq_false q2
                                        have HV : Hid (hf = false) := Lib.hid (by rw [HHF.out, e1, e2]; rfl)
                                        go_wp2_with fail
                                        go_meet
                                        case rel => exact ⟨by rw [HV.out], rfl⟩
                                    · have e1 : decide (55296 ≤ ek) = false := decide_eq_false q1
                                      have HV : Hid (hf = false) := Lib.hid (by rw [HHF.out, e1]; rfl)
                                      go_wp2_with fail
                                      go_meet
                                      case rel => exact ⟨by rw [HV.out], rfl⟩
                                case rest =>
                                  obtain ⟨rfl, rfl⟩ := hcut
                                  clear hwa
                                  cases hf with
                                  | true =>
                                    as_aux_lemma =>
                                      have hh : 55296 ≤ ek ∧ ek ≤ 57343 := by
                                        have := HHF.out
                                        simp only [Eq.comm (a := true), Bool.and_eq_true, decide_eq_true_eq] at this
                                        exact this
                                      have HN := Lib.hid (HNONE.out hh)
                                      clear hh
                                      go_wp2_with fail
                                      go_roundg (m - (t + 1))
                                      case rel => exact ⟨t + 1, us, by go_num, by omega, rfl, by rw [HN.out]; exact HT.out, HBX.out, HSZ.out⟩
                                      case measure => rw [HGK.out]; omega
                                  | false =>
                                    as_aux_lemma =>
                                      have hh : ¬ (55296 ≤ ek ∧ ek ≤ 57343) := fun q => by
                                        have := HHF.out
                                        rw [decide_eq_true q.1, decide_eq_true q.2] at this
                                        cases this
                                      have HS := Lib.hid (HSOME.out hh)
                                      clear hh
                                      go_wp2_with fail
                                      have hnd2 := HND.out
                                      have hTj : T'[j]? = some nd := by
                                        rw [HTE'.out, rowT_get hlt0, nthT_some hlt0, ← HNDE.out, hnd2]
                                      have hTn : nthT T' j = nd := by
                                        have := nthT_some hjT
                                        rw [hTj] at this
                                        cases this; rfl
                                      have hokT : OkN n n' T' := by
                                        rw [HTE'.out, HST.out]
                                        exact OkN.rowT (fun s p => by rw [← HL.out, ← HL'.out]; exact stP_le HOK.out HOK'.out s p) nd HOKN.out
                                      have hTl' : T'.length ≤ 225 := Nat.le_trans hokT.len HSQ.out
                                      obtain ⟨Aw', cwy', c0, c1, c2, -, -, rwy⟩ := HCELL'.out j hjT
                                      rw [hTn, hnd2] at c0 c1 c2 rwy
                                      simp only at c0 c1 c2 rwy
                                      have hCL := cls_joined HP'.out
                                      have hisp := HISP.out
                                      have hcl := hCL.1.lt ek hisp
                                      rw [HK.out] at hcl
                                      have hxa := hCL.1.co x ek hisp
                                      have hyb := hCL.2.co y ek hisp
                                      obtain ⟨cl, hcle⟩ : ∃ cl, cl = clsOf C ek := ⟨_, rfl⟩
                                      rw [← hcle] at hcl hxa hyb
                                      obtain ⟨xn, hxn'⟩ : ∃ xn, xn = dlt la x ek := ⟨_, rfl⟩
                                      obtain ⟨yn, hyn'⟩ : ∃ yn, yn = dlt lb y ek := ⟨_, rfl⟩
                                      rw [← hxn'] at hxa
                                      rw [← hyn'] at hyb
                                      have HSTN : Hid (st nd.1 ek = (xn, yn)) := Lib.hid (by rw [hnd2, HST.out]; unfold stP; rw [hxn', hyn'])
                                      have hfr := HF10.out.below HBX.out
                                      have hfr' := HF10'.out.below HBX.out
                                      have hfa := full_FuP HOK.out C
                                      have hfb := full_FuP HOK'.out C
                                      have hx1 : x < (fulM la C).length := by rw [hfa.ml, HL.out]; omega
                                      have hy1 : y < (fulM lb C).length := by rw [hfb.ml, HL'.out]; omega
                                      have hma := hfa.m x (by rw [HL.out]; omega)
                                      have hmb := hfb.m y (by rw [HL'.out]; omega)
                                      obtain ⟨rb, ro, rb', ro', rc', e7, hrb, hrb', r1, -, -, r2⟩ := hfr.m.at_ (k := x) (c := cl) hx1 (by rw [hma.1, HK.out]; exact hcl)
                                      obtain ⟨sb, so, sb', so', sc', e8, hsb, hsb', s1, -, -, s2⟩ := hfr'.m.at_ (k := y) (c := cl) hy1 (by rw [hmb.1, HK.out]; exact hcl)
                                      rw [hma.2 cl (by rw [HK.out]; exact hcl), ← hxa] at r2
                                      rw [hmb.2 cl (by rw [HK.out]; exact hcl), ← hyb] at s2
                                      rw [hma.1, HK.out] at r1
                                      rw [hmb.1, HK.out] at s1
                                      subst e7 e8
                                      have hkf := HK10.out.below HBX.out (show gf < gt by omega)
                                      have hkg := HK10'.out.below HBX.out (show gg < gt by omega)
                                      have hsz : gt ≤ wc.heap.size := by omega
                                      have HCON : Hid (∀ X : WB wc.heap.size wc, Calls Tryz.prog 43 #[.agg #[.slice A5 K c5, .slice Ar (n + 1) cr, .slice (some ⟨rb, ro, none⟩) (n + 1) cm], .int .i64 ek] X.val fun e w' => e = .returned (.int .i64 (cl : Int)) ∧ Below X.val.heap.size X.val w') := Lib.hid (fun X => by
                                        rw [hcle]
                                        exact classAt_any A5 (.slice Ar (n + 1) cr) (.slice (some ⟨rb, ro, none⟩) (n + 1) cm) c5 K (setsR la ++ setsR lb ++ [halv]) C ek X.val gt (by have := X.bel.size; omega) (hfr.below (X.bel.mono hsz)).c HK.out HP'.out hisp HCL.out (by omega))
                                      have x0 : ∀ X : WB wc.heap.size wc, X.val.cell? ⟨gf, 0, none⟩ = some (.slice A5 K c5) := fun X => (X.bel.cell (p := ⟨gf, 0, none⟩) (by show gf < _; omega)).trans (hkf.cell (i := 0) rfl)
                                      have x1 : ∀ X : WB wc.heap.size wc, X.val.cell? ⟨gf, 1, none⟩ = some (.slice Ar (n + 1) cr) := fun X => (X.bel.cell (p := ⟨gf, 1, none⟩) (by show gf < _; omega)).trans (hkf.cell (i := 1) rfl)
                                      have x2 : ∀ X : WB wc.heap.size wc, X.val.cell? ⟨gf, 2, none⟩ = some (.slice (some ⟨rb, ro, none⟩) (n + 1) cm) := fun X => (X.bel.cell (p := ⟨gf, 2, none⟩) (by show gf < _; omega)).trans (hkf.cell (i := 2) rfl)
                                      have x3 : ∀ X : WB wc.heap.size wc, X.val.cell? ⟨eb, eo + t, none⟩ = some (.int .i64 ek) := fun X => (X.bel.cell (p := ⟨eb, eo + t, none⟩) (by have := HEB.out; show eb < _; omega)).trans ze
                                      have HXN := Lib.hid hxn'; have HYN := Lib.hid hyn'; have HOT := Lib.hid hokT; have HRWY := Lib.hid rwy; have HHKF := Lib.hid hkf; have HHKG := Lib.hid hkg
                                      have HC0 := Lib.hid c0; have HC1 := Lib.hid c1; have HC2 := Lib.hid c2
                                      have HRR1 := Lib.hid r1; have HRR2 := Lib.hid r2; have HSS1 := Lib.hid s1; have HSS2 := Lib.hid s2
                                      have hxn2 : x < n + 1 := by omega
                                      have hyn2 : y < n' + 1 := by omega
                                      have hxnn : xn ≤ n := by rw [hxn', ← HL.out]; exact dlt_le HOK.out _ _
                                      have hynn : yn ≤ n' := by rw [hyn', ← HL'.out]; exact dlt_le HOK'.out _ _
                                      clear hnd2 hTj hTn hokT c0 c1 c2 rwy hCL hisp hxa hyb hcle hxn' hyn' hfr hfr' hfa hfb hx1 hy1 hma hmb r1 r2 s1 s2 hkf hkg
                                      refine wp_region_cls (B := wc.heap.size) (w0 := wc) (by kernel_rfl) (by kernel_rfl) (Below.refl _ _) ?_
                                      repeat (first | go_big_quiet_skip | (go_big_quiet_want; go_big_quiet_op; go_big_quiet_on))
                                      go_big_quiet_want
                                      go_big_quiet_op
                                      refine ⟨.int .i64 (cl : Int), fun X => X.call (Nat.le_refl _) (HCON.out X), ?_⟩
                                      go_big_quiet_on
                                      repeat (first | go_big_quiet_skip | (go_big_quiet_want; go_big_quiet_op; go_big_quiet_on))
                                      refine wpQuiet_nil ?_
                                      intro X
                                      obtain ⟨w3, hw3⟩ : ∃ w3, w3 = X.val := ⟨_, rfl⟩
                                      have hb3 := X.bel
                                      rw [← hw3] at hb3 ⊢
                                      clear x0 x1 x2 x3 hw3 X HCON
                                      have hz3 := hb3.size
                                      have f0 := (hb3.cell (p := ⟨gf, 2, none⟩) (by show gf < _; omega)).trans (HHKF.out.cell (i := 2) rfl)
                                      have f1 := (hb3.cell (p := ⟨gw', j * 3, none⟩) (by show gw' < _; omega)).trans HC0.out
                                      have f2 := (hb3.cell (p := ⟨rb, ro + x, none⟩) (by show rb < _; omega)).trans HRR1.out
                                      have f3 := (hb3.cell (p := ⟨rb', ro' + cl, none⟩) (by show rb' < _; omega)).trans HRR2.out
                                      have HB3 := Lib.hid hb3
                                      clear hb3
                                      go_wp2_with fail
                                      go_quiet (fail)
                                      obtain ⟨w4, hw4⟩ : ∃ w4, w4 = w3.drewN nq := ⟨_, rfl⟩
                                      rw [← hw4]
                                      have hb4 : Below w3.heap.size w3 w4 := by rw [hw4]; exact ⟨rfl, rfl, rfl, Nat.le_refl _, fun _ _ => rfl⟩
                                      have HB4 : Hid (Below wc.heap.size wc w4) := Lib.hid (HB3.out.trans (hb4.mono (by omega)))
                                      clear f0 f1 f2 f3 hw4 hb4
                                      have f0 := (HB4.out.cell (p := ⟨gg, 2, none⟩) (by show gg < _; omega)).trans (HHKG.out.cell (i := 2) rfl)
                                      have f1 := (HB4.out.cell (p := ⟨gw', j * 3 + 1, none⟩) (by show gw' < _; omega)).trans HC1.out
                                      have f2 := (HB4.out.cell (p := ⟨sb, so + y, none⟩) (by show sb < _; omega)).trans HSS1.out
                                      have f3 := (HB4.out.cell (p := ⟨sb', so' + cl, none⟩) (by show sb' < _; omega)).trans HSS2.out
                                      go_wp2_with fail
                                      go_quiet (fail)
                                      obtain ⟨w5, hw5⟩ : ∃ w5, w5 = w4.drewN nq := ⟨_, rfl⟩
                                      rw [← hw5]
                                      have hb5 : Below w4.heap.size w4 w5 := by rw [hw5]; exact ⟨rfl, rfl, rfl, Nat.le_refl _, fun _ _ => rfl⟩
                                      have hz4 := HB4.out.size
                                      have HB5 : Hid (Below wc.heap.size wc w5) := Lib.hid (HB4.out.trans (hb5.mono (by omega)))
                                      have hz5 := HB5.out.size
                                      have HT5 := Lib.hid (HT.out.ext HB5.out)
                                      have HBX5 : Hid (Below gt w10 w5) := Lib.hid (HBX.out.trans (HB5.out.mono (by omega)))
                                      have HSZ5 : Hid (gt < w5.heap.size) := Lib.hid (by omega)
                                      have g2 := (HB5.out.cell (p := ⟨gw', j * 3 + 2, none⟩) (by show gw' < _; omega)).trans HC2.out
                                      have g3 := (HB5.out.cell (p := ⟨eb, eo + t, none⟩) (by have := HEB.out; show eb < _; omega)).trans ze
                                      have HMET := Lib.hid (met_any gw' T'.length cw' T' xn yn w5 rfl (by omega) (fun k hk => by
                                        obtain ⟨A1, c1, h1, h2, -⟩ := HCELL'.out k hk
                                        exact ⟨(HB5.out.cell (p := ⟨gw', k * 3, none⟩) (by show gw' < _; omega)).trans h1, (HB5.out.cell (p := ⟨gw', k * 3 + 1, none⟩) (by show gw' < _; omega)).trans h2⟩))
                                      have HRW5 := Lib.hid (RdI.more (RdI.below HRWY.out HB5.out) hz5)
                                      clear f0 f1 f2 f3 hw5 hb5 HT HBX
                                      obtain ⟨mb2, hmb2⟩ : ∃ mb2, mb2 = metB T' (xn, yn) := ⟨_, rfl⟩
                                      rw [← hmb2] at HMET
                                      have HMB2 := Lib.hid hmb2
                                      clear hmb2
                                      go_wp2_with fail
                                      refine HMET.out.mono ?_
                                      rintro e w6 ⟨rfl, rfl⟩
                                      clear HMET
                                      cases mb2 with
                                      | true =>
                                        as_aux_lemma =>
                                          have HN : Hid (rowT st nd (stretches E) (t + 1) T = T') := Lib.hid (by
                                            rw [HS.out, addN_yes]
                                            rw [HSTN.out]
                                            have := HMB2.out
                                            unfold metB at this
                                            exact of_decide_eq_true this.symm)
                                          go_wp2_with fail
                                          go_roundg (m - (t + 1))
                                          case rel => exact ⟨t + 1, us, by go_num, by omega, rfl, by rw [HN.out]; exact HT5.out, HBX5.out, HSZ5.out⟩
                                          case measure => rw [HGK.out]; omega
                                      | false =>
                                        as_aux_lemma =>
                                          have HN : Hid (rowT st nd (stretches E) (t + 1) T = T' ++ [((xn, yn), wy ++ [ek])]) := Lib.hid (by
                                            rw [HS.out, addN_no]
                                            · rw [HSTN.out, HND.out]
                                            · rw [HSTN.out]
                                              have := HMB2.out
                                              unfold metB at this
                                              exact of_decide_eq_false this.symm)
                                          have hwl2 : wy.length ≤ 225 := by have := HWL.out; omega
                                          have hivl : (iv wy).length = wy.length := iv_len wy
                                          have HIV : Hid (iv (wy ++ [ek]) = iv wy ++ [.int .i64 ek]) := Lib.hid (by unfold iv; rw [List.map_append]; rfl)
                                          go_wp2_with (first
                                            | (at_builtin; refine wpList_app_rd elIn rfl (.tmp 141) (.tmp 146) rfl gt (.slice none 0 0) 0 wy.length cwy' w6.heap.size Aw' [] (iv wy) rfl (World.ownsRow_nil _ _ _ _) rfl (by rw [hivl, Nat.mul_one]) HRW5.out (iv_one wy) (by omega) (by omega) (by omega) ?_; intro v7 w7 hown7 hg7 hat7; have HOW7 := Lib.hid hown7; have HB7' : Hid (Below w6.heap.size w6 w7) := Lib.hid ((Below.refl _ _).grown hg7 (Nat.le_refl _) (fun k e => by simp [Value.ownBlock] at e)); have HAT7 := Lib.hid hat7; have hz7 := HB7'.out.size; have g3 := (HB7'.out.cell (p := ⟨eb, eo + t, none⟩) (by have := HEB.out; have := HSZ5.out; show eb < _; omega)).trans g3; clear hown7 hg7 hat7)
                                            | (at_builtin; refine wpList_app elIn rfl (.tmp 148) (.tmp 153) rfl gt v7 (0 + wy.length) 1 ([] ++ iv wy) [.int .i64 ek] rfl HOW7.out rfl rfl (by simp [Value.oneCell']) (by omega) (by omega) (by omega) ?_; intro v8 w8 hown8 hg8 hat8; have HOW8 := Lib.hid hown8; have HB8' : Hid (Below w6.heap.size w6 w8) := Lib.hid (HB7'.out.grown hg8 hz7 (fun k e => by rcases HAT7.out with q | q; (rw [q] at e; simp [Value.ownBlock] at e); (rw [q] at e; simp at e; omega))); have hz8' := HB8'.out.size; obtain ⟨A8, c8, rfl, -, -⟩ := own_len hown8; clear hown8 hg8 hat8)
                                            | (at_builtin; refine wpList_app elT rfl (.tmp 155) (.tmp 160) rfl gt _ T'.length 1 (twc T' us) [.int .i64 (xn : Int), .int .i64 (yn : Int), .slice A8 (wy.length + 1) c8] rfl (HT5.out.ext HB8'.out).row rfl rfl (by simp [Value.oneCell']) (by omega) (by omega) (by omega) ?_; intro v9 w9' hown9 hg9 hat9))
                                          go_roundg (m - (t + 1))
                                          case rel =>
                                            have hu8 := HOW8.out
                                            rw [Nat.zero_add, List.nil_append] at hu8
                                            refine ⟨t + 1, us ++ [.slice A8 (wy.length + 1) c8], by go_num, by omega, rfl, Lib.hid ?_, (HBX5.out.trans (HB8'.out.mono (by omega))).grown hg9 (by omega) (own_base (HT5.out.ext HB8'.out).row), Lib.hid ?_⟩
                                            · rw [HN.out]
                                              refine (HT5.out.ext HB8'.out).push hg9 (u := .slice A8 (wy.length + 1) c8) (n := ((xn, yn), wy ++ [ek])) ?_ hown9
                                              show World.ownsRow w8 gt 3 1 (.slice A8 (wy.length + 1) c8) (wy ++ [ek]).length (iv (wy ++ [ek]))
                                              rw [HIV.out, List.length_append, List.length_singleton]
                                              exact hu8
                                            · have := hg9.size; omega
                                          case measure => rw [HGK.out]; omega
                            · as_aux_lemma =>
                                have d1 : decide ((t : Int) + 1 < (m : Int)) = false := decide_eq_false (by omega)
                                have HTN : Hid (T' = stN st ps (j + 1)) := Lib.hid (by
                                  rw [HTE'.out, HPS.out]
                                  have h1 : t = (stretches E).length := by rw [stretches_len, HEM.out]; omega
                                  rw [h1]
                                  have h2 : (stN st ((stretches E).filterMap fpt) j)[j]? = some nd := by rw [← HPS.out, ← HTE.out, HND.out]; rw [nthT_some hlt0, HNDE.out]
                                  rw [HTE.out, HPS.out]
                                  exact rowT_done h2)
                                have hlt' : ¬ t + 1 < m := hlt
                                go_wp2_with fail
                                go_roundw
                                case rel => exact ⟨j + 1, us, by go_num, by rw [← HTN.out]; exact HT.out, HNX2.out, HBX.out, HSZ.out⟩
                                case measure => simp [intOf]; omega
                · as_aux_lemma =>
                    have d0 : decide (j < T.length) = false := decide_eq_false hlt
                    have HN := Lib.hid (HSR.out.none (by rw [← HTE.out]; exact hlt))
                    have HBW : Hid (Below g w wr) := Lib.hid (HB0.out.trans ((HB10.out.mono (by omega)).trans (HBX.out.mono (by omega))))
                    have HANS : Hid (AnsN (stP la lb) ((pts 0 1114112).filter vpt) (hitD la lb rule) none) := Lib.hid (by
                      rw [← HHIT.out]
                      refine doc_ans HP'.out HES.out ?_
                      rw [← HST.out, ← HPS.out]; exact HN.out)
                    go_wp2_with fail
                    go_ret2
                    exact ⟨none, HANS.out, ⟨none, [], 0, rfl, Rd.nil _ _ _, rfl, by simp⟩, by rw [HG.out]; exact HBW.out⟩
end Go.Proofs.YtkcpfpofimkkiaaGreatDoor
