/- points.Classes. · As Ret, but what comes ahead of the tail may come ahead of it by several steps. · auto.newAlphabet, walked. -/
import Derived.Test.YtkcpfpofimkkiaaGreatDoorQ24
import Derived.Test.YtkcpfpofimkkiaaGreatDoorQ21
import Derived.Test.YtkcpfpofimkkiaaGreatDoorQ18
import Derived.Test.YtkcpfpofimkkiaaGreatDoorQ22
import Derived.Test.YtkcpfpofimkkiaaGreatDoorQ25
import Derived.Test.YtkcpfpofimkkiaaGreatDoorQ26
namespace Go.Proofs.YtkcpfpofimkkiaaGreatDoor
open Go.RowKit BigFrame
set_option linter.unusedVariables false
set_option linter.unusedSimpArgs false
set_option maxRecDepth 100000

theorem fresh5 {v v5 u1 : Value} {vs : List Value} {s3 s4 g : Nat} (hat : v5.ownBlock = v.ownBlock ∨ v5.ownBlock = some (s4 + 1)) (h : (v.ownBlock ≠ some g ∧ ∀ (k : Nat) (t : Value), vs[k]? = some t → t.ownBlock ≠ some g) ∧ u1.ownBlock ≠ some g ∧ g < s3) (hs : s4 = s3 + 1) :
    v5.ownBlock ≠ some g ∧ ∀ (k : Nat) (t : Value), (vs ++ [u1])[k]? = some t → t.ownBlock ≠ some g := by
  refine ⟨?_, fun k t hk => ?_⟩
  · rcases hat with q | q
    · rw [q]; exact h.1.1
    · rw [q]; intro e; cases e; omega
  · by_cases q : k < vs.length
    · rw [List.getElem?_append_left q] at hk; exact h.1.2 k t hk
    · rw [List.getElem?_append_right (by omega)] at hk
      by_cases q2 : k = vs.length
      · subst q2; simp at hk; rw [← hk]; exact h.2.1
      · rw [List.getElem?_eq_none (by simp; omega)] at hk; cases hk
theorem kept5 {v u : Value} {X : Nat → Prop} (h : ∀ g, u.ownBlock = some g → (v.ownBlock ≠ some g ∧ X g)) : u.ownBlock = none ∨ u.ownBlock ≠ v.ownBlock := by
  cases hu : u.ownBlock with
  | none => exact .inl rfl
  | some g => exact .inr (fun e => (h g hu).1 e.symm)
theorem row5 {v : Value} {s3 : Nat} (h : ∀ g, v.ownBlock = some g → g < s3) : some s3 ≠ v.ownBlock := fun e => by have := h s3 e.symm; omega
theorem keepN_no {d : List Rg} (h : d.length = 0) : keepN d = [] := if_pos (List.eq_nil_of_length_eq_zero h)
theorem keepN_yes {d : List Rg} (h : 0 < d.length) : keepN d = [d] := if_neg fun e => by rw [e] at h; simp at h
theorem keepN_len {d : List Rg} : (keepN d).length ≤ 1 := by unfold keepN; split <;> simp

set_option maxHeartbeats 4000000 in
theorem classes_any (A : Option Addr) (n c : Nat) (S : List (List Rg)) (w : World) (B : Nat) (hB : B ≤ w.heap.size) (hr : RdS w B A S) (hl : S.length = n) (hn : n ≤ 160 ∧ totR S ≤ 160) (hs : ∀ s ∈ S, s.length ≤ 60) :
    Calls Tryz.prog 28 #[.slice A n c] w fun e w' => ∃ v vs R, e = .returned v ∧ Parted S R ∧ Below w.heap.size w w' ∧ R.length ≤ 4096 ∧ (∀ c ∈ R, c.length ≤ 330) ∧
      w'.ownsRow w.heap.size 36 1 v R.length vs ∧ vs.length = R.length ∧ (∀ k u, vs[k]? = some u → ∃ A c, u = .slice A (nthS R k).length c ∧ RdG w' w'.heap.size A (nthS R k)) := by
  have HR := Lib.hid hr; have HL := Lib.hid hl; have HS := Lib.hid hs
  have hbl1 := Blk.new w 62 [.int .i64 0, .int .i64 1114111]
  have hw1 : Below w.heap.size w (w.alloc (.cells #[.int .i64 0, .int .i64 1114111] 62)) := (Below.refl _ w).alloc (Nat.le_refl _) _
  have hw2 : Below w.heap.size w ((w.alloc (.cells #[.int .i64 0, .int .i64 1114111] 62)).alloc (.cells #[.slice (some ⟨w.heap.size, 0, none⟩) 1 1] 36)) := hw1.alloc (by simp) _
  have hsz1 : (w.alloc (.cells #[.int .i64 0, .int .i64 1114111] 62)).heap.size = w.heap.size + 1 := by simp
  have hcl : ClV ((w.alloc (.cells #[.int .i64 0, .int .i64 1114111] 62)).alloc (.cells #[.slice (some ⟨w.heap.size, 0, none⟩) 1 1] 36)) w.heap.size (.slice (some ⟨w.heap.size + 1, 0, none⟩) 1 1) [.slice (some ⟨w.heap.size, 0, none⟩) 1 1] [[(0, 1114111)]] := by
    refine ⟨rfl, ⟨rfl, .inr ⟨w.heap.size + 1, 1, #[.slice (some ⟨w.heap.size, 0, none⟩) 1 1], rfl, by omega, by rw [← hsz1]; exact heap_alloc_new _ _, Nat.le_refl _, by decide, rfl, rfl⟩⟩, fun k u hk => ?_, fun i k a b g hik hi hk hab => ?_, fun k u g hk hu => ?_⟩
    · have h0 : k = 0 := by have := (List.getElem?_eq_some_iff.1 hk).1; simp at this; omega
      subst h0
      simp at hk
      subst hk
      refine ⟨rfl, .inr ⟨w.heap.size, 1, #[.int .i64 0, .int .i64 1114111], rfl, Nat.le_refl _, ?_, Nat.le_refl _, by decide, rfl, rfl⟩⟩
      exact (Below.heap_alloc _ _ w.heap.size (by rw [hsz1]; omega)).trans hbl1
    · have h0 : i = 0 := by have := (List.getElem?_eq_some_iff.1 hi).1; simp at this; omega
      have h1 : k = 0 := by have := (List.getElem?_eq_some_iff.1 hk).1; simp at this; omega
      omega
    · have h0 : k = 0 := by have := (List.getElem?_eq_some_iff.1 hk).1; simp at this; omega
      subst h0
      simp at hk
      subst hk
      simp [Value.ownBlock] at hu ⊢
      omega
  have HW2 := Lib.hid hw2; have HCL := Lib.hid hcl
  clear hr hl hs hbl1 hw1 hw2 hcl
  go_enter Tryz.func28, Tryz.ntmps28
  go_wp2_with fail
  generalize (w.alloc (.cells #[.int .i64 0, .int .i64 1114111] 62)).alloc (.cells #[.slice (some ⟨w.heap.size, 0, none⟩) 1 1] 36) = w1 at *
  go_loopw [3, 16] (fun v i wr => ∃ (k : Nat) (vs : List Value) (R : List (List Rg)), k ≤ n ∧ i = .int .i64 (k : Int) ∧ Hid (ClV wr w.heap.size v vs R) ∧ Hid (Part (S.take k) R) ∧ Hid (0 < R.length ∧ R.length ≤ 400 ∧ ∀ c ∈ R, c.length ≤ 1 + (k + totR (S.take k))) ∧ Hid (Below w.heap.size w wr)) (fun _ i _ => n - (intOf i).toNat)
  case atStart => exact ⟨0, [.slice (some ⟨w.heap.size, 0, none⟩) 1 1], [[(0, 1114111)]], Nat.zero_le _, rfl, HCL.out, Part.start, ⟨by simp, by simp, fun c hc => by rw [List.mem_singleton] at hc; subst hc; simp⟩, HW2.out⟩
  case round =>
    as_aux_lemma =>
      clear HCL HW2
      obtain ⟨k, vs, R, hk, rfl, HV, HP, HN, HB⟩ := hrel
      have hsz := HB.out.size
      by_cases hlt : k < n
      · as_aux_lemma =>
          have hkl : k < S.length := by rw [HL.out]; exact hlt
          obtain ⟨sb, so, rfl, hsb, hsc⟩ := (HR.out.below (HB.out.mono hB)) (by omega)
          obtain ⟨As, cs, zs, q1, q2, hrd⟩ := hsc k hkl
          have htt : k + totR (S.take k) ≤ 320 := by have := totR_take_le S k; omega
          have htq : totR (S.take (k + 1)) = totR (S.take k) + (nthS S k).length := by rw [totR_take hkl, nthS_get hkl]
          have HTQ := Lib.hid htq
          clear htq
          have hsl : (nthS S k).length ≤ 60 := by rw [nthS_get hkl]; exact HS.out _ (List.getElem_mem hkl)
          have htk : S.take (k + 1) = S.take k ++ [nthS S k] := by rw [List.take_succ_eq_append_getElem hkl, nthS_get hkl]
          obtain ⟨g, cap, rfl, hvb, hg1, hg2, hg3, hg4, hfz, hel⟩ := HV.out.at_ HN.out.1
          have HTK := Lib.hid htk; have HRD := Lib.hid hrd; have HEL := Lib.hid hel; have HSL := Lib.hid hsl
          have hRl : R.length ≤ 4096 := Nat.le_trans HN.out.2.1 (by decide)
          unfold maxLen at hg4
          clear hsc hrd htk hel hfz hvb hsl
          generalize nthS S k = s at *
          obtain ⟨wo, rfl⟩ : ∃ wo : World, wo = wr := ⟨_, rfl⟩
          go_wp2_with fail
          go_loopw [6, 22] (fun v i wr => ∃ (j : Nat) (vs2 : List Value) (N : List (List Rg)), j ≤ R.length ∧ i = .int .i64 (j : Int) ∧ Hid (ClV wr wo.heap.size v vs2 N) ∧ Hid (Ref s (R.take j) N) ∧ Hid (N.length ≤ 2 * j ∧ ∀ c ∈ N, c.length ≤ 1 + (k + 1 + totR (S.take (k + 1)))) ∧ Hid (Below wo.heap.size wo wr)) (fun _ i _ => R.length - (intOf i).toNat)
          case atStart => exact ⟨0, [], [], Nat.zero_le _, rfl, ClV.nil _ _, Ref.start, ⟨Nat.zero_le _, fun c hc => (by cases hc)⟩, Below.refl _ _⟩
          case round =>
            as_aux_lemma =>
              obtain ⟨j, vs2, N, hj, rfl, HV2, HRF, HN2, HB2⟩ := hrel
              have hsz2 := HB2.out.size
              by_cases hjl : j < R.length
              · as_aux_lemma =>
                  obtain ⟨Ac, cc, hvj, zc, hoj, hc1, hc2, hrj⟩ := HEL.out j hjl
                  have z1 := (HB2.out.cell (p := ⟨g, j, none⟩) hg2).trans zc
                  have hclen := HN.out.2.2 _ (nthS_mem hjl)
                  have hrj2 := (hrj.below HB2.out).more hsz2
                  have hrs2 := (HRD.out.below (HB2.out.mono (Nat.le_trans hB hsz))).more (show B ≤ wr.heap.size by omega)
                  have hcan : ∀ p, inR (nthS R j) p = memR (nthS R j) p := fun p => by
                    obtain ⟨x, hx, kx⟩ := HP.out.each _ (nthS_mem hjl)
                    rw [kx.inR, kx.mem]
                  have htj : R.take (j + 1) = R.take j ++ [nthS R j] := by rw [List.take_succ_eq_append_getElem hjl, nthS_get hjl]
                  have hdis : ∀ x ∈ R.take j, Disj x (nthS R j) := fun x hx => by
                    obtain ⟨i, hi, rfl⟩ := List.getElem_of_mem hx
                    have hij : i < j := by simp at hi; omega
                    have := List.pairwise_iff_getElem.1 HP.out.dis i j (by omega) hjl hij
                    rw [List.getElem_take, nthS_get hjl]
                    exact this
                  have hM := meet_any Ac As (nthS R j).length cc s.length cs (nthS R j) s wr wr.heap.size wr.heap.size (Nat.le_refl _) (Nat.le_refl _) hrj2 rfl (by omega) hrs2 rfl (by have := HSL.out; omega)
                  have hL := fun (wx : World) (hb : Below wr.heap.size wr wx) => less_any Ac As (nthS R j).length cc s.length cs (nthS R j) s wx wx.heap.size (Nat.le_refl _) ((hrj2.below hb).more hb.size) rfl (by omega) ((hrs2.below hb).more hb.size) rfl (by have := HSL.out; omega)
                  have HM := Lib.hid hM; have HLS := Lib.hid hL; have HCAN := Lib.hid hcan; have HTJ := Lib.hid htj; have HDIS := Lib.hid hdis; have HCL := Lib.hid hclen
                  clear hM hL hcan htj hdis hrj hrj2 hrs2 hoj hvj zc hclen
                  generalize nthS R j = cl at *
                  go_wp2_with fail
                  refine HM.out.mono ?_
                  rintro e w2 ⟨u1, d1, rfl, o1, k1, b1, l1⟩
                  clear HM
                  have HLC := Lib.hid (HLS.out w2 b1)
                  have HO1 := Lib.hid o1; have HK1 := Lib.hid k1; have HB3 := Lib.hid b1; have HL1 := Lib.hid l1
                  clear HLS o1 k1 b1 l1
                  go_wp2_with fail
                  refine HLC.out.mono ?_
                  rintro e w3 ⟨u2, d2, rfl, o2, k2, b2, l2⟩
                  clear HLC
                  have HL2 := Lib.hid l2
                  have hb3 : Below wr.heap.size wr w3 := HB3.out.trans (b2.mono HB3.out.size)
                  have hs3 := b2.size; have hs2 := HB3.out.size
                  have hf1 : ∀ g, u1.ownBlock = some g → u6.ownBlock ≠ some g ∧ ∀ (k : Nat) (t : Value), vs2[k]? = some t → t.ownBlock ≠ some g := fun g hg => by
                    have h1 := (HO1.out.lt g hg).1
                    exact ⟨fun e => by have := (HV2.out.row.lt g e).2; omega, fun k t ht e => by have := ((HV2.out.cl k t ht).lt g e).2; omega⟩
                  have hf2 : ∀ g, u2.ownBlock = some g → (u6.ownBlock ≠ some g ∧ ∀ (k : Nat) (t : Value), vs2[k]? = some t → t.ownBlock ≠ some g) ∧ u1.ownBlock ≠ some g ∧ g < w3.heap.size := fun g hg => by
                    have h1 := (o2.lt g hg)
                    exact ⟨⟨fun e => by have := (HV2.out.row.lt g e).2; omega, fun k t ht e => by have := ((HV2.out.cl k t ht).lt g e).2; omega⟩, fun e => by have := (HO1.out.lt g e).2; omega, h1.2⟩
                  have hstep : Ref s (R.take (j + 1)) (N ++ keepN d1 ++ keepN d2) := by
                    rw [HTJ.out]
                    exact HRF.out.step HDIS.out (HK1.out.congr fun p => by rw [HCAN.out]) (k2.congr fun p => by rw [HCAN.out])
                  have hNl : N.length ≤ 8192 := by have := HN2.out.1; omega
                  obtain ⟨w4, hw4⟩ : ∃ w4, w4 = w3.alloc (.cells #[u1, u2] 36) := ⟨_, rfl⟩
                  have hb4 : Below w3.heap.size w3 w4 := by rw [hw4]; exact (Below.refl _ _).alloc (Nat.le_refl _) _
                  have hs4 : w4.heap.size = w3.heap.size + 1 := by rw [hw4]; simp
                  have hblk4 : Blk w4 w3.heap.size 36 [u1, u2] := by rw [hw4]; exact Blk.new _ _ _
                  have x1 : w4.cell? ⟨w3.heap.size, 0, none⟩ = some u1 := hblk4.cell rfl
                  have x2 : w4.cell? ⟨w3.heap.size, 1, none⟩ = some u2 := hblk4.cell rfl
                  have HV4 := Lib.hid ((HV2.out.ext hb3).ext hb4)
                  have HU1 := Lib.hid ((((HO1.out.ext b2).ext hb4).base (Nat.le_trans HB2.out.size (Nat.le_refl _))))
                  have HU2 := Lib.hid ((o2.ext hb4).base (show wo.heap.size ≤ w2.heap.size by omega))
                  have HB4 := Lib.hid (HB2.out.trans ((hb3.trans (hb4.mono (by omega))).mono hsz2))
                  have HRW := Lib.hid (show ∀ g, u6.ownBlock = some g → g < w3.heap.size from fun g hg => by have := (HV2.out.row.lt g hg).2; omega)
                  have HF1 := Lib.hid hf1; have HF2 := Lib.hid hf2; have HST := Lib.hid hstep
                  have hU : w3.heap.size < w4.heap.size := by omega
                  obtain ⟨A1, e1, rfl, p1, p2, -⟩ := HU1.out.form
                  obtain ⟨A2, e2, rfl, p3, p4, -⟩ := HU2.out.form
                  have HS4 := Lib.hid hs4
                  clear o2 k2 b2 l2 hf1 hf2 hstep hb3 hb4 hblk4 HRF HV2 HO1 HK1 HB3 z1
                  have hw4' := hw4
                  have HLL : Hid (d1.length ≤ 1 + (k + 1 + totR (S.take (k + 1))) ∧ d2.length ≤ 1 + (k + 1 + totR (S.take (k + 1)))) := Lib.hid ⟨by have h1 := HL1.out; have h2 := HCL.out; have h3 := HTQ.out; omega, by have h1 := HL2.out; have h2 := HCL.out; have h3 := HTQ.out; omega⟩
                  clear HL1 HL2 HCL hw4
                  rcases Nat.eq_zero_or_pos d1.length with n1 | n1
                  · as_aux_lemma =>
                      have n1' : ¬ 0 < d1.length := by omega
                      have KD1 := Lib.hid (keepN_no n1)
                      clear n1
                      rcases Nat.eq_zero_or_pos d2.length with n2 | n2
                      · as_aux_lemma =>
                          have n2' : ¬ 0 < d2.length := by omega
                          have KD2 := Lib.hid (keepN_no n2)
                          clear n2
                          go_wp2_with fail
                          rw [← hw4']
                          clear hw4'
                          refine wp_loop_rounds 3 ?_
                          rw [rounds_succ]
                          go_wp2_with fail
                          rw [rounds_succ]
                          go_wp2_with fail
                          rw [rounds_succ]
                          go_wp2_with fail
                          go_roundw
                          case rel =>
                            have hst := HST.out
                            rw [KD1.out, KD2.out] at hst
                            simp only [List.append_nil] at hst
                            refine ⟨j + 1, _, _, by omega, by go_num, HV4, Lib.hid hst, Lib.hid ⟨by have h1 := HN2.out.1; simp; omega, fun c hc => ?_⟩, HB4⟩
                            exact HN2.out.2 c hc
                          case measure => simp [intOf]; omega
                      · as_aux_lemma =>
                          have KD2 := Lib.hid (keepN_yes n2)
                          go_wp2_with fail
                          rw [← hw4']
                          clear hw4'
                          refine wp_loop_rounds 3 ?_
                          rw [rounds_succ]
                          go_wp2_with fail
                          rw [rounds_succ]
                          have HF2b := Lib.hid (fun g hg => (HF2.out g hg).1)
                          go_wp2_with (at_builtin; refine wpList_app elRow rfl (.tmp 41) (.tmp 43) rfl wo.heap.size _ (N.length) 1 vs2 [.slice A2 d2.length e2] rfl (HV4.out.row) (by rw [HS4.out]; rfl) rfl (by simp [Value.oneCell']) (by omega) (by omega) HB4.out.size ?_; intro v6 w6 hown6 hg6 hat6; have HV6 := Lib.hid (HV4.out.push hg6 HU2.out HF2b.out (hown6) hat6); have HB6 := Lib.hid (HB4.out.grown hg6 HB4.out.size (fun k e => own_base HV4.out.row k e)); clear hown6 hg6 hat6)
                          rw [rounds_succ]
                          go_wp2_with fail
                          go_roundw
                          case rel =>
                            have hst := HST.out
                            rw [KD1.out, KD2.out] at hst
                            simp only [List.append_nil] at hst
                            refine ⟨j + 1, _, _, by omega, by go_num, HV6, Lib.hid hst, Lib.hid ⟨by have h1 := HN2.out.1; simp; omega, fun c hc => ?_⟩, HB6⟩
                            simp only [List.mem_append, List.mem_singleton] at hc
                            rcases hc with q | rfl
                            · exact HN2.out.2 c q
                            · exact HLL.out.2
                          case measure => simp [intOf]; omega
                  · as_aux_lemma =>
                      have KD1 := Lib.hid (keepN_yes n1)
                      rcases Nat.eq_zero_or_pos d2.length with n2 | n2
                      · as_aux_lemma =>
                          have n2' : ¬ 0 < d2.length := by omega
                          have KD2 := Lib.hid (keepN_no n2)
                          clear n2
                          go_wp2_with fail
                          rw [← hw4']
                          clear hw4'
                          refine wp_loop_rounds 3 ?_
                          rw [rounds_succ]
                          go_wp2_with (at_builtin; refine wpList_app elRow rfl (.tmp 41) (.tmp 43) rfl wo.heap.size _ N.length 1 vs2 [.slice A1 d1.length e1] rfl HV4.out.row (by rw [HS4.out]; rfl) rfl (by simp [Value.oneCell']) (by omega) (by omega) HB4.out.size ?_; intro v5 w5 hown5 hg5 hat5; have HV5 := Lib.hid (HV4.out.push hg5 HU1.out HF1.out hown5 hat5); have HB5 := Lib.hid (HB4.out.grown hg5 HB4.out.size (fun k e => own_base HV4.out.row k e)); have HF5 := Lib.hid (show ∀ g, (Value.slice A2 d2.length e2).ownBlock = some g → v5.ownBlock ≠ some g ∧ ∀ (k : Nat) (t : Value), (vs2 ++ [Value.slice A1 d1.length e1])[k]? = some t → t.ownBlock ≠ some g from fun g hg => fresh5 hat5 (HF2.out g hg) HS4.out); have HU5 := Lib.hid (World.ownsRow.kept HU2.out hg5 (kept5 fun g hg => ⟨(HF2.out g hg).1.1, trivial⟩)); have x2 := (World.cell?_of_block (a := ⟨w3.heap.size, 1, none⟩) (hg5.block w3.heap.size hU (row5 HRW.out))).trans x2; have hU5 := Nat.lt_of_lt_of_le hU hg5.size; clear hown5 hg5 hat5)
                          rw [rounds_succ]
                          go_wp2_with fail
                          rw [rounds_succ]
                          go_wp2_with fail
                          go_roundw
                          case rel =>
                            have hst := HST.out
                            rw [KD1.out, KD2.out] at hst
                            simp only [List.append_nil] at hst
                            refine ⟨j + 1, _, _, by omega, by go_num, HV5, Lib.hid hst, Lib.hid ⟨by have h1 := HN2.out.1; simp; omega, fun c hc => ?_⟩, HB5⟩
                            simp only [List.mem_append, List.mem_singleton] at hc
                            rcases hc with q | rfl
                            · exact HN2.out.2 c q
                            · exact HLL.out.1
                          case measure => simp [intOf]; omega
                      · as_aux_lemma =>
                          have KD2 := Lib.hid (keepN_yes n2)
                          go_wp2_with fail
                          rw [← hw4']
                          clear hw4'
                          refine wp_loop_rounds 3 ?_
                          rw [rounds_succ]
                          go_wp2_with (at_builtin; refine wpList_app elRow rfl (.tmp 41) (.tmp 43) rfl wo.heap.size _ N.length 1 vs2 [.slice A1 d1.length e1] rfl HV4.out.row (by rw [HS4.out]; rfl) rfl (by simp [Value.oneCell']) (by omega) (by omega) HB4.out.size ?_; intro v5 w5 hown5 hg5 hat5; have HV5 := Lib.hid (HV4.out.push hg5 HU1.out HF1.out hown5 hat5); have HB5 := Lib.hid (HB4.out.grown hg5 HB4.out.size (fun k e => own_base HV4.out.row k e)); have HF5 := Lib.hid (show ∀ g, (Value.slice A2 d2.length e2).ownBlock = some g → v5.ownBlock ≠ some g ∧ ∀ (k : Nat) (t : Value), (vs2 ++ [Value.slice A1 d1.length e1])[k]? = some t → t.ownBlock ≠ some g from fun g hg => fresh5 hat5 (HF2.out g hg) HS4.out); have HU5 := Lib.hid (World.ownsRow.kept HU2.out hg5 (kept5 fun g hg => ⟨(HF2.out g hg).1.1, trivial⟩)); have x2 := (World.cell?_of_block (a := ⟨w3.heap.size, 1, none⟩) (hg5.block w3.heap.size hU (row5 HRW.out))).trans x2; have hU5 := Nat.lt_of_lt_of_le hU hg5.size; clear hown5 hg5 hat5)
                          rw [rounds_succ]
                          go_wp2_with (at_builtin; refine wpList_app elRow rfl (.tmp 41) (.tmp 43) rfl wo.heap.size _ (N.length + 1) 1 (vs2 ++ [.slice A1 d1.length e1]) [.slice A2 d2.length e2] rfl (by have := HV5.out.row; rw [List.length_append] at this; exact this) rfl rfl (by simp [Value.oneCell']) (by omega) (by omega) HB5.out.size ?_; intro v6 w6 hown6 hg6 hat6; have HV6 := Lib.hid (HV5.out.push hg6 HU5.out HF5.out (by rw [List.length_append]; exact hown6) hat6); have HB6 := Lib.hid (HB5.out.grown hg6 HB5.out.size (fun k e => own_base HV5.out.row k e)); clear hown6 hg6 hat6)
                          rw [rounds_succ]
                          go_wp2_with fail
                          go_roundw
                          case rel =>
                            have hst := HST.out
                            rw [KD1.out, KD2.out] at hst
                            refine ⟨j + 1, _, _, by omega, by go_num, HV6, Lib.hid hst, Lib.hid ⟨by have h1 := HN2.out.1; simp; omega, fun c hc => ?_⟩, HB6⟩
                            simp only [List.mem_append, List.mem_singleton] at hc
                            rcases hc with (q | rfl) | rfl
                            · exact HN2.out.2 c q
                            · exact HLL.out.1
                            · exact HLL.out.2
                          case measure => simp [intOf]; omega
              · as_aux_lemma =>
                  have hjR : j = R.length := by omega
                  have hrf := HRF.out
                  rw [List.take_of_length_le (by omega)] at hrf
                  have hpn := HP.out.next hrf
                  rw [← HTK.out] at hpn
                  have HPN := Lib.hid hpn
                  have hne : 0 < N.length := by
                    obtain ⟨d, hd, _⟩ := hpn.all 0 (by decide)
                    cases N with
                    | nil => cases hd
                    | cons a l => simp
                  have HNE := Lib.hid hne
                  clear hrf hpn hne
                  go_wp2_with fail
                  go_roundw
                  case rel => exact ⟨k + 1, _, N, by omega, by go_num, HV2.out.base hsz, HPN, ⟨HNE.out, by have h1 := part_len HPN.out; have h2 := totR_take_le S (k + 1); omega, HN2.out.2⟩, HB.out.trans (HB2.out.mono hsz)⟩
                  case measure => simp [intOf]; omega
      · as_aux_lemma =>
          have hRl : R.length ≤ 4096 := Nat.le_trans HN.out.2.1 (by decide)
          have htk : S.take k = S := List.take_of_length_le (by rw [HL.out]; omega)
          rw [htk] at HP
          have hbd : ∀ c ∈ R, 0 < c.length ∧ 0 ≤ fstR c ∧ fstR c ≤ 1114111 := fun c hc => by
            obtain ⟨x, hx, hm⟩ := (HP.out.each c hc).self
            obtain ⟨_, _, kc⟩ := HP.out.each c hc
            have h1 := can_ne hm
            have h2 := (fst_mem kc.can h1).1
            have h3 := CanF.le kc.can h2
            exact ⟨List.length_pos_iff.2 h1, h3.1, h3.2⟩
          have HSO := Lib.hid (fun (wx : World) (hb : Below wr.heap.size wr wx) => sortRows_any w.heap.size _ vs R wx (HV.out.ext hb) HN.out.1 (by omega) hbd)
          clear hbd htk hRl
          go_wp2_with fail
          refine (HSO.out wr (Below.refl _ _)).mono ?_
          rintro e w2 ⟨rfl, vs2, R2, hpm, hpw, hb2, hrow, hln, hcl⟩
          have HPM := Lib.hid hpm; have HPT := Lib.hid (HP.out.sorted hpm hpw); have HB2 := Lib.hid (HB.out.trans (hb2.mono (Nat.le_refl _)))
          have HRW := Lib.hid hrow; have HLN := Lib.hid hln; have HCL2 := Lib.hid hcl
          clear hpm hpw hb2 hrow hln hcl HSO
          go_wp2_with fail
          go_ret
          have hl2 : R2.length = R.length := HPM.out.length_eq
          have hRl : R.length ≤ 4096 := Nat.le_trans HN.out.2.1 (by decide)
          exact ⟨_, vs2, R2, rfl, HPT.out, HB2.out, by omega, fun c hc => by have h1 := HN.out.2.2 c (HPM.out.mem_iff.1 hc); have h2 := totR_take_le S k; omega, HRW.out, HLN.out, HCL2.out⟩
end Go.Proofs.YtkcpfpofimkkiaaGreatDoor
namespace Go.Proofs.YtkcpfpofimkkiaaGreatDoor
open Go
set_option linter.unusedVariables false
set_option linter.unusedSimpArgs false

section
variable {P : Program} {ops : Array Oper} {md : Region.Mode} {Q : Exit → Act → World → Prop} {S : World → Prop} {t z : Nat}
/-- What is listed has all listed that it comes after. -/
def DownL (md : Region.Mode) (ops : Array Oper) (listed : Array Bool) : Prop := ∀ (j : Nat) (o : Oper), ops[j]? = some o → listed.getD j false = true → ∀ e ∈ o.after, Region.binds md e = true → listed.getD e.on false = true
theorem downL_start : DownL md ops (Array.replicate ops.size false) := fun j o hj h => by
  rw [getD_replicate_false] at h; cases h
theorem DownL.set_ {listed : Array Bool} {i : Nat} (h : DownL md ops listed) (hi : i ∈ Region.ready md ops listed) : DownL md ops (listed.setIfInBounds i true) := fun j o hj hl e he hb => by
  obtain ⟨hun, oi, hoi, hall⟩ := mem_ready.1 hi
  by_cases q2 : i = e.on
  · subst q2
    unfold Array.getD at hun ⊢
    simp only [Array.size_setIfInBounds]
    split at hun
    · rename_i hsz
      simp [hsz]
    · cases hun
  · rw [getD_set_ne false q2]
    by_cases q : i = j
    · subst q
      rw [hoi] at hj; cases hj
      exact hall e he hb
    · rw [getD_set_ne false q] at hl
      exact h j o hj hl e he hb
/-- Operation i comes ahead of operation z, by n steps at most. -/
def ancB (md : Region.Mode) (ops : Array Oper) (i : Nat) : Nat → Nat → Bool
  | 0, _ => false
  | n + 1, z => match ops[z]? with
    | some o => o.after.toList.any fun e => Region.binds md e && (e.on == i || ancB md ops i n e.on)
    | none => false
theorem anc_listed {i : Nat} {listed : Array Bool} (hd : DownL md ops listed) : ∀ (n z : Nat), ancB md ops i n z = true → listed.getD z false = true → listed.getD i false = true
  | 0, _, h, _ => by cases h
  | n + 1, z, h, hl => by
    unfold ancB at h
    split at h
    · rename_i o ho
      simp only [List.any_eq_true, Bool.and_eq_true, Bool.or_eq_true, beq_iff_eq] at h
      obtain ⟨e, he, hb, q⟩ := h
      have he2 := hd z o ho hl e (Array.mem_toList_iff.1 he) hb
      rcases q with q | q
      · rw [← q]; exact he2
      · exact anc_listed hd n e.on q he2
    · cases h
theorem anc_not {n i j : Nat} {listed : Array Bool} (hd : DownL md ops listed) (hz : ancB md ops i n z = true) (hi : i ∈ Region.ready md ops listed) (hj : j ∈ Region.ready md ops listed) : j ≠ z := by
  rintro rfl
  obtain ⟨hjun, oj, hoj, hall⟩ := mem_ready.1 hj
  obtain ⟨hun, oi, hoi, _⟩ := mem_ready.1 hi
  have hf := getD_both hun
  cases n with
  | zero => cases hz
  | succ n =>
    unfold ancB at hz
    rw [hoj] at hz
    simp only [List.any_eq_true, Bool.and_eq_true, Bool.or_eq_true, beq_iff_eq] at hz
    obtain ⟨e, he, hb, q⟩ := hz
    have he2 := hall e (Array.mem_toList_iff.1 he) hb
    rcases q with q | q
    · rw [q, hf] at he2; cases he2
    · have := anc_listed hd n e.on q he2
      rw [hf] at this; cases this
theorem firstD {N i : Nat} {oi : Oper} {v : Value} (hz : ancB md ops i N z = true) (hi : ops[i]? = some oi) (hsel : ∀ (j : Nat) (o : Oper) cs b, ops[j]? = some o → o.op ≠ .select cs b)
    (hQ : ∀ c a d v w, Q (.panic c) (a.put d v) w → Q (.panic c) a w) :
    ∀ (f : Nat) (listed : Array Bool) (a : Act) (w : World), DownL md ops listed →
      (∀ j oj, ops[j]? = some oj → j ≠ i → listed.getD j true = false → (∀ e ∈ oj.after, Region.binds md e = true → e.on ≠ i) → oi.apart ops oj = true) →
      i ∈ Region.ready md ops listed → YieldsIf P ops S oi v a → S w →
      wpAnyT P md ops Q S t z f (listed.setIfInBounds i true) (a.put oi.dst v) w → wpAnyT P md ops Q S t z (f + 1) listed a w := by
  intro f
  induction f with
  | zero =>
    intro listed a w hd _ hr hy hS H
    refine ⟨fun h => (by rw [h] at hr; cases hr), fun j hj => ?_⟩
    by_cases hji : j = i
    · subst hji; exact hy.wpOp hi hS ⟨hS, H⟩
    · exact absurd (H.1 j (ready_mono hj hji)) (anc_not hd hz hr hj)
  | succ f ih =>
    intro listed a w hd hfree hr hy hS H
    have hun := (mem_ready.1 hr).1
    refine ⟨fun h => (by rw [h] at hr; cases hr), fun j hj => ?_⟩
    by_cases hji : j = i
    · subst hji; exact hy.wpOp hi hS ⟨hS, H⟩
    · obtain ⟨hjun, oj, hoj, hall⟩ := mem_ready.1 hj
      have hno : ∀ e ∈ oj.after, Region.binds md e = true → e.on ≠ i := fun e he hb q => by
        have := hall e he hb
        rw [q, getD_both hun] at this
        cases this
      have h2 := wpOp_putIf hoj (hfree j oj hoj hji hjun hno) (fun cs b => hsel i oi cs b hi) (fun cs b => hsel j oj cs b hoj) (fun c a w q => hQ c a _ _ w q) hy (H.2 j (ready_mono hj hji))
      refine wpOp_mono (fun a' w' h3 => ⟨h3.2.1, ih (listed.setIfInBounds j true) a' w' (hd.set_ hj) (fun k ok hk hki hku hkn => hfree k ok hk hki ?_ hkn) (ready_mono hr (Ne.symm hji)) h3.1 h3.2.1 ?_⟩) h2
      · by_cases q : j = k
        · subst q; exact hjun
        · rw [getD_set_ne true q] at hku; exact hku
      · rw [Array.setIfInBounds_comm _ _ hji]; exact h3.2.2
theorem batchD {K : Act → Prop} {w : World} {N g : Nat} (hsel : Region.noSelect ops = true) (hQ : ∀ c a d v w, Q (.panic c) (a.put d v) w → Q (.panic c) a w) (hS : S w) :
    ∀ (l : List Oper) (k : Nat) (listed : Array Bool) (a : Act), DownL md ops listed → (∀ j, j < l.length → ancB md ops (k + j) N z = true) → (∀ j, j < l.length → l[j]? = ops[k + j]?) → lexS md ops l.length k listed = true → l.all readB = true →
    (∀ a', K a' → DownL md ops (setsB l.length k listed) → wpAnyT P md ops Q S t z g (setsB l.length k listed) a' w) → wpQuiet P ops S K l a → wpAnyT P md ops Q S t z (g + l.length) listed a w
  | [], k, listed, a, hd, _, _, _, _, hK, h => hK a h hd
  | o :: l, k, listed, a, hd, hz, hl, hB, hR, hK, h => by
    have h0 : ops[k]? = some o := by simpa using (hl 0 (by simp)).symm
    simp only [List.length_cons, lexS, Bool.and_eq_true] at hB
    simp only [List.all_cons, Bool.and_eq_true] at hR
    obtain ⟨⟨hr, hf⟩, hB2⟩ := hB
    have hr2 : k ∈ Region.ready md ops listed := by simpa using hr
    have hz0 : ancB md ops k N z = true := by simpa using hz 0 (by simp)
    have key : ∀ (v : Value), YieldsIf P ops S o v a → wpQuiet P ops S K l (a.put o.dst v) → wpAnyT P md ops Q S t z (g + (l.length + 1)) listed a w := fun v hy h2 =>
      firstD hz0 h0 (Region.noSelect_spec hsel) hQ (g + l.length) listed a w hd (Region.free_spec h0 hf) hr2 hy hS
        (batchD hsel hQ hS l (k + 1) _ _ (hd.set_ hr2) (fun j hj => by have := hz (j + 1) (by simp; omega); rwa [show k + (j + 1) = k + 1 + j by omega] at this) (fun j hj => by have := hl (j + 1) (by simp; omega); simpa [Nat.add_assoc, Nat.add_comm 1 j] using this) hB2 hR.2 hK h2)
    unfold wpQuiet at h
    split at h
    · rename_i hw
      obtain ⟨v, h1, h2⟩ := h
      exact key v (yieldsIf_of_quiet hR.1 hw h1) h2
    · rename_i hw
      exact key undef (.inr ⟨by simpa using hw, rfl⟩) h
/-- The walk, as long as what is listed has all listed that it comes after. -/
def wpAnyD (P : Program) (md : Region.Mode) (ops : Array Oper) (Q : Exit → Act → World → Prop) (S : World → Prop) (t z f : Nat) (listed : Array Bool) (a : Act) (w : World) : Prop :=
  DownL md ops listed → wpAnyT P md ops Q S t z f listed a w
/-- The operations from k on, n of them, that only answer values. -/
theorem takeD {w : World} {l : List Oper} {a : Act} {listed : Array Bool} (g k n : Nat) (hB : (Region.noSelect l.toArray && lexS md l.toArray n k listed && decide (k + n ≤ l.length) && (List.range n).all (fun j => ancB md l.toArray (k + j) 8 z)) = true) (hR : ((l.drop k).take n).all readB = true)
    (hQ : ∀ c a d v w, Q (.panic c) (a.put d v) w → Q (.panic c) a w) (hS : S w) (h : wpQuiet P l.toArray S (fun a' => wpAnyD P md l.toArray Q S t z g (setsB n k listed) a' w) ((l.drop k).take n) a) : wpAnyD P md l.toArray Q S t z (g + n) listed a w := fun hd => by
  simp only [Bool.and_eq_true, decide_eq_true_eq, List.all_eq_true, List.mem_range] at hB
  obtain ⟨⟨⟨hsel, hlex⟩, hkn⟩, hz⟩ := hB
  have hlen : ((l.drop k).take n).length = n := by simp; omega
  have := batchD (md := md) (N := 8) (g := g) hsel hQ hS ((l.drop k).take n) k listed a hd (fun j hj => hz j (by rw [hlen] at hj; exact hj)) (fun j hj => by
    rw [hlen] at hj
    simp [List.getElem?_take, hj]) (by rw [hlen]; exact hlex) hR (fun a' ha hd' => by rw [hlen] at hd' ⊢; exact ha hd') h
  rwa [hlen] at this
/-- One operation alone may come. -/
theorem oneD {w : World} {l : List Oper} {a : Act} {listed : Array Bool} (f i : Nat) (hB : decide (Region.ready md l.toArray listed = [i]) = true) (hi : i < l.length)
    (h : wpList P l.toArray (Exit.then (fun a' w' => S w' ∧ wpAnyD P md l.toArray Q S t z f (listed.setIfInBounds i true) a' w') Q) ((l.drop i).take 1) a w) : wpAnyD P md l.toArray Q S t z (f + 1) listed a w := fun hd => by
  have hr := of_decide_eq_true hB
  refine ⟨by rw [hr]; simp, fun j hj => ?_⟩
  have hd2 := hd.set_ hj
  rw [hr, List.mem_singleton] at hj
  subst hj
  have hop : l.toArray[j]? = some (l[j]'hi) := by simp
  refine wpOp_mono (K := fun a' w' => S w' ∧ wpAnyD P md l.toArray Q S t z f (listed.setIfInBounds j true) a' w') (fun a' w' h3 => ⟨h3.1, h3.2 hd2⟩) (wpOp_of_list hop ?_)
  have h1 : (l.drop j).take 1 = [l[j]'hi] := by rw [List.drop_eq_getElem_cons hi]; rfl
  rw [← h1]
  exact h
/-- One of two may come. -/
theorem twoD {w : World} {l : List Oper} {a : Act} {listed : Array Bool} (f i j : Nat) (hB : decide (Region.ready md l.toArray listed = [i, j]) = true) (hi : i < l.length) (hj : j < l.length)
    (h : wpList P l.toArray (Exit.then (fun a' w' => S w' ∧ wpAnyD P md l.toArray Q S t z f (listed.setIfInBounds i true) a' w') Q) ((l.drop i).take 1) a w)
    (h' : wpList P l.toArray (Exit.then (fun a' w' => S w' ∧ wpAnyD P md l.toArray Q S t z f (listed.setIfInBounds j true) a' w') Q) ((l.drop j).take 1) a w) : wpAnyD P md l.toArray Q S t z (f + 1) listed a w := fun hd => by
  have hr := of_decide_eq_true hB
  refine ⟨by rw [hr]; simp, fun k hk => ?_⟩
  have hd2 := hd.set_ hk
  rw [hr] at hk
  simp only [List.mem_cons, List.not_mem_nil, or_false] at hk
  rcases hk with rfl | rfl
  · have hop : l.toArray[k]? = some (l[k]'hi) := by simp
    refine wpOp_mono (K := fun a' w' => S w' ∧ wpAnyD P md l.toArray Q S t z f (listed.setIfInBounds k true) a' w') (fun a' w' h3 => ⟨h3.1, h3.2 hd2⟩) (wpOp_of_list hop ?_)
    have h1 : (l.drop k).take 1 = [l[k]'hi] := by rw [List.drop_eq_getElem_cons hi]; rfl
    rw [← h1]
    exact h
  · have hop : l.toArray[k]? = some (l[k]'hj) := by simp
    refine wpOp_mono (K := fun a' w' => S w' ∧ wpAnyD P md l.toArray Q S t z f (listed.setIfInBounds k true) a' w') (fun a' w' h3 => ⟨h3.1, h3.2 hd2⟩) (wpOp_of_list hop ?_)
    have h1 : (l.drop k).take 1 = [l[k]'hj] := by rw [List.drop_eq_getElem_cons hj]; rfl
    rw [← h1]
    exact h'
/-- The tail, from z on, in the order of the text. -/
theorem endD {w : World} {l : List Oper} {a : Act} {listed : Array Bool} (hB : (decide (Region.ready md l.toArray listed = [z]) && Region.seqB md l.toArray (l.drop z).length z listed && decide ((l.drop z).length = t)) = true)
    (h : wpList P l.toArray Q (l.drop z) a w) : wpAnyD P md l.toArray Q S t z 0 listed a w := fun _ => endT hB h
theorem wp_region_D {id : Nat} {a : Act} {w : World} {l : List Oper} (S : World → Prop) (t z : Nat) (hm : P.follows .mixedOrders = true) (f : Nat) (hf : f + t = l.toArray.size) (h : wpAnyD P .any l.toArray Q S t z f (Array.replicate l.toArray.size false) a w.drew) : (Code.region id l.toArray true).wp P Q a w :=
  wp_region_T S t z hm f hf (h downL_start)
end
end Go.Proofs.YtkcpfpofimkkiaaGreatDoor
namespace Go.Proofs.YtkcpfpofimkkiaaGreatDoor
open Go.RowKit BigFrame
set_option linter.unusedVariables false
set_option linter.unusedSimpArgs false
set_option maxRecDepth 100000

theorem parted_len {S R : List (List Rg)} (h : Parted S R) : R.length ≤ 2 + 2 * totR S := by
  obtain ⟨E, h1, h2, h3⟩ := edges_all S
  have nd : (R.map fstR).Nodup := by
    unfold List.Nodup
    rw [List.pairwise_map]
    exact h.asc.imp fun q => by omega
  have := len_le_of_sub nd (b := E) (fun x hx => by
    obtain ⟨c, hc, rfl⟩ := List.mem_map.1 hx
    exact fst_edge (h.each c hc) h1 h2)
  rw [List.length_map] at this
  omega
theorem alph_ne {w : World} {gx b o : Nat} {n lo hi : Int} (h : Blk w gx 39 [.slice none 0 0, .slice none 0 0, .int .i64 n]) (h1 : w.cell? ⟨b, o + 0 * 2, none⟩ = some (.int .i64 lo)) (h2 : w.cell? ⟨b, o + 0 * 2 + 1, none⟩ = some (.int .i64 hi)) : b ≠ gx := by
  rintro rfl
  rw [cell_of_row w b _ _ 39 (0, 0) h] at h1 h2
  rw [Nat.zero_mul, Nat.add_zero] at h1 h2
  match o with
  | 0 => simp at h1
  | 1 => simp at h1
  | 2 => simp at h2
  | o + 3 => simp at h1
/-- An alphabet as the program hands it on. -/
structure Alph (S C : List (List Rg)) (X : List Rg) (Y : List Int) : Prop where
  p : Parted S C
  a : AlP C X Y
  c : Cover 0 1114111 X
  one : ∀ r ∈ X, ∀ p, r.1 ≤ p → p ≤ r.2 → clsOf C p = clsOf C r.1
  k : C.length ≤ 322
  sz : X.length ≤ 106260
  pos : 0 < C.length

set_option maxHeartbeats 8000000 in
theorem newAlphabet_own (A : Option Addr) (n c : Nat) (S : List (List Rg)) (w : World) (B : Nat) (hB : B ≤ w.heap.size) (hr : RdS w B A S) (hl : S.length = n) (hn : n ≤ 160 ∧ totR S ≤ 160) (hs : ∀ s ∈ S, s.length ≤ 60) :
    Calls Tryz.prog 13 #[.slice A n c] w fun e w' => ∃ C X Y Ax cx Ay cy, e = .returned (.agg #[.slice Ax X.length cx, .slice Ay X.length cy, .int .i64 (C.length : Int)]) ∧ Alph S C X Y ∧ X.length ≤ cx ∧ cx ≤ maxLen ∧ X.length ≤ cy ∧ cy ≤ maxLen ∧
      OwG w' w.heap.size (.slice Ax X.length cx) X ∧ w'.ownsRow w.heap.size 3 1 (.slice Ay X.length cy) Y.length (iv Y) ∧ Below w.heap.size w w' := by
  obtain ⟨W0, hW0⟩ : ∃ W0, W0 = (w.alloc (.cells #[.slice none 0 0, .slice none 0 0, .int .i64 0] 39)).alloc (.cells #[.slice none 0 0, .slice none 0 0, .int .i64 0] 39) := ⟨_, rfl⟩
  obtain ⟨g, hg⟩ : ∃ g, w.heap.size = g := ⟨_, rfl⟩
  have hs0 : W0.heap.size = g + 1 + 1 := by rw [hW0, ← hg]; simp
  have hb0 : Below g w W0 := by rw [hW0, ← hg]; exact ((Below.refl _ _).alloc (Nat.le_refl _) _).alloc (by simp) _
  have hkr : Blk W0 g 39 [.slice none 0 0, .slice none 0 0, .int .i64 0] := by
    rw [hW0, ← hg]
    exact (Blk.new w 39 [.slice none 0 0, .slice none 0 0, .int .i64 0]).alloc _
  have hkx : Blk W0 (g + 1) 39 [.slice none 0 0, .slice none 0 0, .int .i64 0] := by
    have := Blk.new (w.alloc (.cells #[.slice none 0 0, .slice none 0 0, .int .i64 0] 39)) 39 [.slice none 0 0, .slice none 0 0, .int .i64 0]
    rw [show (w.alloc (.cells #[.slice none 0 0, .slice none 0 0, .int .i64 0] 39)).heap.size = g + 1 by rw [← hg]; simp] at this
    rw [hW0]; exact this
  have HC := Lib.hid (classes_any A n c S W0 B (by omega) (hr.below (hb0.mono (by omega))) hl hn hs)
  have HB0 := Lib.hid hb0; have HG := Lib.hid hg; have HS0 := Lib.hid hs0; have HKR := Lib.hid hkr; have HKX := Lib.hid hkx
  have hNS := Lib.hid hn
  clear hr hs hn hb0 hs0 hkr hkx hl
  go_enter Tryz.func13, Tryz.ntmps13
  go_wp2_with fail
  rw [← hW0]
  clear hW0 hg
  refine HC.out.mono ?_
  clear HC
  rintro e w1 ⟨v, vs, C, rfl, hP, hb1, -, hC2, hown, hvl, hcl⟩
  obtain ⟨K, hK⟩ : ∃ K, K = C.length := ⟨_, rfl⟩
  obtain ⟨Av, cv, rfl, hv1, hv2, hvr⟩ := own_form hown
  have hK322 : K ≤ 322 := by rw [hK]; have := parted_len hP; have := hNS.out; omega
  have hsz1 := hb1.size
  have hz0 := HS0.out
  have hkx1 := HKX.out.below hb1 (by omega)
  have HKR1 := Lib.hid (HKR.out.below hb1 (by omega))
  have HA0 : Hid (Al w1 w1 (g + 1) (.slice none 0 0) (.slice none 0 0) ((0 : Nat) : Int) (gath C 0 0) []) := Lib.hid ⟨Kp.refl _ _, hkx1, OwG.nil _ _, World.ownsRow_nil _ _ _ _, by omega⟩
  have HRNG : Hid (∀ (c : Nat) (A' : Option Addr), c < K → RdG w1 w1.heap.size A' (nthS C c) → ∃ b o, A' = some ⟨b, o, none⟩ ∧ b < w1.heap.size ∧ b ≠ g + 1 ∧ ∀ k, k < (nthS C c).length → w1.cell? ⟨b, o + k * 2, none⟩ = some (.int .i64 (nthR (nthS C c) k).1) ∧ w1.cell? ⟨b, o + k * 2 + 1, none⟩ = some (.int .i64 (nthR (nthS C c) k).2)) := Lib.hid (fun c A' hc h => by
    have h0 := hP.ne (by rw [← hK]; exact hc)
    obtain ⟨b, o, rfl, hb, hcs⟩ := h.at_ h0
    exact ⟨b, o, rfl, hb, alph_ne hkx1 (hcs 0 h0).1 (hcs 0 h0).2, hcs⟩)
  have HROW : Hid (∀ c, c < K → ∃ b o A' c', Av = some ⟨b, o, none⟩ ∧ b < w1.heap.size ∧ b ≠ g + 1 ∧ w1.cell? ⟨b, o + c, none⟩ = some (.slice A' (nthS C c).length c') ∧ RdG w1 w1.heap.size A' (nthS C c)) := Lib.hid (fun c hc => by
    have hc' : c < vs.length := by omega
    obtain ⟨b, o, rfl, hb, hcs⟩ := hvr (fun e => by rw [e] at hc'; simp at hc')
    obtain ⟨A', c', e, h⟩ := hcl c _ (List.getElem?_eq_getElem hc')
    have hlo := (hown.lt b rfl).1
    exact ⟨b, o, A', c', rfl, hb, by omega, by rw [← e]; exact hcs c _ (List.getElem?_eq_getElem hc'), h⟩)
  have HP := Lib.hid hP; have HK := Lib.hid hK; have HB1 := Lib.hid (HB0.out.trans (hb1.mono (by omega)))
  have HC2 := Lib.hid hC2
  rw [← hK]
  clear hP hK hb1 hown hvl hcl hvr hkx1 hC2
  unfold maxLen at hv2
  go_wp2_with fail
  go_loopw [16] (fun ix wr => ∃ (c : Nat) (vx vy : Value) (Y : List Int), c ≤ K ∧ ix = .int .i64 (c : Int) ∧ Hid (Al w1 wr (g + 1) vx vy (c : Int) (gath C c 0) Y) ∧ Hid (AlI C c 0 (gath C c 0) Y)) (fun ix _ => K - (intOf ix).toNat)
  case atStart => exact ⟨0, _, _, _, Nat.zero_le _, rfl, HA0, Lib.hid AlI.start⟩
  case round =>
    as_aux_lemma =>
      clear HA0
      obtain ⟨c, vx, vy, Y, hc, rfl, HA, HI⟩ := hrel
      by_cases hlt : c < K
      · as_aux_lemma =>
          have d1 : decide ((c : Int) < (K : Int)) = true := decide_eq_true (by omega)
          obtain ⟨b, o, A', c', rfl, hb, hbn, hcc, hrg⟩ := HROW.out c hlt
          obtain ⟨b2, o2, rfl, hb2, hbn2, hcs⟩ := HRNG.out c A' hlt hrg
          have y0 := (HA.out.kp.cell (p := ⟨b, o + c, none⟩) hb hbn).trans hcc
          have hCl : c < C.length := by rw [← HK.out]; exact hlt
          have hm0 := HP.out.ne hCl
          have hm2 : (nthS C c).length ≤ 330 := by rw [nthS_get hCl]; exact HC2.out _ (List.getElem_mem hCl)
          obtain ⟨m, hm⟩ : ∃ m, m = (nthS C c).length := ⟨_, rfl⟩
          have hgn := gath_next hCl
          rw [← hm] at y0 hm0 hm2 hgn
          have HM := Lib.hid hm; have HCS := Lib.hid hcs; have HGN := Lib.hid hgn
          clear hm hcs hgn hcc hrg
          go_wp2_with fail
          obtain ⟨wo, rfl⟩ : ∃ wo : World, wo = wr := ⟨_, rfl⟩
          go_loopw [23] (fun jx wr => ∃ (j : Nat) (vx vy : Value) (Y : List Int), j ≤ m ∧ jx = .int .i64 (j : Int) ∧ Hid (Al w1 wr (g + 1) vx vy (c : Int) (gath C c j) Y) ∧ Hid (AlI C c j (gath C c j) Y)) (fun jx _ => m - (intOf jx).toNat)
          case atStart => exact ⟨0, _, _, _, Nat.zero_le _, rfl, HA, HI⟩
          case round =>
            as_aux_lemma =>
              clear HA HI y0
              obtain ⟨j, vx, vy, Y, hj, rfl, HA, HI⟩ := hrel
              by_cases hjm : j < m
              · as_aux_lemma =>
                  have d2 : decide ((j : Int) < (m : Int)) = true := decide_eq_true (by omega)
                  obtain ⟨u1, u2⟩ := HCS.out j (by rw [← HM.out]; exact hjm)
                  have u1 := (HA.out.kp.cell (p := ⟨b2, o2 + j * 2, none⟩) hb2 hbn2).trans u1
                  have u2 := (HA.out.kp.cell (p := ⟨b2, o2 + j * 2 + 1, none⟩) hb2 hbn2).trans u2
                  have hI2 := HI.out.push hCl (by rw [← HM.out]; exact hjm)
                  have hgp := gath_push (C := C) (c := c) (j := j) (by rw [← HM.out]; exact hjm)
                  obtain ⟨xr, hxr⟩ : ∃ xr, xr = nthR (nthS C c) j := ⟨_, rfl⟩
                  rw [← hxr] at u1 u2 hgp hI2
                  rw [← hgp] at hI2
                  have hXl := HI.out.size
                  have hYb : Y.length ≤ 106260 := by have := HI.out.len; omega
                  obtain ⟨lo, hi⟩ := xr
                  simp only at u1 u2
                  have HI2 := Lib.hid hI2; have HGP := Lib.hid hgp
                  have HA1 := Lib.hid (HA.out.ext ((Below.refl _ _).alloc (Nat.le_refl _) (.cells #[.int .i64 lo, .int .i64 hi] 62)))
                  have hs1 : (wr.alloc (.cells #[.int .i64 lo, .int .i64 hi] 62)).heap.size = wr.heap.size + 1 := by simp
                  have z0 := HA1.out.kd.cell (i := 0) rfl
                  have HS1 := Lib.hid hs1
                  obtain ⟨X, hX⟩ : ∃ X, X = gath C c j := ⟨_, rfl⟩
                  have hcj : c * 330 + j ≤ 106590 := by omega
                  rw [← hX] at HA1 HGP hXl
                  have HX := Lib.hid hX
                  clear hI2 hgp hxr hs1 HA HI hX
                  go_upto_region 9 with (at_builtin; go_must (refine wpList_app elRg rfl (.tmp 28) (.tmp 30) rfl w1.heap.size vx X.length 1 (rv X) [.int .i64 lo, .int .i64 hi] rfl HA1.out.x (by rw [HS1.out]; rfl) rfl (by simp [Value.oneCell']) (by omega) (by omega) HA1.out.le ?_); intro v5 w5 hown5 hg5 hat5; go_must (obtain ⟨A5, c5, rfl, -, -⟩ := own_len hown5); have hkd5 := HA1.out.keptX hg5; have e0 := hkd5.cell (i := 0) rfl; have e1 := hkd5.frozen 0; have HA2 := Lib.hid (HA1.out.pushX (r := (lo, hi)) hg5 (OwG.snoc hown5 rfl)); clear hown5 hg5 hat5 hkd5)
                  obtain ⟨w6, hw6⟩ : ∃ w6, w6 = w5.setCell ⟨g + 1, 0, none⟩ (.slice A5 (X.length + 1) c5) := ⟨_, rfl⟩
                  rw [← hw6] at HA2 ⊢
                  clear hw6 e0 e1
                  have z1 := HA2.out.kd.cell (i := 1) rfl
                  go_wp2_with (at_builtin; go_must (refine wpList_app elIn rfl (.tmp 34) (.tmp 36) rfl w1.heap.size vy Y.length 1 (iv Y) [.int .i64 (c : Int)] rfl HA2.out.y rfl rfl (by simp [Value.oneCell']) (by omega) (by omega) HA2.out.le ?_); intro v7 w7 hown7 hg7 hat7; go_must (obtain ⟨A7, c7, rfl, -, -⟩ := own_len hown7); have hkd7 := HA2.out.keptY hg7; have e2 := hkd7.cell (i := 1) rfl; have e3 := hkd7.frozen 1; have HA3 := Lib.hid (HA2.out.pushY hg7 hown7); clear hown7 hg7 hat7 hkd7)
                  go_roundw
                  case rel => exact ⟨j + 1, _, _, _, by omega, by go_num, Lib.hid (by rw [HGP.out]; exact HA3.out), HI2⟩
                  case measure => simp [intOf]; omega
              · as_aux_lemma =>
                  have d2 : decide ((j : Int) < (m : Int)) = false := decide_eq_false (by omega)
                  have ejm : j = m := by omega
                  rw [ejm, HGN.out] at HA HI
                  have HI2 := Lib.hid (HI.out.next hm0 hm2)
                  have HA2 := Lib.hid (HA.out.num ((c : Int) + 1))
                  have z2 := HA.out.kd.cell (i := 2) rfl
                  have e2 := HA.out.kd.frozen 2
                  clear ejm HA HI
                  go_wp2_with fail
                  go_roundw
                  case rel => exact ⟨c + 1, _, _, _, by omega, by go_num, HA2, HI2⟩
                  case measure => simp [intOf]; omega
      · as_aux_lemma =>
          have d1 : decide ((c : Int) < (K : Int)) = false := decide_eq_false (by omega)
          have ec : c = C.length := by rw [← HK.out]; omega
          have hI2 := HI.out
          have hA2 := HA.out
          rw [ec, gath_done] at hI2
          rw [ec, gath_done, ← HK.out] at hA2
          have HAL := Lib.hid (hI2.done HP.out)
          have hpos := HP.out.pos
          have hsz := hI2.size
          obtain ⟨X, hX⟩ : ∃ X, X = C.flatten := ⟨_, rfl⟩
          rw [← hX] at HAL hA2 hpos hsz
          have HX := Lib.hid hX
          obtain ⟨P, hPl⟩ : ∃ P, P = X.length := ⟨_, rfl⟩
          obtain ⟨Ax, cx, rfl, hx1, hx2, hxr⟩ := hA2.x.form
          have hya := own_rd hA2.y
          obtain ⟨Ay, cy, rfl, hy1, hy2, hyr⟩ := hya
          have hYl : Y.length = P := by rw [HAL.out.len, hPl]
          rw [hYl] at hA2
          rw [← hPl] at hA2 hpos hsz hx1
          rw [hYl] at hy1
          obtain ⟨xb, xo, rfl, hxb, hxc⟩ := hxr.at_ (by rw [← hPl]; exact hpos)
          obtain ⟨yb, yo, rfl, hyb, hyc⟩ := hyr.at_ (by rw [hYl]; exact hpos)
          have hC322 : C.length ≤ 322 := by rw [← HK.out]; exact hK322
          have hP644 : P ≤ 106260 := by omega
          have HXC := Lib.hid hxc; have HYC := Lib.hid hyc; have HPL := Lib.hid hPl; have HYL := Lib.hid hYl
          have hxg : xb ≠ g + 1 := by have := (World.ownsRow.lt hA2.x xb rfl).1; have := hA2.lt; omega
          have hyg : yb ≠ g + 1 := by have := (hA2.y.lt yb rfl).1; have := hA2.lt; omega
          have z0 := hA2.kd.cell (i := 0) rfl
          have z1 := hA2.kd.cell (i := 1) rfl
          have z2 := hA2.kd.cell (i := 2) rfl
          have hmk := fun w => mk_ints (n := P) (by omega) w
          unfold maxLen at hx2 hy2
          rw [← HK.out] at hsz
          have HAA := Lib.hid hA2
          have HPOS := Lib.hid hpos
          clear HA HI hI2 hX hPl hYl hxc hyc hyr hxr hA2 ec hsz hpos
          go_wp2_with fail
          --REST
          obtain ⟨wo, rfl⟩ : ∃ wo : World, wo = wr := ⟨_, rfl⟩
          obtain ⟨gb, hgb⟩ : ∃ gb, gb = wo.heap.size := ⟨_, rfl⟩
          obtain ⟨wm, hwm⟩ : ∃ wm, wm = wo.alloc (.cells (zs (.int .i64 0) P) 3) := ⟨_, rfl⟩
          have hsm : wm.heap.size = gb + 1 := by rw [hwm, hgb]; simp
          have hbm : Below gb wo wm := by rw [hwm, hgb]; exact (Below.refl _ _).alloc (Nat.le_refl _) _
          have hblk : Blk wm gb 3 (iv (List.replicate P 0)) := by rw [hwm, hgb, ← iv_rep]; exact Blk.made wo 3 (.int .i64 0) P
          rw [← hwm, ← hgb]
          have HBM := Lib.hid hbm; have HBK := Lib.hid hblk; have HGB := Lib.hid hgb
          have hgx : g + 1 < gb := by have := HAA.out.lt; have := HAA.out.le; omega
          have hxgb : xb < gb := by omega
          have hygb : yb < gb := by omega
          clear hwm hbm hblk z0 z1 z2 hmk hgb hxb hyb
          go_loopw [50] (fun jx wr => ∃ (j : Nat) (L : List Int), j ≤ P ∧ jx = .int .i64 (j : Int) ∧ Hid (Kp (fun q => q = gb) wm wr) ∧ Hid (Blk wr gb 3 (iv L)) ∧ Hid (L.length = P ∧ ∀ t, t < j → nth L t = (t : Int))) (fun jx _ => P - (intOf jx).toNat)
          case atStart => exact ⟨0, _, Nat.zero_le _, rfl, Kp.refl _ _, HBK.out, List.length_replicate, fun t h => absurd h (by omega)⟩
          case round =>
            as_aux_lemma =>
              clear HBK
              obtain ⟨j, L, hj, rfl, HKP, HBL, HL⟩ := hrel
              by_cases hjP : j < P
              · as_aux_lemma =>
                  have dj : decide ((j : Int) < (P : Int)) = true := decide_eq_true (by omega)
                  have y1 := HBL.out.icell (k := j) (by rw [HL.out.1]; exact hjP)
                  have y2 := HBL.out.frozen j
                  have HL2 : Hid ((L.set j (j : Int)).length = P ∧ ∀ t, t < j + 1 → nth (L.set j (j : Int)) t = (t : Int)) := Lib.hid ⟨by rw [List.length_set]; exact HL.out.1, fun t ht => by
                    rw [nth_set (by rw [HL.out.1]; exact hjP)]
                    by_cases e : j = t
                    · rw [if_pos e, e]
                    · rw [if_neg e]; exact HL.out.2 t (by omega)⟩
                  generalize nth L j = o1 at *
                  go_wp2_with fail
                  go_roundw
                  case rel => exact ⟨j + 1, _, by omega, by go_num, Lib.hid (HKP.out.set_ (p := ⟨gb, j, none⟩) (.inr rfl) _), Lib.hid (HBL.out.iset j (j : Int)), HL2⟩
                  case measure => simp [intOf]; omega
              · as_aux_lemma =>
                  have dj : decide ((j : Int) < (P : Int)) = false := decide_eq_false (by omega)
                  have ejP : j = P := by omega
                  have hLe : L = (List.range P).map Int.ofNat := by
                    apply List.ext_getElem
                    · rw [HL.out.1]; simp
                    · intro t h1 h2
                      have := HL.out.2 t (by rw [HL.out.1] at h1; omega)
                      rw [nth_get h1] at this
                      rw [this]; simp
                  have hsw := HKP.out.size
                  have hbw : Below gb wm wr := HKP.out.bel (by omega) (fun q h1 h2 => by omega)
                  have hbw2 := HBM.out.trans hbw
                  have hAx := HAA.out
                  have hcx : ∀ q : Addr, q.block < gb → wr.cell? q = wo.cell? q := fun q h1 => hbw2.cell h1
                  have q0 := (hcx ⟨g + 1, 0, none⟩ hgx).trans (hAx.kd.cell (i := 0) rfl)
                  have hrow : wr.ownsRow gb 3 1 (.slice (some ⟨gb, 0, none⟩) P P) (List.range P).length ((List.range P).map intV) := by
                    have h := HBL.out.own (base := gb) (Nat.le_refl _) (by rw [HL.out.1]; unfold maxLen; omega)
                    rw [HL.out.1] at h
                    rw [List.length_range]
                    rw [hLe] at h
                    unfold iv at h
                    rw [List.map_map] at h
                    exact h
                  have HSORT := Lib.hid (sortInts_any gb P (g + 1) xb xo cx _ (List.range P) X wr hrow (by rw [List.length_range]; exact HPOS.out) (by rw [List.length_range]; omega) (fun k hk => List.mem_range.1 hk) q0 HPL.out.symm ⟨hx1, by unfold maxLen; exact hx2⟩
                    (fun k hk => (hcx ⟨xb, xo + k * 2, none⟩ hxgb).trans (HXC.out k (by rw [← HPL.out]; exact hk)).1) (fun k hk => HAL.out.pt k (by rw [← HPL.out]; exact hk)) (by omega)
                    (fun e => by simp only [Value.ownBlock, Option.some.injEq] at e; omega) (fun e => by simp only [Value.ownBlock, Option.some.injEq] at e; omega) (by omega) (by omega))
                  have HWS := Lib.hid hbw2
                  have HSM := Lib.hid hsm
                  have hwrs := hbw2.size
                  clear hrow hbw hbw2 hAx hcx q0 HKP HBL HL hLe hsm
                  go_wp2_with fail
                  refine HSORT.out.mono ?_
                  clear HSORT
                  rintro e w4 ⟨rfl, o, ho1, ho2, hb4, hk4, hown4⟩
                  have hol : o.length = P := by have := ho1.length_eq; rwa [List.length_range] at this
                  have HCX : Hid (∀ q : Addr, q.block < gb → w4.cell? q = wo.cell? q) := Lib.hid (fun q h1 => (hb4.cell h1).trans (HWS.out.cell h1))
                  have q2 := (HCX.out ⟨g + 1, 2, none⟩ hgx).trans (HAA.out.kd.cell (i := 2) rfl)
                  have hs4 : gb + 1 ≤ w4.heap.size := by have := hb4.size; have := (hown4.lt gb rfl).2; omega
                  have HB4 : Hid (Below gb wo w4) := Lib.hid (HWS.out.trans hb4)
                  have HOC : Hid (∀ k, k < P → w4.cell? ⟨gb, k, none⟩ = some (.int .i64 ((o.getD k 0 : Nat) : Int)) ∧ o.getD k 0 < P) := Lib.hid (fun k hk => by
                    have hk2 : k < o.length := by rw [hol]; exact hk
                    obtain ⟨A', c', e, _, _, h⟩ := own_form hown4
                    simp only [Value.slice.injEq] at e
                    rw [← e.1] at h
                    obtain ⟨b', o', e2, _, h2⟩ := h (by intro e3; rw [List.map_eq_nil_iff] at e3; subst e3; simp at hk2)
                    simp only [Option.some.injEq, Addr.mk.injEq] at e2
                    obtain ⟨rfl, rfl, -⟩ := e2
                    have h3 := h2 k (intV o[k]) (by rw [List.getElem?_map, List.getElem?_eq_getElem hk2]; rfl)
                    rw [Nat.zero_add] at h3
                    rw [List.getD_eq_getElem?_getD, List.getElem?_eq_getElem hk2]
                    exact ⟨h3, List.mem_range.1 (ho1.mem_iff.1 (List.getElem_mem hk2))⟩)
                  have HO1 := Lib.hid ho1; have HO2 := Lib.hid ho2; have HOL := Lib.hid hol
                  clear ho1 ho2 hk4 hown4 hb4 hol HWS
                  go_wp2_with fail
                  obtain ⟨w5, hw5⟩ : ∃ w5, w5 = w4.alloc (.cells #[.slice none 0 0, .slice none 0 0, .int .i64 (K : Int)] 39) := ⟨_, rfl⟩
                  obtain ⟨gy, hgy⟩ : ∃ gy, gy = w4.heap.size := ⟨_, rfl⟩
                  have hs5 : w5.heap.size = gy + 1 := by rw [hw5, hgy]; simp
                  have HB5 : Hid (Below gb wo w5) := Lib.hid (HB4.out.trans (by rw [hw5]; exact (Below.refl _ _).alloc (by omega) _))
                  have HAL0 : Hid (Al w5 w5 gy (.slice none 0 0) (.slice none 0 0) (K : Int) ((o.take 0).map (nthR X)) ((o.take 0).map (nth Y))) := Lib.hid ⟨Kp.refl _ _, by rw [hw5, hgy]; exact Blk.new w4 _ _, OwG.nil _ _, World.ownsRow_nil _ _ _ _, by omega⟩
                  have HOC5 : Hid (∀ k, k < P → w5.cell? ⟨gb, k, none⟩ = some (.int .i64 ((o.getD k 0 : Nat) : Int)) ∧ o.getD k 0 < P) := Lib.hid (fun k hk => ⟨by
                    have hb : Below w4.heap.size w4 w5 := by rw [hw5]; exact (Below.refl _ _).alloc (Nat.le_refl _) _
                    exact (hb.cell (p := ⟨gb, k, none⟩) (show gb < _ by omega)).trans (HOC.out k hk).1, (HOC.out k hk).2⟩)
                  have hgby : gb < gy := by omega
                  rw [← hw5, ← hgy]
                  clear hw5 hgy q2 HCX HB4 HOC hs4
                  have HX0 := Lib.hid (HAA.out.kd)
                  go_loopw [66] (fun ix wr => ∃ (k : Nat) (vx vy : Value), k ≤ P ∧ ix = .int .i64 (k : Int) ∧ Hid (Al w5 wr gy vx vy (K : Int) ((o.take k).map (nthR X)) ((o.take k).map (nth Y)))) (fun ix _ => P - (intOf ix).toNat)
                  case atStart => exact ⟨0, _, _, Nat.zero_le _, rfl, HAL0⟩
                  case round =>
                    as_aux_lemma =>
                      clear HAL0
                      obtain ⟨k, vx, vy, hk, rfl, HA⟩ := hrel
                      by_cases hkP : k < P
                      · as_aux_lemma =>
                          have dk : decide ((k : Int) < (P : Int)) = true := decide_eq_true (by omega)
                          obtain ⟨c1, c2⟩ := HOC5.out k hkP
                          have hcx : ∀ q : Addr, q.block < gy → wr.cell? q = w5.cell? q := fun q h1 => HA.out.kp.cell (by omega) (by show ¬ (q.block = gy); omega)
                          have hc0 : ∀ q : Addr, q.block < gb → wr.cell? q = wo.cell? q := fun q h1 => (hcx q (by omega)).trans (HB5.out.cell h1)
                          have y0 := (hcx ⟨gb, k, none⟩ hgby).trans c1
                          have hkl : k < o.length := by rw [HOL.out]; exact hkP
                          obtain ⟨i, hio⟩ : ∃ i, i = o.getD k 0 := ⟨_, rfl⟩
                          have hoi : o[k] = i := by rw [hio]; simp [hkl]
                          rw [← hio] at y0 c2
                          have hsx : (o.take (k + 1)).map (nthR X) = (o.take k).map (nthR X) ++ [nthR X i] := by rw [List.take_succ_eq_append_getElem hkl, List.map_append, hoi]; rfl
                          have hsy : (o.take (k + 1)).map (nth Y) = (o.take k).map (nth Y) ++ [nth Y i] := by rw [List.take_succ_eq_append_getElem hkl, List.map_append, hoi]; rfl
                          obtain ⟨x1, x2⟩ := HXC.out i (by rw [← HPL.out]; exact c2)
                          have x3 := HYC.out i (by rw [HYL.out]; exact c2)
                          obtain ⟨cl, hcl⟩ : ∃ cl, cl = nth Y i := ⟨_, rfl⟩
                          obtain ⟨xr, hxr⟩ : ∃ xr, xr = nthR X i := ⟨_, rfl⟩
                          rw [← hcl] at x3 hsy
                          rw [← hxr] at x1 x2 hsx
                          obtain ⟨lo, hi⟩ := xr
                          obtain ⟨Xk, hXk⟩ : ∃ Xk, Xk = (o.take k).map (nthR X) := ⟨_, rfl⟩
                          obtain ⟨Yk, hYk⟩ : ∃ Yk, Yk = (o.take k).map (nth Y) := ⟨_, rfl⟩
                          have hXkl : Xk.length = k := by rw [hXk, List.length_map, List.length_take]; omega
                          have hYkl : Yk.length = k := by rw [hYk, List.length_map, List.length_take]; omega
                          rw [← hXk] at hsx HA
                          rw [← hYk] at hsy HA
                          have HXL := Lib.hid hXkl; have HYLk := Lib.hid hYkl; have HSX := Lib.hid hsx; have HSY := Lib.hid hsy
                          simp only at x1 x2
                          have HC0 := Lib.hid hc0
                          clear hoi hsx hsy hcl hxr hXk hYk hXkl hYkl c1 hio hcx hc0
                          go_wp2_with fail
                          obtain ⟨wd, hwd⟩ : ∃ wd, wd = wr.drew := ⟨_, rfl⟩
                          have hbd : Below wr.heap.size wr wd := by rw [hwd]; exact (Below.refl _ _).drew
                          have HBD := Lib.hid hbd
                          have HT0 := Lib.hid (HA.out.ta hbd)
                          have hlt5 := HA.out.lt
                          have hle5 := HA.out.le
                          have wb : ∀ (Z : WB w5.heap.size wd) (q : Addr), q.block < w5.heap.size → Z.val.cell? q = wr.cell? q := fun Z q h1 => (Z.bel.cell (p := q) h1).trans (hbd.cell (p := q) (by omega))
                          have k1 : ∀ Z : WB w5.heap.size wd, Z.val.cell? ⟨gy, 0, none⟩ = some vx := fun Z => (wb Z ⟨gy, 0, none⟩ hlt5).trans (HA.out.kd.cell (i := 0) rfl)
                          have k2 : ∀ Z : WB w5.heap.size wd, Z.val.cell? ⟨gy, 1, none⟩ = some vy := fun Z => (wb Z ⟨gy, 1, none⟩ hlt5).trans (HA.out.kd.cell (i := 1) rfl)
                          have k3 : ∀ Z : WB w5.heap.size wd, Z.val.cell? ⟨g + 1, 0, none⟩ = some (.slice (some ⟨xb, xo, none⟩) P cx) := fun Z => (wb Z ⟨g + 1, 0, none⟩ (show g + 1 < _ by omega)).trans ((HC0.out _ hgx).trans (HX0.out.cell (i := 0) rfl))
                          have k4 : ∀ Z : WB w5.heap.size wd, Z.val.cell? ⟨g + 1, 1, none⟩ = some (.slice (some ⟨yb, yo, none⟩) P cy) := fun Z => (wb Z ⟨g + 1, 1, none⟩ (show g + 1 < _ by omega)).trans ((HC0.out _ hgx).trans (HX0.out.cell (i := 1) rfl))
                          have k5 : ∀ Z : WB w5.heap.size wd, Z.val.cell? ⟨xb, xo + i * 2, none⟩ = some (.int .i64 lo) := fun Z => (wb Z ⟨xb, xo + i * 2, none⟩ (show xb < _ by omega)).trans ((HC0.out ⟨xb, xo + i * 2, none⟩ hxgb).trans x1)
                          have k6 : ∀ Z : WB w5.heap.size wd, Z.val.cell? ⟨xb, xo + i * 2 + 1, none⟩ = some (.int .i64 hi) := fun Z => (wb Z ⟨xb, xo + i * 2 + 1, none⟩ (show xb < _ by omega)).trans ((HC0.out ⟨xb, xo + i * 2 + 1, none⟩ hxgb).trans x2)
                          have k7 : ∀ Z : WB w5.heap.size wd, Z.val.cell? ⟨yb, yo + i, none⟩ = some (.int .i64 cl) := fun Z => (wb Z ⟨yb, yo + i, none⟩ (show yb < _ by omega)).trans ((HC0.out ⟨yb, yo + i, none⟩ hygb).trans x3)
                          clear wb hbd y0 x1 x2 x3 hle5 hlt5
                          refine wp_region_D (fun w' => ∃ X : WB w5.heap.size wd, w' = X.val) 3 19 (by kernel_rfl) 19 (by rfl) ?_
                          rw [← hwd]
                          clear hwd
                          show wpAnyD _ _ _ _ _ _ _ (12 + 7) _ _ _
                          refine takeD 12 0 7 (by kernel_rfl) (by kernel_rfl) (fun _ _ d _ _ h => by cases d <;> exact h) ⟨⟨_, Below.refl _ _⟩, rfl⟩ ?_
                          simp only [List.take_succ_cons, List.take_zero, List.drop_succ_cons, List.drop_zero]
                          repeat (first | go_big_quiet_skip | (go_big_quiet_want; go_big_quiet_op; go_big_quiet_on))
                          refine wpQuiet_nil ?_
                          show wpAnyD _ _ _ _ _ _ _ (5 + 7) _ _ _
                          refine takeD 5 9 7 (by kernel_rfl) (by kernel_rfl) (fun _ _ d _ _ h => by cases d <;> exact h) ⟨⟨_, Below.refl _ _⟩, rfl⟩ ?_
                          simp only [List.take_succ_cons, List.take_zero, List.drop_succ_cons, List.drop_zero]
                          repeat (first | go_big_quiet_skip | (go_big_quiet_want; go_big_quiet_op; go_big_quiet_on))
                          refine wpQuiet_nil ?_
                          clear k1 k2 k3 k4 k5 k6 k7
                          refine twoD 4 7 16 (by kernel_rfl) (by decide) (by decide) ?_ ?_
                          · as_aux_lemma =>
                              simp only [List.take_succ_cons, List.take_zero, List.drop_succ_cons, List.drop_zero]
                              go_wp2_with fail
                              obtain ⟨wz1, hwz1⟩ : ∃ wz1, wz1 = wd.alloc (.cells #[.int .i64 lo, .int .i64 hi] 62) := ⟨_, rfl⟩
                              have hbwz1 : Below wd.heap.size wd wz1 := by rw [hwz1]; exact (Below.refl _ _).alloc (Nat.le_refl _) _
                              have HBxwz1 : Hid (Blk wz1 wd.heap.size 62 [.int .i64 lo, .int .i64 hi]) := Lib.hid (by rw [hwz1]; exact Blk.new wd _ _)
                              have HTwz1 := Lib.hid (HT0.out.ext hbwz1)
                              rw [← hwz1]
                              clear hwz1 hbwz1
                              refine ⟨⟨WB.mk _ HTwz1.out.b, rfl⟩, ?_⟩
                              refine twoD 3 8 16 (by kernel_rfl) (by decide) (by decide) ?_ ?_
                              · as_aux_lemma =>
                                  simp only [List.take_succ_cons, List.take_zero, List.drop_succ_cons, List.drop_zero]
                                  go_wp2_with (at_builtin; refine wpList_appB elRg rfl (.tmp 71) (.tmp 77) rfl w5.heap.size vx k 1 wd.heap.size (rv Xk) [.int .i64 lo, .int .i64 hi] rfl (by have h := HTwz1.out.x; unfold OwG at h; rw [HXL.out] at h; exact h) rfl HBxwz1.out rfl (by simp [Value.oneCell']) (by omega) (by omega) HTwz1.out.base_le ?_; intro vwz2 wz2 hown hgr hat; have HGwz2 := Lib.hid hgr; have HTwz2 := Lib.hid (HTwz1.out.appX hgr (OwG.snoc hown HXL.out.symm)); obtain ⟨Awz2, cwz2, rfl, -, -⟩ := own_len hown; clear hown hgr hat)
                                  refine ⟨⟨WB.mk _ HTwz2.out.b, rfl⟩, ?_⟩
                                  show wpAnyD _ _ _ _ _ _ _ (2 + 1) _ _ _
                                  refine takeD 2 18 1 (by kernel_rfl) (by kernel_rfl) (fun _ _ d _ _ h => by cases d <;> exact h) ⟨⟨_, HTwz2.out.b⟩, rfl⟩ ?_
                                  simp only [List.take_succ_cons, List.take_zero, List.drop_succ_cons, List.drop_zero]
                                  simp only [Act.put, Array.set!_eq_setIfInBounds, List.setIfInBounds_toArray, List.set_cons_succ, List.set_cons_zero]
                                  repeat (first | go_big_quiet_skip | (go_big_quiet_want; go_big_quiet_op; go_big_quiet_on))
                                  refine wpQuiet_nil ?_
                                  refine oneD 1 16 (by kernel_rfl) (by decide) ?_
                                  simp only [List.take_succ_cons, List.take_zero, List.drop_succ_cons, List.drop_zero]
                                  go_wp2_with fail
                                  obtain ⟨wz3, hwz3⟩ : ∃ wz3, wz3 = wz2.alloc (.cells #[.int .i64 cl] 3) := ⟨_, rfl⟩
                                  have hbwz3 : Below wz2.heap.size wz2 wz3 := by rw [hwz3]; exact (Below.refl _ _).alloc (Nat.le_refl _) _
                                  have HBywz3 : Hid (Blk wz3 wz2.heap.size 3 [.int .i64 cl]) := Lib.hid (by rw [hwz3]; exact Blk.new wz2 _ _)
                                  have HTwz3 := Lib.hid (HTwz2.out.ext hbwz3)
                                  rw [← hwz3]
                                  clear hwz3 hbwz3
                                  refine ⟨⟨WB.mk _ HTwz3.out.b, rfl⟩, ?_⟩
                                  refine oneD 0 17 (by kernel_rfl) (by decide) ?_
                                  simp only [List.take_succ_cons, List.take_zero, List.drop_succ_cons, List.drop_zero]
                                  go_wp2_with (at_builtin; refine wpList_appB elIn rfl (.tmp 80) (.tmp 86) rfl w5.heap.size vy k 1 wz2.heap.size (iv Yk) [.int .i64 cl] rfl (by have h := HTwz3.out.y; rw [HYLk.out] at h; exact h) rfl HBywz3.out rfl (by simp [Value.oneCell']) (by omega) (by omega) HTwz3.out.base_le ?_; intro vwz4 wz4 hown hgr hat; have HTwz4 := Lib.hid (HTwz3.out.appY hgr (by rw [HYLk.out]; exact hown)); obtain ⟨Awz4, cwz4, rfl, -, -⟩ := own_len hown; clear hown hgr hat)
                                  refine ⟨⟨WB.mk _ HTwz4.out.b, rfl⟩, ?_⟩
                                  refine endD (by kernel_rfl) ?_
                                  simp only [List.drop_succ_cons, List.drop_zero]
                                  have e1 := HTwz4.out.kd.cell (i := 0) rfl
                                  have e2 := HTwz4.out.kd.frozen 0
                                  have hk := HTwz4.out.kd.set_ 0 (.slice Awz2 (k + 1) cwz2)
                                  have e3 := hk.cell (i := 1) rfl
                                  have e4 := hk.frozen 1
                                  have HA9 := Lib.hid (HA.out.of_ta HTwz4.out HBD.out)
                                  clear hk
                                  go_wp2_with fail
                                  go_roundw
                                  case rel => exact ⟨k + 1, _, _, by omega, by go_num, Lib.hid (by have h := HA9.out; rw [← HSX.out, ← HSY.out] at h; exact h)⟩
                                  case measure => simp [intOf]; omega
                              · as_aux_lemma =>
                                  simp only [List.take_succ_cons, List.take_zero, List.drop_succ_cons, List.drop_zero]
                                  go_wp2_with fail
                                  obtain ⟨wz5, hwz5⟩ : ∃ wz5, wz5 = wz1.alloc (.cells #[.int .i64 cl] 3) := ⟨_, rfl⟩
                                  have hbwz5 : Below wz1.heap.size wz1 wz5 := by rw [hwz5]; exact (Below.refl _ _).alloc (Nat.le_refl _) _
                                  have HBywz5 : Hid (Blk wz5 wz1.heap.size 3 [.int .i64 cl]) := Lib.hid (by rw [hwz5]; exact Blk.new wz1 _ _)
                                  have HBxwz5 := Lib.hid (HBxwz1.out.below' hbwz5)
                                  have HTwz5 := Lib.hid (HTwz1.out.ext hbwz5)
                                  rw [← hwz5]
                                  clear hwz5 hbwz5
                                  refine ⟨⟨WB.mk _ HTwz5.out.b, rfl⟩, ?_⟩
                                  refine oneD 2 8 (by kernel_rfl) (by decide) ?_
                                  simp only [List.take_succ_cons, List.take_zero, List.drop_succ_cons, List.drop_zero]
                                  go_wp2_with (at_builtin; refine wpList_appB elRg rfl (.tmp 71) (.tmp 77) rfl w5.heap.size vx k 1 wd.heap.size (rv Xk) [.int .i64 lo, .int .i64 hi] rfl (by have h := HTwz5.out.x; unfold OwG at h; rw [HXL.out] at h; exact h) rfl HBxwz5.out rfl (by simp [Value.oneCell']) (by omega) (by omega) HTwz5.out.base_le ?_; intro vwz6 wz6 hown hgr hat; have HGwz6 := Lib.hid hgr; have HTwz6 := Lib.hid (HTwz5.out.appX hgr (OwG.snoc hown HXL.out.symm)); obtain ⟨Awz6, cwz6, rfl, -, -⟩ := own_len hown; clear hown hgr hat)
                                  have HBywz6 := Lib.hid (HBywz5.out.grown HGwz6.out (fun e => blk_own_ne HBywz5.out HTwz5.out.x (by decide) e.symm))
                                  refine ⟨⟨WB.mk _ HTwz6.out.b, rfl⟩, ?_⟩
                                  show wpAnyD _ _ _ _ _ _ _ (1 + 1) _ _ _
                                  refine takeD 1 18 1 (by kernel_rfl) (by kernel_rfl) (fun _ _ d _ _ h => by cases d <;> exact h) ⟨⟨_, HTwz6.out.b⟩, rfl⟩ ?_
                                  simp only [List.take_succ_cons, List.take_zero, List.drop_succ_cons, List.drop_zero]
                                  simp only [Act.put, Array.set!_eq_setIfInBounds, List.setIfInBounds_toArray, List.set_cons_succ, List.set_cons_zero]
                                  repeat (first | go_big_quiet_skip | (go_big_quiet_want; go_big_quiet_op; go_big_quiet_on))
                                  refine wpQuiet_nil ?_
                                  refine oneD 0 17 (by kernel_rfl) (by decide) ?_
                                  simp only [List.take_succ_cons, List.take_zero, List.drop_succ_cons, List.drop_zero]
                                  go_wp2_with (at_builtin; refine wpList_appB elIn rfl (.tmp 80) (.tmp 86) rfl w5.heap.size vy k 1 wz1.heap.size (iv Yk) [.int .i64 cl] rfl (by have h := HTwz6.out.y; rw [HYLk.out] at h; exact h) rfl HBywz6.out rfl (by simp [Value.oneCell']) (by omega) (by omega) HTwz6.out.base_le ?_; intro vwz7 wz7 hown hgr hat; have HTwz7 := Lib.hid (HTwz6.out.appY hgr (by rw [HYLk.out]; exact hown)); obtain ⟨Awz7, cwz7, rfl, -, -⟩ := own_len hown; clear hown hgr hat)
                                  refine ⟨⟨WB.mk _ HTwz7.out.b, rfl⟩, ?_⟩
                                  refine endD (by kernel_rfl) ?_
                                  simp only [List.drop_succ_cons, List.drop_zero]
                                  have e1 := HTwz7.out.kd.cell (i := 0) rfl
                                  have e2 := HTwz7.out.kd.frozen 0
                                  have hk := HTwz7.out.kd.set_ 0 (.slice Awz6 (k + 1) cwz6)
                                  have e3 := hk.cell (i := 1) rfl
                                  have e4 := hk.frozen 1
                                  have HA9 := Lib.hid (HA.out.of_ta HTwz7.out HBD.out)
                                  clear hk
                                  go_wp2_with fail
                                  go_roundw
                                  case rel => exact ⟨k + 1, _, _, by omega, by go_num, Lib.hid (by have h := HA9.out; rw [← HSX.out, ← HSY.out] at h; exact h)⟩
                                  case measure => simp [intOf]; omega
                          · as_aux_lemma =>
                              simp only [List.take_succ_cons, List.take_zero, List.drop_succ_cons, List.drop_zero]
                              go_wp2_with fail
                              obtain ⟨wz8, hwz8⟩ : ∃ wz8, wz8 = wd.alloc (.cells #[.int .i64 cl] 3) := ⟨_, rfl⟩
                              have hbwz8 : Below wd.heap.size wd wz8 := by rw [hwz8]; exact (Below.refl _ _).alloc (Nat.le_refl _) _
                              have HBywz8 : Hid (Blk wz8 wd.heap.size 3 [.int .i64 cl]) := Lib.hid (by rw [hwz8]; exact Blk.new wd _ _)
                              have HTwz8 := Lib.hid (HT0.out.ext hbwz8)
                              rw [← hwz8]
                              clear hwz8 hbwz8
                              refine ⟨⟨WB.mk _ HTwz8.out.b, rfl⟩, ?_⟩
                              refine oneD 3 7 (by kernel_rfl) (by decide) ?_
                              simp only [List.take_succ_cons, List.take_zero, List.drop_succ_cons, List.drop_zero]
                              go_wp2_with fail
                              obtain ⟨wz9, hwz9⟩ : ∃ wz9, wz9 = wz8.alloc (.cells #[.int .i64 lo, .int .i64 hi] 62) := ⟨_, rfl⟩
                              have hbwz9 : Below wz8.heap.size wz8 wz9 := by rw [hwz9]; exact (Below.refl _ _).alloc (Nat.le_refl _) _
                              have HBxwz9 : Hid (Blk wz9 wz8.heap.size 62 [.int .i64 lo, .int .i64 hi]) := Lib.hid (by rw [hwz9]; exact Blk.new wz8 _ _)
                              have HBywz9 := Lib.hid (HBywz8.out.below' hbwz9)
                              have HTwz9 := Lib.hid (HTwz8.out.ext hbwz9)
                              rw [← hwz9]
                              clear hwz9 hbwz9
                              refine ⟨⟨WB.mk _ HTwz9.out.b, rfl⟩, ?_⟩
                              refine oneD 2 8 (by kernel_rfl) (by decide) ?_
                              simp only [List.take_succ_cons, List.take_zero, List.drop_succ_cons, List.drop_zero]
                              go_wp2_with (at_builtin; refine wpList_appB elRg rfl (.tmp 71) (.tmp 77) rfl w5.heap.size vx k 1 wz8.heap.size (rv Xk) [.int .i64 lo, .int .i64 hi] rfl (by have h := HTwz9.out.x; unfold OwG at h; rw [HXL.out] at h; exact h) rfl HBxwz9.out rfl (by simp [Value.oneCell']) (by omega) (by omega) HTwz9.out.base_le ?_; intro vwz10 wz10 hown hgr hat; have HGwz10 := Lib.hid hgr; have HTwz10 := Lib.hid (HTwz9.out.appX hgr (OwG.snoc hown HXL.out.symm)); obtain ⟨Awz10, cwz10, rfl, -, -⟩ := own_len hown; clear hown hgr hat)
                              have HBywz10 := Lib.hid (HBywz9.out.grown HGwz10.out (fun e => blk_own_ne HBywz9.out HTwz9.out.x (by decide) e.symm))
                              refine ⟨⟨WB.mk _ HTwz10.out.b, rfl⟩, ?_⟩
                              show wpAnyD _ _ _ _ _ _ _ (1 + 1) _ _ _
                              refine takeD 1 18 1 (by kernel_rfl) (by kernel_rfl) (fun _ _ d _ _ h => by cases d <;> exact h) ⟨⟨_, HTwz10.out.b⟩, rfl⟩ ?_
                              simp only [List.take_succ_cons, List.take_zero, List.drop_succ_cons, List.drop_zero]
                              simp only [Act.put, Array.set!_eq_setIfInBounds, List.setIfInBounds_toArray, List.set_cons_succ, List.set_cons_zero]
                              repeat (first | go_big_quiet_skip | (go_big_quiet_want; go_big_quiet_op; go_big_quiet_on))
                              refine wpQuiet_nil ?_
                              refine oneD 0 17 (by kernel_rfl) (by decide) ?_
                              simp only [List.take_succ_cons, List.take_zero, List.drop_succ_cons, List.drop_zero]
                              go_wp2_with (at_builtin; refine wpList_appB elIn rfl (.tmp 80) (.tmp 86) rfl w5.heap.size vy k 1 wd.heap.size (iv Yk) [.int .i64 cl] rfl (by have h := HTwz10.out.y; rw [HYLk.out] at h; exact h) rfl HBywz10.out rfl (by simp [Value.oneCell']) (by omega) (by omega) HTwz10.out.base_le ?_; intro vwz11 wz11 hown hgr hat; have HTwz11 := Lib.hid (HTwz10.out.appY hgr (by rw [HYLk.out]; exact hown)); obtain ⟨Awz11, cwz11, rfl, -, -⟩ := own_len hown; clear hown hgr hat)
                              refine ⟨⟨WB.mk _ HTwz11.out.b, rfl⟩, ?_⟩
                              refine endD (by kernel_rfl) ?_
                              simp only [List.drop_succ_cons, List.drop_zero]
                              have e1 := HTwz11.out.kd.cell (i := 0) rfl
                              have e2 := HTwz11.out.kd.frozen 0
                              have hk := HTwz11.out.kd.set_ 0 (.slice Awz10 (k + 1) cwz10)
                              have e3 := hk.cell (i := 1) rfl
                              have e4 := hk.frozen 1
                              have HA9 := Lib.hid (HA.out.of_ta HTwz11.out HBD.out)
                              clear hk
                              go_wp2_with fail
                              go_roundw
                              case rel => exact ⟨k + 1, _, _, by omega, by go_num, Lib.hid (by have h := HA9.out; rw [← HSX.out, ← HSY.out] at h; exact h)⟩
                              case measure => simp [intOf]; omega
                      · as_aux_lemma =>
                          have dk : decide ((k : Int) < (P : Int)) = false := decide_eq_false (by omega)
                          have ha := HA.out
                          rw [List.take_of_length_le (by rw [HOL.out]; omega)] at ha
                          have hXl : (o.map (nthR X)).length = P := by rw [List.length_map, HOL.out]
                          have hYl : (o.map (nth Y)).length = P := by rw [List.length_map, HOL.out]
                          obtain ⟨Ax', cx', rfl, hx1', hx2', hxr'⟩ := ha.x.form
                          obtain ⟨Ay', cy', rfl, hy1', hy2', hyr'⟩ := own_rd ha.y
                          rw [hXl] at hx1' ha
                          rw [hYl] at hy1' ha
                          have r0 := ha.kd.cell (i := 0) rfl
                          have r1 := ha.kd.cell (i := 1) rfl
                          have r2 := ha.kd.cell (i := 2) rfl
                          have hBw : Below (g + 1) wo wr := (HB5.out.trans (ha.kp.bel (B := gb) (by omega) (fun q h1 h2 => by omega))).mono (by omega)
                          have hAA := HAA.out
                          have hw1 := HB1.out
                          have hkp := hAA.kp
                          have hgs : g < w1.heap.size := by have := hAA.lt; omega
                          have hb1o : Below (g + 1) w1 wo := hkp.bel (by have := hAA.lt; omega) (fun q h1 h2 => by omega)
                          have hkr := HKR1.out.below (hb1o.trans hBw) (Nat.lt_succ_self g)
                          have s0 := hkr.cell (i := 0) rfl
                          have s1 := hkr.cell (i := 1) rfl
                          have s2 := hkr.cell (i := 2) rfl
                          have f0 := hkr.frozen 0
                          have f1 := hkr.frozen 1
                          have f2 := hkr.frozen 2
                          have HALP : Hid (Alph S C (o.map (nthR X)) (o.map (nth Y))) := Lib.hid (by
                            have hX := HX.out
                            have ho1 := HO1.out
                            rw [HPL.out] at ho1
                            obtain ⟨q1, q2⟩ := HP.out.cover (o := o) (by rw [← hX]; exact ho1) (by rw [← hX]; exact HO2.out)
                            rw [← hX] at q1 q2
                            exact ⟨HP.out, HAL.out.perm ho1, q1, q2, by rw [← HK.out]; exact hK322, by rw [hXl]; exact hP644, by
                              obtain ⟨l, hl, _⟩ := HP.out.all 0 (by decide)
                              exact List.length_pos_of_mem hl⟩)
                          have HXR := Lib.hid ha.x; have HYR := Lib.hid ha.y; have HKRR := Lib.hid hkr; have HLX := Lib.hid hXl; have HLY := Lib.hid hYl
                          have HBW : Hid (Below g w wr) := Lib.hid ((hw1.trans (hb1o.mono (by omega))).trans (hBw.mono (by omega)))
                          have hg5 : g < w5.heap.size := by omega
                          unfold maxLen at hx2' hy2'
                          clear ha hXl hYl hBw hAA hw1 hkp hb1o hkr hxr' hyr' HA
                          go_wp2_with fail
                          obtain ⟨w7, hw7⟩ : ∃ w7, w7 = (((wr.setCell ⟨g, 0, none⟩ (.slice Ax' P cx')).setCell ⟨g, 1, none⟩ (.slice Ay' P cy')).setCell ⟨g, 2, none⟩ (.int .i64 (K : Int))) := ⟨_, rfl⟩
                          have k7 : Blk w7 g 39 [.slice Ax' P cx', .slice Ay' P cy', .int .i64 (K : Int)] := by rw [hw7]; exact ((HKRR.out.set_ 0 _).set_ 1 _).set_ 2 _
                          have hb7 : Below g wr w7 := by rw [hw7]; exact (((Below.refl _ _).setCell (p := ⟨g, 0, none⟩) (Nat.le_refl _) _).setCell (p := ⟨g, 1, none⟩) (Nat.le_refl _) _).setCell (p := ⟨g, 2, none⟩) (Nat.le_refl _) _
                          have o7 : OwG w7 w5.heap.size (.slice Ax' P cx') (o.map (nthR X)) := by rw [hw7]; exact own_set (p := ⟨g, 2, none⟩) (own_set (p := ⟨g, 1, none⟩) (own_set (p := ⟨g, 0, none⟩) HXR.out hg5) hg5) hg5
                          have m7 : w7.ownsRow w5.heap.size 3 1 (.slice Ay' P cy') (o.map (nth Y)).length (iv (o.map (nth Y))) := by rw [hw7]; exact own_set (p := ⟨g, 2, none⟩) (own_set (p := ⟨g, 1, none⟩) (own_set (p := ⟨g, 0, none⟩) HYR.out hg5) hg5) hg5
                          rw [← hw7]
                          clear hw7
                          refine bodyPost_ret (results_cell_row rfl _ _ g _ #[.slice Ax' P cx', .slice Ay' P cy', .int .i64 (K : Int)] _ _ rfl k7 Tryz.underlying39 rfl (by kernel_rfl)) rfl ?_
                          have hgw := HG.out
                          refine ⟨C, o.map (nthR X), o.map (nth Y), Ax', cx', Ay', cy', by rw [HLX.out, HK.out], HALP.out, by rw [HLX.out]; exact hx1', hx2', by rw [HLX.out]; exact hy1', hy2', ?_, ?_, hgw ▸ HBW.out.trans hb7⟩
                          · rw [HLX.out]; exact ownsRow_base o7 (by omega)
                          · rw [HLX.out]; exact ownsRow_base m7 (by omega)
theorem newAlphabet_any (A : Option Addr) (n c : Nat) (S : List (List Rg)) (w : World) (B : Nat) (hB : B ≤ w.heap.size) (hr : RdS w B A S) (hl : S.length = n) (hn : n ≤ 160 ∧ totR S ≤ 160) (hs : ∀ s ∈ S, s.length ≤ 60) :
    Calls Tryz.prog 13 #[.slice A n c] w fun e w' => ∃ C X Y Ax cx Ay cy, e = .returned (.agg #[.slice Ax X.length cx, .slice Ay X.length cy, .int .i64 (C.length : Int)]) ∧ Alph S C X Y ∧ X.length ≤ cx ∧ cx ≤ maxLen ∧ X.length ≤ cy ∧ cy ≤ maxLen ∧
      RdG w' w'.heap.size Ax X ∧ RdI w' w'.heap.size Ay Y ∧ Below w.heap.size w w' := by
  refine (newAlphabet_own A n c S w B hB hr hl hn hs).mono ?_
  rintro e w' ⟨C, X, Y, Ax, cx, Ay, cy, rfl, h1, h2, h3, h4, h5, h6, h7, h8⟩
  refine ⟨C, X, Y, Ax, cx, Ay, cy, rfl, h1, h2, h3, h4, h5, ?_, own_rdS h7, h8⟩
  obtain ⟨A2, c2, e, _, _, h⟩ := h6.form
  simp only [Value.slice.injEq] at e
  rw [e.1]; exact h
end Go.Proofs.YtkcpfpofimkkiaaGreatDoor
