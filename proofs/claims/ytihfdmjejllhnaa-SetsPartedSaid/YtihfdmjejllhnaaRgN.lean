/- points.Classes. -/
import Derived.Test.YtihfdmjejllhnaaRgO
namespace Go.Proofs.Ytihfdmjejllhnaa
open Go.RowKit BigFrame
set_option linter.unusedVariables false
set_option linter.unusedSimpArgs false
set_option maxRecDepth 100000

/-- One more, of a block that none of them has. -/
theorem ClV.push {w w' : World} {base : Nat} {v v' u : Value} {vs : List Value} {R : List (List Rg)} {c : List Rg} (h : ClV w base v vs R) (hg : w.grownBy w' v.ownBlock) (hu : OwG w base u c)
    (hf : ∀ g, u.ownBlock = some g → v.ownBlock ≠ some g ∧ ∀ (k : Nat) (t : Value), vs[k]? = some t → t.ownBlock ≠ some g)
    (hr : w'.ownsRow base 35 1 v' (R.length + 1) (vs ++ [u])) (ha : v'.ownBlock = v.ownBlock ∨ v'.ownBlock = some (w.heap.size + 1)) : ClV w' base v' (vs ++ [u]) (R ++ [c]) := by
  have hnew : ∀ k t, (vs ++ [u])[k]? = some t → vs[k]? = some t ∨ (k = R.length ∧ t = u) := fun k t hk => by
    by_cases q : k < vs.length
    · rw [List.getElem?_append_left q] at hk; exact .inl hk
    · rw [List.getElem?_append_right (by omega)] at hk
      by_cases q2 : k = vs.length
      · subst q2; simp at hk; exact .inr ⟨h.l, hk.symm⟩
      · rw [List.getElem?_eq_none (by simp; omega)] at hk; cases hk
  have hlt : ∀ k t, vs[k]? = some t → k < R.length := fun k t q => by rw [← h.l]; exact (List.getElem?_eq_some_iff.1 q).1
  have hv' : ∀ g, g < w.heap.size → v.ownBlock ≠ some g → v'.ownBlock ≠ some g := fun g q1 q2 => by
    rcases ha with ha | ha
    · rw [ha]; exact q2
    · rw [ha]; intro e; cases e; omega
  refine ⟨by simp [h.l], by rw [List.length_append]; exact hr, fun k t hk => ?_, fun i k a b g hik hi hk hab => ?_, fun k t g hk ht => ?_⟩
  · rw [nthS_append]
    rcases hnew k t hk with q | ⟨rfl, rfl⟩
    · rw [if_pos (hlt k t q)]
      refine World.ownsRow.kept (h.cl k t q) hg ?_
      cases hub : t.ownBlock with
      | none => exact .inl rfl
      | some g => exact .inr (fun e => h.ro k t g q hub e.symm)
    · rw [if_neg (by omega), if_pos rfl]
      refine World.ownsRow.kept hu hg ?_
      cases hub : t.ownBlock with
      | none => exact .inl rfl
      | some g => exact .inr (fun e => (hf g hub).1 e.symm)
  · rcases hnew i a hi with q | ⟨rfl, rfl⟩
    · rcases hnew k b hk with q2 | ⟨rfl, rfl⟩
      · exact h.ap i k a b g hik q q2 hab
      · intro e; exact (hf g e).2 i a q hab
    · rcases hnew k b hk with q2 | ⟨rfl, rfl⟩
      · exact (hf g hab).2 k b q2
      · exact absurd rfl hik
  · rcases hnew k t hk with q | ⟨rfl, rfl⟩
    · exact hv' g ((h.cl k t q).lt g ht).2 (h.ro k t g q ht)
    · exact hv' g (hu.lt g ht).2 (hf g ht).1
theorem fresh5 {v v5 u1 : Value} {vs : List Value} {s3 s4 g : Nat} (hat : v5.ownBlock = v.ownBlock ∨ v5.ownBlock = some (s4 + 1)) (h : (v.ownBlock ≠ some g ∧ ∀ (k : Nat) (t : Value), vs[k]? = some t → t.ownBlock ≠ some g) ∧ u1.ownBlock ≠ some g ∧ g < s3) (hs : s4 = s3 + 1) :
    v5.ownBlock ≠ some g ∧ ∀ (k : Nat) (t : Value), (vs ++ [u1])[k]? = some t → t.ownBlock ≠ some g := by
  refine ⟨?_, fun k t hk => ?_⟩
  · rcases hat with q | q
    · rw [q]; exact h.1.1
    · rw [q]; intro e; cases e; omega
  · by_cases q : k < vs.length
    · rw [List.getElem?_append_left q] at hk; exact h.1.2 k t hk
    · rw [List.getElem?_append_right (by omega)] at hk
      by_cases q2 : k = vs.length
      · subst q2; simp at hk; rw [← hk]; exact h.2.1
      · rw [List.getElem?_eq_none (by simp; omega)] at hk; cases hk
theorem kept5 {v u : Value} {X : Nat → Prop} (h : ∀ g, u.ownBlock = some g → (v.ownBlock ≠ some g ∧ X g)) : u.ownBlock = none ∨ u.ownBlock ≠ v.ownBlock := by
  cases hu : u.ownBlock with
  | none => exact .inl rfl
  | some g => exact .inr (fun e => (h g hu).1 e.symm)
theorem row5 {v : Value} {s3 : Nat} (h : ∀ g, v.ownBlock = some g → g < s3) : some s3 ≠ v.ownBlock := fun e => by have := h s3 e.symm; omega
theorem keepN_no {d : List Rg} (h : d.length = 0) : keepN d = [] := if_pos (List.eq_nil_of_length_eq_zero h)
theorem keepN_yes {d : List Rg} (h : 0 < d.length) : keepN d = [d] := if_neg fun e => by rw [e] at h; simp at h
theorem keepN_len {d : List Rg} : (keepN d).length ≤ 1 := by unfold keepN; split <;> simp

set_option maxHeartbeats 4000000 in
theorem classes_any (A : Option Addr) (n c : Nat) (S : List (List Rg)) (w : World) (B : Nat) (hB : B ≤ w.heap.size) (hr : RdS w B A S) (hl : S.length = n) (hn : n ≤ 12) (hs : ∀ s ∈ S, s.length ≤ 12) :
    Calls Try.prog 18 #[.slice A n c] w fun e w' => ∃ v vs R, e = .returned v ∧ Parted S R ∧ Below w.heap.size w w' ∧ R.length ≤ 4096 ∧ (∀ c ∈ R, c.length ≤ 200) ∧
      w'.ownsRow w.heap.size 35 1 v R.length vs ∧ vs.length = R.length ∧ (∀ k u, vs[k]? = some u → ∃ A c, u = .slice A (nthS R k).length c ∧ RdG w' w'.heap.size A (nthS R k)) := by
  have HR := Lib.hid hr; have HL := Lib.hid hl; have HS := Lib.hid hs
  have hbl1 := Blk.new w 59 [.int .i64 0, .int .i64 1114111]
  have hw1 : Below w.heap.size w (w.alloc (.cells #[.int .i64 0, .int .i64 1114111] 59)) := (Below.refl _ w).alloc (Nat.le_refl _) _
  have hw2 : Below w.heap.size w ((w.alloc (.cells #[.int .i64 0, .int .i64 1114111] 59)).alloc (.cells #[.slice (some ⟨w.heap.size, 0, none⟩) 1 1] 35)) := hw1.alloc (by simp) _
  have hsz1 : (w.alloc (.cells #[.int .i64 0, .int .i64 1114111] 59)).heap.size = w.heap.size + 1 := by simp
  have hcl : ClV ((w.alloc (.cells #[.int .i64 0, .int .i64 1114111] 59)).alloc (.cells #[.slice (some ⟨w.heap.size, 0, none⟩) 1 1] 35)) w.heap.size (.slice (some ⟨w.heap.size + 1, 0, none⟩) 1 1) [.slice (some ⟨w.heap.size, 0, none⟩) 1 1] [[(0, 1114111)]] := by
    refine ⟨rfl, ⟨rfl, .inr ⟨w.heap.size + 1, 1, #[.slice (some ⟨w.heap.size, 0, none⟩) 1 1], rfl, by omega, by rw [← hsz1]; exact heap_alloc_new _ _, Nat.le_refl _, by decide, rfl, rfl⟩⟩, fun k u hk => ?_, fun i k a b g hik hi hk hab => ?_, fun k u g hk hu => ?_⟩
    · have h0 : k = 0 := by have := (List.getElem?_eq_some_iff.1 hk).1; simp at this; omega
      subst h0
      simp at hk
      subst hk
      refine ⟨rfl, .inr ⟨w.heap.size, 1, #[.int .i64 0, .int .i64 1114111], rfl, Nat.le_refl _, ?_, Nat.le_refl _, by decide, rfl, rfl⟩⟩
      exact (Below.heap_alloc _ _ w.heap.size (by rw [hsz1]; omega)).trans hbl1
    · have h0 : i = 0 := by have := (List.getElem?_eq_some_iff.1 hi).1; simp at this; omega
      have h1 : k = 0 := by have := (List.getElem?_eq_some_iff.1 hk).1; simp at this; omega
      omega
    · have h0 : k = 0 := by have := (List.getElem?_eq_some_iff.1 hk).1; simp at this; omega
      subst h0
      simp at hk
      subst hk
      simp [Value.ownBlock] at hu ⊢
      omega
  have HW2 := Lib.hid hw2; have HCL := Lib.hid hcl
  clear hr hl hs hbl1 hw1 hw2 hcl
  go_enter Try.func18, Try.ntmps18
  go_wp2_with fail
  generalize (w.alloc (.cells #[.int .i64 0, .int .i64 1114111] 59)).alloc (.cells #[.slice (some ⟨w.heap.size, 0, none⟩) 1 1] 35) = w1 at *
  go_loopw [3, 16] (fun v i wr => ∃ (k : Nat) (vs : List Value) (R : List (List Rg)), k ≤ n ∧ i = .int .i64 (k : Int) ∧ Hid (ClV wr w.heap.size v vs R) ∧ Hid (Part (S.take k) R) ∧ Hid (0 < R.length ∧ R.length ≤ 2 ^ k ∧ ∀ c ∈ R, c.length ≤ 1 + 13 * k) ∧ Hid (Below w.heap.size w wr)) (fun _ i _ => n - (intOf i).toNat)
  case atStart => exact ⟨0, [.slice (some ⟨w.heap.size, 0, none⟩) 1 1], [[(0, 1114111)]], Nat.zero_le _, rfl, HCL.out, Part.start, ⟨by simp, by simp, fun c hc => by rw [List.mem_singleton] at hc; subst hc; simp⟩, HW2.out⟩
  case round =>
    as_aux_lemma =>
      clear HCL HW2
      obtain ⟨k, vs, R, hk, rfl, HV, HP, HN, HB⟩ := hrel
      have hsz := HB.out.size
      by_cases hlt : k < n
      · as_aux_lemma =>
          have hkl : k < S.length := by rw [HL.out]; exact hlt
          obtain ⟨sb, so, rfl, hsb, hsc⟩ := (HR.out.below (HB.out.mono hB)) (by omega)
          obtain ⟨As, cs, zs, q1, q2, hrd⟩ := hsc k hkl
          have hsl : (nthS S k).length ≤ 12 := by rw [nthS_get hkl]; exact HS.out _ (List.getElem_mem hkl)
          have htk : S.take (k + 1) = S.take k ++ [nthS S k] := by rw [List.take_succ_eq_append_getElem hkl, nthS_get hkl]
          obtain ⟨g, cap, rfl, hvb, hg1, hg2, hg3, hg4, hfz, hel⟩ := HV.out.at_ HN.out.1
          have HTK := Lib.hid htk; have HRD := Lib.hid hrd; have HEL := Lib.hid hel; have HSL := Lib.hid hsl
          have hRl : R.length ≤ 4096 := Nat.le_trans HN.out.2.1 (Nat.pow_le_pow_right (by decide) (show k ≤ 12 by omega))
          unfold maxLen at hg4
          clear hsc hrd htk hel hfz hvb hsl
          generalize nthS S k = s at *
          obtain ⟨wo, rfl⟩ : ∃ wo : World, wo = wr := ⟨_, rfl⟩
          go_wp2_with fail
          go_loopw [6, 22] (fun v i wr => ∃ (j : Nat) (vs2 : List Value) (N : List (List Rg)), j ≤ R.length ∧ i = .int .i64 (j : Int) ∧ Hid (ClV wr wo.heap.size v vs2 N) ∧ Hid (Ref s (R.take j) N) ∧ Hid (N.length ≤ 2 * j ∧ ∀ c ∈ N, c.length ≤ 1 + 13 * (k + 1)) ∧ Hid (Below wo.heap.size wo wr)) (fun _ i _ => R.length - (intOf i).toNat)
          case atStart => exact ⟨0, [], [], Nat.zero_le _, rfl, ClV.nil _ _, Ref.start, ⟨Nat.zero_le _, fun c hc => (by cases hc)⟩, Below.refl _ _⟩
          case round =>
            as_aux_lemma =>
              obtain ⟨j, vs2, N, hj, rfl, HV2, HRF, HN2, HB2⟩ := hrel
              have hsz2 := HB2.out.size
              by_cases hjl : j < R.length
              · as_aux_lemma =>
                  obtain ⟨Ac, cc, hvj, zc, hoj, hc1, hc2, hrj⟩ := HEL.out j hjl
                  have z1 := (HB2.out.cell (p := ⟨g, j, none⟩) hg2).trans zc
                  have hclen := HN.out.2.2 _ (nthS_mem hjl)
                  have hrj2 := (hrj.below HB2.out).more hsz2
                  have hrs2 := (HRD.out.below (HB2.out.mono (Nat.le_trans hB hsz))).more (show B ≤ wr.heap.size by omega)
                  have hcan : ∀ p, inR (nthS R j) p = memR (nthS R j) p := fun p => by
                    obtain ⟨x, hx, kx⟩ := HP.out.each _ (nthS_mem hjl)
                    rw [kx.inR, kx.mem]
                  have htj : R.take (j + 1) = R.take j ++ [nthS R j] := by rw [List.take_succ_eq_append_getElem hjl, nthS_get hjl]
                  have hdis : ∀ x ∈ R.take j, Disj x (nthS R j) := fun x hx => by
                    obtain ⟨i, hi, rfl⟩ := List.getElem_of_mem hx
                    have hij : i < j := by simp at hi; omega
                    have := List.pairwise_iff_getElem.1 HP.out.dis i j (by omega) hjl hij
                    rw [List.getElem_take, nthS_get hjl]
                    exact this
                  have hM := meet_any Ac As (nthS R j).length cc s.length cs (nthS R j) s wr wr.heap.size wr.heap.size (Nat.le_refl _) (Nat.le_refl _) hrj2 rfl (by omega) hrs2 rfl (by have := HSL.out; omega)
                  have hL := fun (wx : World) (hb : Below wr.heap.size wr wx) => less_any Ac As (nthS R j).length cc s.length cs (nthS R j) s wx wx.heap.size (Nat.le_refl _) ((hrj2.below hb).more hb.size) rfl (by omega) ((hrs2.below hb).more hb.size) rfl (by have := HSL.out; omega)
                  have HM := Lib.hid hM; have HLS := Lib.hid hL; have HCAN := Lib.hid hcan; have HTJ := Lib.hid htj; have HDIS := Lib.hid hdis; have HCL := Lib.hid hclen
                  clear hM hL hcan htj hdis hrj hrj2 hrs2 hoj hvj zc hclen
                  generalize nthS R j = cl at *
                  go_wp2_with fail
                  refine HM.out.mono ?_
                  rintro e w2 ⟨u1, d1, rfl, o1, k1, b1, l1⟩
                  clear HM
                  have HLC := Lib.hid (HLS.out w2 b1)
                  have HO1 := Lib.hid o1; have HK1 := Lib.hid k1; have HB3 := Lib.hid b1; have HL1 := Lib.hid l1
                  clear HLS o1 k1 b1 l1
                  go_wp2_with fail
                  refine HLC.out.mono ?_
                  rintro e w3 ⟨u2, d2, rfl, o2, k2, b2, l2⟩
                  clear HLC
                  have HL2 := Lib.hid l2
                  have hb3 : Below wr.heap.size wr w3 := HB3.out.trans (b2.mono HB3.out.size)
                  have hs3 := b2.size; have hs2 := HB3.out.size
                  have hf1 : ∀ g, u1.ownBlock = some g → u6.ownBlock ≠ some g ∧ ∀ (k : Nat) (t : Value), vs2[k]? = some t → t.ownBlock ≠ some g := fun g hg => by
                    have h1 := (HO1.out.lt g hg).1
                    exact ⟨fun e => by have := (HV2.out.row.lt g e).2; omega, fun k t ht e => by have := ((HV2.out.cl k t ht).lt g e).2; omega⟩
                  have hf2 : ∀ g, u2.ownBlock = some g → (u6.ownBlock ≠ some g ∧ ∀ (k : Nat) (t : Value), vs2[k]? = some t → t.ownBlock ≠ some g) ∧ u1.ownBlock ≠ some g ∧ g < w3.heap.size := fun g hg => by
                    have h1 := (o2.lt g hg)
                    exact ⟨⟨fun e => by have := (HV2.out.row.lt g e).2; omega, fun k t ht e => by have := ((HV2.out.cl k t ht).lt g e).2; omega⟩, fun e => by have := (HO1.out.lt g e).2; omega, h1.2⟩
                  have hstep : Ref s (R.take (j + 1)) (N ++ keepN d1 ++ keepN d2) := by
                    rw [HTJ.out]
                    exact HRF.out.step HDIS.out (HK1.out.congr fun p => by rw [HCAN.out]) (k2.congr fun p => by rw [HCAN.out])
                  have hNl : N.length ≤ 8192 := by have := HN2.out.1; omega
                  obtain ⟨w4, hw4⟩ : ∃ w4, w4 = w3.alloc (.cells #[u1, u2] 35) := ⟨_, rfl⟩
                  have hb4 : Below w3.heap.size w3 w4 := by rw [hw4]; exact (Below.refl _ _).alloc (Nat.le_refl _) _
                  have hs4 : w4.heap.size = w3.heap.size + 1 := by rw [hw4]; simp
                  have hblk4 : Blk w4 w3.heap.size 35 [u1, u2] := by rw [hw4]; exact Blk.new _ _ _
                  have x1 : w4.cell? ⟨w3.heap.size, 0, none⟩ = some u1 := hblk4.cell rfl
                  have x2 : w4.cell? ⟨w3.heap.size, 1, none⟩ = some u2 := hblk4.cell rfl
                  have HV4 := Lib.hid ((HV2.out.ext hb3).ext hb4)
                  have HU1 := Lib.hid ((((HO1.out.ext b2).ext hb4).base (Nat.le_trans HB2.out.size (Nat.le_refl _))))
                  have HU2 := Lib.hid ((o2.ext hb4).base (show wo.heap.size ≤ w2.heap.size by omega))
                  have HB4 := Lib.hid (HB2.out.trans ((hb3.trans (hb4.mono (by omega))).mono hsz2))
                  have HRW := Lib.hid (show ∀ g, u6.ownBlock = some g → g < w3.heap.size from fun g hg => by have := (HV2.out.row.lt g hg).2; omega)
                  have HF1 := Lib.hid hf1; have HF2 := Lib.hid hf2; have HST := Lib.hid hstep
                  have hU : w3.heap.size < w4.heap.size := by omega
                  obtain ⟨A1, e1, rfl, p1, p2, -⟩ := HU1.out.form
                  obtain ⟨A2, e2, rfl, p3, p4, -⟩ := HU2.out.form
                  have HS4 := Lib.hid hs4
                  clear o2 k2 b2 l2 hf1 hf2 hstep hb3 hb4 hblk4 HRF HV2 HO1 HK1 HB3 z1
                  have hw4' := hw4
                  have HLL : Hid (d1.length ≤ 1 + 13 * (k + 1) ∧ d2.length ≤ 1 + 13 * (k + 1)) := Lib.hid ⟨by have h1 := HL1.out; have h2 := HCL.out; have h3 := HSL.out; omega, by have h1 := HL2.out; have h2 := HCL.out; have h3 := HSL.out; omega⟩
                  clear HL1 HL2 HCL hw4
                  rcases Nat.eq_zero_or_pos d1.length with n1 | n1
                  · as_aux_lemma =>
                      have n1' : ¬ 0 < d1.length := by omega
                      have KD1 := Lib.hid (keepN_no n1)
                      clear n1
                      rcases Nat.eq_zero_or_pos d2.length with n2 | n2
                      · as_aux_lemma =>
                          have n2' : ¬ 0 < d2.length := by omega
                          have KD2 := Lib.hid (keepN_no n2)
                          clear n2
                          go_wp2_with fail
                          rw [← hw4']
                          clear hw4'
                          refine wp_loop_rounds 3 ?_
                          rw [rounds_succ]
                          go_wp2_with fail
                          rw [rounds_succ]
                          go_wp2_with fail
                          rw [rounds_succ]
                          go_wp2_with fail
                          go_roundw
                          case rel =>
                            have hst := HST.out
                            rw [KD1.out, KD2.out] at hst
                            simp only [List.append_nil] at hst
                            refine ⟨j + 1, _, _, by omega, by go_num, HV4, Lib.hid hst, Lib.hid ⟨by have h1 := HN2.out.1; simp; omega, fun c hc => ?_⟩, HB4⟩
                            exact HN2.out.2 c hc
                          case measure => simp [intOf]; omega
                      · as_aux_lemma =>
                          have KD2 := Lib.hid (keepN_yes n2)
                          go_wp2_with fail
                          rw [← hw4']
                          clear hw4'
                          refine wp_loop_rounds 3 ?_
                          rw [rounds_succ]
                          go_wp2_with fail
                          rw [rounds_succ]
                          have HF2b := Lib.hid (fun g hg => (HF2.out g hg).1)
                          go_wp2_with (at_builtin; refine wpList_app elRow rfl (.tmp 41) (.tmp 43) rfl wo.heap.size _ (N.length) 1 vs2 [.slice A2 d2.length e2] rfl (HV4.out.row) (by rw [HS4.out]; rfl) rfl (by simp [Value.oneCell']) (by omega) (by omega) HB4.out.size ?_; intro v6 w6 hown6 hg6 hat6; have HV6 := Lib.hid (HV4.out.push hg6 HU2.out HF2b.out (hown6) hat6); have HB6 := Lib.hid (HB4.out.grown hg6 HB4.out.size (fun k e => own_base HV4.out.row k e)); clear hown6 hg6 hat6)
                          rw [rounds_succ]
                          go_wp2_with fail
                          go_roundw
                          case rel =>
                            have hst := HST.out
                            rw [KD1.out, KD2.out] at hst
                            simp only [List.append_nil] at hst
                            refine ⟨j + 1, _, _, by omega, by go_num, HV6, Lib.hid hst, Lib.hid ⟨by have h1 := HN2.out.1; simp; omega, fun c hc => ?_⟩, HB6⟩
                            simp only [List.mem_append, List.mem_singleton] at hc
                            rcases hc with q | rfl
                            · exact HN2.out.2 c q
                            · exact HLL.out.2
                          case measure => simp [intOf]; omega
                  · as_aux_lemma =>
                      have KD1 := Lib.hid (keepN_yes n1)
                      rcases Nat.eq_zero_or_pos d2.length with n2 | n2
                      · as_aux_lemma =>
                          have n2' : ¬ 0 < d2.length := by omega
                          have KD2 := Lib.hid (keepN_no n2)
                          clear n2
                          go_wp2_with fail
                          rw [← hw4']
                          clear hw4'
                          refine wp_loop_rounds 3 ?_
                          rw [rounds_succ]
                          go_wp2_with (at_builtin; refine wpList_app elRow rfl (.tmp 41) (.tmp 43) rfl wo.heap.size _ N.length 1 vs2 [.slice A1 d1.length e1] rfl HV4.out.row (by rw [HS4.out]; rfl) rfl (by simp [Value.oneCell']) (by omega) (by omega) HB4.out.size ?_; intro v5 w5 hown5 hg5 hat5; have HV5 := Lib.hid (HV4.out.push hg5 HU1.out HF1.out hown5 hat5); have HB5 := Lib.hid (HB4.out.grown hg5 HB4.out.size (fun k e => own_base HV4.out.row k e)); have HF5 := Lib.hid (show ∀ g, (Value.slice A2 d2.length e2).ownBlock = some g → v5.ownBlock ≠ some g ∧ ∀ (k : Nat) (t : Value), (vs2 ++ [Value.slice A1 d1.length e1])[k]? = some t → t.ownBlock ≠ some g from fun g hg => fresh5 hat5 (HF2.out g hg) HS4.out); have HU5 := Lib.hid (World.ownsRow.kept HU2.out hg5 (kept5 fun g hg => ⟨(HF2.out g hg).1.1, trivial⟩)); have x2 := (World.cell?_of_block (a := ⟨w3.heap.size, 1, none⟩) (hg5.block w3.heap.size hU (row5 HRW.out))).trans x2; have hU5 := Nat.lt_of_lt_of_le hU hg5.size; clear hown5 hg5 hat5)
                          rw [rounds_succ]
                          go_wp2_with fail
                          rw [rounds_succ]
                          go_wp2_with fail
                          go_roundw
                          case rel =>
                            have hst := HST.out
                            rw [KD1.out, KD2.out] at hst
                            simp only [List.append_nil] at hst
                            refine ⟨j + 1, _, _, by omega, by go_num, HV5, Lib.hid hst, Lib.hid ⟨by have h1 := HN2.out.1; simp; omega, fun c hc => ?_⟩, HB5⟩
                            simp only [List.mem_append, List.mem_singleton] at hc
                            rcases hc with q | rfl
                            · exact HN2.out.2 c q
                            · exact HLL.out.1
                          case measure => simp [intOf]; omega
                      · as_aux_lemma =>
                          have KD2 := Lib.hid (keepN_yes n2)
                          go_wp2_with fail
                          rw [← hw4']
                          clear hw4'
                          refine wp_loop_rounds 3 ?_
                          rw [rounds_succ]
                          go_wp2_with (at_builtin; refine wpList_app elRow rfl (.tmp 41) (.tmp 43) rfl wo.heap.size _ N.length 1 vs2 [.slice A1 d1.length e1] rfl HV4.out.row (by rw [HS4.out]; rfl) rfl (by simp [Value.oneCell']) (by omega) (by omega) HB4.out.size ?_; intro v5 w5 hown5 hg5 hat5; have HV5 := Lib.hid (HV4.out.push hg5 HU1.out HF1.out hown5 hat5); have HB5 := Lib.hid (HB4.out.grown hg5 HB4.out.size (fun k e => own_base HV4.out.row k e)); have HF5 := Lib.hid (show ∀ g, (Value.slice A2 d2.length e2).ownBlock = some g → v5.ownBlock ≠ some g ∧ ∀ (k : Nat) (t : Value), (vs2 ++ [Value.slice A1 d1.length e1])[k]? = some t → t.ownBlock ≠ some g from fun g hg => fresh5 hat5 (HF2.out g hg) HS4.out); have HU5 := Lib.hid (World.ownsRow.kept HU2.out hg5 (kept5 fun g hg => ⟨(HF2.out g hg).1.1, trivial⟩)); have x2 := (World.cell?_of_block (a := ⟨w3.heap.size, 1, none⟩) (hg5.block w3.heap.size hU (row5 HRW.out))).trans x2; have hU5 := Nat.lt_of_lt_of_le hU hg5.size; clear hown5 hg5 hat5)
                          rw [rounds_succ]
                          go_wp2_with (at_builtin; refine wpList_app elRow rfl (.tmp 41) (.tmp 43) rfl wo.heap.size _ (N.length + 1) 1 (vs2 ++ [.slice A1 d1.length e1]) [.slice A2 d2.length e2] rfl (by have := HV5.out.row; rw [List.length_append] at this; exact this) rfl rfl (by simp [Value.oneCell']) (by omega) (by omega) HB5.out.size ?_; intro v6 w6 hown6 hg6 hat6; have HV6 := Lib.hid (HV5.out.push hg6 HU5.out HF5.out (by rw [List.length_append]; exact hown6) hat6); have HB6 := Lib.hid (HB5.out.grown hg6 HB5.out.size (fun k e => own_base HV5.out.row k e)); clear hown6 hg6 hat6)
                          rw [rounds_succ]
                          go_wp2_with fail
                          go_roundw
                          case rel =>
                            have hst := HST.out
                            rw [KD1.out, KD2.out] at hst
                            refine ⟨j + 1, _, _, by omega, by go_num, HV6, Lib.hid hst, Lib.hid ⟨by have h1 := HN2.out.1; simp; omega, fun c hc => ?_⟩, HB6⟩
                            simp only [List.mem_append, List.mem_singleton] at hc
                            rcases hc with (q | rfl) | rfl
                            · exact HN2.out.2 c q
                            · exact HLL.out.1
                            · exact HLL.out.2
                          case measure => simp [intOf]; omega
              · as_aux_lemma =>
                  have hjR : j = R.length := by omega
                  have hrf := HRF.out
                  rw [List.take_of_length_le (by omega)] at hrf
                  have hpn := HP.out.next hrf
                  rw [← HTK.out] at hpn
                  have HPN := Lib.hid hpn
                  have hne : 0 < N.length := by
                    obtain ⟨d, hd, _⟩ := hpn.all 0 (by decide)
                    cases N with
                    | nil => cases hd
                    | cons a l => simp
                  have HNE := Lib.hid hne
                  clear hrf hpn hne
                  go_wp2_with fail
                  go_roundw
                  case rel => exact ⟨k + 1, _, N, by omega, by go_num, HV2.out.base hsz, HPN, ⟨HNE.out, by have h1 := HN2.out.1; have h2 := HN.out.2.1; rw [Nat.pow_succ]; omega, HN2.out.2⟩, HB.out.trans (HB2.out.mono hsz)⟩
                  case measure => simp [intOf]; omega
      · as_aux_lemma =>
          have hRl : R.length ≤ 4096 := Nat.le_trans HN.out.2.1 (Nat.pow_le_pow_right (by decide) (show k ≤ 12 by omega))
          have htk : S.take k = S := List.take_of_length_le (by rw [HL.out]; omega)
          rw [htk] at HP
          have hbd : ∀ c ∈ R, 0 < c.length ∧ 0 ≤ fstR c ∧ fstR c ≤ 1114111 := fun c hc => by
            obtain ⟨x, hx, hm⟩ := (HP.out.each c hc).self
            obtain ⟨_, _, kc⟩ := HP.out.each c hc
            have h1 := can_ne hm
            have h2 := (fst_mem kc.can h1).1
            have h3 := CanF.le kc.can h2
            exact ⟨List.length_pos_iff.2 h1, h3.1, h3.2⟩
          have HSO := Lib.hid (fun (wx : World) (hb : Below wr.heap.size wr wx) => sortRows_any w.heap.size _ vs R wx (HV.out.ext hb) HN.out.1 (by omega) hbd)
          clear hbd htk hRl
          go_wp2_with fail
          refine (HSO.out wr (Below.refl _ _)).mono ?_
          rintro e w2 ⟨rfl, vs2, R2, hpm, hpw, hb2, hrow, hln, hcl⟩
          have HPM := Lib.hid hpm; have HPT := Lib.hid (HP.out.sorted hpm hpw); have HB2 := Lib.hid (HB.out.trans (hb2.mono (Nat.le_refl _)))
          have HRW := Lib.hid hrow; have HLN := Lib.hid hln; have HCL2 := Lib.hid hcl
          clear hpm hpw hb2 hrow hln hcl HSO
          go_wp2_with fail
          go_ret
          have hl2 : R2.length = R.length := HPM.out.length_eq
          have hRl : R.length ≤ 4096 := Nat.le_trans HN.out.2.1 (Nat.pow_le_pow_right (by decide) (show k ≤ 12 by omega))
          exact ⟨_, vs2, R2, rfl, HPT.out, HB2.out, by omega, fun c hc => by have h1 := HN.out.2.2 c (HPM.out.mem_iff.1 hc); omega, HRW.out, HLN.out, HCL2.out⟩
end Go.Proofs.Ytihfdmjejllhnaa
