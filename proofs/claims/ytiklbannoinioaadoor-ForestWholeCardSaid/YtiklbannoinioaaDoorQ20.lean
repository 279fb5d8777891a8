/- The program's product of whole numbers. · Counting: memory. -/
import Derived.Test.YtiklbannoinioaaDoorQ19
import Derived.Test.YtiklbannoinioaaDoorQ16
import Derived.Test.YtiklbannoinioaaDoorQ18
namespace Go.Proofs.YtiklbannoinioaaDoor
open Go.RowKit BigFrame
set_option linter.unusedVariables false
set_option linter.unusedSimpArgs false
set_option maxRecDepth 100000

theorem Blk.ucell {w : World} {g : Nat} {e : TypeId} {l : List Nat} (h : Blk w g e (uv l)) {k : Nat} (hk : k < l.length) : w.cell? ⟨g, k, none⟩ = some (.int .u32 ((l.getD k 0 : Nat) : Int)) := h.cell (uv_get hk)
theorem Blk.uset {w : World} {g : Nat} {e : TypeId} {l : List Nat} (h : Blk w g e (uv l)) (k x : Nat) : Blk (w.setCell ⟨g, k, none⟩ (.int .u32 (x : Int))) g e (uv (l.set k x)) := by rw [← uv_set]; exact h.set_ k _
/-- A head of a whole block. -/
theorem Blk.ownU {w : World} {g base n c : Nat} {l o : List Nat} (h : Blk w g 88 (uv l)) (hb : base ≤ g) (hc : c = l.length) (hn : n ≤ c) (hm : c ≤ 1000000000) (ho : o = l.take n) : OwU w base (.slice (some ⟨g, 0, none⟩) n c) o := by
  have hol : o.length = n := by rw [ho, List.length_take]; omega
  refine ⟨by rw [uv_len]; omega, .inr ⟨g, c, (uv l).toArray, by rw [hol], hb, h, by omega, by unfold maxLen; omega, by simp [uv_len, hc], ?_⟩⟩
  rw [ho]
  simp only [Nat.mul_one]
  rw [← ho, hol, ho]
  unfold uv
  simp [List.map_take]
set_option maxHeartbeats 4000000 in
theorem times_u (A A' : Option Addr) (n c n' c' : Nat) (a b : List Nat) (w : World) (B : Nat) (hB : B ≤ w.heap.size) (ha : RdU w B A a) (hla : a.length = n) (hb : RdU w B A' b) (hlb : b.length = n') (hn : n ≤ 100000000) (hn' : n' ≤ 100000000) (Ha : Nm a) (Hb : Nm b) :
    Calls Tryd.prog 41 #[.slice A n c, .slice A' n' c'] w fun e w' => ∃ v l, e = .returned v ∧ OwU w' w.heap.size v l ∧ Nm l ∧ vB 1000000000 l = vB 1000000000 a * vB 1000000000 b ∧ l.length ≤ n + n' ∧ Below w.heap.size w w' := by
  have HA := Lib.hid ha; have HLA := Lib.hid hla; have HB := Lib.hid hb; have HLB := Lib.hid hlb; have HNA := Lib.hid Ha; have HNB := Lib.hid Hb
  by_cases h0 : n = 0 ∨ n' = 0
  · have hv : vB 1000000000 a * vB 1000000000 b = 0 := by
      rcases h0 with q | q
      · rw [List.length_eq_zero_iff.1 (show a.length = 0 by rw [hla]; exact q)]; simp [vB]
      · rw [List.length_eq_zero_iff.1 (show b.length = 0 by rw [hlb]; exact q)]; simp [vB]
    have HV := Lib.hid hv
    clear ha hla hb hlb Ha Hb hv
    by_cases h1 : n = 0
    · have d1 : (((n : Nat) : Int) == 0) = true := by simp [h1]
      go_enter Tryd.func41, Tryd.ntmps41
      go_wp2_with fail
      go_ret
      exact ⟨_, [], rfl, OwU.nil _ _, Nm.nil, by rw [HV.out]; rfl, Nat.zero_le _, Below.refl _ _⟩
    · have d1 : (((n : Nat) : Int) == 0) = false := by simp; omega
      have d2 : (((n' : Nat) : Int) == 0) = true := by simp; omega
      go_enter Tryd.func41, Tryd.ntmps41
      go_wp2_with fail
      go_ret
      exact ⟨_, [], rfl, OwU.nil _ _, Nm.nil, by rw [HV.out]; rfl, Nat.zero_le _, Below.refl _ _⟩
  have d1 : (((n : Nat) : Int) == 0) = false := by simp; omega
  have d2 : (((n' : Nat) : Int) == 0) = false := by simp; omega
  obtain ⟨m, hm⟩ : ∃ m, n + n' = m := ⟨_, rfl⟩
  have hmk := mk_zerU w m ((n : Int) + (n' : Int)) (by omega) (by omega)
  obtain ⟨g, hg⟩ : ∃ g, w.heap.size = g := ⟨_, rfl⟩
  obtain ⟨W0, hW0⟩ : ∃ W0, W0 = w.alloc (.cells (zs (.int .u32 0) m) 88) := ⟨_, rfl⟩
  rw [← hW0, hg] at hmk
  have HB0 : Hid (Below g w W0) := Lib.hid (by rw [hW0, ← hg]; exact (Below.refl _ _).alloc (Nat.le_refl _) _)
  have HK0 : Hid (Blk W0 g 88 (uv (List.replicate m 0))) := Lib.hid (by rw [hW0, ← hg, ← uv_rep]; exact Blk.made w 88 (.int .u32 0) m)
  have hz0 : W0.heap.size = g + 1 := by rw [hW0, ← hg]; simp
  have hgB : B ≤ g := by omega
  have HG := Lib.hid hg; have HM := Lib.hid hm
  have hm1 : n < m ∧ n' < m ∧ m ≤ 200000000 := by omega
  obtain ⟨hmn, hmn', hm2⟩ := hm1
  have hn0 : 0 < n := by omega
  have hn0' : 0 < n' := by omega
  clear ha hla hb hlb Ha Hb hW0 hg h0
  clear hm
  go_enter Tryd.func41, Tryd.ntmps41
  go_wp2_with fail
  go_loopw [27] (fun i wr => ∃ (k : Nat) (out : List Nat), k ≤ n ∧ i = .int .i64 (k : Int) ∧ Hid (Blk wr g 88 (uv out)) ∧ Hid (PrI a b k out) ∧ Hid (Kp (fun q => q = g) W0 wr)) (fun i _ => n - (intOf i).toNat)
  case atStart => exact ⟨0, List.replicate m 0, Nat.zero_le _, rfl, HK0.out, by rw [← HM.out, ← HLA.out, ← HLB.out]; exact PrI.start a b, Kp.refl _ _⟩
  case round =>
    as_aux_lemma =>
      clear HK0
      obtain ⟨k, out, hk, rfl, HK, HP, HW⟩ := hrel
      have hz := HW.out.size
      have hol : out.length = m := by rw [HP.out.l, HLA.out, HLB.out, HM.out]
      have HBW : Hid (Below B w wr) := Lib.hid ((HB0.out.mono hgB).trans (HW.out.bel (by omega) (fun q hq e => by have e2 : q = g := e; omega)))
      by_cases hlt : k < n
      · as_aux_lemma =>
          have d0 : decide ((k : Int) < (n : Int)) = true := decide_eq_true (by omega)
          have hkm : k + n' < m := by have := HM.out; omega
          have hx := getD_lt (b := 1000000000) (by decide) HNA.out.d k
          have HRW := Lib.hid (RwI.start (b := b) (x := a.getD k 0) (i := k) HP.out.d)
          obtain ⟨ba, oa, rfl, hba, hca⟩ := (HA.out.below HBW.out).at_ (by rw [HLA.out]; omega)
          have ca := hca k (by rw [HLA.out]; exact hlt)
          obtain ⟨x, hxe⟩ : ∃ x, x = a.getD k 0 := ⟨_, rfl⟩
          rw [← hxe] at ca hx HRW
          have HX := Lib.hid hxe
          clear hca hxe
          obtain ⟨wo, rfl⟩ : ∃ wo : World, wo = wr := ⟨_, rfl⟩
          go_wp2_with fail
          go_loopw [8, 34] (fun cy i wr => ∃ (j c : Nat) (o2 : List Nat), j ≤ n' ∧ i = .int .i64 (j : Int) ∧ cy = .int .u64 (c : Int) ∧ Hid (Blk wr g 88 (uv o2)) ∧ Hid (RwI out b x k j o2 c) ∧ Hid (Kp (fun q => q = g) wo wr)) (fun _ i _ => n' - (intOf i).toNat)
          case atStart => exact ⟨0, 0, out, Nat.zero_le _, rfl, rfl, HK.out, HRW.out, Kp.refl _ _⟩
          case round =>
            as_aux_lemma =>
              clear HRW ca
              obtain ⟨j, cy, o2, hj, rfl, rfl, HK2, HR, HW2⟩ := hrel
              have hz2 := HW2.out.size
              have hcy := HR.out.cy
              have hol2 : o2.length = m := by rw [HR.out.l, hol]
              by_cases hlj : j < n'
              · as_aux_lemma =>
                  have d1 : decide ((j : Int) < (n' : Int)) = true := decide_eq_true (by omega)
                  have hy := getD_lt (b := 1000000000) (by decide) HNB.out.d j
                  have ho := getD_lt (b := 1000000000) (by decide) HR.out.d (k + j)
                  have HST := Lib.hid (HR.out.step hx HNB.out.d (by rw [HLB.out]; exact hlj) (by rw [hol, HLB.out]; omega))
                  obtain ⟨bb, ob, rfl, hbb, hcb⟩ := (HB.out.below (HBW.out.trans (HW2.out.bel (by omega) (fun q hq e => by have e2 : q = g := e; omega)))).at_ (by rw [HLB.out]; omega)
                  have cb := hcb j (by rw [HLB.out]; exact hlj)
                  have co := HK2.out.ucell (k := k + j) (by omega)
                  obtain ⟨y, hye⟩ : ∃ y, y = b.getD j 0 := ⟨_, rfl⟩
                  obtain ⟨o, hoe⟩ : ∃ o, o = o2.getD (k + j) 0 := ⟨_, rfl⟩
                  rw [← hye] at cb hy HST
                  rw [← hoe] at co ho HST
                  have hmp := mul_part (c := cy) ho hx hy hcy
                  obtain ⟨p, hp⟩ : ∃ p : Nat, x * y = p := ⟨_, rfl⟩
                  have hpi : (x : Int) * (y : Int) = (p : Int) := by rw [← hp]; simp
                  rw [hp] at hmp HST
                  obtain ⟨hmp1, hmp2⟩ := hmp
                  have HSET := Lib.hid (HK2.out.uset (k + j) ((cy + (o + p)) % 1000000000))
                  have HSK := Lib.hid (HW2.out.set_ (p := ⟨g, k + j, none⟩) (.inr rfl) (.int .u32 (((cy + (o + p)) % 1000000000 : Nat) : Int)))
                  rw [show ((((cy + (o + p)) % 1000000000 : Nat)) : Int) = ((cy : Int) + ((o : Int) + (p : Int))) % 1000000000 by omega] at HSET HSK
                  have hfz := HK2.out.frozen (k + j)
                  obtain ⟨kj, hkj⟩ : ∃ kj, k + j = kj := ⟨_, rfl⟩
                  rw [hkj] at co HST HSET HSK hfz
                  have hkji : (k : Int) + (j : Int) = (kj : Int) := by omega
                  have hkjm : kj < m := by omega
                  clear hcb hye hoe hp hkj HA HB
                  go_wp2_with fail
                  go_roundw
                  case rel => exact ⟨j + 1, (cy + (o + p)) / 1000000000, _, by omega, by go_num, by congr 1, HSET.out, HST.out, HSK.out⟩
                  case measure => simp [intOf]; omega
              · as_aux_lemma =>
                  have d1 : decide ((j : Int) < (n' : Int)) = false := decide_eq_false (by omega)
                  obtain rfl : j = n' := by omega
                  obtain ⟨q, hq⟩ : ∃ q, k + j = q := ⟨_, rfl⟩
                  have hqi : (k : Int) + (j : Int) = (q : Int) := by omega
                  have hqm : q < m := by omega
                  have co := HK2.out.ucell (k := q) (by omega)
                  have hfz := HK2.out.frozen q
                  have HSET := Lib.hid (HK2.out.uset q cy)
                  have HSK := Lib.hid ((HW.out.trans HW2.out).set_ (p := ⟨g, q, none⟩) (.inr rfl) (.int .u32 (cy : Int)))
                  have HPR := Lib.hid (HP.out.row (out := o2) (c := cy) (by rw [HLA.out]; exact hlt) (by rw [HLB.out, ← HX.out]; exact HR.out))
                  rw [HLB.out, hq] at HPR
                  clear hq HA HB
                  go_wp2_with fail
                  go_roundw
                  case rel => exact ⟨k + 1, _, by omega, by go_num, HSET.out, HPR.out, HSK.out⟩
                  case measure => simp [intOf]; omega
      · as_aux_lemma =>
          have d0 : decide ((k : Int) < (n : Int)) = false := decide_eq_false (by omega)
          obtain rfl : k = n := by omega
          have HDN := Lib.hid (PrI.done (a := a) (b := b) (out := out) (by rw [HLA.out]; exact HP.out) HNA.out HNB.out (fun e => by have := HLA.out; rw [e] at this; simp at this; omega) (fun e => by have := HLB.out; rw [e] at this; simp at this; omega))
          obtain ⟨⟨o, x, rfl, hox, h1, h2⟩, h3⟩ := HDN.out
          have H1 := Lib.hid h1; have H2 := Lib.hid h2; have H3 := Lib.hid h3
          obtain ⟨q, hq⟩ : ∃ q, o.length = q := ⟨_, rfl⟩
          have hqm : m = q + 1 := by rw [← hol, ← hq]; simp
          have HQ := Lib.hid hq
          have HM2 := Lib.hid hqm
          have co := HK.out.ucell (k := q) (by rw [hol]; omega)
          have hx0 : (o ++ [x]).getD q 0 = x := by rw [← hq]; simp
          rw [hx0] at co
          have hqi : (m : Int) - 1 = (q : Int) := by omega
          have hql : q < m := by omega
          have HOW : Hid (Below w.heap.size w wr) := Lib.hid (by rw [HG.out]; exact HB0.out.trans (HW.out.bel (by omega) (fun q hq e => by have e2 : q = g := e; omega)))
          have hgw := HG.out
          have HLE : Hid (q + 1 = k + n') := Lib.hid (by rw [HM.out]; exact hqm.symm)
          clear HDN h1 h2 h3 hq hx0 hox hqm HA HB HP
          by_cases hx : x = 0
          · have d1 : ((x : Int) == 0) = true := by simp [hx]
            have HO : Hid (OwU wr w.heap.size (.slice (some ⟨g, 0, none⟩) q m) o) := Lib.hid (HK.out.ownU (by omega) hol.symm (by omega) (by omega) (by rw [← HQ.out]; simp))
            clear hol
            go_wp2_with fail
            go_ret
            exact ⟨_, o, rfl, HO.out, (H2.out hx).1, (H2.out hx).2, by rw [HQ.out]; have := HLE.out; omega, HOW.out⟩
          · have d1 : ((x : Int) == 0) = false := by simp; omega
            have HO : Hid (OwU wr w.heap.size (.slice (some ⟨g, 0, none⟩) m m) (o ++ [x])) := Lib.hid (HK.out.ownU (by omega) hol.symm (by omega) (by omega) (by rw [← hol, List.take_length]))
            clear hol
            go_wp2_with fail
            go_ret
            exact ⟨_, o ++ [x], rfl, HO.out, H1.out hx, H3.out, by rw [List.length_append, List.length_singleton, HQ.out]; have := HLE.out; omega, HOW.out⟩
end Go.Proofs.YtiklbannoinioaaDoor
namespace Go.Proofs.YtiklbannoinioaaDoor
open Go.RowKit BigFrame Go.Maps
set_option linter.unusedVariables false
set_option linter.unusedSimpArgs false
set_option maxRecDepth 100000

/-- A whole number, of blocks from N on. -/
def NumV (N : Nat) (w : World) (v : Value) (k : Nat) : Prop := ∃ A n cp l, v = .slice A n cp ∧ (A = none ∨ ∃ b off, A = some ⟨b, off, none⟩) ∧ l.length = n ∧ n ≤ cp ∧ cp ≤ maxLen ∧ Nm l ∧ vB 1000000000 l = k ∧
  (0 < n → ∃ b off, A = some ⟨b, off, none⟩ ∧ N ≤ b ∧ b < w.heap.size ∧ ∀ j, j < n → w.cell? ⟨b, off + j, none⟩ = some (.int .u32 ((l.getD j 0 : Nat) : Int)))
section
variable {N base : Nat} {w w' : World} {v : Value} {k : Nat} {l : List Nat}
theorem NumV.kp {Z : Nat → Prop} (h : NumV N w v k) (hk : Kp Z w w') (hz : ∀ b, Z b → b < N) : NumV N w' v k := by
  obtain ⟨A, n, cp, l, e, h00, h1, h2, h3, h4, h5, h6⟩ := h
  refine ⟨A, n, cp, l, e, h00, h1, h2, h3, h4, h5, fun h0 => ?_⟩
  obtain ⟨b, off, e2, g1, g2, g3⟩ := h6 h0
  exact ⟨b, off, e2, g1, Nat.lt_of_lt_of_le g2 hk.size, fun j hj => (hk.cell (p := ⟨b, off + j, none⟩) g2 (fun q => by have := hz b q; omega)).trans (g3 j hj)⟩
theorem NumV.bel (h : NumV N w v k) (hb : Below w.heap.size w w') : NumV N w' v k := h.kp (Kp.of (S := fun _ => False) hb) (fun _ q => q.elim)
theorem NumV.zero (N : Nat) (w : World) : NumV N w (.slice none 0 0) 0 := ⟨none, 0, 0, [], rfl, .inl rfl, rfl, Nat.le_refl _, Nat.zero_le _, Nm.nil, rfl, fun h => absurd h (Nat.lt_irrefl _)⟩
theorem NumV.of_own (h : OwU w base v l) (hN : N ≤ base) (hm : Nm l) : NumV N w v (vB 1000000000 l) := by
  obtain ⟨A, c, rfl, h1, h2, _⟩ := h.form
  refine ⟨A, _, c, l, rfl, ?_, rfl, h1, h2, hm, rfl, fun h0 => ?_⟩
  · rcases h.2 with ⟨e, _⟩ | ⟨g, cap, cur, e, _⟩
    · simp only [Value.slice.injEq] at e; exact .inl e.1
    · simp only [Value.slice.injEq] at e; exact .inr ⟨g, 0, e.1⟩
  rcases h.2 with ⟨e, _⟩ | ⟨g, cap, cur, e, hb, hg, _⟩
  · simp only [Value.slice.injEq] at e
    omega
  · simp only [Value.slice.injEq] at e
    obtain ⟨rfl, _, _⟩ := e
    refine ⟨g, 0, rfl, Nat.le_trans hN hb, (Array.getElem?_eq_some_iff.1 hg).1, fun j hj => ?_⟩
    have := h.cells (g := g) rfl j _ (uv_get hj)
    have hadd : (⟨g, 0, none⟩ : Addr).add j = ⟨g, 0 + j, none⟩ := by unfold Addr.add; split <;> simp_all
    rwa [hadd] at this
theorem nm_len {E : Nat} (hm : Nm l) (h : vB 1000000000 l < 2 ^ E) : l.length ≤ E / 29 + 1 := by
  by_cases q : l = []
  · subst q; simp
  · rcases hm.n with h0 | h0
    · exact absurd h0 q
    · have h1 : (2 ^ 29) ^ (l.length - 1) ≤ 1000000000 ^ (l.length - 1) := Nat.pow_le_pow_left (by decide) _
      rw [← Nat.pow_mul] at h1
      have h2 : 2 ^ (29 * (l.length - 1)) < 2 ^ E := Nat.lt_of_le_of_lt h1 (Nat.lt_of_le_of_lt h0 h)
      have h3 := (Nat.pow_lt_pow_iff_right (by decide : 1 < 2)).1 h2
      omega
/-- As the whole numbers' functions read it. -/
theorem NumV.rd (h : NumV N w v k) : ∃ A n cp l, v = .slice A n cp ∧ RdU w w.heap.size A l ∧ l.length = n ∧ Nm l ∧ vB 1000000000 l = k ∧ (Sm k → n ≤ 50000000) := by
  obtain ⟨A, n, cp, l, e, h00, h1, h2, h3, h4, h5, h6⟩ := h
  refine ⟨A, n, cp, l, e, fun hne => ?_, h1, h4, h5, fun hk => ?_⟩
  · obtain ⟨b, off, e2, g1, g2, g3⟩ := h6 (by
      rw [← h1]
      refine List.length_pos_iff.2 (fun q => hne ?_)
      rw [q]; rfl)
    refine ⟨b, off, e2, g2, fun j u hu => ?_⟩
    have hj : j < l.length := by have := (List.getElem?_eq_some_iff.1 hu).1; rwa [uv_len] at this
    rw [uv_get hj] at hu
    cases hu
    exact g3 j (by omega)
  · obtain ⟨E, hE, hk⟩ := hk
    rw [← h5] at hk
    have := nm_len h4 hk
    omega
end
theorem zero_num (w : World) : (zeroValue 52).run Tryd.prog w = .ok noneV w := rfl
/-- What a chart is while it counts. -/
structure CtM (w : World) (S : Nat → Prop) (B c m2 m3 N : Nat) (vs0 : List Value) (G : Gr) (Ap Al As : Option Addr) (np cp nl cl ns cs : Nat) (Ai : Option Addr) (ni ci : Nat) (inp : List Int) (C : Ct) (O : List K3) (σ : CS) : Prop where
  ch : ChIn w S B c m3 G Ap Al As np cp nl cl ns cs Ai ni ci inp C
  lt : ∀ b, S b → b < N ∧ b ≠ m2 ∧ b ≠ m3
  sz : N ≤ w.heap.size
  op : Opn m3 O w
  c10 : w.cell? ⟨c, 10, none⟩ = some (.map (some m2))
  cB : Blk w c 59 (vs0.set 12 (.bool σ.many))
  c12 : 12 < vs0.length
  mm : ∃ f, KMap 46 noneV w m2 σ.M.length f ∧ ∀ x, inK x → (lkK σ.M x = none → f x = none) ∧ ∀ v, lkK σ.M x = some v → ∃ u, f x = some u ∧ NumV N w u v
  ne : m2 ≠ m3 ∧ m2 < N ∧ m3 < N ∧ c < N
  bc : B ≤ c
section
variable {w w' : World} {S : Nat → Prop} {B c m2 m3 N : Nat} {vs0 : List Value} {G : Gr} {Ap Al As : Option Addr} {np cp nl cl ns cs : Nat} {Ai : Option Addr} {ni ci : Nat} {inp : List Int} {C : Ct} {O : List K3} {σ : CS}
/-- What counting turns. -/
def Zct (m2 m3 c : Nat) : Nat → Prop := fun b => b = m2 ∨ b = m3 ∨ b = c
theorem CtM.zN (h : CtM w S B c m2 m3 N vs0 G Ap Al As np cp nl cl ns cs Ai ni ci inp C O σ) : ∀ b, Zct m2 m3 c b → b < N := fun b q => by
  have := h.ne
  rcases q with q | q | q <;> omega
theorem CtM.sz' (h : CtM w S B c m2 m3 N vs0 G Ap Al As np cp nl cl ns cs Ai ni ci inp C O σ) : ∀ b, S b → b < w.heap.size := fun b q => Nat.lt_of_lt_of_le (h.lt b q).1 h.sz
theorem CtM.bel (h : CtM w S B c m2 m3 N vs0 G Ap Al As np cp nl cl ns cs Ai ni ci inp C O σ) (hb : Below w.heap.size w w') : CtM w' S B c m2 m3 N vs0 G Ap Al As np cp nl cl ns cs Ai ni ci inp C O σ := by
  have v1 := h.cB
  obtain ⟨f, f1, f2⟩ := h.mm
  exact ⟨h.ch.bel h.sz' hb, h.lt, Nat.le_trans h.sz hb.size, h.op.same (hb.block m3 h.op.lt), (hb.cell (p := ⟨c, 10, none⟩) (lt_cell h.c10)).trans h.c10, v1.below' hb, h.c12,
    ⟨f, f1.same (hb.block m2 f1.lt), fun x hx => ⟨(f2 x hx).1, fun v hv => by obtain ⟨u, h1, h2⟩ := (f2 x hx).2 v hv; exact ⟨u, h1, h2.bel hb⟩⟩⟩, h.ne, h.bc⟩
/-- One of the maps is another. -/
theorem CtM.map3 {O' : List K3} (h : CtM w S B c m2 m3 N vs0 G Ap Al As np cp nl cl ns cs Ai ni ci inp C O σ) (hk : Kp (fun b => b = m3) w w') (ho : Opn m3 O' w') : CtM w' S B c m2 m3 N vs0 G Ap Al As np cp nl cl ns cs Ai ni ci inp C O' σ := by
  have v1 := h.cB
  obtain ⟨f, f1, f2⟩ := h.mm
  refine ⟨h.ch.kp hk h.sz' (fun b q => (h.lt b q).2.2), h.lt, Nat.le_trans h.sz hk.size, ho, (hk.cell (p := ⟨c, 10, none⟩) (lt_cell h.c10) (fun e => KMap.ne h.op v1 e.symm)).trans h.c10, blk_kp v1 hk (fun e => KMap.ne h.op v1 e.symm), h.c12,
    ⟨f, f1.keep hk h.ne.1, fun x hx => ⟨(f2 x hx).1, fun v hv => by obtain ⟨u, h1, h2⟩ := (f2 x hx).2 v hv; exact ⟨u, h1, h2.kp hk (fun b e => by have := h.ne; omega)⟩⟩⟩, h.ne, h.bc⟩
theorem CtM.put (h : CtM w S B c m2 m3 N vs0 G Ap Al As np cp nl cl ns cs Ai ni ci inp C O σ) {x : K3} {u : Value} {k : Nat} (hx : inK x) (hl : lkK σ.M x = none) (hu : NumV N w u k) (hn : σ.M.length ≤ 1000000) :
    ∃ w', (Instr.mapUpdate 57 (.map (some m2)) (kV x) u).run Tryd.prog w = .ok () w' ∧ CtM w' S B c m2 m3 N vs0 G Ap Al As np cp nl cl ns cs Ai ni ci inp C O ⟨(x, k) :: σ.M, σ.many⟩ ∧ Kp (fun b => b = m2) w w' := by
  have v1 := h.cB
  obtain ⟨f, f1, f2⟩ := h.mm
  obtain ⟨d, hd⟩ : ∃ d, gElem u = some (d, []) := by
    obtain ⟨A, n, cp, l, rfl, hA, _⟩ := hu
    rcases hA with rfl | ⟨b, off, rfl⟩
    · exact ⟨_, rfl⟩
    · exact ⟨_, rfl⟩
  obtain ⟨w', hrun, hm, hg⟩ := KMap.put (t := 57) (e := 52) f1 lawS3 (fun x => keyS3) Tryd.underlying57 hx hd (by unfold maxLen; omega)
  have hfx := (f2 x hx).1 hl
  rw [hfx] at hm
  have hk : Kp (fun b => b = m2) w w' := ⟨hg.os, hg.tape, hg.output, hg.size, fun b hb hn => hg.block b hb (fun e => hn (by cases e; rfl))⟩
  have hz : ∀ b, b = m2 → b < N := fun b e => by have := h.ne; omega
  refine ⟨w', hrun, ⟨h.ch.kp hk h.sz' (fun b q => (h.lt b q).2.1), h.lt, Nat.le_trans h.sz hk.size, h.op.same (hk.block m3 h.op.lt (fun e => h.ne.1 e.symm)), (hk.cell (p := ⟨c, 10, none⟩) (lt_cell h.c10) (fun e => KMap.ne f1 v1 e.symm)).trans h.c10, blk_kp v1 hk (fun e => KMap.ne f1 v1 e.symm), h.c12, ⟨_, by simpa using hm, fun y hy => ?_⟩, h.ne, h.bc⟩, hk⟩
  simp only [lkK]
  by_cases e : y = x
  · subst e
    refine ⟨fun q => by simp at q, fun v hv => ?_⟩
    simp at hv
    subst hv
    exact ⟨u, by simp, hu.kp hk hz⟩
  · simp only [if_neg e]
    exact ⟨(f2 y hy).1, fun v hv => by obtain ⟨u, h1, h2⟩ := (f2 y hy).2 v hv; exact ⟨u, h1, h2.kp hk hz⟩⟩
/-- What is told of a span. -/
theorem CtM.look (h : CtM w S B c m2 m3 N vs0 G Ap Al As np cp nl cl ns cs Ai ni ci inp C O σ) {x : K3} (hx : inK x) :
    (lkK σ.M x = none → (Instr.lookup 57 (.map (some m2)) (kV x) true).run Tryd.prog w = .ok (.tuple #[noneV, .bool false]) w) ∧
    ∀ k, lkK σ.M x = some k → ∃ u, NumV N w u k ∧ (Instr.lookup 57 (.map (some m2)) (kV x) true).run Tryd.prog w = .ok (.tuple #[u, .bool true]) w := by
  obtain ⟨f, f1, f2⟩ := h.mm
  have hl := KMap.look2 (t := 57) (e := 52) f1 lawS3 (fun x => keyS3) Tryd.underlying57 (zero_num w) hx
  refine ⟨fun q => ?_, fun k q => ?_⟩
  · rw [(f2 x hx).1 q] at hl; exact hl
  · obtain ⟨u, h1, h2⟩ := (f2 x hx).2 k q
    rw [h1] at hl
    exact ⟨u, h2, hl⟩
/-- Too many: the chart's mark is set. -/
theorem CtM.setMany (h : CtM w S B c m2 m3 N vs0 G Ap Al As np cp nl cl ns cs Ai ni ci inp C O σ) : CtM (w.setCell ⟨c, 12, none⟩ (.bool true)) S B c m2 m3 N vs0 G Ap Al As np cp nl cl ns cs Ai ni ci inp C O ⟨σ.M, true⟩ ∧ Kp (fun b => b = c) w (w.setCell ⟨c, 12, none⟩ (.bool true)) := by
  have v1 := h.cB
  have v2 : (vs0.set 12 (.bool σ.many))[12]? = some (.bool σ.many) := List.getElem?_set_self h.c12
  have hcl := v1.cell v2
  have hk : Kp (fun b => b = c) w (w.setCell ⟨c, 12, none⟩ (.bool true)) := (Kp.refl (fun b => b = c) w).set_ (p := ⟨c, 12, none⟩) (.inr rfl) _
  have kc : ∀ (a : Addr) (v : Value), w.cell? a = some v → (∀ b, v ≠ .bool b) → (w.setCell ⟨c, 12, none⟩ (.bool true)).cell? a = some v := fun a v ha hv => by
    rw [World.cell?_setCell_other]
    · exact ha
    · intro e
      rw [e] at hcl
      rw [hcl] at ha
      cases ha
      exact hv _ rfl
  have hsz : (w.setCell ⟨c, 12, none⟩ (.bool true)).heap.size = w.heap.size := setCell_size _ _ _
  have hbel : Below B w (w.setCell ⟨c, 12, none⟩ (.bool true)) := hk.bel (by have := h.ne; have := h.sz; have := h.bc; omega) (fun b hb e => by have := h.bc; omega)
  have rdS : ∀ {A : Option Addr} {l : List Int}, RdS w S A l → RdS (w.setCell ⟨c, 12, none⟩ (.bool true)) S A l := fun hr h0 => by
    obtain ⟨b, off, e, hb, hc⟩ := hr h0
    exact ⟨b, off, e, hb, fun j hj => kc _ _ (hc j hj) (fun b e => by cases e)⟩
  have far : ∀ {K : TypeId} {z : Value} {b n : Nat} {f : K3 → Option Value}, KMap K z w b n f → KMap K z (w.setCell ⟨c, 12, none⟩ (.bool true)) b n f := fun hm => hm.keep hk (fun e => KMap.ne hm v1 e)
  refine ⟨⟨?_, h.lt, by rw [hsz]; exact h.sz, far h.op, kc _ _ h.c10 (fun b e => by cases e), by have := v1.set_ 12 (.bool true); rwa [List.set_set] at this, h.c12, ?_, h.ne, h.bc⟩, hk⟩
  · have g := h.ch
    refine ⟨g.lo, g.cS, kc _ _ g.g0 (fun b e => by cases e), kc _ _ g.g1 (fun b e => by cases e), kc _ _ g.g2 (fun b e => by cases e), kc _ _ g.g3 (fun b e => by cases e), g.gi.below hbel, kc _ _ g.c6 (fun b e => by cases e), g.li, g.mi, g.ri.below hbel, ?_, ?_, ?_, kc _ _ g.op (fun b e => by cases e)⟩
    · obtain ⟨bn, nb, cb, e, e1, e2, e3, hS, hr⟩ := g.by_
      refine ⟨bn, nb, cb, kc _ _ e (fun b e => by cases e), e1, e2, e3, hS, fun a ha => ?_⟩
      obtain ⟨A', c', z, q1, q2, r⟩ := hr a ha
      exact ⟨A', c', kc _ _ z (fun b e => by cases e), q1, q2, rdS r⟩
    · obtain ⟨bi, cb, e, e2, e3, hS, hr⟩ := g.it
      refine ⟨bi, cb, kc _ _ e (fun b e => by cases e), e2, e3, hS, fun k hk' => ?_⟩
      obtain ⟨s, mk, z, q1, q2, q3, n, f, r1, r2⟩ := hr k hk'
      exact ⟨s, mk, kc _ _ z (fun b e => by cases e), q1, kc _ _ q2 (fun b e => by cases e), q3, n, f, far r1, r2⟩
    · obtain ⟨ms, ns, e, hS, hr⟩ := g.sp
      exact ⟨ms, ns, kc _ _ e (fun b e => by cases e), hS, far hr⟩
  · obtain ⟨f, f1, f2⟩ := h.mm
    exact ⟨f, far f1, fun x hx => ⟨(f2 x hx).1, fun v hv => by obtain ⟨u, h1, h2⟩ := (f2 x hx).2 v hv; exact ⟨u, h1, h2.kp hk (fun b e => by have := h.ne; omega)⟩⟩⟩
theorem blk_cell_inv {w : World} {g : Nat} {e : TypeId} {vs : List Value} (h : Blk w g e vs) {o : Nat} {v : Value} (hv : w.cell? ⟨g, o, none⟩ = some v) : vs[o]? = some v := by
  by_cases q : o < vs.length
  · have h2 := h.cell (i := o) (List.getElem?_eq_getElem q)
    rw [h2] at hv
    rw [List.getElem?_eq_getElem q]
    exact hv
  · exfalso
    unfold Blk at h
    unfold World.cell? at hv
    simp only [h] at hv
    simp [List.getElem?_eq_none (Nat.le_of_not_lt q)] at hv
/-- What the chart reads stays, but for its mark. -/
theorem CtM.stay {O' : List K3} {σ' : CS} (h : CtM w S B c m2 m3 N vs0 G Ap Al As np cp nl cl ns cs Ai ni ci inp C O σ) (h' : CtM w' S B c m2 m3 N vs0 G Ap Al As np cp nl cl ns cs Ai ni ci inp C O' σ') (hk : Kp (Zct m2 m3 c) w w') {b o : Nat} {v : Value} (hb : S b) (hv : w.cell? ⟨b, o, none⟩ = some v) (hn : ∀ x, v ≠ .bool x) : w'.cell? ⟨b, o, none⟩ = some v := by
  have hl := h.lt b hb
  by_cases q : b = c
  · subst q
    have h1 := blk_cell_inv h.cB hv
    refine h'.cB.cell ?_
    by_cases q2 : o = 12
    · subst q2
      rw [List.getElem?_set_self h.c12] at h1
      cases h1
      exact absurd rfl (hn _)
    · rw [List.getElem?_set_ne (fun e => q2 e.symm)] at h1 ⊢
      exact h1
  · exact (hk.cell (p := ⟨b, o, none⟩) (h.sz' b hb) (fun e => by rcases e with e | e | e; exact hl.2.1 e; exact hl.2.2 e; exact q e)).trans hv
end
end Go.Proofs.YtiklbannoinioaaDoor
