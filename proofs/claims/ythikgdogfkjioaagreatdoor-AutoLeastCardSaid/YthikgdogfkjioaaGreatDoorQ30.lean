/- The program's sets: Canon. · The program's sets: Other, Size. -/
import Derived.Test.YthikgdogfkjioaaGreatDoorQ29
namespace Go.Proofs.YthikgdogfkjioaaGreatDoor
open Go.RowKit BigFrame
set_option linter.unusedVariables false
set_option linter.unusedSimpArgs false
set_option maxRecDepth 100000

theorem inOf_snoc {l : List Rg} {k : Nat} (h : k < l.length) : inOf (l.take (k + 1)) = if (clampR (nthR l k)).1 ≤ (clampR (nthR l k)).2 then inOf (l.take k) ++ [clampR (nthR l k)] else inOf (l.take k) := by
  unfold inOf
  rw [List.take_succ_eq_append_getElem h, List.map_append, List.filter_append, nthR_get h]
  by_cases q : (clampR l[k]).1 ≤ (clampR l[k]).2
  · rw [if_pos q]; simp [q]
  · rw [if_neg q]; simp [q]
theorem inOf_len {l : List Rg} : (inOf l).length ≤ l.length := by
  unfold inOf
  exact Nat.le_trans (List.length_filter_le _ _) (by simp)
theorem OwG.snoc {w : World} {base : Nat} {v : Value} {l : List Rg} {a b : Int} {n : Nat} (h : w.ownsRow base 52 2 v (n + 1) (rv l ++ [.int .i64 a, .int .i64 b])) (hn : n = l.length) : OwG w base v (l ++ [(a, b)]) := by
  have e2 : rv l ++ [.int .i64 a, .int .i64 b] = rv (l ++ [(a, b)]) := by rw [rv_append]; rfl
  rw [e2] at h
  have e3 : (l ++ [(a, b)]).length = n + 1 := by rw [List.length_append, hn]; rfl
  unfold OwG; rw [e3]; exact h

theorem mg_len {out : List Rg} {r : Rg} : (mg out r).length ≤ out.length + 1 := by
  rcases List.eq_nil_or_concat out with rfl | ⟨l0, ⟨x, y⟩, rfl⟩
  · rw [mg_nil]; simp
  · rw [List.concat_eq_append, mg_snoc]
    split <;> simp
theorem foldmg_len : ∀ (d out : List Rg), (d.foldl mg out).length ≤ out.length + d.length
  | [], out => Nat.le_refl _
  | r :: d, out => by
    have h1 := foldmg_len d (mg out r)
    have h2 := mg_len (out := out) (r := r)
    simp only [List.foldl_cons, List.length_cons]; omega
theorem mg_hi {out : List Rg} {r : Rg} (hr : ValR r) (h : ∀ q ∈ out, -1 ≤ q.2 ∧ q.2 ≤ 1114111) : ∀ q ∈ mg out r, -1 ≤ q.2 ∧ q.2 ≤ 1114111 := by
  unfold ValR MP at hr
  rcases List.eq_nil_or_concat out with rfl | ⟨l0, ⟨x, y⟩, rfl⟩
  · rw [mg_nil]; intro q hq; rw [List.mem_singleton] at hq; subst hq; omega
  · rw [List.concat_eq_append] at h ⊢
    rw [mg_snoc]
    have hy := h (x, y) (by simp)
    simp only at hy
    intro q hq
    split at hq
    · rw [List.mem_append, List.mem_singleton] at hq
      rcases hq with hq | rfl
      · exact h q (by simp [hq])
      · simp only; omega
    · rw [List.mem_append, List.mem_singleton] at hq
      rcases hq with hq | rfl
      · exact h q hq
      · omega
theorem foldmg_hi : ∀ (d out : List Rg), (∀ r ∈ d, ValR r) → (∀ q ∈ out, -1 ≤ q.2 ∧ q.2 ≤ 1114111) → ∀ q ∈ d.foldl mg out, -1 ≤ q.2 ∧ q.2 ≤ 1114111
  | [], out, _, h => h
  | r :: d, out, hv, h => foldmg_hi d (mg out r) (fun q hq => hv q (List.mem_cons_of_mem _ hq)) (mg_hi (hv r (List.mem_cons_self ..)) h)

theorem OwG.last {w : World} {base : Nat} {v : Value} {l0 : List Rg} {x y : Int} {g n cap : Nat} (h : OwG w base v (l0 ++ [(x, y)])) (hv : v = .slice (some ⟨g, 0, none⟩) n cap) :
    base ≤ g ∧ g < w.heap.size ∧ (∀ i, w.frozen? ⟨g, i, none⟩ = false) ∧ w.cell? ⟨g, l0.length * 2 + 1, none⟩ = some (.int .i64 y) ∧ ∀ t, OwG (w.setCell ⟨g, l0.length * 2 + 1, none⟩ (.int .i64 t)) base v (l0 ++ [(x, t)]) := by
  have hll : (l0 ++ [(x, y)]).length = l0.length + 1 := by simp
  have hnth : nthR (l0 ++ [(x, y)]) l0.length = (x, y) := by rw [nthR_get (by omega)]; simp
  obtain ⟨g', cap', rfl, hg1, hg2, hg3, hfz, hcs, hst⟩ := h.blk (by omega)
  simp only [Value.slice.injEq, Option.some.injEq, Addr.mk.injEq] at hv
  obtain ⟨⟨rfl, _⟩, _, rfl⟩ := hv
  obtain ⟨_, z⟩ := hcs l0.length (by omega)
  rw [hnth] at z
  refine ⟨hg2, hg3, hfz, z, fun t => ?_⟩
  have h2 := hst l0.length t (by omega)
  rw [hnth, List.set_append_right _ _ (Nat.le_refl _), Nat.sub_self] at h2
  exact h2

set_option maxHeartbeats 4000000 in
theorem canon_any (A : Option Addr) (n c : Nat) (l : List Rg) (w : World) (B : Nat) (hB : B ≤ w.heap.size) (hr : RdG w B A l) (hl : l.length = n) (hn : n ≤ 400) :
    Calls Tryz.prog 45 #[.slice A n c] w fun e w' => ∃ v out, e = .returned v ∧ OwG w' w.heap.size v out ∧ IsCan out (inR l) ∧ Below w.heap.size w w' ∧ out.length ≤ n := by
  have HR := Lib.hid hr; have HL := Lib.hid hl
  clear hr hl
  go_enter Tryz.func45, Tryz.ntmps45
  go_wp2_with fail
  go_loopw [3, 12] (fun v i wr => ∃ k : Nat, k ≤ n ∧ i = .int .i64 (k : Int) ∧ Hid (OwG wr w.heap.size v (inOf (l.take k))) ∧ Hid (Below w.heap.size w wr)) (fun _ i _ => n - (intOf i).toNat)
  case atStart => exact ⟨0, Nat.zero_le _, rfl, OwG.nil _ _, Below.refl _ _⟩
  case round =>
    as_aux_lemma =>
      obtain ⟨k, hk, rfl, HO, HB⟩ := hrel
      have hsz := HB.out.size
      by_cases hlt : k < n
      · as_aux_lemma =>
          obtain ⟨b, off, rfl, hb, hc⟩ := (HR.out.below (HB.out.mono hB)).at_ (by rw [HL.out]; omega)
          obtain ⟨z1, z2⟩ := hc k (by rw [HL.out]; exact hlt)
          have hs := inOf_snoc (l := l) (k := k) (by rw [HL.out]; exact hlt)
          have hml := inOf_len (l := l.take k)
          rw [List.length_take] at hml
          have HS := Lib.hid hs; have HML := Lib.hid hml
          clear hc hs hml
          generalize nthR l k = r at *
          obtain ⟨lo, hi⟩ := r
          simp only at z1 z2
          by_cases hab : max lo 0 ≤ min hi 1114111
          · as_aux_lemma =>
              have d1 : decide (max lo 0 ≤ min hi 1114111) = true := decide_eq_true hab
              have HS2 : Hid (inOf (l.take (k + 1)) = inOf (l.take k) ++ [(max lo 0, min hi 1114111)]) := Lib.hid (by rw [HS.out]; exact if_pos hab)
              have hbx : Below wr.heap.size wr (wr.alloc (.cells #[.int .i64 (max lo 0), .int .i64 (min hi 1114111)] 52)) := (Below.refl _ _).alloc (Nat.le_refl _) _
              have hsa : (wr.alloc (.cells #[.int .i64 (max lo 0), .int .i64 (min hi 1114111)] 52)).heap.size = wr.heap.size + 1 := by simp
              have HSA := Lib.hid hsa
              have HO1 := Lib.hid (HO.out.ext hbx)
              have HB1 := Lib.hid (HB.out.trans (hbx.mono hsz))
              clear hsa
              have HL2 := Lib.hid (show (inOf (l.take k)).length ≤ 400 by have := HML.out; omega)
              clear HS hab hbx HO
              generalize inOf (l.take k) = xs at *
              go_wp2_with (first
                | (at_builtin; refine wpList_app elRg rfl (.tmp 28) (.tmp 30) rfl w.heap.size _ xs.length 1 (rv xs) [.int .i64 (max lo 0), .int .i64 (min hi 1114111)] rfl HO1.out (by rw [HSA.out]; rfl) rfl (by simp [Value.oneCell']) (by have := HL2.out; omega) (by have := HL2.out; omega) HB1.out.size ?_; intro v2 w2 hown2 hg2 hat2; have HW2 := Lib.hid hown2; have HB2 := Lib.hid (HB1.out.grown hg2 HB1.out.size (fun k e => own_base HO1.out k e)); clear hown2 hg2 hat2))
              go_roundw
              case rel => exact ⟨k + 1, by omega, by go_num, by show OwG _ _ _ _; rw [HS2.out]; exact OwG.snoc HW2.out rfl, HB2.out⟩
              case measure => simp [intOf]; omega
          · as_aux_lemma =>
              have d1 : decide (max lo 0 ≤ min hi 1114111) = false := decide_eq_false hab
              have HS2 : Hid (inOf (l.take (k + 1)) = inOf (l.take k)) := Lib.hid (by rw [HS.out]; exact if_neg hab)
              have hbx : Below wr.heap.size wr (wr.alloc (.cells #[.int .i64 (max lo 0), .int .i64 (min hi 1114111)] 52)) := (Below.refl _ _).alloc (Nat.le_refl _) _
              have HO1 := Lib.hid (HO.out.ext hbx)
              have HB1 := Lib.hid (HB.out.trans (hbx.mono hsz))
              clear HS hab hbx HO
              go_wp2_with fail
              go_roundw
              case rel => exact ⟨k + 1, by omega, by go_num, by show OwG _ _ _ _; rw [HS2.out]; exact HO1.out, HB1.out⟩
              case measure => simp [intOf]; omega
      · as_aux_lemma =>
          have htk : l.take k = l := List.take_of_length_le (by rw [HL.out]; omega)
          have hml := inOf_len (l := l)
          rw [HL.out] at hml
          have ho := HO.out
          rw [htk] at ho
          have hv := inOf_val l
          have hso := sortRg_any w.heap.size _ (inOf l) wr ho (fun r hr => by have := hv r hr; unfold ValR MP at this; omega) (by omega)
          have HSO := Lib.hid hso; have HML := Lib.hid hml
          clear htk hml ho hv hso HO HR
          go_wp2_with fail
          refine HSO.out.mono ?_
          rintro e w1 ⟨rfl, d, hp, hpw, ho1, hb1⟩
          clear HSO
          have hcan := canon_is (l := l) (d := d) (fun r => hp.mem_iff) hpw
          have hdl : d.length ≤ n := by rw [hp.length_eq]; exact HML.out
          obtain ⟨A1, c1, rfl, q1, q2, q3⟩ := ho1.form
          have HD := Lib.hid q3; have HCAN := Lib.hid hcan; have HDL := Lib.hid hdl
          have HB1 := Lib.hid (HB.out.trans hb1)
          have HV := Lib.hid (show ∀ r ∈ d, ValR r from fun r hr => inOf_val l r (hp.mem_iff.1 hr))
          have hm2 : d.length ≤ 400 := by omega
          clear hp hpw ho1 hb1 hcan hdl q1 q2 q3 HB HML HL
          go_wp2_with fail
          go_loopw [6, 37] (fun v i wr => ∃ k : Nat, k ≤ d.length ∧ i = .int .i64 (k : Int) ∧ Hid (OwG wr w1.heap.size v ((d.take k).foldl mg [])) ∧ Hid (Below w1.heap.size w1 wr)) (fun _ i _ => d.length - (intOf i).toNat)
          case atStart => exact ⟨0, Nat.zero_le _, rfl, OwG.nil _ _, Below.refl _ _⟩
          case round =>
            as_aux_lemma =>
              obtain ⟨k, hk, rfl, HO, HB⟩ := hrel
              have hsz := HB.out.size
              by_cases hlt : k < d.length
              · as_aux_lemma =>
                  obtain ⟨b, off, rfl, hb, hc⟩ := (HD.out.below HB.out).at_ (by omega)
                  obtain ⟨z1, z2⟩ := hc k hlt
                  have hs : (d.take (k + 1)).foldl mg [] = mg ((d.take k).foldl mg []) (nthR d k) := by
                    rw [List.take_succ_eq_append_getElem hlt, List.foldl_append, nthR_get hlt]; rfl
                  have hml := foldmg_len (d.take k) []
                  rw [List.length_take, show min k d.length = k by omega] at hml
                  have hvv := HV.out _ (mem_nthR hlt)
                  have hov := foldmg_hi (d.take k) [] (fun r hr => HV.out r (List.mem_of_mem_take hr)) (fun r hr => by cases hr)
                  unfold ValR MP at hvv
                  have HS := Lib.hid hs; have HML := Lib.hid hml; have HOV := Lib.hid hov
                  clear hc hs hml hov
                  generalize nthR d k = r at *
                  generalize (d.take k).foldl mg [] = out at *
                  obtain ⟨lo, hi⟩ := r
                  simp only at z1 z2 hvv
                  have hbx : Below wr.heap.size wr (wr.alloc (.cells #[.int .i64 lo, .int .i64 hi] 52)) := (Below.refl _ _).alloc (Nat.le_refl _) _
                  have hsa : (wr.alloc (.cells #[.int .i64 lo, .int .i64 hi] 52)).heap.size = wr.heap.size + 1 := by simp
                  have HSA := Lib.hid hsa
                  have hO1 := HO.out.ext hbx
                  have HB2 := Lib.hid (HB.out.trans (hbx.mono hsz))
                  have hn400 : out.length ≤ 400 := by have := HML.out; simp at this; omega
                  have hq : ∀ q, OwG ((wr.alloc (.cells #[.int .i64 lo, .int .i64 hi] 52)).drewN q) w1.heap.size _ out ∧ Below w1.heap.size w1 ((wr.alloc (.cells #[.int .i64 lo, .int .i64 hi] 52)).drewN q) ∧ ((wr.alloc (.cells #[.int .i64 lo, .int .i64 hi] 52)).drewN q).cell? ⟨wr.heap.size, 0, none⟩ = some (.int .i64 lo) ∧ ((wr.alloc (.cells #[.int .i64 lo, .int .i64 hi] 52)).drewN q).cell? ⟨wr.heap.size, 1, none⟩ = some (.int .i64 hi) := fun q =>
                    ⟨hO1.ext (below_drewN (Below.refl _ _) q), below_drewN HB2.out q, by rw [World.cell?_drewN, cell_of_row _ wr.heap.size 0 #[.int .i64 lo, .int .i64 hi] 52 (0, 0) (heap_alloc_new wr _)]; rfl, by rw [World.cell?_drewN, cell_of_row _ wr.heap.size 1 #[.int .i64 lo, .int .i64 hi] 52 (0, 0) (heap_alloc_new wr _)]; rfl⟩
                  have HQ := Lib.hid hq
                  clear hsa hbx HO hq
                  rcases List.eq_nil_or_concat out with ho | ⟨l0, ⟨x, y⟩, ho⟩
                  · as_aux_lemma =>
                      obtain ⟨A2, c2, rfl, p1, p2, _⟩ := hO1.form
                      subst ho
                      have HO2 := Lib.hid hO1
                      have HS2 : Hid ((d.take (k + 1)).foldl mg [] = [] ++ [(lo, hi)]) := Lib.hid HS.out
                      have HNN : Hid (0 = ([] : List Rg).length) := Lib.hid rfl
                      clear hO1 HS
                      simp only [List.length_nil] at p1 hn400 ⊢
                      go_wp2_with fail
                      go_quiet (fail)
                      obtain ⟨hOd, hBd, z3, z4⟩ := HQ.out nq
                      unfold OwG at hOd; skip
                      have HOd := Lib.hid hOd; have HBd := Lib.hid hBd
                      clear hOd hBd HQ
                      generalize (wr.alloc (.cells #[.int .i64 lo, .int .i64 hi] 52)).drewN nq = wd at *
                      go_wp2_with (first
                        | (at_builtin; refine wpList_app elRg rfl (.tmp 69) (.tmp 71) rfl w1.heap.size _ 0 1 (rv []) [.int .i64 lo, .int .i64 hi] rfl HOd.out rfl rfl (by simp [Value.oneCell']) (by omega) (by omega) HBd.out.size ?_; intro v2 w2 hown2 hg2 hat2; have HW2 := Lib.hid hown2; have HB3 := Lib.hid (HBd.out.grown hg2 HBd.out.size (fun k e => own_base HOd.out k e)); clear hown2 hg2 hat2))
                      go_roundw
                      case rel => exact ⟨k + 1, by omega, by go_num, by show OwG _ _ _ _; rw [HS2.out]; exact OwG.snoc HW2.out HNN.out, HB3.out⟩
                      case measure => simp [intOf]; omega
                  · as_aux_lemma =>
                      rw [List.concat_eq_append] at ho
                      have hll : out.length = l0.length + 1 := by rw [ho]; simp
                      obtain ⟨g, cap, rfl, hg1, hg2, hg3, hfz, hcs, hst⟩ := hO1.blk (by omega)
                      obtain ⟨A2, c2, e2, hc1, hc2, _⟩ := hO1.form
                      simp only [Value.slice.injEq] at e2
                      obtain ⟨rfl, _, rfl⟩ := e2
                      unfold maxLen at hc2
                      have hnth : nthR out l0.length = (x, y) := by rw [nthR_get (by omega)]; subst ho; simp
                      obtain ⟨z5, z6⟩ := hcs l0.length (by omega)
                      rw [hnth] at z5 z6
                      simp only at z5 z6
                      have hbd := HOV.out (x, y) (by rw [ho]; simp)
                      simp only at hbd
                      have hmg := mg_snoc l0 x y (lo, hi)
                      rw [← ho] at hmg
                      simp only at hmg
                      rw [hmg] at HS
                      have HNN := Lib.hid hll
                      rw [hll] at hc1 HQ ⊢
                      have HHO := Lib.hid ho
                      clear hcs hst hfz hnth hmg ho hO1 hg2
                      generalize hmm : l0.length = m at *
                      have HMM := Lib.hid hmm
                      clear hmm
                      by_cases hle : lo ≤ y + 1
                      · as_aux_lemma =>
                          have d1 : decide (lo ≤ y + 1) = true := decide_eq_true hle
                          rw [if_pos hle] at HS
                          go_wp2_with fail
                          go_quiet (fail)
                          obtain ⟨hOd, hBd, z3, z4⟩ := HQ.out nq
                          have hdw := hOd.ext (w' := ((wr.alloc (.cells #[.int .i64 lo, .int .i64 hi] 52)).drewN nq).drew) ⟨rfl, rfl, rfl, Nat.le_refl _, fun _ _ => rfl⟩
                          rw [HHO.out] at hdw
                          obtain ⟨p0, p2, p3, p4, p5⟩ := hdw.last rfl
                          rw [HMM.out] at p4 p5
                          have p6 := p3 (m * 2 + 1)
                          have p7 := p5 (max y hi)
                          have HP7 := Lib.hid p7
                          clear hOd hdw p3 p5 p7
                          have HBd := Lib.hid hBd
                          clear hBd HQ
                          generalize (wr.alloc (.cells #[.int .i64 lo, .int .i64 hi] 52)).drewN nq = wd at *
                          go_wp2_with fail
                          go_region
                          have HB4 := Lib.hid ((HBd.out.setCell (p := ⟨g, m * 2 + 1, none⟩) p0 (.int .i64 (max y hi))).drew)
                          have HP8 : Hid (OwG (wd.setCell ⟨g, m * 2 + 1, none⟩ (.int .i64 (max y hi))).drew w1.heap.size (.slice (some ⟨g, 0, none⟩) (m + 1) cap) (l0 ++ [(x, max y hi)])) := Lib.hid HP7.out
                          have HS2 := Lib.hid HS.out
                          go_wp2_with fail
                          go_roundw
                          case rel => exact ⟨k + 1, by omega, by go_num, by show OwG _ _ _ _; rw [HS2.out]; exact HP8.out, HB4.out⟩
                          case measure => simp [intOf]; omega
                      · as_aux_lemma =>
                          have d1 : decide (lo ≤ y + 1) = false := decide_eq_false hle
                          rw [if_neg hle] at HS
                          go_wp2_with fail
                          go_quiet (fail)
                          obtain ⟨hOd, hBd, z3, z4⟩ := HQ.out nq
                          unfold OwG at hOd; rw [HNN.out] at hOd
                          have HOd := Lib.hid hOd; have HS2 := Lib.hid HS.out; clear hOd
                          have HBd := Lib.hid hBd
                          clear hBd HQ
                          generalize (wr.alloc (.cells #[.int .i64 lo, .int .i64 hi] 52)).drewN nq = wd at *
                          go_wp2_with (first
                            | (at_builtin; refine wpList_app elRg rfl (.tmp 69) (.tmp 71) rfl w1.heap.size _ (m + 1) 1 (rv out) [.int .i64 lo, .int .i64 hi] rfl HOd.out rfl rfl (by simp [Value.oneCell']) (by have := HNN.out; omega) (by have := HNN.out; omega) HBd.out.size ?_; intro v2 w2 hown2 hg2 hat2; have HW2 := Lib.hid hown2; have HB3 := Lib.hid (HBd.out.grown hg2 HBd.out.size (fun k e => own_base HOd.out k e)); clear hown2 hg2 hat2))
                          go_roundw
                          case rel => exact ⟨k + 1, by omega, by go_num, by show OwG _ _ _ _; rw [HS2.out]; exact OwG.snoc HW2.out HNN.out.symm, HB3.out⟩
                          case measure => simp [intOf]; omega
              · as_aux_lemma =>
                  have htk : d.take k = d := List.take_of_length_le (by omega)
                  rw [htk] at HO
                  have hml := foldmg_len d []
                  have HML := Lib.hid hml; have HDL2 := Lib.hid HDL.out
                  clear htk hml
                  go_wp2_with fail
                  go_ret
                  exact ⟨_, _, rfl, HO.out.base HB1.out.size, HCAN.out, HB1.out.trans (HB.out.mono HB1.out.size), by have h1 := HML.out; have h2 := HDL2.out; simp at h1; omega⟩
end Go.Proofs.YthikgdogfkjioaaGreatDoor
namespace Go.Proofs.YthikgdogfkjioaaGreatDoor
open Go.RowKit BigFrame
set_option linter.unusedVariables false
set_option linter.unusedSimpArgs false
set_option maxRecDepth 100000

theorem othF_drop {d : List Rg} {k : Nat} (h : k < d.length) (f : Int) : othF f (d.drop k) = (if f < (nthR d k).1 then [(f, (nthR d k).1 - 1)] else []) ++ othF ((nthR d k).2 + 1) (d.drop (k + 1)) := by
  rw [List.drop_eq_getElem_cons h, nthR_get h]; rfl
set_option maxHeartbeats 2000000 in
theorem other_any (A : Option Addr) (n c : Nat) (l : List Rg) (w : World) (B : Nat) (hB : B ≤ w.heap.size) (hr : RdG w B A l) (hl : l.length = n) (hn : n ≤ 400) :
    Calls Tryz.prog 46 #[.slice A n c] w fun e w' => ∃ v out, e = .returned v ∧ OwG w' w.heap.size v out ∧ IsCan out (fun p => isPt p && !inR l p) ∧ Below w.heap.size w w' ∧ out.length ≤ n + 1 := by
  have hb := canon_any A n c l w B hB hr hl hn
  have HC := Lib.hid hb
  clear hb hr hl
  go_enter Tryz.func46, Tryz.ntmps46
  go_wp2_with fail
  refine HC.out.mono ?_
  rintro e w1 ⟨v, d, rfl, h1, h2, h3, h4⟩
  clear HC
  obtain ⟨A1, c1, rfl, q1, q2, q3⟩ := h1.form
  have HD := Lib.hid q3; have HCAN := Lib.hid h2; have HB1 := Lib.hid h3
  have hm : d.length ≤ 400 := by omega
  have HDL := Lib.hid h4
  clear h1 h2 h3 h4 q1 q2 q3
  go_wp2_with fail
  go_loopw [3, 4, 10] (fun v s i wr => ∃ (k : Nat) (f : Int) (out : List Rg), k ≤ d.length ∧ i = .int .i64 (k : Int) ∧ s = .int .i64 f ∧ 0 ≤ f ∧ f ≤ 1114112 ∧ Hid (OwG wr w1.heap.size v out) ∧ Hid (othF 0 d = out ++ othF f (d.drop k)) ∧ Hid (out.length ≤ k) ∧ Hid (Below w1.heap.size w1 wr)) (fun _ _ i _ => d.length - (intOf i).toNat)
  case atStart => exact ⟨0, 0, [], Nat.zero_le _, rfl, rfl, by omega, by omega, OwG.nil _ _, rfl, Nat.zero_le _, Below.refl _ _⟩
  case round =>
    as_aux_lemma =>
      obtain ⟨k, f, out, hk, rfl, rfl, hf0, hf1, HO, HT, HN, HB⟩ := hrel
      have hsz := HB.out.size
      by_cases hlt : k < d.length
      · as_aux_lemma =>
          obtain ⟨b, off, rfl, hb, hc⟩ := (HD.out.below HB.out).at_ (by omega)
          obtain ⟨z1, z2⟩ := hc k hlt
          have hs := othF_drop hlt f
          have hbd := CanF.bd HCAN.out.can _ (mem_nthR hlt)
          unfold MP at hbd
          have HS := Lib.hid hs
          clear hc hs
          generalize nthR d k = r at *
          obtain ⟨lo, hi⟩ := r
          simp only at z1 z2 hbd
          have hbx : Below wr.heap.size wr (wr.alloc (.cells #[.int .i64 lo, .int .i64 hi] 52)) := (Below.refl _ _).alloc (Nat.le_refl _) _
          have hsa : (wr.alloc (.cells #[.int .i64 lo, .int .i64 hi] 52)).heap.size = wr.heap.size + 1 := by simp
          have HSA := Lib.hid hsa
          have HO1 := Lib.hid (HO.out.ext hbx)
          have HB2 := Lib.hid (HB.out.trans (hbx.mono hsz))
          have z3 : (wr.alloc (.cells #[.int .i64 lo, .int .i64 hi] 52)).cell? ⟨wr.heap.size, 1, none⟩ = some (.int .i64 hi) := by rw [cell_of_row _ wr.heap.size 1 #[.int .i64 lo, .int .i64 hi] 52 (0, 0) (heap_alloc_new wr _)]; rfl
          have Z3 := Lib.hid z3
          have hn4 : out.length ≤ 400 := by have := HN.out; omega
          have HOL := Lib.hid (fun k hk => (HO.out.lt k hk).2)
          clear hsa hbx HO z3
          by_cases hlf : f < lo
          · as_aux_lemma =>
              have d1 : decide (f < lo) = true := decide_eq_true hlf
              have HT2 : Hid (othF 0 d = (out ++ [(f, lo - 1)]) ++ othF (hi + 1) (d.drop (k + 1))) := Lib.hid (by rw [HT.out, HS.out]; simp only; rw [if_pos hlf, List.append_assoc])
              have HN2 : Hid ((out ++ [(f, lo - 1)]).length ≤ k + 1) := Lib.hid (by have := HN.out; rw [List.length_append]; exact Nat.succ_le_succ this)
              clear HS HT
              go_wp2_with (first
                | (at_builtin; refine wpList_app elRg rfl (.tmp 18) (.tmp 24) rfl w1.heap.size _ out.length 1 (rv out) [.int .i64 f, .int .i64 (lo - 1)] rfl HO1.out (by rw [HSA.out]; rfl) rfl (by simp [Value.oneCell']) (by omega) (by omega) HB2.out.size ?_; intro v2 w2 hown2 hg2 hat2; have HW2 := Lib.hid (OwG.snoc hown2 rfl); have HB3 := Lib.hid (HB2.out.grown hg2 HB2.out.size (fun k e => own_base HO1.out k e)); have z4 : w2.cell? ⟨wr.heap.size, 1, none⟩ = some (.int .i64 hi) := (World.cell?_of_block (hg2.block wr.heap.size (by rw [HSA.out]; omega) (fun e => by first | (have := HOL.out _ e; omega) | (have := HOL.out _ e.symm; omega)))).trans Z3.out; clear hown2 hg2 hat2))
              go_roundw
              case rel => exact ⟨k + 1, hi + 1, _, by omega, by go_num, rfl, by omega, by omega, HW2, HT2, HN2, HB3⟩
              case measure => simp [intOf]; omega
          · as_aux_lemma =>
              have d1 : decide (f < lo) = false := decide_eq_false hlf
              have HT2 : Hid (othF 0 d = out ++ othF (hi + 1) (d.drop (k + 1))) := Lib.hid (by rw [HT.out, HS.out]; simp only; rw [if_neg hlf, List.nil_append])
              clear HS HT
              go_wp2_with fail
              go_roundw
              case rel => exact ⟨k + 1, hi + 1, out, by omega, by go_num, rfl, by omega, by omega, HO1, HT2, by have := HN.out; show out.length ≤ k + 1; omega, HB2⟩
              case measure => simp [intOf]; omega
      · as_aux_lemma =>
          have hdr : d.drop k = [] := List.drop_eq_nil_of_le (by omega)
          have ht := HT.out
          rw [hdr] at ht
          have hcan := oth_is HCAN.out
          have HCN := Lib.hid hcan
          have hn4 : out.length ≤ 400 := by have := HN.out; omega
          have HBW := Lib.hid (HB1.out.trans (HB.out.mono HB1.out.size))
          have HLN := Lib.hid (show out.length ≤ n by have := HN.out; have := HDL.out; omega)
          have hB1s := HB1.out.size
          clear hdr hcan HT HD HCAN
          by_cases hlf : f ≤ 1114111
          · as_aux_lemma =>
              have d1 : decide (f ≤ 1114111) = true := decide_eq_true hlf
              have HT2 : Hid (othF 0 d = out ++ [(f, 1114111)]) := Lib.hid (by rw [ht]; congr 1; exact if_pos hlf)
              clear ht
              go_wp2_with (first
                | (at_builtin; refine wpList_app elRg rfl (.tmp 32) (.tmp 35) rfl w1.heap.size _ out.length 1 (rv out) [.int .i64 f, .int .i64 1114111] rfl HO.out rfl rfl (by simp [Value.oneCell']) (by omega) (by omega) hsz ?_; intro v2 w2 hown2 hg2 hat2; have HW2 := Lib.hid (OwG.snoc hown2 rfl); have HB3 := Lib.hid (HBW.out.grown hg2 (by omega) (fun k e => by have := own_base HO.out k e; omega)); clear hown2 hg2 hat2))
              go_ret
              exact ⟨_, _, rfl, HW2.out.base hB1s, by rw [← HT2.out]; exact HCN.out, HB3.out, by rw [List.length_append]; exact Nat.succ_le_succ HLN.out⟩
          · as_aux_lemma =>
              have d1 : decide (f ≤ 1114111) = false := decide_eq_false hlf
              have HT2 : Hid (othF 0 d = out) := Lib.hid (by rw [ht]; have : othF f [] = [] := if_neg hlf; rw [this, List.append_nil])
              clear ht
              go_wp2_with fail
              go_ret
              exact ⟨_, rfl, out, HO.out.base hB1s, by rw [← HT2.out]; exact HCN.out, HBW.out, by have := HLN.out; omega⟩

end Go.Proofs.YthikgdogfkjioaaGreatDoor
