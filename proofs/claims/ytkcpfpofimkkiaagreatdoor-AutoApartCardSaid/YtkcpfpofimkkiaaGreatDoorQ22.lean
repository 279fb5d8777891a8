/- Ranges sorted by their first point: slices.SortFunc's contract at points.Canon's call. · The program's sets: Canon. · auto.moveSets, walked. -/
import Derived.Test.YtkcpfpofimkkiaaGreatDoorQ9
import Derived.Test.YtkcpfpofimkkiaaGreatDoorQ21
import Derived.Shelf.SlSortCmp.NoneTotal
import Derived.Test.YtkcpfpofimkkiaaGreatDoorQ20
import Derived.Test.YtkcpfpofimkkiaaGreatDoorQ14
namespace Go.Proofs.YtkcpfpofimkkiaaGreatDoor
open Go.RowKit BigFrame Go.Sort Go.Shelf
set_option linter.unusedVariables false
set_option linter.unusedSimpArgs false
set_option maxRecDepth 100000

/-- A range whose first is a point. -/
abbrev PtR := {r : Rg // 0 ≤ r.1 ∧ r.1 ≤ 1114111}
instance : Inhabited PtR := ⟨⟨(0, 0), by decide⟩⟩
def encP (x : PtR) : List Value := [.int .i64 x.1.1, .int .i64 x.1.2]
def cfP (x y : PtR) : Int := x.1.1 - y.1.1
theorem ltP (x y : PtR) : ltOf cfP x y = decide (x.1.1 < y.1.1) := by
  unfold ltOf cfP
  rw [decide_eq_decide]; omega
theorem swoP : SWO (ltOf cfP) where
  irrefl x := by rw [ltP]; simp
  trans x y z h1 h2 := by rw [ltP] at *; simp at *; omega
  ntrans x y z h1 h2 := by rw [ltP] at *; simp at *; omega
theorem ptrs : ∀ l : List Rg, (∀ r ∈ l, 0 ≤ r.1 ∧ r.1 ≤ 1114111) → ∃ L : List PtR, L.map (·.1) = l
  | [], _ => ⟨[], rfl⟩
  | r :: l, h => by
    obtain ⟨L, hL⟩ := ptrs l fun q hq => h q (List.mem_cons_of_mem _ hq)
    exact ⟨⟨r, h r (List.mem_cons_self ..)⟩ :: L, by rw [List.map_cons, hL]⟩
theorem flatP (L : List PtR) : (flatK encP 2 L.toArray).toList = rv (L.map (·.1)) := by
  apply List.ext_getElem?
  intro t
  by_cases ht : t < L.length * 2
  · have hq : t / 2 < L.length := by omega
    rw [Array.getElem?_toList]
    have h1 := get_flatK encP 2 L.toArray t (by simpa using ht)
    have hsz : t < (flatK encP 2 L.toArray).size := by rw [size_flatK]; simpa using ht
    rw [Array.getElem?_eq_getElem hsz]
    rw [getElem!_pos _ t hsz] at h1
    rw [h1]
    obtain ⟨r1, r2⟩ := rv_get (l := L.map (·.1)) (k := t / 2) (by simpa using hq)
    have hnth : nthR (L.map (·.1)) (t / 2) = (L[t / 2]'hq).1 := by rw [nthR_get (by simpa using hq)]; simp
    have hd : L.toArray[t / 2]! = L[t / 2]'hq := by simp [hq]
    rw [hd]
    rw [hnth] at r1 r2
    rcases Nat.mod_two_eq_zero_or_one t with q | q
    · have e : t = t / 2 * 2 := by omega
      rw [q]
      conv => rhs; rw [e]
      rw [r1]; rfl
    · have e : t = t / 2 * 2 + 1 := by omega
      rw [q]
      conv => rhs; rw [e]
      rw [r2]; rfl
  · rw [List.getElem?_eq_none (by simp; omega), List.getElem?_eq_none (by rw [rv_len]; simp; omega)]

/-- The closure. -/
theorem canon1_any (x y : PtR) (W : World) : Calls Tryz.prog 89 #[.agg #[.int .i64 x.1.1, .int .i64 x.1.2], .agg #[.int .i64 y.1.1, .int .i64 y.1.2]] W fun e w' => e = .returned (.int .i64 (cfP x y)) ∧ ∃ q os', w' = grow (W.drewN q) os' := by
  obtain ⟨⟨a, b⟩, hx1, hx2⟩ := x
  obtain ⟨⟨c, d⟩, hy1, hy2⟩ := y
  simp only at hx1 hx2 hy1 hy2
  unfold cfP
  simp only
  go_enter Tryz.func89, Tryz.ntmps89
  go_wp2
  go_ret
  exact ⟨rfl, 0, _, by rw [alloc_eq_grow, alloc_eq_grow, grow_grow]; rfl⟩
theorem cmpP (blk off size : Nat) (w : World) : CmpLays Tryz.prog 89 #[] encP 2 cfP blk off size w :=
  fun _ _ _ _ x y => canon1_any x y _

theorem sortRg_any (base : Nat) (v : Value) (l : List Rg) (w : World) (ho : OwG w base v l) (hbd : ∀ r ∈ l, 0 ≤ r.1 ∧ r.1 ≤ 1114111) (hl4 : l.length ≤ 100000) :
    Calls Tryz.prog 88 #[v, .func (.func 89) #[] #[]] w fun e w' => e = .returned (.tuple #[]) ∧ ∃ l', l'.Perm l ∧ l'.Pairwise (fun a b => a.1 ≤ b.1) ∧ OwG w' base v l' ∧ Below base w w' := by
  rcases List.eq_nil_or_concat l with hl | ⟨l0, x0, hl⟩
  · obtain ⟨A, c, rfl, _, _, _⟩ := ho.form
    have hcon := AnyF.slices_SortFunc_none sortRg A c (.func (.func 89) #[] #[]) w
    change Calls Tryz.prog 88 _ _ _ at hcon
    have hz : l.length = 0 := by rw [hl]; rfl
    rw [hz]
    rw [hz] at ho
    refine hcon.mono ?_
    rintro e w' ⟨rfl, rfl⟩
    refine ⟨rfl, l, List.Perm.refl _, ?_, ?_, Below.refl _ _⟩
    · rw [hl]; exact List.Pairwise.nil
    · exact ho
  · obtain ⟨L, hL⟩ := ptrs l hbd
    have hlen : L.length = l.length := by rw [← hL, List.length_map]
    have h0 : 0 < l.length := by rw [hl]; simp
    rcases ho.2 with ⟨_, h0'⟩ | ⟨g, cap, cur, rfl, hb, hg, hn, hc, hs, ht⟩
    · omega
    · have hgs : g < w.heap.size := (Array.getElem?_eq_some_iff.1 hg).1
      have hH : HoldsK encP 2 w g 0 L.toArray := by
        intro j hj
        have hj2 : j < L.length * 2 := by rw [size_flatK] at hj; simpa using hj
        refine ⟨?_, by simp [World.frozen?, hg]⟩
        rw [getElem!_pos _ j hj]
        have h1 : (flatK encP 2 L.toArray).toList[j]? = some (flatK encP 2 L.toArray)[j] := by rw [Array.getElem?_toList]; exact Array.getElem?_eq_getElem hj
        rw [flatP, hL, ← ht, List.getElem?_take] at h1
        rw [if_pos (by omega)] at h1
        rw [cell_of_row w g (0 + j) cur 62 (0, 0) hg, Nat.zero_add, ← Array.getElem?_toList, h1]
        rfl
      have eg : ∀ args w, (callFunc 89 args).run Tryz.prog w = .ok (.enter 89 args) w := enters_of Tryz.func89 (by kernel_rfl) rfl
      have hcon := AnyQ.slices_SortFunc sortRg 2 Tryz.isAgg62 Tryz.sizeOf62 encP (fun _ => rfl) (fun x v hv => by simp [encP] at hv; rcases hv with rfl | rfl <;> rfl) cfP swoP 89 #[] g 0 cap L.toArray w eg (cmpP g 0 L.toArray.size w) hH hgs (by rw [List.size_toArray, hlen]; omega)
      change Calls Tryz.prog 88 _ _ _ at hcon
      rw [List.size_toArray, hlen] at hcon
      refine hcon.mono ?_
      rintro e w' ⟨rfl, d', n, os, ⟨hp1, _, hp2⟩, hsd, rfl⟩
      have hds : d'.size = l.length := by rw [hp1, List.size_toArray, hlen]
      have he1 : d'.extract 0 l.length = d' := by rw [← hds]; exact Array.extract_size
      have he2 : L.toArray.extract 0 l.length = L.toArray := by
        have e : L.toArray.size = l.length := by rw [List.size_toArray, hlen]
        rw [← e]; exact Array.extract_size
      rw [he1, he2] at hp2
      have hp3 : (d'.toList.map (·.1)).Perm l := by
        have := hp2.map (fun x : PtR => x.1)
        rwa [List.toList_toArray, hL] at this
      have hll : (d'.toList.map (·.1)).length = l.length := hp3.length_eq
      refine ⟨rfl, d'.toList.map (·.1), hp3, ?_, ⟨by rw [rv_len], .inr ⟨g, cap, putCells id 0 (flatK encP 2 d') cur, by rw [hll], hb, ?_, by rw [hll]; exact hn, hc, by simp [putCells, hs], ?_⟩⟩, ?_⟩
      · rw [List.pairwise_map, List.pairwise_iff_getElem]
        intro i j hi hj hij
        have hi' : i < d'.size := by simpa using hi
        have hj' : j < d'.size := by simpa using hj
        have := hsd i j (Nat.zero_le _) hij (by omega)
        rw [ltP, getElem!_pos d' i hi', getElem!_pos d' j hj'] at this
        simp only [decide_eq_false_iff_not] at this
        simp only [Array.getElem_toList]
        omega
      · unfold sortWorldK putRowK
        rw [heap_grow_old _ _ (by simp [putRow, mapBlock, Go.Sort.ahead]; exact hgs)]
        simp [putRow, mapBlock, Go.Sort.ahead, Array.getElem?_modify, hg, onCells]
      · rw [hll]
        have hfl := flatP d'.toList
        rw [Array.toArray_toList] at hfl
        rw [← hfl]
        apply List.ext_getElem?
        intro j
        by_cases hj : j < l.length * 2
        · have hjc : j < cur.size := by rw [hs]; omega
          have hjf : j < (flatK encP 2 d').size := by rw [size_flatK, hds]; exact hj
          rw [List.getElem?_take, if_pos (by omega), Array.getElem?_toList, Array.getElem?_toList]
          simp only [putCells, Array.getElem?_mapIdx, Array.getElem?_eq_getElem hjc, Option.map_some, Nat.zero_le, true_and, Nat.zero_add, Nat.sub_zero, id]
          rw [if_pos hjf, getElem!_pos _ j hjf, Array.getElem?_eq_getElem hjf]
        · rw [List.getElem?_take, if_neg (by omega), List.getElem?_eq_none (by rw [Array.length_toList, size_flatK, hds]; omega)]
      · refine ⟨rfl, rfl, rfl, ?_, fun k hk => ?_⟩
        · unfold sortWorldK putRowK; simp [putRow, mapBlock, Go.Sort.ahead]
        · unfold sortWorldK putRowK
          rw [heap_grow_old _ _ (by simp [putRow, mapBlock, Go.Sort.ahead]; omega)]
          have : g ≠ k := by omega
          simp [putRow, mapBlock, Go.Sort.ahead, Array.getElem?_modify, this]
end Go.Proofs.YtkcpfpofimkkiaaGreatDoor
namespace Go.Proofs.YtkcpfpofimkkiaaGreatDoor
open Go.RowKit BigFrame
set_option linter.unusedVariables false
set_option linter.unusedSimpArgs false
set_option maxRecDepth 100000

theorem inOf_snoc {l : List Rg} {k : Nat} (h : k < l.length) : inOf (l.take (k + 1)) = if (clampR (nthR l k)).1 ≤ (clampR (nthR l k)).2 then inOf (l.take k) ++ [clampR (nthR l k)] else inOf (l.take k) := by
  unfold inOf
  rw [List.take_succ_eq_append_getElem h, List.map_append, List.filter_append, nthR_get h]
  by_cases q : (clampR l[k]).1 ≤ (clampR l[k]).2
  · rw [if_pos q]; simp [q]
  · rw [if_neg q]; simp [q]
theorem inOf_len {l : List Rg} : (inOf l).length ≤ l.length := by
  unfold inOf
  exact Nat.le_trans (List.length_filter_le _ _) (by simp)
theorem OwG.snoc {w : World} {base : Nat} {v : Value} {l : List Rg} {a b : Int} {n : Nat} (h : w.ownsRow base 62 2 v (n + 1) (rv l ++ [.int .i64 a, .int .i64 b])) (hn : n = l.length) : OwG w base v (l ++ [(a, b)]) := by
  have e2 : rv l ++ [.int .i64 a, .int .i64 b] = rv (l ++ [(a, b)]) := by rw [rv_append]; rfl
  rw [e2] at h
  have e3 : (l ++ [(a, b)]).length = n + 1 := by rw [List.length_append, hn]; rfl
  unfold OwG; rw [e3]; exact h

theorem mg_len {out : List Rg} {r : Rg} : (mg out r).length ≤ out.length + 1 := by
  rcases List.eq_nil_or_concat out with rfl | ⟨l0, ⟨x, y⟩, rfl⟩
  · rw [mg_nil]; simp
  · rw [List.concat_eq_append, mg_snoc]
    split <;> simp
theorem foldmg_len : ∀ (d out : List Rg), (d.foldl mg out).length ≤ out.length + d.length
  | [], out => Nat.le_refl _
  | r :: d, out => by
    have h1 := foldmg_len d (mg out r)
    have h2 := mg_len (out := out) (r := r)
    simp only [List.foldl_cons, List.length_cons]; omega
theorem mg_hi {out : List Rg} {r : Rg} (hr : ValR r) (h : ∀ q ∈ out, -1 ≤ q.2 ∧ q.2 ≤ 1114111) : ∀ q ∈ mg out r, -1 ≤ q.2 ∧ q.2 ≤ 1114111 := by
  unfold ValR MP at hr
  rcases List.eq_nil_or_concat out with rfl | ⟨l0, ⟨x, y⟩, rfl⟩
  · rw [mg_nil]; intro q hq; rw [List.mem_singleton] at hq; subst hq; omega
  · rw [List.concat_eq_append] at h ⊢
    rw [mg_snoc]
    have hy := h (x, y) (by simp)
    simp only at hy
    intro q hq
    split at hq
    · rw [List.mem_append, List.mem_singleton] at hq
      rcases hq with hq | rfl
      · exact h q (by simp [hq])
      · simp only; omega
    · rw [List.mem_append, List.mem_singleton] at hq
      rcases hq with hq | rfl
      · exact h q hq
      · omega
theorem foldmg_hi : ∀ (d out : List Rg), (∀ r ∈ d, ValR r) → (∀ q ∈ out, -1 ≤ q.2 ∧ q.2 ≤ 1114111) → ∀ q ∈ d.foldl mg out, -1 ≤ q.2 ∧ q.2 ≤ 1114111
  | [], out, _, h => h
  | r :: d, out, hv, h => foldmg_hi d (mg out r) (fun q hq => hv q (List.mem_cons_of_mem _ hq)) (mg_hi (hv r (List.mem_cons_self ..)) h)

theorem OwG.last {w : World} {base : Nat} {v : Value} {l0 : List Rg} {x y : Int} {g n cap : Nat} (h : OwG w base v (l0 ++ [(x, y)])) (hv : v = .slice (some ⟨g, 0, none⟩) n cap) :
    base ≤ g ∧ g < w.heap.size ∧ (∀ i, w.frozen? ⟨g, i, none⟩ = false) ∧ w.cell? ⟨g, l0.length * 2 + 1, none⟩ = some (.int .i64 y) ∧ ∀ t, OwG (w.setCell ⟨g, l0.length * 2 + 1, none⟩ (.int .i64 t)) base v (l0 ++ [(x, t)]) := by
  have hll : (l0 ++ [(x, y)]).length = l0.length + 1 := by simp
  have hnth : nthR (l0 ++ [(x, y)]) l0.length = (x, y) := by rw [nthR_get (by omega)]; simp
  obtain ⟨g', cap', rfl, hg1, hg2, hg3, hfz, hcs, hst⟩ := h.blk (by omega)
  simp only [Value.slice.injEq, Option.some.injEq, Addr.mk.injEq] at hv
  obtain ⟨⟨rfl, _⟩, _, rfl⟩ := hv
  obtain ⟨_, z⟩ := hcs l0.length (by omega)
  rw [hnth] at z
  refine ⟨hg2, hg3, hfz, z, fun t => ?_⟩
  have h2 := hst l0.length t (by omega)
  rw [hnth, List.set_append_right _ _ (Nat.le_refl _), Nat.sub_self] at h2
  exact h2

set_option maxHeartbeats 4000000 in
theorem canon_any (A : Option Addr) (n c : Nat) (l : List Rg) (w : World) (B : Nat) (hB : B ≤ w.heap.size) (hr : RdG w B A l) (hl : l.length = n) (hn : n ≤ 400) :
    Calls Tryz.prog 67 #[.slice A n c] w fun e w' => ∃ v out, e = .returned v ∧ OwG w' w.heap.size v out ∧ IsCan out (inR l) ∧ Below w.heap.size w w' ∧ out.length ≤ n := by
  have HR := Lib.hid hr; have HL := Lib.hid hl
  clear hr hl
  go_enter Tryz.func67, Tryz.ntmps67
  go_wp2_with fail
  go_loopw [3, 12] (fun v i wr => ∃ k : Nat, k ≤ n ∧ i = .int .i64 (k : Int) ∧ Hid (OwG wr w.heap.size v (inOf (l.take k))) ∧ Hid (Below w.heap.size w wr)) (fun _ i _ => n - (intOf i).toNat)
  case atStart => exact ⟨0, Nat.zero_le _, rfl, OwG.nil _ _, Below.refl _ _⟩
  case round =>
    as_aux_lemma =>
      obtain ⟨k, hk, rfl, HO, HB⟩ := hrel
      have hsz := HB.out.size
      by_cases hlt : k < n
      · as_aux_lemma =>
          obtain ⟨b, off, rfl, hb, hc⟩ := (HR.out.below (HB.out.mono hB)).at_ (by rw [HL.out]; omega)
          obtain ⟨z1, z2⟩ := hc k (by rw [HL.out]; exact hlt)
          have hs := inOf_snoc (l := l) (k := k) (by rw [HL.out]; exact hlt)
          have hml := inOf_len (l := l.take k)
          rw [List.length_take] at hml
          have HS := Lib.hid hs; have HML := Lib.hid hml
          clear hc hs hml
          generalize nthR l k = r at *
          obtain ⟨lo, hi⟩ := r
          simp only at z1 z2
          by_cases hab : max lo 0 ≤ min hi 1114111
          · as_aux_lemma =>
              have d1 : decide (max lo 0 ≤ min hi 1114111) = true := decide_eq_true hab
              have HS2 : Hid (inOf (l.take (k + 1)) = inOf (l.take k) ++ [(max lo 0, min hi 1114111)]) := Lib.hid (by rw [HS.out]; exact if_pos hab)
              have hbx : Below wr.heap.size wr (wr.alloc (.cells #[.int .i64 (max lo 0), .int .i64 (min hi 1114111)] 62)) := (Below.refl _ _).alloc (Nat.le_refl _) _
              have hsa : (wr.alloc (.cells #[.int .i64 (max lo 0), .int .i64 (min hi 1114111)] 62)).heap.size = wr.heap.size + 1 := by simp
              have HSA := Lib.hid hsa
              have HO1 := Lib.hid (HO.out.ext hbx)
              have HB1 := Lib.hid (HB.out.trans (hbx.mono hsz))
              clear hsa
              have HL2 := Lib.hid (show (inOf (l.take k)).length ≤ 400 by have := HML.out; omega)
              clear HS hab hbx HO
              generalize inOf (l.take k) = xs at *
              go_wp2_with (first
                | (at_builtin; refine wpList_app elRg rfl (.tmp 28) (.tmp 30) rfl w.heap.size _ xs.length 1 (rv xs) [.int .i64 (max lo 0), .int .i64 (min hi 1114111)] rfl HO1.out (by rw [HSA.out]; rfl) rfl (by simp [Value.oneCell']) (by have := HL2.out; omega) (by have := HL2.out; omega) HB1.out.size ?_; intro v2 w2 hown2 hg2 hat2; have HW2 := Lib.hid hown2; have HB2 := Lib.hid (HB1.out.grown hg2 HB1.out.size (fun k e => own_base HO1.out k e)); clear hown2 hg2 hat2))
              go_roundw
              case rel => exact ⟨k + 1, by omega, by go_num, by show OwG _ _ _ _; rw [HS2.out]; exact OwG.snoc HW2.out rfl, HB2.out⟩
              case measure => simp [intOf]; omega
          · as_aux_lemma =>
              have d1 : decide (max lo 0 ≤ min hi 1114111) = false := decide_eq_false hab
              have HS2 : Hid (inOf (l.take (k + 1)) = inOf (l.take k)) := Lib.hid (by rw [HS.out]; exact if_neg hab)
              have hbx : Below wr.heap.size wr (wr.alloc (.cells #[.int .i64 (max lo 0), .int .i64 (min hi 1114111)] 62)) := (Below.refl _ _).alloc (Nat.le_refl _) _
              have HO1 := Lib.hid (HO.out.ext hbx)
              have HB1 := Lib.hid (HB.out.trans (hbx.mono hsz))
              clear HS hab hbx HO
              go_wp2_with fail
              go_roundw
              case rel => exact ⟨k + 1, by omega, by go_num, by show OwG _ _ _ _; rw [HS2.out]; exact HO1.out, HB1.out⟩
              case measure => simp [intOf]; omega
      · as_aux_lemma =>
          have htk : l.take k = l := List.take_of_length_le (by rw [HL.out]; omega)
          have hml := inOf_len (l := l)
          rw [HL.out] at hml
          have ho := HO.out
          rw [htk] at ho
          have hv := inOf_val l
          have hso := sortRg_any w.heap.size _ (inOf l) wr ho (fun r hr => by have := hv r hr; unfold ValR MP at this; omega) (by omega)
          have HSO := Lib.hid hso; have HML := Lib.hid hml
          clear htk hml ho hv hso HO HR
          go_wp2_with fail
          refine HSO.out.mono ?_
          rintro e w1 ⟨rfl, d, hp, hpw, ho1, hb1⟩
          clear HSO
          have hcan := canon_is (l := l) (d := d) (fun r => hp.mem_iff) hpw
          have hdl : d.length ≤ n := by rw [hp.length_eq]; exact HML.out
          obtain ⟨A1, c1, rfl, q1, q2, q3⟩ := ho1.form
          have HD := Lib.hid q3; have HCAN := Lib.hid hcan; have HDL := Lib.hid hdl
          have HB1 := Lib.hid (HB.out.trans hb1)
          have HV := Lib.hid (show ∀ r ∈ d, ValR r from fun r hr => inOf_val l r (hp.mem_iff.1 hr))
          have hm2 : d.length ≤ 400 := by omega
          clear hp hpw ho1 hb1 hcan hdl q1 q2 q3 HB HML HL
          go_wp2_with fail
          go_loopw [6, 37] (fun v i wr => ∃ k : Nat, k ≤ d.length ∧ i = .int .i64 (k : Int) ∧ Hid (OwG wr w1.heap.size v ((d.take k).foldl mg [])) ∧ Hid (Below w1.heap.size w1 wr)) (fun _ i _ => d.length - (intOf i).toNat)
          case atStart => exact ⟨0, Nat.zero_le _, rfl, OwG.nil _ _, Below.refl _ _⟩
          case round =>
            as_aux_lemma =>
              obtain ⟨k, hk, rfl, HO, HB⟩ := hrel
              have hsz := HB.out.size
              by_cases hlt : k < d.length
              · as_aux_lemma =>
                  obtain ⟨b, off, rfl, hb, hc⟩ := (HD.out.below HB.out).at_ (by omega)
                  obtain ⟨z1, z2⟩ := hc k hlt
                  have hs : (d.take (k + 1)).foldl mg [] = mg ((d.take k).foldl mg []) (nthR d k) := by
                    rw [List.take_succ_eq_append_getElem hlt, List.foldl_append, nthR_get hlt]; rfl
                  have hml := foldmg_len (d.take k) []
                  rw [List.length_take, show min k d.length = k by omega] at hml
                  have hvv := HV.out _ (mem_nthR hlt)
                  have hov := foldmg_hi (d.take k) [] (fun r hr => HV.out r (List.mem_of_mem_take hr)) (fun r hr => by cases hr)
                  unfold ValR MP at hvv
                  have HS := Lib.hid hs; have HML := Lib.hid hml; have HOV := Lib.hid hov
                  clear hc hs hml hov
                  generalize nthR d k = r at *
                  generalize (d.take k).foldl mg [] = out at *
                  obtain ⟨lo, hi⟩ := r
                  simp only at z1 z2 hvv
                  have hbx : Below wr.heap.size wr (wr.alloc (.cells #[.int .i64 lo, .int .i64 hi] 62)) := (Below.refl _ _).alloc (Nat.le_refl _) _
                  have hsa : (wr.alloc (.cells #[.int .i64 lo, .int .i64 hi] 62)).heap.size = wr.heap.size + 1 := by simp
                  have HSA := Lib.hid hsa
                  have hO1 := HO.out.ext hbx
                  have HB2 := Lib.hid (HB.out.trans (hbx.mono hsz))
                  have hn400 : out.length ≤ 400 := by have := HML.out; simp at this; omega
                  have hq : ∀ q, OwG ((wr.alloc (.cells #[.int .i64 lo, .int .i64 hi] 62)).drewN q) w1.heap.size _ out ∧ Below w1.heap.size w1 ((wr.alloc (.cells #[.int .i64 lo, .int .i64 hi] 62)).drewN q) ∧ ((wr.alloc (.cells #[.int .i64 lo, .int .i64 hi] 62)).drewN q).cell? ⟨wr.heap.size, 0, none⟩ = some (.int .i64 lo) ∧ ((wr.alloc (.cells #[.int .i64 lo, .int .i64 hi] 62)).drewN q).cell? ⟨wr.heap.size, 1, none⟩ = some (.int .i64 hi) := fun q =>
                    ⟨hO1.ext (below_drewN (Below.refl _ _) q), below_drewN HB2.out q, by rw [World.cell?_drewN, cell_of_row _ wr.heap.size 0 #[.int .i64 lo, .int .i64 hi] 62 (0, 0) (heap_alloc_new wr _)]; rfl, by rw [World.cell?_drewN, cell_of_row _ wr.heap.size 1 #[.int .i64 lo, .int .i64 hi] 62 (0, 0) (heap_alloc_new wr _)]; rfl⟩
                  have HQ := Lib.hid hq
                  clear hsa hbx HO hq
                  rcases List.eq_nil_or_concat out with ho | ⟨l0, ⟨x, y⟩, ho⟩
                  · as_aux_lemma =>
                      obtain ⟨A2, c2, rfl, p1, p2, _⟩ := hO1.form
                      subst ho
                      have HO2 := Lib.hid hO1
                      have HS2 : Hid ((d.take (k + 1)).foldl mg [] = [] ++ [(lo, hi)]) := Lib.hid HS.out
                      have HNN : Hid (0 = ([] : List Rg).length) := Lib.hid rfl
                      clear hO1 HS
                      simp only [List.length_nil] at p1 hn400 ⊢
                      go_wp2_with fail
                      go_quiet (fail)
                      obtain ⟨hOd, hBd, z3, z4⟩ := HQ.out nq
                      unfold OwG at hOd; skip
                      have HOd := Lib.hid hOd; have HBd := Lib.hid hBd
                      clear hOd hBd HQ
                      generalize (wr.alloc (.cells #[.int .i64 lo, .int .i64 hi] 62)).drewN nq = wd at *
                      go_wp2_with (first
                        | (at_builtin; refine wpList_app elRg rfl (.tmp 69) (.tmp 71) rfl w1.heap.size _ 0 1 (rv []) [.int .i64 lo, .int .i64 hi] rfl HOd.out rfl rfl (by simp [Value.oneCell']) (by omega) (by omega) HBd.out.size ?_; intro v2 w2 hown2 hg2 hat2; have HW2 := Lib.hid hown2; have HB3 := Lib.hid (HBd.out.grown hg2 HBd.out.size (fun k e => own_base HOd.out k e)); clear hown2 hg2 hat2))
                      go_roundw
                      case rel => exact ⟨k + 1, by omega, by go_num, by show OwG _ _ _ _; rw [HS2.out]; exact OwG.snoc HW2.out HNN.out, HB3.out⟩
                      case measure => simp [intOf]; omega
                  · as_aux_lemma =>
                      rw [List.concat_eq_append] at ho
                      have hll : out.length = l0.length + 1 := by rw [ho]; simp
                      obtain ⟨g, cap, rfl, hg1, hg2, hg3, hfz, hcs, hst⟩ := hO1.blk (by omega)
                      obtain ⟨A2, c2, e2, hc1, hc2, _⟩ := hO1.form
                      simp only [Value.slice.injEq] at e2
                      obtain ⟨rfl, _, rfl⟩ := e2
                      unfold maxLen at hc2
                      have hnth : nthR out l0.length = (x, y) := by rw [nthR_get (by omega)]; subst ho; simp
                      obtain ⟨z5, z6⟩ := hcs l0.length (by omega)
                      rw [hnth] at z5 z6
                      simp only at z5 z6
                      have hbd := HOV.out (x, y) (by rw [ho]; simp)
                      simp only at hbd
                      have hmg := mg_snoc l0 x y (lo, hi)
                      rw [← ho] at hmg
                      simp only at hmg
                      rw [hmg] at HS
                      have HNN := Lib.hid hll
                      rw [hll] at hc1 HQ ⊢
                      have HHO := Lib.hid ho
                      clear hcs hst hfz hnth hmg ho hO1 hg2
                      generalize hmm : l0.length = m at *
                      have HMM := Lib.hid hmm
                      clear hmm
                      by_cases hle : lo ≤ y + 1
                      · as_aux_lemma =>
                          have d1 : decide (lo ≤ y + 1) = true := decide_eq_true hle
                          rw [if_pos hle] at HS
                          go_wp2_with fail
                          go_quiet (fail)
                          obtain ⟨hOd, hBd, z3, z4⟩ := HQ.out nq
                          have hdw := hOd.ext (w' := ((wr.alloc (.cells #[.int .i64 lo, .int .i64 hi] 62)).drewN nq).drew) ⟨rfl, rfl, rfl, Nat.le_refl _, fun _ _ => rfl⟩
                          rw [HHO.out] at hdw
                          obtain ⟨p0, p2, p3, p4, p5⟩ := hdw.last rfl
                          rw [HMM.out] at p4 p5
                          have p6 := p3 (m * 2 + 1)
                          have p7 := p5 (max y hi)
                          have HP7 := Lib.hid p7
                          clear hOd hdw p3 p5 p7
                          have HBd := Lib.hid hBd
                          clear hBd HQ
                          generalize (wr.alloc (.cells #[.int .i64 lo, .int .i64 hi] 62)).drewN nq = wd at *
                          go_wp2_with fail
                          go_region
                          have HB4 := Lib.hid ((HBd.out.setCell (p := ⟨g, m * 2 + 1, none⟩) p0 (.int .i64 (max y hi))).drew)
                          have HP8 : Hid (OwG (wd.setCell ⟨g, m * 2 + 1, none⟩ (.int .i64 (max y hi))).drew w1.heap.size (.slice (some ⟨g, 0, none⟩) (m + 1) cap) (l0 ++ [(x, max y hi)])) := Lib.hid HP7.out
                          have HS2 := Lib.hid HS.out
                          go_wp2_with fail
                          go_roundw
                          case rel => exact ⟨k + 1, by omega, by go_num, by show OwG _ _ _ _; rw [HS2.out]; exact HP8.out, HB4.out⟩
                          case measure => simp [intOf]; omega
                      · as_aux_lemma =>
                          have d1 : decide (lo ≤ y + 1) = false := decide_eq_false hle
                          rw [if_neg hle] at HS
                          go_wp2_with fail
                          go_quiet (fail)
                          obtain ⟨hOd, hBd, z3, z4⟩ := HQ.out nq
                          unfold OwG at hOd; rw [HNN.out] at hOd
                          have HOd := Lib.hid hOd; have HS2 := Lib.hid HS.out; clear hOd
                          have HBd := Lib.hid hBd
                          clear hBd HQ
                          generalize (wr.alloc (.cells #[.int .i64 lo, .int .i64 hi] 62)).drewN nq = wd at *
                          go_wp2_with (first
                            | (at_builtin; refine wpList_app elRg rfl (.tmp 69) (.tmp 71) rfl w1.heap.size _ (m + 1) 1 (rv out) [.int .i64 lo, .int .i64 hi] rfl HOd.out rfl rfl (by simp [Value.oneCell']) (by have := HNN.out; omega) (by have := HNN.out; omega) HBd.out.size ?_; intro v2 w2 hown2 hg2 hat2; have HW2 := Lib.hid hown2; have HB3 := Lib.hid (HBd.out.grown hg2 HBd.out.size (fun k e => own_base HOd.out k e)); clear hown2 hg2 hat2))
                          go_roundw
                          case rel => exact ⟨k + 1, by omega, by go_num, by show OwG _ _ _ _; rw [HS2.out]; exact OwG.snoc HW2.out HNN.out.symm, HB3.out⟩
                          case measure => simp [intOf]; omega
              · as_aux_lemma =>
                  have htk : d.take k = d := List.take_of_length_le (by omega)
                  rw [htk] at HO
                  have hml := foldmg_len d []
                  have HML := Lib.hid hml; have HDL2 := Lib.hid HDL.out
                  clear htk hml
                  go_wp2_with fail
                  go_ret
                  exact ⟨_, _, rfl, HO.out.base HB1.out.size, HCAN.out, HB1.out.trans (HB.out.mono HB1.out.size), by have h1 := HML.out; have h2 := HDL2.out; simp at h1; omega⟩
end Go.Proofs.YtkcpfpofimkkiaaGreatDoor
namespace Go.Proofs.YtkcpfpofimkkiaaGreatDoor
open Go.RowKit BigFrame
set_option linter.unusedVariables false
set_option linter.unusedSimpArgs false
set_option maxRecDepth 100000

structure KB (S : Nat → Prop) (w : World) where
  val : World
  kp : Kp S w val
instance (S : Nat → Prop) (w : World) : Nonempty (KB S w) := ⟨⟨w, Kp.refl _ _⟩⟩
theorem blk_own_ne {w : World} {g base : Nat} {e e' : TypeId} {vs xs : List Value} {sz n : Nat} {v : Value} (h : Blk w g e vs) (ho : w.ownsRow base e' sz v n xs) (hne : e ≠ e') : v.ownBlock ≠ some g := fun q => by
  obtain ⟨us, hb⟩ := own_ty ho q
  unfold Blk at h hb
  rw [h] at hb
  simp at hb
  exact hne hb.2
theorem VMap.kb {w : World} {b n : Nat} {f : Int → Option Value} {u : Value} (h : VMap w b n f) (X : KB (fun k => u.ownBlock = some k) w) (hne : u.ownBlock ≠ some b) : VMap X.val b n f :=
  h.kept (row := u.ownBlock) ⟨X.kp.os, X.kp.tape, X.kp.output, X.kp.size, fun k hk hn => X.kp.block k hk (fun e => hn e.symm)⟩ (fun e => hne e.symm)
theorem tosOf_len (ms : List Mv) : (tosOf ms).length ≤ ms.length := by
  unfold tosOf
  have := distinct_le (ms.map fun m => m.2.2)
  rwa [List.length_map] at this
theorem setsP_len (l : List St) : (setsP l).length ≤ totM l := by
  unfold setsP totM
  rw [List.length_flatMap]
  induction l with
  | nil => simp
  | cons s l ih =>
    have := tosOf_len s.2
    simp only [List.map_cons, List.sum_cons, List.length_map]
    simp only [List.length_map] at ih
    omega
set_option maxHeartbeats 4000000 in
theorem pMoveSets_any (A : Option Addr) (n c : Nat) (l : List St) (w : World) (B : Nat) (hB : B ≤ w.heap.size) (h : (shL shState).rd w (Lo B) l [.slice A n c]) (hl : l.length = n) (hn : n ≤ 1000) (hm : totM l ≤ 60) (hwf : ∀ s ∈ l, ∀ m ∈ s.2, wfI m.2.2) :
    Calls Tryz.prog 14 #[.agg #[.slice A n c]] w fun e w' => ∃ v vs, e = .returned v ∧ ClV w' w.heap.size v vs (setsP l) ∧ Below w.heap.size w w' := by
  have Hl := Lib.hid hl; have H := Lib.hid h; have HM := Lib.hid hm; have HWF := Lib.hid hwf
  clear hl h hm hwf
  have hb0 : Below w.heap.size w (w.alloc (.cells #[.slice A n c] 24)) := (Below.refl _ _).alloc (Nat.le_refl _) _
  have hc0 : (w.alloc (.cells #[.slice A n c] 24)).cell? ⟨w.heap.size, 0, none⟩ = some (.slice A n c) := by simp
  have hs0 : (w.alloc (.cells #[.slice A n c] 24)).heap.size = w.heap.size + 1 := by simp
  go_enter Tryz.func14, Tryz.ntmps14
  go_wp2_with fail
  generalize w.alloc (.cells #[.slice A n c] 24) = W0 at *
  have hW : w.heap.size < W0.heap.size := by omega
  have HB0 := Lib.hid hb0
  clear hb0 hs0
  go_loopw [3, 17] (fun v i wr => ∃ (k : Nat) (vs : List Value), k ≤ n ∧ i = .int .i64 (k : Int) ∧ Hid (ClV wr W0.heap.size v vs (setsP (l.take k))) ∧ Hid (Below W0.heap.size W0 wr)) (fun _ i _ => n - (intOf i).toNat)
  case atStart => exact ⟨0, [], Nat.zero_le _, rfl, ClV.nil _ _, Below.refl _ _⟩
  case round =>
    as_aux_lemma =>
      obtain ⟨k, vs, hk, rfl, HV, HB⟩ := hrel
      have hzr := HB.out.size
      have hc1 := (HB.out.cell (p := ⟨w.heap.size, 0, none⟩) hW).trans hc0
      by_cases hlt : k < n
      · as_aux_lemma =>
          have d1 : decide ((k : Int) < (n : Int)) = true := decide_eq_true (by omega)
          have hkl : k < l.length := by rw [Hl.out]; exact hlt
          obtain ⟨b, off, rfl, hb, hst⟩ := states_at (Sh.below H.out (HB0.out.mono hB)) (by omega)
          obtain ⟨g1, A', c', g2, g3, g4, g5⟩ := hst k _ (List.getElem?_eq_getElem hkl)
          have hst := setsP_take (List.getElem?_eq_getElem hkl)
          have htk := totM_take (List.getElem?_eq_getElem hkl)
          have hle := totM_le l (k + 1)
          have hln := setsP_len (l.take k)
          have hwf := HWF.out _ (List.getElem_mem hkl)
          generalize l[k] = s at *
          obtain ⟨r, ms⟩ := s
          simp only at g2 g3 g5 hst htk hwf
          have HWS := Lib.hid hwf; clear hwf
          obtain ⟨m, hm⟩ : ∃ m, m = ms.length := ⟨_, rfl⟩
          rw [← hm] at g2 g3 htk
          have hR : (setsP (l.take k)).length + m ≤ 60 := by have := HM.out; omega
          have HSM := Lib.hid hm; have HST := Lib.hid hst; have HMS := Lib.hid g5; have HLN := Lib.hid hR
          have hbW : b < W0.heap.size := Nat.lt_of_lt_of_le hb (by omega)
          have y1 := (HB.out.cell (p := ⟨b, off + k * 2, none⟩) hbW).trans g1
          have y2 := (HB.out.cell (p := ⟨b, off + k * 2 + 1, none⟩) hbW).trans g2
          unfold maxLen at g4
          clear hm hst g5 htk hle hln g1
          obtain ⟨wo, rfl⟩ : ∃ wo : World, wo = wr := ⟨_, rfl⟩
          have hmm := @run_makeMap Tryz.prog
          obtain ⟨W1, hW1⟩ : ∃ W1, W1 = wo.alloc (.cells #[.int .i64 r, .slice A' m c'] 33) := ⟨_, rfl⟩
          have hb1 : Below wo.heap.size wo W1 := by rw [hW1]; exact (Below.refl _ _).alloc (Nat.le_refl _) _
          have hs1 : W1.heap.size = wo.heap.size + 1 := by rw [hW1]; simp
          have y3 : W1.cell? ⟨wo.heap.size, 1, none⟩ = some (.slice A' m c') := by rw [hW1]; simp
          go_wp2_with fail
          obtain ⟨bm, hbm⟩ : ∃ bm, bm = W1.heap.size := ⟨_, rfl⟩
          have hbm2 : wo.heap.size + 1 = bm := by omega
          have hM0 := Ms.new W1
          rw [← hW1, hbm2]
          rw [← hbm] at hM0
          have HW1 := Lib.hid hW1; have HB1 := Lib.hid hb1; have HM0 := Lib.hid hM0
          have hbW0 : W0.heap.size ≤ bm := by omega
          have HBM0 := Lib.hid hbm
          clear hW1 hb1 hM0 y1 y2 y3 hc1 g2 hc0 hmm hbm2 hbm
          go_loopw [7, 25] (fun v i wr => ∃ (j : Nat) (f : Int → Option Value), j ≤ m ∧ i = .int .i64 (j : Int) ∧ Hid (Ms W1 wr bm bm j f v (tosOf (ms.take j)) (ms.take j))) (fun _ i _ => m - (intOf i).toNat)
          case atStart => exact ⟨0, _, Nat.zero_le _, rfl, HM0⟩
          case round =>
            as_aux_lemma =>
              clear HM0
              obtain ⟨j, f, hj, rfl, HMw⟩ := hrel
              by_cases hjm : j < m
              · as_aux_lemma =>
                  have d1 : decide ((j : Int) < (m : Int)) = true := decide_eq_true (by omega)
                  have hjl : j < ms.length := by rw [← HSM.out]; exact hjm
                  obtain ⟨b2, o2, rfl, hb2, hc2⟩ := moves_at HMS.out (by omega)
                  obtain ⟨u1, u2, u3⟩ := hc2 j _ (List.getElem?_eq_getElem hjl)
                  have hbW2 : b2 < W0.heap.size := Nat.lt_of_lt_of_le hb2 (by omega)
                  have tr : ∀ o, wr.cell? ⟨b2, o, none⟩ = W0.cell? ⟨b2, o, none⟩ := fun o => (HMw.out.b.cell (p := ⟨b2, o, none⟩) (by show b2 < bm; omega)).trans ((HB1.out.cell (p := ⟨b2, o, none⟩) (by show b2 < _; omega)).trans (HB.out.cell (p := ⟨b2, o, none⟩) hbW2))
                  have u1 := (tr _).trans u1
                  have u2 := (tr _).trans u2
                  have u3 := (tr _).trans u3
                  have htj : ms.take (j + 1) = ms.take j ++ [ms[j]] := List.take_succ_eq_append_getElem hjl
                  have hzw := HWS.out _ (List.getElem_mem hjl)
                  generalize ms[j] = mv at *
                  obtain ⟨x, y, z⟩ := mv
                  simp only at u1 u2 u3 hzw
                  have HTJ := Lib.hid htj; have HZ := Lib.hid hzw
                  have hto := @tosOf_snoc (ms.take j) (x, y, z)
                  rw [← htj] at hto
                  have hfs := HMw.out.fs z
                  obtain ⟨lu, hlu⟩ : ∃ lu, lu = (toSet (ms.take j) z).length := ⟨_, rfl⟩
                  obtain ⟨Au, cu, hue, hu2, hu3, -⟩ := (HMw.out.fr z).form
                  rw [← hlu] at hue hu2
                  have hlu60 : lu ≤ 60 := by have h1 := toSet_len (ms := ms.take j) (t := z); rw [List.length_take] at h1; omega
                  unfold maxLen at hu3
                  have HLU := Lib.hid hlu; clear hlu
                  have hu := hue.symm
                  obtain ⟨gm, hgm⟩ : ∃ gm, gm = wr.heap.size := ⟨_, rfl⟩
                  have hb3 : Below wr.heap.size wr (wr.alloc (.cells #[.int .i64 x, .int .i64 y, .int .i64 z] 35)) := (Below.refl _ _).alloc (Nat.le_refl _) _
                  have hM1 := HMw.out.ext hb3
                  have hBM := Blk.new wr 35 [.int .i64 x, .int .i64 y, .int .i64 z]
                  have hsz3 : (wr.alloc (.cells #[.int .i64 x, .int .i64 y, .int .i64 z] 35)).heap.size = wr.heap.size + 1 := by simp
                  have lk2 := hM1.m.look2 hzw
                  rw [← hu] at lk2
                  rw [← hgm] at hBM hsz3
                  have HM1 := Lib.hid hM1; have HBM := Lib.hid hBM; have HU := Lib.hid hu; have HGM := Lib.hid hgm; have HS3 := Lib.hid hsz3
                  have hMk := HMw.out.le
                  clear hc2 tr htj hzw hb3 hM1 hBM hu hue hsz3 HMw
                  cases hs : (f z).isSome
                  · as_aux_lemma =>
                      rw [hs] at lk2 hfs
                      have hnm : z ∉ tosOf (ms.take j) := fun q => by have := hfs.2 q; cases this
                      have hle : tosOf (ms.take (j + 1)) = tosOf (ms.take j) ++ [z] := by rw [hto, if_neg hnm]
                      have HLE := Lib.hid hle.symm
                      have hkl : (tosOf (ms.take j)).length ≤ 60 := by have h1 := tosOf_len (ms.take j); rw [List.length_take] at h1; omega
                      clear hto hfs hs hnm hle
                      go_wp2_with (at_builtin; go_must (refine wpList_app elIn rfl (.tmp 38) (.tmp 41) rfl bm u7 (tosOf (ms.take j)).length 1 _ [.int .i64 z] rfl HM1.out.k (by rw [HS3.out, HGM.out]; rfl) rfl (by simp [Value.oneCell']) (by omega) (by omega) HM1.out.le ?_); intro v5 w5 hown5 hg5 hat5; have HM5 := Lib.hid (HM1.out.key hg5 hown5); have HBM5 := Lib.hid (HBM.out.grown hg5 (fun e => blk_own_ne HBM.out HM1.out.k (by decide) e.symm)); clear hown5 hg5 hat5)
                      rw [← hgm]
                      clear hgm
                      obtain ⟨wt, hwt⟩ : ∃ wt, wt = w5.drew := ⟨_, rfl⟩
                      have hdr : Below w5.heap.size w5 w5.drew := ⟨rfl, rfl, rfl, Nat.le_refl _, fun _ _ => rfl⟩
                      have hMt : Ms W1 wt bm bm j f v5 (tosOf (ms.take j) ++ [z]) (ms.take j) := by rw [hwt]; exact HM5.out.ext hdr
                      have hBt : Blk wt gm 35 [.int .i64 x, .int .i64 y, .int .i64 z] := by rw [hwt]; exact HBM5.out.drew
                      have hGt : bm ≤ wt.heap.size := hMt.le
                      have hfu : OwG wt bm (.slice Au lu cu) (toSet (ms.take j) z) := by rw [HU.out]; exact hMt.fr z
                      have hug := blk_own_ne hBt hfu (by decide)
                      have hub := hMt.m.cells hfu
                      have k0 : ∀ X : KB (fun k => (Value.slice Au lu cu).ownBlock = some k) wt, X.val.cell? ⟨gm, 0, none⟩ = some (.int .i64 x) := fun X => (X.kp.cell (p := ⟨gm, 0, none⟩) hBt.lt hug).trans (hBt.cell (i := 0) rfl)
                      have k1 : ∀ X : KB (fun k => (Value.slice Au lu cu).ownBlock = some k) wt, X.val.cell? ⟨gm, 1, none⟩ = some (.int .i64 y) := fun X => (X.kp.cell (p := ⟨gm, 1, none⟩) hBt.lt hug).trans (hBt.cell (i := 1) rfl)
                      have k2 : ∀ X : KB (fun k => (Value.slice Au lu cu).ownBlock = some k) wt, X.val.cell? ⟨gm, 2, none⟩ = some (.int .i64 z) := fun X => (X.kp.cell (p := ⟨gm, 2, none⟩) hBt.lt hug).trans (hBt.cell (i := 2) rfl)
                      have lk : ∀ X : KB (fun k => (Value.slice Au lu cu).ownBlock = some k) wt, (Instr.lookup 65 (.map (some bm)) (.int .i64 z) false).run Tryz.prog X.val = .ok (.slice Au lu cu) X.val := fun X => by have h := (hMt.m.kb X hub).look1 HZ.out; rw [← HU.out] at h; exact h
                      have HMT := Lib.hid hMt
                      have hln2 := by have h1 := toSet_len (ms := ms.take j) (t := z); rw [List.length_take] at h1; omega
                      have HFU := Lib.hid hfu; have HUB := Lib.hid hub
                      clear hdr hMt hBt hfu hug hub
                      refine wp_region_T (fun w' => ∃ X : KB (fun k => (Value.slice Au lu cu).ownBlock = some k) wt, w' = X.val) 1 14 (by kernel_rfl) 14 (by rfl) ?_
                      rw [← hwt]
                      clear hwt
                      refine takeT 2 0 12 (by kernel_rfl) (by kernel_rfl) (fun _ _ d _ _ h => by cases d <;> exact h) ⟨⟨_, Kp.refl _ _⟩, rfl⟩ ?_
                      simp only [List.take_succ_cons, List.take_zero, List.drop_succ_cons, List.drop_zero]
                      repeat (first | go_big_quiet_skip | (go_big_quiet_want; go_big_quiet_op; go_big_quiet_on))
                      refine wpQuiet_nil ?_
                      clear k0 k1 k2 lk
                      refine oneT 1 12 (by kernel_rfl) (by decide) ?_
                      simp only [List.take_succ_cons, List.take_zero, List.drop_succ_cons, List.drop_zero]
                      go_wp2_with fail
                      refine ⟨⟨KB.mk _ ((Kp.refl _ _).alloc _), rfl⟩, ?_⟩
                      refine oneT 0 13 (by kernel_rfl) (by decide) ?_
                      simp only [List.take_succ_cons, List.take_zero, List.drop_succ_cons, List.drop_zero]
                      refine wpList_app elRg rfl (.tmp 49) (.tmp 55) rfl bm (.slice Au lu cu) lu 1 _ [.int .i64 x, .int .i64 y] rfl (by have h := HFU.out; unfold OwG at h; rw [← HLU.out] at h; exact h) rfl rfl (by simp [Value.oneCell']) (by omega) (by omega) hGt ?_
                      intro v8 w8 hown8 hg8 hat8
                      obtain ⟨w9, hrun9, hm9, hg9⟩ := (HMT.out.m.kept hg8 (fun e => HUB.out e.symm)).put (x := z) HZ.out (vElem_own hown8).choose_spec (by omega)
                      have HMS9 := Lib.hid (Ms.add (mv := (x, y, z)) HMT.out (by rw [← HU.out]; exact hg8) (OwG.snoc hown8 HLU.out) (by rw [← HU.out]; exact hat8) hm9 hg9)
                      have HKP : Hid (Kp (fun k => (Value.slice Au lu cu).ownBlock = some k) wt w8) := Lib.hid ((Kp.refl _ wt).grown hg8 (fun k e => .inr e))
                      clear hown8 hg8 hat8 hm9 hg9
                      go_wp2_with fail
                      refine ⟨⟨KB.mk _ HKP.out, rfl⟩, ?_⟩
                      refine endT (by kernel_rfl) ?_
                      simp only [List.drop_succ_cons, List.drop_zero]
                      go_wp2_with fail
                      go_roundw
                      case rel => exact ⟨j + 1, _, by omega, by go_num, Lib.hid (by have := HMS9.out; rw [← HTJ.out, HLE.out] at this; exact this)⟩
                      case measure => simp [intOf]; omega
                  · as_aux_lemma =>
                      rw [hs] at lk2 hfs
                      have hle : tosOf (ms.take (j + 1)) = tosOf (ms.take j) := by rw [hto, if_pos (hfs.1 rfl)]
                      have HLE := Lib.hid hle.symm
                      clear hto hfs hs hle
                      obtain ⟨w2, hw2⟩ : ∃ w2, w2 = wr.alloc (.cells #[.int .i64 x, .int .i64 y, .int .i64 z] 35) := ⟨_, rfl⟩
                      go_wp2_with fail
                      rw [← hw2, ← hgm]
                      rw [← hw2] at HM1 HBM
                      clear hgm hw2 lk2
                      obtain ⟨wt, hwt⟩ : ∃ wt, wt = w2.drew := ⟨_, rfl⟩
                      have hdr : Below w2.heap.size w2 w2.drew := ⟨rfl, rfl, rfl, Nat.le_refl _, fun _ _ => rfl⟩
                      have hMt : Ms W1 wt bm bm j f u7 (tosOf (ms.take j)) (ms.take j) := by rw [hwt]; exact HM1.out.ext hdr
                      have hBt : Blk wt gm 35 [.int .i64 x, .int .i64 y, .int .i64 z] := by rw [hwt]; exact HBM.out.drew
                      have hGt : bm ≤ wt.heap.size := hMt.le
                      have hfu : OwG wt bm (.slice Au lu cu) (toSet (ms.take j) z) := by rw [HU.out]; exact hMt.fr z
                      have hug := blk_own_ne hBt hfu (by decide)
                      have hub := hMt.m.cells hfu
                      have k0 : ∀ X : KB (fun k => (Value.slice Au lu cu).ownBlock = some k) wt, X.val.cell? ⟨gm, 0, none⟩ = some (.int .i64 x) := fun X => (X.kp.cell (p := ⟨gm, 0, none⟩) hBt.lt hug).trans (hBt.cell (i := 0) rfl)
                      have k1 : ∀ X : KB (fun k => (Value.slice Au lu cu).ownBlock = some k) wt, X.val.cell? ⟨gm, 1, none⟩ = some (.int .i64 y) := fun X => (X.kp.cell (p := ⟨gm, 1, none⟩) hBt.lt hug).trans (hBt.cell (i := 1) rfl)
                      have k2 : ∀ X : KB (fun k => (Value.slice Au lu cu).ownBlock = some k) wt, X.val.cell? ⟨gm, 2, none⟩ = some (.int .i64 z) := fun X => (X.kp.cell (p := ⟨gm, 2, none⟩) hBt.lt hug).trans (hBt.cell (i := 2) rfl)
                      have lk : ∀ X : KB (fun k => (Value.slice Au lu cu).ownBlock = some k) wt, (Instr.lookup 65 (.map (some bm)) (.int .i64 z) false).run Tryz.prog X.val = .ok (.slice Au lu cu) X.val := fun X => by have h := (hMt.m.kb X hub).look1 HZ.out; rw [← HU.out] at h; exact h
                      have HMT := Lib.hid hMt
                      have hln2 := by have h1 := toSet_len (ms := ms.take j) (t := z); rw [List.length_take] at h1; omega
                      have HFU := Lib.hid hfu; have HUB := Lib.hid hub
                      clear hdr hMt hBt hfu hug hub
                      refine wp_region_T (fun w' => ∃ X : KB (fun k => (Value.slice Au lu cu).ownBlock = some k) wt, w' = X.val) 1 14 (by kernel_rfl) 14 (by rfl) ?_
                      rw [← hwt]
                      clear hwt
                      refine takeT 2 0 12 (by kernel_rfl) (by kernel_rfl) (fun _ _ d _ _ h => by cases d <;> exact h) ⟨⟨_, Kp.refl _ _⟩, rfl⟩ ?_
                      simp only [List.take_succ_cons, List.take_zero, List.drop_succ_cons, List.drop_zero]
                      repeat (first | go_big_quiet_skip | (go_big_quiet_want; go_big_quiet_op; go_big_quiet_on))
                      refine wpQuiet_nil ?_
                      clear k0 k1 k2 lk
                      refine oneT 1 12 (by kernel_rfl) (by decide) ?_
                      simp only [List.take_succ_cons, List.take_zero, List.drop_succ_cons, List.drop_zero]
                      go_wp2_with fail
                      refine ⟨⟨KB.mk _ ((Kp.refl _ _).alloc _), rfl⟩, ?_⟩
                      refine oneT 0 13 (by kernel_rfl) (by decide) ?_
                      simp only [List.take_succ_cons, List.take_zero, List.drop_succ_cons, List.drop_zero]
                      refine wpList_app elRg rfl (.tmp 49) (.tmp 55) rfl bm (.slice Au lu cu) lu 1 _ [.int .i64 x, .int .i64 y] rfl (by have h := HFU.out; unfold OwG at h; rw [← HLU.out] at h; exact h) rfl rfl (by simp [Value.oneCell']) (by omega) (by omega) hGt ?_
                      intro v8 w8 hown8 hg8 hat8
                      obtain ⟨w9, hrun9, hm9, hg9⟩ := (HMT.out.m.kept hg8 (fun e => HUB.out e.symm)).put (x := z) HZ.out (vElem_own hown8).choose_spec (by omega)
                      have HMS9 := Lib.hid (Ms.add (mv := (x, y, z)) HMT.out (by rw [← HU.out]; exact hg8) (OwG.snoc hown8 HLU.out) (by rw [← HU.out]; exact hat8) hm9 hg9)
                      have HKP : Hid (Kp (fun k => (Value.slice Au lu cu).ownBlock = some k) wt w8) := Lib.hid ((Kp.refl _ wt).grown hg8 (fun k e => .inr e))
                      clear hown8 hg8 hat8 hm9 hg9
                      go_wp2_with fail
                      refine ⟨⟨KB.mk _ HKP.out, rfl⟩, ?_⟩
                      refine endT (by kernel_rfl) ?_
                      simp only [List.drop_succ_cons, List.drop_zero]
                      go_wp2_with fail
                      go_roundw
                      case rel => exact ⟨j + 1, _, by omega, by go_num, Lib.hid (by have := HMS9.out; rw [← HTJ.out, HLE.out] at this; exact this)⟩
                      case measure => simp [intOf]; omega
              · as_aux_lemma =>
                  have d1 : decide ((j : Int) < (m : Int)) = false := decide_eq_false (by omega)
                  obtain rfl : m = j := by omega
                  rw [List.take_of_length_le (l := ms) (by rw [← HSM.out]; omega)] at HMw
                  obtain ⟨Ak, ck, rfl, hk2, hk3, hkr⟩ := own_form HMw.out.k
                  obtain ⟨kl, hkl⟩ : ∃ kl, kl = (tosOf ms).length := ⟨_, rfl⟩
                  have hkl60 : kl ≤ m := by have := tosOf_len ms; rw [hkl, HSM.out]; exact this
                  have hMg := Mg.start HMw.out HBM0.out (HV.out.ext (HB1.out)) hbW0 (distinct_nodup _)
                  have hBG := HB.out.trans ((HB1.out.mono hzr).trans (HMw.out.b.mono hbW0))
                  rw [← hkl] at hMg hk2 ⊢
                  have HMG := Lib.hid hMg; have HBG := Lib.hid hBG; have HKL := Lib.hid hkl
                  unfold maxLen at hk3
                  have hlr : (setsP (l.take k)).length ≤ 60 := by have := HLN.out; omega
                  clear hMg hBG hkl hkr HMw d1 HV HB
                  go_wp2_with fail
                  obtain ⟨w2, rfl⟩ : ∃ w2 : World, w2 = wr := ⟨_, rfl⟩
                  go_loopw [3, 60] (fun v i wr => ∃ (j : Nat) (vs : List Value), j ≤ kl ∧ i = .int .i64 (j : Int) ∧ Hid (Mg wr W0.heap.size bm bm m f (.slice Ak kl ck) (tosOf ms) ms (setsP (l.take k)) j v vs) ∧ Hid (Below W0.heap.size W0 wr)) (fun _ i _ => kl - (intOf i).toNat)
                  case atStart => exact ⟨0, _, Nat.zero_le _, rfl, HMG, HBG⟩
                  case round =>
                    as_aux_lemma =>
                      clear HMG HBG
                      obtain ⟨j, vs, hj, rfl, HG, HB⟩ := hrel
                      by_cases hjk : j < kl
                      · as_aux_lemma =>
                          have d1 : decide ((j : Int) < (kl : Int)) = true := decide_eq_true (by omega)
                          have hjl : j < (tosOf ms).length := by rw [← HKL.out]; exact hjk
                          obtain ⟨bk, ok, rfl, hbk, hck⟩ := (show RdI wr wr.heap.size Ak (tosOf ms) from by
                            obtain ⟨A2, c2, e, _, _, h⟩ := own_form HG.out.k
                            simp only [Value.slice.injEq] at e
                            rw [e.1]; exact h).at_ (by omega)
                          have y1 := hck j hjl
                          have htm : nth (tosOf ms) j ∈ tosOf ms := by rw [nth_get hjl]; exact List.getElem_mem _
                          have hwt : wfI (nth (tosOf ms) j) := by
                            obtain ⟨mv, h1, h2⟩ := mem_tosOf.1 htm
                            rw [← h2]; exact HWS.out _ h1
                          have lk := HG.out.m.look1 hwt
                          obtain ⟨Au, cu, hue, hu2, hu3, -⟩ := (HG.out.fr (nth (tosOf ms) j)).form
                          obtain ⟨lu, hlu⟩ : ∃ lu, lu = (toSet ms (nth (tosOf ms) j)).length := ⟨_, rfl⟩
                          rw [← hlu] at hue hu2
                          have hlu60 : lu ≤ m := by rw [hlu, HSM.out]; exact toSet_len
                          rw [hue] at lk
                          have HUE := Lib.hid hue
                          unfold maxLen at hu3
                          obtain ⟨tt, htt⟩ : ∃ tt, tt = nth (tosOf ms) j := ⟨_, rfl⟩
                          rw [← htt] at y1 lk
                          have hCl := HG.out.c.row
                          rw [show (setsP (l.take k) ++ ((tosOf ms).take j).map (toSet ms)).length = (setsP (l.take k)).length + j by rw [List.length_append, List.length_map, List.length_take, ← HKL.out]; omega] at hCl
                          have HCL := Lib.hid hCl
                          have hgw : W0.heap.size ≤ wr.heap.size := HB.out.size
                          clear hck htm hwt hue hlu htt hCl
                          go_wp2_with (at_builtin; go_must (refine wpList_app elRow rfl (.tmp 64) (.tmp 68) rfl W0.heap.size _ ((setsP (l.take k)).length + j) 1 vs [.slice Au lu cu] rfl HCL.out rfl rfl (by simp [Value.oneCell']) (by omega) (by omega) hgw ?_); intro v5 w5 hown5 hg5 hat5; have HG5 := Lib.hid (HG.out.next hjl hg5 (by rw [HUE.out]; exact hown5) hat5); have HB5 := Lib.hid (HB.out.grown hg5 hgw (fun k e => own_base HCL.out k e)); clear hown5 hg5 hat5)
                          go_roundw
                          case rel => exact ⟨j + 1, _, by omega, by go_num, HG5, HB5⟩
                          case measure => simp [intOf]; omega
                      · as_aux_lemma =>
                          have d1 : decide ((j : Int) < (kl : Int)) = false := decide_eq_false (by omega)
                          have hc := HG.out.c
                          rw [List.take_of_length_le (l := tosOf ms) (by rw [← HKL.out]; omega), ← HST.out] at hc
                          have HV2 := Lib.hid hc
                          clear hc
                          go_wp2_with fail
                          go_roundw
                          case rel => exact ⟨k + 1, vs, by omega, by go_num, HV2, HB⟩
                          case measure => simp [intOf]; omega
      · as_aux_lemma =>
          have d1 : decide ((k : Int) < (n : Int)) = false := decide_eq_false (by omega)
          have e3 : l.take k = l := List.take_of_length_le (by rw [Hl.out]; omega)
          rw [e3] at HV
          have HV2 := Lib.hid (HV.out.base (Nat.le_of_lt hW))
          have HB2 := Lib.hid (HB0.out.trans (HB.out.mono (Nat.le_of_lt hW)))
          clear e3
          go_wp2_with fail
          go_ret
          exact ⟨_, _, rfl, HV2.out, HB2.out⟩
end Go.Proofs.YtkcpfpofimkkiaaGreatDoor
