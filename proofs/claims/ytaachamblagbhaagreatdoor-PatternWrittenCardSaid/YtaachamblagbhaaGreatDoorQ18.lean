/- Ranges sorted by their first point: slices.SortFunc's contract at points.Canon's call. · The program's sets: Canon. · The document's inner and unit: points, sets, brackets, what is not. -/
import Derived.Test.YtaachamblagbhaaGreatDoorQ11
import Derived.Test.YtaachamblagbhaaGreatDoorQ17
import Derived.Shelf.SlSortCmp.NoneTotal
import Derived.Test.YtaachamblagbhaaGreatDoorQ15
namespace Go.Proofs.YtaachamblagbhaaGreatDoor
open Go.RowKit BigFrame Go.Sort Go.Shelf
set_option linter.unusedVariables false
set_option linter.unusedSimpArgs false
set_option maxRecDepth 100000

/-- A range whose first is a point. -/
abbrev PtR := {r : Rg // 0 ≤ r.1 ∧ r.1 ≤ 1114111}
instance : Inhabited PtR := ⟨⟨(0, 0), by decide⟩⟩
def encP (x : PtR) : List Value := [.int .i64 x.1.1, .int .i64 x.1.2]
def cfP (x y : PtR) : Int := x.1.1 - y.1.1
theorem ltP (x y : PtR) : ltOf cfP x y = decide (x.1.1 < y.1.1) := by
  unfold ltOf cfP
  rw [decide_eq_decide]; omega
theorem swoP : SWO (ltOf cfP) where
  irrefl x := by rw [ltP]; simp
  trans x y z h1 h2 := by rw [ltP] at *; simp at *; omega
  ntrans x y z h1 h2 := by rw [ltP] at *; simp at *; omega
theorem ptrs : ∀ l : List Rg, (∀ r ∈ l, 0 ≤ r.1 ∧ r.1 ≤ 1114111) → ∃ L : List PtR, L.map (·.1) = l
  | [], _ => ⟨[], rfl⟩
  | r :: l, h => by
    obtain ⟨L, hL⟩ := ptrs l fun q hq => h q (List.mem_cons_of_mem _ hq)
    exact ⟨⟨r, h r (List.mem_cons_self ..)⟩ :: L, by rw [List.map_cons, hL]⟩
theorem flatP (L : List PtR) : (flatK encP 2 L.toArray).toList = rv (L.map (·.1)) := by
  apply List.ext_getElem?
  intro t
  by_cases ht : t < L.length * 2
  · have hq : t / 2 < L.length := by omega
    rw [Array.getElem?_toList]
    have h1 := get_flatK encP 2 L.toArray t (by simpa using ht)
    have hsz : t < (flatK encP 2 L.toArray).size := by rw [size_flatK]; simpa using ht
    rw [Array.getElem?_eq_getElem hsz]
    rw [getElem!_pos _ t hsz] at h1
    rw [h1]
    obtain ⟨r1, r2⟩ := rv_get (l := L.map (·.1)) (k := t / 2) (by simpa using hq)
    have hnth : nthR (L.map (·.1)) (t / 2) = (L[t / 2]'hq).1 := by rw [nthR_get (by simpa using hq)]; simp
    have hd : L.toArray[t / 2]! = L[t / 2]'hq := by simp [hq]
    rw [hd]
    rw [hnth] at r1 r2
    rcases Nat.mod_two_eq_zero_or_one t with q | q
    · have e : t = t / 2 * 2 := by omega
      rw [q]
      conv => rhs; rw [e]
      rw [r1]; rfl
    · have e : t = t / 2 * 2 + 1 := by omega
      rw [q]
      conv => rhs; rw [e]
      rw [r2]; rfl
  · rw [List.getElem?_eq_none (by simp; omega), List.getElem?_eq_none (by rw [rv_len]; simp; omega)]

/-- The closure. -/
theorem canon1_any (x y : PtR) (W : World) : Calls Tryz.prog 39 #[.agg #[.int .i64 x.1.1, .int .i64 x.1.2], .agg #[.int .i64 y.1.1, .int .i64 y.1.2]] W fun e w' => e = .returned (.int .i64 (cfP x y)) ∧ ∃ q os', w' = grow (W.drewN q) os' := by
  obtain ⟨⟨a, b⟩, hx1, hx2⟩ := x
  obtain ⟨⟨c, d⟩, hy1, hy2⟩ := y
  simp only at hx1 hx2 hy1 hy2
  unfold cfP
  simp only
  go_enter Tryz.func39, Tryz.ntmps39
  go_wp2
  go_ret
  exact ⟨rfl, 0, _, by rw [alloc_eq_grow, alloc_eq_grow, grow_grow]; rfl⟩
theorem cmpP (blk off size : Nat) (w : World) : CmpLays Tryz.prog 39 #[] encP 2 cfP blk off size w :=
  fun _ _ _ _ x y => canon1_any x y _

theorem sortRg_any (base : Nat) (v : Value) (l : List Rg) (w : World) (ho : OwG w base v l) (hbd : ∀ r ∈ l, 0 ≤ r.1 ∧ r.1 ≤ 1114111) (hl4 : l.length ≤ 100000) :
    Calls Tryz.prog 38 #[v, .func (.func 39) #[] #[]] w fun e w' => e = .returned (.tuple #[]) ∧ ∃ l', l'.Perm l ∧ l'.Pairwise (fun a b => a.1 ≤ b.1) ∧ OwG w' base v l' ∧ Below base w w' := by
  rcases List.eq_nil_or_concat l with hl | ⟨l0, x0, hl⟩
  · obtain ⟨A, c, rfl, _, _, _⟩ := ho.form
    have hcon := AnyF.slices_SortFunc_none sortRg A c (.func (.func 39) #[] #[]) w
    change Calls Tryz.prog 38 _ _ _ at hcon
    have hz : l.length = 0 := by rw [hl]; rfl
    rw [hz]
    rw [hz] at ho
    refine hcon.mono ?_
    rintro e w' ⟨rfl, rfl⟩
    refine ⟨rfl, l, List.Perm.refl _, ?_, ?_, Below.refl _ _⟩
    · rw [hl]; exact List.Pairwise.nil
    · exact ho
  · obtain ⟨L, hL⟩ := ptrs l hbd
    have hlen : L.length = l.length := by rw [← hL, List.length_map]
    have h0 : 0 < l.length := by rw [hl]; simp
    rcases ho.2 with ⟨_, h0'⟩ | ⟨g, cap, cur, rfl, hb, hg, hn, hc, hs, ht⟩
    · omega
    · have hgs : g < w.heap.size := (Array.getElem?_eq_some_iff.1 hg).1
      have hH : HoldsK encP 2 w g 0 L.toArray := by
        intro j hj
        have hj2 : j < L.length * 2 := by rw [size_flatK] at hj; simpa using hj
        refine ⟨?_, by simp [World.frozen?, hg]⟩
        rw [getElem!_pos _ j hj]
        have h1 : (flatK encP 2 L.toArray).toList[j]? = some (flatK encP 2 L.toArray)[j] := by rw [Array.getElem?_toList]; exact Array.getElem?_eq_getElem hj
        rw [flatP, hL, ← ht, List.getElem?_take] at h1
        rw [if_pos (by omega)] at h1
        rw [cell_of_row w g (0 + j) cur 57 (0, 0) hg, Nat.zero_add, ← Array.getElem?_toList, h1]
        rfl
      have eg : ∀ args w, (callFunc 39 args).run Tryz.prog w = .ok (.enter 39 args) w := enters_of Tryz.func39 (by kernel_rfl) rfl
      have hcon := AnyQ.slices_SortFunc sortRg 2 Tryz.isAgg57 Tryz.sizeOf57 encP (fun _ => rfl) (fun x v hv => by simp [encP] at hv; rcases hv with rfl | rfl <;> rfl) cfP swoP 39 #[] g 0 cap L.toArray w eg (cmpP g 0 L.toArray.size w) hH hgs (by rw [List.size_toArray, hlen]; omega)
      change Calls Tryz.prog 38 _ _ _ at hcon
      rw [List.size_toArray, hlen] at hcon
      refine hcon.mono ?_
      rintro e w' ⟨rfl, d', n, os, ⟨hp1, _, hp2⟩, hsd, rfl⟩
      have hds : d'.size = l.length := by rw [hp1, List.size_toArray, hlen]
      have he1 : d'.extract 0 l.length = d' := by rw [← hds]; exact Array.extract_size
      have he2 : L.toArray.extract 0 l.length = L.toArray := by
        have e : L.toArray.size = l.length := by rw [List.size_toArray, hlen]
        rw [← e]; exact Array.extract_size
      rw [he1, he2] at hp2
      have hp3 : (d'.toList.map (·.1)).Perm l := by
        have := hp2.map (fun x : PtR => x.1)
        rwa [List.toList_toArray, hL] at this
      have hll : (d'.toList.map (·.1)).length = l.length := hp3.length_eq
      refine ⟨rfl, d'.toList.map (·.1), hp3, ?_, ⟨by rw [rv_len], .inr ⟨g, cap, putCells id 0 (flatK encP 2 d') cur, by rw [hll], hb, ?_, by rw [hll]; exact hn, hc, by simp [putCells, hs], ?_⟩⟩, ?_⟩
      · rw [List.pairwise_map, List.pairwise_iff_getElem]
        intro i j hi hj hij
        have hi' : i < d'.size := by simpa using hi
        have hj' : j < d'.size := by simpa using hj
        have := hsd i j (Nat.zero_le _) hij (by omega)
        rw [ltP, getElem!_pos d' i hi', getElem!_pos d' j hj'] at this
        simp only [decide_eq_false_iff_not] at this
        simp only [Array.getElem_toList]
        omega
      · unfold sortWorldK putRowK
        rw [heap_grow_old _ _ (by simp [putRow, mapBlock, Go.Sort.ahead]; exact hgs)]
        simp [putRow, mapBlock, Go.Sort.ahead, Array.getElem?_modify, hg, onCells]
      · rw [hll]
        have hfl := flatP d'.toList
        rw [Array.toArray_toList] at hfl
        rw [← hfl]
        apply List.ext_getElem?
        intro j
        by_cases hj : j < l.length * 2
        · have hjc : j < cur.size := by rw [hs]; omega
          have hjf : j < (flatK encP 2 d').size := by rw [size_flatK, hds]; exact hj
          rw [List.getElem?_take, if_pos (by omega), Array.getElem?_toList, Array.getElem?_toList]
          simp only [putCells, Array.getElem?_mapIdx, Array.getElem?_eq_getElem hjc, Option.map_some, Nat.zero_le, true_and, Nat.zero_add, Nat.sub_zero, id]
          rw [if_pos hjf, getElem!_pos _ j hjf, Array.getElem?_eq_getElem hjf]
        · rw [List.getElem?_take, if_neg (by omega), List.getElem?_eq_none (by rw [Array.length_toList, size_flatK, hds]; omega)]
      · refine ⟨rfl, rfl, rfl, ?_, fun k hk => ?_⟩
        · unfold sortWorldK putRowK; simp [putRow, mapBlock, Go.Sort.ahead]
        · unfold sortWorldK putRowK
          rw [heap_grow_old _ _ (by simp [putRow, mapBlock, Go.Sort.ahead]; omega)]
          have : g ≠ k := by omega
          simp [putRow, mapBlock, Go.Sort.ahead, Array.getElem?_modify, this]
end Go.Proofs.YtaachamblagbhaaGreatDoor
namespace Go.Proofs.YtaachamblagbhaaGreatDoor
open Go.RowKit BigFrame
set_option linter.unusedVariables false
set_option linter.unusedSimpArgs false
set_option maxRecDepth 100000

theorem inOf_snoc {l : List Rg} {k : Nat} (h : k < l.length) : inOf (l.take (k + 1)) = if (clampR (nthR l k)).1 ≤ (clampR (nthR l k)).2 then inOf (l.take k) ++ [clampR (nthR l k)] else inOf (l.take k) := by
  unfold inOf
  rw [List.take_succ_eq_append_getElem h, List.map_append, List.filter_append, nthR_get h]
  by_cases q : (clampR l[k]).1 ≤ (clampR l[k]).2
  · rw [if_pos q]; simp [q]
  · rw [if_neg q]; simp [q]
theorem inOf_len {l : List Rg} : (inOf l).length ≤ l.length := by
  unfold inOf
  exact Nat.le_trans (List.length_filter_le _ _) (by simp)
theorem OwG.snoc {w : World} {base : Nat} {v : Value} {l : List Rg} {a b : Int} {n : Nat} (h : w.ownsRow base 57 2 v (n + 1) (rv l ++ [.int .i64 a, .int .i64 b])) (hn : n = l.length) : OwG w base v (l ++ [(a, b)]) := by
  have e2 : rv l ++ [.int .i64 a, .int .i64 b] = rv (l ++ [(a, b)]) := by rw [rv_append]; rfl
  rw [e2] at h
  have e3 : (l ++ [(a, b)]).length = n + 1 := by rw [List.length_append, hn]; rfl
  unfold OwG; rw [e3]; exact h

theorem mg_len {out : List Rg} {r : Rg} : (mg out r).length ≤ out.length + 1 := by
  rcases List.eq_nil_or_concat out with rfl | ⟨l0, ⟨x, y⟩, rfl⟩
  · rw [mg_nil]; simp
  · rw [List.concat_eq_append, mg_snoc]
    split <;> simp
theorem foldmg_len : ∀ (d out : List Rg), (d.foldl mg out).length ≤ out.length + d.length
  | [], out => Nat.le_refl _
  | r :: d, out => by
    have h1 := foldmg_len d (mg out r)
    have h2 := mg_len (out := out) (r := r)
    simp only [List.foldl_cons, List.length_cons]; omega
theorem mg_hi {out : List Rg} {r : Rg} (hr : ValR r) (h : ∀ q ∈ out, -1 ≤ q.2 ∧ q.2 ≤ 1114111) : ∀ q ∈ mg out r, -1 ≤ q.2 ∧ q.2 ≤ 1114111 := by
  unfold ValR MP at hr
  rcases List.eq_nil_or_concat out with rfl | ⟨l0, ⟨x, y⟩, rfl⟩
  · rw [mg_nil]; intro q hq; rw [List.mem_singleton] at hq; subst hq; omega
  · rw [List.concat_eq_append] at h ⊢
    rw [mg_snoc]
    have hy := h (x, y) (by simp)
    simp only at hy
    intro q hq
    split at hq
    · rw [List.mem_append, List.mem_singleton] at hq
      rcases hq with hq | rfl
      · exact h q (by simp [hq])
      · simp only; omega
    · rw [List.mem_append, List.mem_singleton] at hq
      rcases hq with hq | rfl
      · exact h q hq
      · omega
theorem foldmg_hi : ∀ (d out : List Rg), (∀ r ∈ d, ValR r) → (∀ q ∈ out, -1 ≤ q.2 ∧ q.2 ≤ 1114111) → ∀ q ∈ d.foldl mg out, -1 ≤ q.2 ∧ q.2 ≤ 1114111
  | [], out, _, h => h
  | r :: d, out, hv, h => foldmg_hi d (mg out r) (fun q hq => hv q (List.mem_cons_of_mem _ hq)) (mg_hi (hv r (List.mem_cons_self ..)) h)

theorem OwG.last {w : World} {base : Nat} {v : Value} {l0 : List Rg} {x y : Int} {g n cap : Nat} (h : OwG w base v (l0 ++ [(x, y)])) (hv : v = .slice (some ⟨g, 0, none⟩) n cap) :
    base ≤ g ∧ g < w.heap.size ∧ (∀ i, w.frozen? ⟨g, i, none⟩ = false) ∧ w.cell? ⟨g, l0.length * 2 + 1, none⟩ = some (.int .i64 y) ∧ ∀ t, OwG (w.setCell ⟨g, l0.length * 2 + 1, none⟩ (.int .i64 t)) base v (l0 ++ [(x, t)]) := by
  have hll : (l0 ++ [(x, y)]).length = l0.length + 1 := by simp
  have hnth : nthR (l0 ++ [(x, y)]) l0.length = (x, y) := by rw [nthR_get (by omega)]; simp
  obtain ⟨g', cap', rfl, hg1, hg2, hg3, hfz, hcs, hst⟩ := h.blk (by omega)
  simp only [Value.slice.injEq, Option.some.injEq, Addr.mk.injEq] at hv
  obtain ⟨⟨rfl, _⟩, _, rfl⟩ := hv
  obtain ⟨_, z⟩ := hcs l0.length (by omega)
  rw [hnth] at z
  refine ⟨hg2, hg3, hfz, z, fun t => ?_⟩
  have h2 := hst l0.length t (by omega)
  rw [hnth, List.set_append_right _ _ (Nat.le_refl _), Nat.sub_self] at h2
  exact h2

set_option maxHeartbeats 4000000 in
theorem canon_any (A : Option Addr) (n c : Nat) (l : List Rg) (w : World) (B : Nat) (hB : B ≤ w.heap.size) (hr : RdG w B A l) (hl : l.length = n) (hn : n ≤ 400) :
    Calls Tryz.prog 27 #[.slice A n c] w fun e w' => ∃ v out, e = .returned v ∧ OwG w' w.heap.size v out ∧ IsCan out (inR l) ∧ Below w.heap.size w w' ∧ out.length ≤ n := by
  have HR := Lib.hid hr; have HL := Lib.hid hl
  clear hr hl
  go_enter Tryz.func27, Tryz.ntmps27
  go_wp2_with fail
  go_loopw [3, 12] (fun v i wr => ∃ k : Nat, k ≤ n ∧ i = .int .i64 (k : Int) ∧ Hid (OwG wr w.heap.size v (inOf (l.take k))) ∧ Hid (Below w.heap.size w wr)) (fun _ i _ => n - (intOf i).toNat)
  case atStart => exact ⟨0, Nat.zero_le _, rfl, OwG.nil _ _, Below.refl _ _⟩
  case round =>
    as_aux_lemma =>
      obtain ⟨k, hk, rfl, HO, HB⟩ := hrel
      have hsz := HB.out.size
      by_cases hlt : k < n
      · as_aux_lemma =>
          obtain ⟨b, off, rfl, hb, hc⟩ := (HR.out.below (HB.out.mono hB)).at_ (by rw [HL.out]; omega)
          obtain ⟨z1, z2⟩ := hc k (by rw [HL.out]; exact hlt)
          have hs := inOf_snoc (l := l) (k := k) (by rw [HL.out]; exact hlt)
          have hml := inOf_len (l := l.take k)
          rw [List.length_take] at hml
          have HS := Lib.hid hs; have HML := Lib.hid hml
          clear hc hs hml
          generalize nthR l k = r at *
          obtain ⟨lo, hi⟩ := r
          simp only at z1 z2
          by_cases hab : max lo 0 ≤ min hi 1114111
          · as_aux_lemma =>
              have d1 : decide (max lo 0 ≤ min hi 1114111) = true := decide_eq_true hab
              have HS2 : Hid (inOf (l.take (k + 1)) = inOf (l.take k) ++ [(max lo 0, min hi 1114111)]) := Lib.hid (by rw [HS.out]; exact if_pos hab)
              have hbx : Below wr.heap.size wr (wr.alloc (.cells #[.int .i64 (max lo 0), .int .i64 (min hi 1114111)] 57)) := (Below.refl _ _).alloc (Nat.le_refl _) _
              have hsa : (wr.alloc (.cells #[.int .i64 (max lo 0), .int .i64 (min hi 1114111)] 57)).heap.size = wr.heap.size + 1 := by simp
              have HSA := Lib.hid hsa
              have HO1 := Lib.hid (HO.out.ext hbx)
              have HB1 := Lib.hid (HB.out.trans (hbx.mono hsz))
              clear hsa
              have HL2 := Lib.hid (show (inOf (l.take k)).length ≤ 400 by have := HML.out; omega)
              clear HS hab hbx HO
              generalize inOf (l.take k) = xs at *
              go_wp2_with (first
                | (at_builtin; refine wpList_app elRg rfl (.tmp 28) (.tmp 30) rfl w.heap.size _ xs.length 1 (rv xs) [.int .i64 (max lo 0), .int .i64 (min hi 1114111)] rfl HO1.out (by rw [HSA.out]; rfl) rfl (by simp [Value.oneCell']) (by have := HL2.out; omega) (by have := HL2.out; omega) HB1.out.size ?_; intro v2 w2 hown2 hg2 hat2; have HW2 := Lib.hid hown2; have HB2 := Lib.hid (HB1.out.grown hg2 HB1.out.size (fun k e => own_base HO1.out k e)); clear hown2 hg2 hat2))
              go_roundw
              case rel => exact ⟨k + 1, by omega, by go_num, by show OwG _ _ _ _; rw [HS2.out]; exact OwG.snoc HW2.out rfl, HB2.out⟩
              case measure => simp [intOf]; omega
          · as_aux_lemma =>
              have d1 : decide (max lo 0 ≤ min hi 1114111) = false := decide_eq_false hab
              have HS2 : Hid (inOf (l.take (k + 1)) = inOf (l.take k)) := Lib.hid (by rw [HS.out]; exact if_neg hab)
              have hbx : Below wr.heap.size wr (wr.alloc (.cells #[.int .i64 (max lo 0), .int .i64 (min hi 1114111)] 57)) := (Below.refl _ _).alloc (Nat.le_refl _) _
              have HO1 := Lib.hid (HO.out.ext hbx)
              have HB1 := Lib.hid (HB.out.trans (hbx.mono hsz))
              clear HS hab hbx HO
              go_wp2_with fail
              go_roundw
              case rel => exact ⟨k + 1, by omega, by go_num, by show OwG _ _ _ _; rw [HS2.out]; exact HO1.out, HB1.out⟩
              case measure => simp [intOf]; omega
      · as_aux_lemma =>
          have htk : l.take k = l := List.take_of_length_le (by rw [HL.out]; omega)
          have hml := inOf_len (l := l)
          rw [HL.out] at hml
          have ho := HO.out
          rw [htk] at ho
          have hv := inOf_val l
          have hso := sortRg_any w.heap.size _ (inOf l) wr ho (fun r hr => by have := hv r hr; unfold ValR MP at this; omega) (by omega)
          have HSO := Lib.hid hso; have HML := Lib.hid hml
          clear htk hml ho hv hso HO HR
          go_wp2_with fail
          refine HSO.out.mono ?_
          rintro e w1 ⟨rfl, d, hp, hpw, ho1, hb1⟩
          clear HSO
          have hcan := canon_is (l := l) (d := d) (fun r => hp.mem_iff) hpw
          have hdl : d.length ≤ n := by rw [hp.length_eq]; exact HML.out
          obtain ⟨A1, c1, rfl, q1, q2, q3⟩ := ho1.form
          have HD := Lib.hid q3; have HCAN := Lib.hid hcan; have HDL := Lib.hid hdl
          have HB1 := Lib.hid (HB.out.trans hb1)
          have HV := Lib.hid (show ∀ r ∈ d, ValR r from fun r hr => inOf_val l r (hp.mem_iff.1 hr))
          have hm2 : d.length ≤ 400 := by omega
          clear hp hpw ho1 hb1 hcan hdl q1 q2 q3 HB HML HL
          go_wp2_with fail
          go_loopw [6, 37] (fun v i wr => ∃ k : Nat, k ≤ d.length ∧ i = .int .i64 (k : Int) ∧ Hid (OwG wr w1.heap.size v ((d.take k).foldl mg [])) ∧ Hid (Below w1.heap.size w1 wr)) (fun _ i _ => d.length - (intOf i).toNat)
          case atStart => exact ⟨0, Nat.zero_le _, rfl, OwG.nil _ _, Below.refl _ _⟩
          case round =>
            as_aux_lemma =>
              obtain ⟨k, hk, rfl, HO, HB⟩ := hrel
              have hsz := HB.out.size
              by_cases hlt : k < d.length
              · as_aux_lemma =>
                  obtain ⟨b, off, rfl, hb, hc⟩ := (HD.out.below HB.out).at_ (by omega)
                  obtain ⟨z1, z2⟩ := hc k hlt
                  have hs : (d.take (k + 1)).foldl mg [] = mg ((d.take k).foldl mg []) (nthR d k) := by
                    rw [List.take_succ_eq_append_getElem hlt, List.foldl_append, nthR_get hlt]; rfl
                  have hml := foldmg_len (d.take k) []
                  rw [List.length_take, show min k d.length = k by omega] at hml
                  have hvv := HV.out _ (mem_nthR hlt)
                  have hov := foldmg_hi (d.take k) [] (fun r hr => HV.out r (List.mem_of_mem_take hr)) (fun r hr => by cases hr)
                  unfold ValR MP at hvv
                  have HS := Lib.hid hs; have HML := Lib.hid hml; have HOV := Lib.hid hov
                  clear hc hs hml hov
                  generalize nthR d k = r at *
                  generalize (d.take k).foldl mg [] = out at *
                  obtain ⟨lo, hi⟩ := r
                  simp only at z1 z2 hvv
                  have hbx : Below wr.heap.size wr (wr.alloc (.cells #[.int .i64 lo, .int .i64 hi] 57)) := (Below.refl _ _).alloc (Nat.le_refl _) _
                  have hsa : (wr.alloc (.cells #[.int .i64 lo, .int .i64 hi] 57)).heap.size = wr.heap.size + 1 := by simp
                  have HSA := Lib.hid hsa
                  have hO1 := HO.out.ext hbx
                  have HB2 := Lib.hid (HB.out.trans (hbx.mono hsz))
                  have hn400 : out.length ≤ 400 := by have := HML.out; simp at this; omega
                  have hq : ∀ q, OwG ((wr.alloc (.cells #[.int .i64 lo, .int .i64 hi] 57)).drewN q) w1.heap.size _ out ∧ Below w1.heap.size w1 ((wr.alloc (.cells #[.int .i64 lo, .int .i64 hi] 57)).drewN q) ∧ ((wr.alloc (.cells #[.int .i64 lo, .int .i64 hi] 57)).drewN q).cell? ⟨wr.heap.size, 0, none⟩ = some (.int .i64 lo) ∧ ((wr.alloc (.cells #[.int .i64 lo, .int .i64 hi] 57)).drewN q).cell? ⟨wr.heap.size, 1, none⟩ = some (.int .i64 hi) := fun q =>
                    ⟨hO1.ext (below_drewN (Below.refl _ _) q), below_drewN HB2.out q, by rw [World.cell?_drewN, cell_of_row _ wr.heap.size 0 #[.int .i64 lo, .int .i64 hi] 57 (0, 0) (heap_alloc_new wr _)]; rfl, by rw [World.cell?_drewN, cell_of_row _ wr.heap.size 1 #[.int .i64 lo, .int .i64 hi] 57 (0, 0) (heap_alloc_new wr _)]; rfl⟩
                  have HQ := Lib.hid hq
                  clear hsa hbx HO hq
                  rcases List.eq_nil_or_concat out with ho | ⟨l0, ⟨x, y⟩, ho⟩
                  · as_aux_lemma =>
                      obtain ⟨A2, c2, rfl, p1, p2, _⟩ := hO1.form
                      subst ho
                      have HO2 := Lib.hid hO1
                      have HS2 : Hid ((d.take (k + 1)).foldl mg [] = [] ++ [(lo, hi)]) := Lib.hid HS.out
                      have HNN : Hid (0 = ([] : List Rg).length) := Lib.hid rfl
                      clear hO1 HS
                      simp only [List.length_nil] at p1 hn400 ⊢
                      go_wp2_with fail
                      go_quiet (fail)
                      obtain ⟨hOd, hBd, z3, z4⟩ := HQ.out nq
                      unfold OwG at hOd; skip
                      have HOd := Lib.hid hOd; have HBd := Lib.hid hBd
                      clear hOd hBd HQ
                      generalize (wr.alloc (.cells #[.int .i64 lo, .int .i64 hi] 57)).drewN nq = wd at *
                      go_wp2_with (first
                        | (at_builtin; refine wpList_app elRg rfl (.tmp 69) (.tmp 71) rfl w1.heap.size _ 0 1 (rv []) [.int .i64 lo, .int .i64 hi] rfl HOd.out rfl rfl (by simp [Value.oneCell']) (by omega) (by omega) HBd.out.size ?_; intro v2 w2 hown2 hg2 hat2; have HW2 := Lib.hid hown2; have HB3 := Lib.hid (HBd.out.grown hg2 HBd.out.size (fun k e => own_base HOd.out k e)); clear hown2 hg2 hat2))
                      go_roundw
                      case rel => exact ⟨k + 1, by omega, by go_num, by show OwG _ _ _ _; rw [HS2.out]; exact OwG.snoc HW2.out HNN.out, HB3.out⟩
                      case measure => simp [intOf]; omega
                  · as_aux_lemma =>
                      rw [List.concat_eq_append] at ho
                      have hll : out.length = l0.length + 1 := by rw [ho]; simp
                      obtain ⟨g, cap, rfl, hg1, hg2, hg3, hfz, hcs, hst⟩ := hO1.blk (by omega)
                      obtain ⟨A2, c2, e2, hc1, hc2, _⟩ := hO1.form
                      simp only [Value.slice.injEq] at e2
                      obtain ⟨rfl, _, rfl⟩ := e2
                      unfold maxLen at hc2
                      have hnth : nthR out l0.length = (x, y) := by rw [nthR_get (by omega)]; subst ho; simp
                      obtain ⟨z5, z6⟩ := hcs l0.length (by omega)
                      rw [hnth] at z5 z6
                      simp only at z5 z6
                      have hbd := HOV.out (x, y) (by rw [ho]; simp)
                      simp only at hbd
                      have hmg := mg_snoc l0 x y (lo, hi)
                      rw [← ho] at hmg
                      simp only at hmg
                      rw [hmg] at HS
                      have HNN := Lib.hid hll
                      rw [hll] at hc1 HQ ⊢
                      have HHO := Lib.hid ho
                      clear hcs hst hfz hnth hmg ho hO1 hg2
                      generalize hmm : l0.length = m at *
                      have HMM := Lib.hid hmm
                      clear hmm
                      by_cases hle : lo ≤ y + 1
                      · as_aux_lemma =>
                          have d1 : decide (lo ≤ y + 1) = true := decide_eq_true hle
                          rw [if_pos hle] at HS
                          go_wp2_with fail
                          go_quiet (fail)
                          obtain ⟨hOd, hBd, z3, z4⟩ := HQ.out nq
                          have hdw := hOd.ext (w' := ((wr.alloc (.cells #[.int .i64 lo, .int .i64 hi] 57)).drewN nq).drew) ⟨rfl, rfl, rfl, Nat.le_refl _, fun _ _ => rfl⟩
                          rw [HHO.out] at hdw
                          obtain ⟨p0, p2, p3, p4, p5⟩ := hdw.last rfl
                          rw [HMM.out] at p4 p5
                          have p6 := p3 (m * 2 + 1)
                          have p7 := p5 (max y hi)
                          have HP7 := Lib.hid p7
                          clear hOd hdw p3 p5 p7
                          have HBd := Lib.hid hBd
                          clear hBd HQ
                          generalize (wr.alloc (.cells #[.int .i64 lo, .int .i64 hi] 57)).drewN nq = wd at *
                          go_wp2_with fail
                          go_region
                          have HB4 := Lib.hid ((HBd.out.setCell (p := ⟨g, m * 2 + 1, none⟩) p0 (.int .i64 (max y hi))).drew)
                          have HP8 : Hid (OwG (wd.setCell ⟨g, m * 2 + 1, none⟩ (.int .i64 (max y hi))).drew w1.heap.size (.slice (some ⟨g, 0, none⟩) (m + 1) cap) (l0 ++ [(x, max y hi)])) := Lib.hid HP7.out
                          have HS2 := Lib.hid HS.out
                          go_wp2_with fail
                          go_roundw
                          case rel => exact ⟨k + 1, by omega, by go_num, by show OwG _ _ _ _; rw [HS2.out]; exact HP8.out, HB4.out⟩
                          case measure => simp [intOf]; omega
                      · as_aux_lemma =>
                          have d1 : decide (lo ≤ y + 1) = false := decide_eq_false hle
                          rw [if_neg hle] at HS
                          go_wp2_with fail
                          go_quiet (fail)
                          obtain ⟨hOd, hBd, z3, z4⟩ := HQ.out nq
                          unfold OwG at hOd; rw [HNN.out] at hOd
                          have HOd := Lib.hid hOd; have HS2 := Lib.hid HS.out; clear hOd
                          have HBd := Lib.hid hBd
                          clear hBd HQ
                          generalize (wr.alloc (.cells #[.int .i64 lo, .int .i64 hi] 57)).drewN nq = wd at *
                          go_wp2_with (first
                            | (at_builtin; refine wpList_app elRg rfl (.tmp 69) (.tmp 71) rfl w1.heap.size _ (m + 1) 1 (rv out) [.int .i64 lo, .int .i64 hi] rfl HOd.out rfl rfl (by simp [Value.oneCell']) (by have := HNN.out; omega) (by have := HNN.out; omega) HBd.out.size ?_; intro v2 w2 hown2 hg2 hat2; have HW2 := Lib.hid hown2; have HB3 := Lib.hid (HBd.out.grown hg2 HBd.out.size (fun k e => own_base HOd.out k e)); clear hown2 hg2 hat2))
                          go_roundw
                          case rel => exact ⟨k + 1, by omega, by go_num, by show OwG _ _ _ _; rw [HS2.out]; exact OwG.snoc HW2.out HNN.out.symm, HB3.out⟩
                          case measure => simp [intOf]; omega
              · as_aux_lemma =>
                  have htk : d.take k = d := List.take_of_length_le (by omega)
                  rw [htk] at HO
                  have hml := foldmg_len d []
                  have HML := Lib.hid hml; have HDL2 := Lib.hid HDL.out
                  clear htk hml
                  go_wp2_with fail
                  go_ret
                  exact ⟨_, _, rfl, HO.out.base HB1.out.size, HCAN.out, HB1.out.trans (HB.out.mono HB1.out.size), by have h1 := HML.out; have h2 := HDL2.out; simp at h1; omega⟩
end Go.Proofs.YtaachamblagbhaaGreatDoor
namespace Go.Proofs.YtaachamblagbhaaGreatDoor
open Go.RowKit BigFrame
set_option linter.unusedVariables false
set_option linter.unusedSimpArgs false
set_option maxRecDepth 100000

abbrev RxK (w : World) (qb : Nat) (k : Int) (v u : Value) : Prop := Blk w qb 41 [.int .i64 k, v, .int .i64 0, .int .i64 0, u]
theorem rx_kid {w : World} {g kb qb : Nat} {vp : Option Addr} {p : Rx} {k : Int} {S : Nat → Prop} (h : RxIn w S (.pointer vp) p) (hS : ∀ b, S b → Frm g w b) (hk : Blk w kb 27 [.pointer vp]) (hq : RxK w qb k (.slice none 0 0) (.slice (some ⟨kb, 0, none⟩) 1 1)) (h1 : g ≤ kb) (h2 : g ≤ qb) :
    RxIn w (Frm g w) (.pointer (some ⟨qb, 0, none⟩)) (.node k [] 0 0 [p]) :=
  RxIn.mk_node (A := none) (c := 0) (A' := some ⟨kb, 0, none⟩) (c' := 1) ⟨h2, hq.lt⟩ (hq.cell rfl) (hq.cell rfl) (hq.cell rfl) (hq.cell rfl) (hq.cell rfl) (Nat.le_refl _) (Nat.zero_le _) (Nat.le_refl _) (by unfold maxLen; decide) (fun q => absurd rfl q) fun _ =>
    ⟨kb, 0, rfl, ⟨h1, hk.lt⟩, fun i k hi => by
      rcases i with _ | i
      · simp at hi
        subst hi
        exact ⟨_, hk.cell rfl, RxIn.keep (fun _ _ => rfl) hS h⟩
      · simp at hi⟩
theorem rx_set {w : World} {g base qb : Nat} {v : Value} {l : List Rg} (h : OwG w base v l) (hq : RxK w qb 1 v (.slice none 0 0)) (h1 : g ≤ base) (h2 : g ≤ qb) : RxIn w (Frm g w) (.pointer (some ⟨qb, 0, none⟩)) (.node 1 l 0 0 []) := by
  obtain ⟨A, c, rfl, a1, a2, a3⟩ := h.form
  refine RxIn.mk_node (A := A) (c := c) (A' := none) (c' := 0) ⟨h2, hq.lt⟩ (hq.cell rfl) (hq.cell rfl) (hq.cell rfl) (hq.cell rfl) (hq.cell rfl) a1 a2 (Nat.le_refl _) (Nat.zero_le _) (fun hn => ?_) (fun q => absurd q (by simp))
  have hl : 0 < l.length := by
    cases l with
    | nil => exact absurd rfl hn
    | cons a t => simp
  obtain ⟨g0, cap, e, _, hb, hlt, _⟩ := h.blk hl
  cases e
  obtain ⟨b, off, e2, _, hc⟩ := a3 hn
  cases e2
  exact ⟨g0, 0, rfl, ⟨by omega, hlt⟩, hc⟩
theorem ptx_hd {a : Int} (h0 : 0 ≤ a) (t : List UInt8) : okC (hdI (ptx a ++ t)) := by
  unfold ptx okC
  split
  · rename_i q
    have : ∀ n : Nat, n < 123 → n.toUInt8.toNat = n := by decide
    simp only [List.cons_append, hdI]
    rw [this _ (by omega)]
    omega
  · exact .inl rfl
theorem rgsx_drop {l : List Rg} {k : Nat} (h : k < l.length) : rgsx (l.drop k) = rgx (nthR l k) ++ rgsx (l.drop (k + 1)) := by
  rw [List.drop_eq_getElem_cons h, rgsx, nthR_get h]
theorem CanF.all : ∀ {l : List Rg} {f : Int}, 0 ≤ f → CanF f l → ∀ r ∈ l, 0 ≤ r.1 ∧ r.1 ≤ r.2 ∧ r.2 ≤ MP
  | [], f, _, _, r, hr => by cases hr
  | (a, b) :: t, f, hf, h, r, hr => by
    obtain ⟨h1, h2, h3, h4⟩ := h
    rcases List.mem_cons.1 hr with rfl | q
    · exact ⟨by show 0 ≤ a; omega, h2, h3⟩
    · exact CanF.all (by omega) h4 r q
theorem rgsx_hd {l : List Rg} (h : ∀ r ∈ l, 0 ≤ r.1) (k : Nat) (t : List UInt8) : okC (hdI (rgsx (l.drop k) ++ 93 :: t)) ∨ (l.length ≤ k ∧ hdI (rgsx (l.drop k) ++ 93 :: t) = 93) := by
  by_cases q : k < l.length
  · refine .inl ?_
    rw [rgsx_drop q, List.append_assoc]
    unfold rgx
    rw [List.append_assoc]
    exact ptx_hd (h _ (by rw [nthR_get q]; exact List.getElem_mem q)) _
  · refine .inr ⟨by omega, ?_⟩
    rw [List.drop_of_length_le (by omega)]
    rfl

set_option maxHeartbeats 8000000 in
theorem inner_set (rb i o : Nat) (s : ByteArray) (S : List Rg) (t : List UInt8) (w : World) (h : RS w rb s i o (rgsx S ++ 93 :: t)) (hc : Can S) (h12 : S.length ≤ 12) :
    Calls Tryz.prog 99 #[rdp rb, .int .i64 91] w fun e w' => ∃ v, e = .returned v ∧ RS w' rb s (i + (rgsx S).length + 1) o t ∧ Kp (· = rb) w w' ∧ RxIn w' (Frm w.heap.size w') v (.node 1 S 0 0 []) := by
  obtain ⟨m, hm⟩ : ∃ m, m = S.length := ⟨_, rfl⟩
  have hall := CanF.all (Int.le_refl 0) hc
  have hne94 : hdI (rgsx S ++ 93 :: t) ≠ 94 := by
    have := rgsx_hd (fun r hr => (hall r hr).1) 0 t
    rw [List.drop_zero] at this
    unfold okC at this
    omega
  have HE := Lib.hid (eat_no rb i o s _ 94 w h hne94)
  obtain ⟨I, hI⟩ : ∃ I, I = i + (rgsx S).length := ⟨_, rfl⟩
  rw [← hI]
  have HI : Hid (i + (rgsx (S.drop 0)).length = I) := Lib.hid (by rw [hI, List.drop_zero])
  have HR0 : Hid (RS w rb s i o (rgsx (S.drop 0) ++ 93 :: t)) := Lib.hid (by rw [List.drop_zero]; exact h)
  have hrb := h.lt
  obtain ⟨g, hg⟩ : ∃ g, w.heap.size = g := ⟨_, rfl⟩
  rw [hg] at hrb ⊢
  have HG := Lib.hid hg; have HM := Lib.hid hm; have HALL := Lib.hid hall; have HCAN := Lib.hid hc
  have hm12 : m ≤ 12 := by omega
  clear h hc hI hne94 hg hm hall h12
  go_enter Tryz.func99, Tryz.ntmps99
  go_wp2_with fail
  refine HE.out.mono ?_
  clear HE
  rintro e w1 ⟨rfl, hb1⟩
  have HR1 := Lib.hid (HR0.out.below hb1)
  have HK1 := Lib.hid (Kp.of (S := (· = rb)) hb1)
  clear HR0 hb1
  go_wp2_with fail
  go_loopw [8, 9, 10, 11, 12, 13] (fun v u1 u2 u3 u4 u5 wr => ∃ k i' : Nat, k ≤ m ∧ lenV v = k ∧ Hid (OwG wr g v (S.take k)) ∧ Hid (RS wr rb s i' o (rgsx (S.drop k) ++ 93 :: t)) ∧ Hid (i' + (rgsx (S.drop k)).length = I) ∧ Hid (Kp (· = rb) w wr)) (fun v _ _ _ _ _ _ => m - lenV v)
  case atStart => exact ⟨0, i, Nat.zero_le _, rfl, OwG.nil _ _, HR1.out, HI.out, HK1.out⟩
  case round =>
    as_aux_lemma =>
      clear HR1 HK1 HI
      obtain ⟨k, i', hk, hlv, HO, HR, HI, HK⟩ := hrel
      have htk : (S.take k).length = k := by rw [List.length_take, ← HM.out]; omega
      have hgs : g ≤ wr.heap.size := by rw [← HG.out]; exact HK.out.size
      obtain ⟨wo, rfl⟩ : ∃ wo : World, wo = wr := ⟨_, rfl⟩
      have z3 := HR.out.b.cell (i := 3) rfl
      obtain ⟨A, c, hve, hc1, hc2, -⟩ := HO.out.form
      rw [htk] at hve hc1
      unfold maxLen at hc2
      subst hve
      by_cases hlt : k < m
      · as_aux_lemma =>
          have hlt2 : k < S.length := by rw [← HM.out]; exact hlt
          obtain ⟨r1, r2, r3⟩ := HALL.out (nthR S k) (by rw [nthR_get hlt2]; exact List.getElem_mem hlt2)
          have hrs := HR.out
          have hi := HI.out
          rw [rgsx_drop hlt2] at hrs hi
          obtain ⟨lo, hlo⟩ : ∃ lo, lo = (nthR S k).1 := ⟨_, rfl⟩
          obtain ⟨hi_, hhi⟩ : ∃ hi_, hi_ = (nthR S k).2 := ⟨_, rfl⟩
          rw [← hlo] at r1 r2
          rw [← hhi] at r2 r3
          obtain ⟨X, hX⟩ : ∃ X, X = rgsx (S.drop (k + 1)) ++ 93 :: t := ⟨_, rfl⟩
          have hX45 : hdI X ≠ 45 := by
            have := rgsx_hd (fun r hr => (HALL.out r hr).1) (k + 1) t
            rw [← hX] at this
            unfold okC at this
            omega
          obtain ⟨L2, hL2⟩ : ∃ L2, L2 = (rgsx (S.drop (k + 1))).length := ⟨_, rfl⟩
          rw [List.append_assoc, ← hX] at hrs
          rw [List.length_append, ← hL2] at hi
          have hrg : rgx (nthR S k) = ptx lo ++ (if lo < hi_ then [45] ++ ptx hi_ else []) := by unfold rgx; rw [← hlo, ← hhi]
          rw [hrg] at hrs hi
          rw [List.append_assoc] at hrs
          rw [List.length_append] at hi
          have HTK : Hid (S.take (k + 1) = S.take k ++ [(lo, hi_)]) := Lib.hid (by
            rw [List.take_succ_eq_append_getElem hlt2, ← nthR_get hlt2, hlo, hhi])
          have hne : hdI (ptx lo ++ ((if lo < hi_ then [45] ++ ptx hi_ else []) ++ X)) ≠ 93 := by
            have := ptx_hd r1 ((if lo < hi_ then [45] ++ ptx hi_ else []) ++ X)
            unfold okC at this
            omega
          have HE := Lib.hid (eat_no rb i' o s _ 93 wo hrs hne)
          have HRS := Lib.hid hrs; have HII := Lib.hid hi; have HXX := Lib.hid hX; have HL2 := Lib.hid hL2
          -- the end of a round
          have hpush : ∀ (i2 : Nat) (w5 : World), RS w5 rb s i2 o X → Kp (· = rb) wo w5 → i2 + L2 = I →
              OwG w5 g (.slice A k c) (S.take k) ∧ g ≤ w5.heap.size ∧ ∀ (v2 : Value) (w6 : World), w6.ownsRow g 57 2 v2 (k + 1) (rv (S.take k) ++ [.int .i64 lo, .int .i64 hi_]) → w5.grownBy w6 (Value.slice A k c).ownBlock →
                lenV v2 = k + 1 ∧ Hid (OwG w6 g v2 (S.take (k + 1))) ∧ Hid (RS w6 rb s i2 o (rgsx (S.drop (k + 1)) ++ 93 :: t)) ∧ Hid (i2 + (rgsx (S.drop (k + 1))).length = I) ∧ Hid (Kp (· = rb) w w6) := fun i2 w5 a1 a2 a3 => by
            have ho : OwG w5 g (.slice A k c) (S.take k) := own_kept HO.out (fun b hb => a2.block b (HO.out.lt b hb).2 (fun e => by have := (HO.out.lt b hb).1; omega))
            refine ⟨ho, Nat.le_trans hgs a2.size, fun v2 w6 z1 z2 => ?_⟩
            obtain ⟨A6, c6, rfl, _⟩ := own_form z1
            refine ⟨rfl, Lib.hid ?_, Lib.hid ⟨a1.asc, a1.len, a1.b.grown z2 (fun e => ?_), by rw [← HXX.out]; exact a1.at_, a1.le⟩, Lib.hid (by rw [← HL2.out]; exact a3), Lib.hid ((HK.out.trans a2).grown z2 (fun b e => .inl ?_))⟩
            · show OwG _ _ _ _
              rw [HTK.out]
              exact OwG.snoc z1 htk.symm
            · have := (HO.out.lt rb e.symm).1
              omega
            · have := (HO.out.lt b e).1
              have := HG.out
              omega
          have HPUSH := Lib.hid hpush
          have HTL := Lib.hid htk
          clear hrs hi hX hL2 hrg hne hlo hhi hpush HR HI htk hlv
          go_wp2_with fail
          refine HE.out.mono ?_
          clear HE
          rintro e w2 ⟨rfl, hb2⟩
          have hr2 := HRS.out.below hb2
          have z1 := hr2.b.cell (i := 1) rfl
          have HP := Lib.hid (rpoint_any rb i' o s _ lo _ w2 hr2 r1 (by omega) bars_inside)
          have HK2 := Lib.hid (Kp.of (S := (· = rb)) hb2)
          clear hr2 hb2 z3
          go_wp2_with fail
          refine HP.out.mono ?_
          clear HP
          rintro e w3 ⟨rfl, hr3, hk3⟩
          have HK3 := Lib.hid (HK2.out.trans hk3)
          have e1 : decide (hi_ < lo) = false := decide_eq_false (by omega)
          by_cases hlh : lo < hi_
          · as_aux_lemma =>
              have hii := HII.out
              rw [if_pos hlh] at hr3 hii
              obtain ⟨j, hj⟩ : ∃ j, j = i' + (ptx lo).length := ⟨_, rfl⟩
              rw [← hj] at hr3
              have HE := Lib.hid (eat_yes rb j o s 45 (ptx hi_ ++ X) 45 w3 (by rw [List.append_assoc] at hr3; exact hr3) rfl)
              have HJ : Hid (j + 1 + (ptx hi_).length + L2 = I) := Lib.hid (by rw [List.length_append] at hii; simp at hii; omega)
              clear hr3 hk3 hii hj
              go_wp2_with fail
              refine HE.out.mono ?_
              clear HE
              rintro e w4 ⟨rfl, hr4, hk4⟩
              have HP := Lib.hid (rpoint_any rb (j + 1) o s _ hi_ X w4 hr4 (by omega) r3 bars_inside)
              have HK4 := Lib.hid (HK3.out.trans hk4)
              clear hr4 hk4
              go_wp2_with fail
              refine HP.out.mono ?_
              clear HP
              rintro e w5 ⟨rfl, hr5, hk5⟩
              obtain ⟨hO5, hg5, hP5⟩ := HPUSH.out _ w5 hr5 (HK4.out.trans hk5) HJ.out
              unfold OwG at hO5
              rw [HTL.out] at hO5
              have HO5 := Lib.hid hO5; have HP5 := Lib.hid hP5
              clear hO5 hP5 hr5 hk5
              go_wp2_with (at_builtin; refine wpList_app elRg rfl (.tmp 59) (.tmp 63) rfl g _ k 1 (rv (S.take k)) [.int .i64 lo, .int .i64 hi_] rfl HO5.out rfl rfl (by simp [Value.oneCell']) (by omega) (by omega) hg5 ?_; intro v6 w6 hown6 hgr6 hat6; have HQ6 := Lib.hid (HP5.out v6 w6 hown6 hgr6); clear hown6 hgr6 hat6)
              go_roundw
              case rel => exact ⟨k + 1, _, by omega, HQ6.out.1, HQ6.out.2.1, HQ6.out.2.2.1, HQ6.out.2.2.2.1, HQ6.out.2.2.2.2⟩
              case measure => rw [HQ6.out.1]; simp [lenV]; omega
          · as_aux_lemma =>
              obtain rfl : hi_ = lo := by omega
              have hii := HII.out
              rw [if_neg hlh] at hr3 hii
              rw [List.nil_append] at hr3
              obtain ⟨j, hj⟩ : ∃ j, j = i' + (ptx hi_).length := ⟨_, rfl⟩
              rw [← hj] at hr3
              have HE := Lib.hid (eat_no rb j o s X 45 w3 hr3 hX45)
              have HR3 := Lib.hid hr3
              have HJ : Hid (j + L2 = I) := Lib.hid (by simp at hii; omega)
              clear hr3 hk3 hii hj
              go_wp2_with fail
              refine HE.out.mono ?_
              clear HE
              rintro e w5 ⟨rfl, hb5⟩
              obtain ⟨hO5, hg5, hP5⟩ := HPUSH.out _ w5 (HR3.out.below hb5) (HK3.out.trans (Kp.of hb5)) HJ.out
              unfold OwG at hO5
              rw [HTL.out] at hO5
              have HO5 := Lib.hid hO5; have HP5 := Lib.hid hP5
              clear hO5 hP5 hb5
              go_wp2_with (at_builtin; refine wpList_app elRg rfl (.tmp 59) (.tmp 63) rfl g _ k 1 (rv (S.take k)) [.int .i64 hi_, .int .i64 hi_] rfl HO5.out rfl rfl (by simp [Value.oneCell']) (by omega) (by omega) hg5 ?_; intro v6 w6 hown6 hgr6 hat6; have HQ6 := Lib.hid (HP5.out v6 w6 hown6 hgr6); clear hown6 hgr6 hat6)
              go_roundw
              case rel => exact ⟨k + 1, _, by omega, HQ6.out.1, HQ6.out.2.1, HQ6.out.2.2.1, HQ6.out.2.2.2.1, HQ6.out.2.2.2.2⟩
              case measure => rw [HQ6.out.1]; simp [lenV]; omega
      · as_aux_lemma =>
          obtain rfl : k = m := by omega
          have hrs := HR.out
          have hi := HI.out
          have hO := HO.out
          rw [List.drop_of_length_le (by rw [← HM.out]; exact Nat.le_refl _)] at hrs hi
          rw [List.take_of_length_le (by rw [← HM.out]; exact Nat.le_refl _)] at hO
          have hp0 : rgsx [] = [] := rfl
          rw [hp0, List.nil_append] at hrs
          rw [hp0, List.length_nil, Nat.add_zero] at hi
          subst hi
          have HE := Lib.hid (eat_yes rb i' o s 93 t 93 wo hrs rfl)
          have HOO := Lib.hid hO
          clear hrs hO hlv htk HO HR HI hp0
          go_wp2_with fail
          refine HE.out.mono ?_
          clear HE
          rintro e w2 ⟨rfl, hr2, hk2⟩
          have ho2 : OwG w2 g (.slice A k c) S := own_kept HOO.out (fun b hb => hk2.block b (HOO.out.lt b hb).2 (fun e => by have := (HOO.out.lt b hb).1; omega))
          obtain ⟨A2, c2, e2, -, -, hrd2⟩ := ho2.form
          have e3 : A2 = A ∧ c2 = c := by
            simp only [Value.slice.injEq] at e2
            exact ⟨e2.1.symm, e2.2.2.symm⟩
          rw [e3.1] at hrd2
          have HC := Lib.hid (rCanon_any A k c S w2 w2.heap.size (Nat.le_refl _) hrd2 HM.out.symm (by omega))
          have HR2 := Lib.hid hr2
          have HK2 := Lib.hid (HK.out.trans hk2)
          have hg2 : g ≤ w2.heap.size := Nat.le_trans hgs hk2.size
          clear hr2 hk2 ho2 e2 e3 hrd2
          go_wp2_with fail
          refine HC.out.mono ?_
          clear HC
          rintro e w3 ⟨v3, out, rfl, ho3, hcan, hb3, -⟩
          have heq : out = S := hcan.same (can_self HCAN.out) fun _ => rfl
          subst heq
          obtain ⟨A3, c3, rfl, -, -, -⟩ := ho3.form
          obtain ⟨w4, hw4⟩ : ∃ w4, w4 = w3.alloc (.cells #[.int .i64 1, .slice A3 out.length c3, .int .i64 0, .int .i64 0, .slice none 0 0] 41) := ⟨_, rfl⟩
          have hb4 : Below w3.heap.size w3 w4 := by rw [hw4]; exact (Below.refl _ _).alloc (Nat.le_refl _) _
          have hq4 : RxK w4 w3.heap.size 1 (.slice A3 out.length c3) (.slice none 0 0) := by rw [hw4]; exact Blk.new w3 _ _
          have hg3 : g ≤ w3.heap.size := Nat.le_trans hg2 hb3.size
          have HX4 := Lib.hid (rx_set (g := g) (ho3.ext hb4) hq4 hg2 hg3)
          have HR4 := Lib.hid ((HR2.out.below hb3).below hb4)
          have HK4 := Lib.hid ((HK2.out.trans (Kp.of hb3)).trans (Kp.of hb4))
          clear ho3 hcan hb3 hb4 hq4
          go_wp2_with fail
          rw [← hw4]
          clear hw4
          go_ret
          exact ⟨_, rfl, HR4.out, HK4.out, HX4.out⟩
end Go.Proofs.YtaachamblagbhaaGreatDoor
