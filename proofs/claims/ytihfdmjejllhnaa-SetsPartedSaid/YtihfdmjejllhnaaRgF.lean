/- Ranges sorted by their first point: slices.SortFunc's contract at points.Canon's call. -/
import Derived.Test.YtihfdmjejllhnaaRgE
import Derived.Test.YtihfdmjejllhnaaLayR
import Derived.Shelf.SlSortCmp.NoneTotal
namespace Go.Proofs.Ytihfdmjejllhnaa
open Go.RowKit BigFrame Go.Sort Go.Shelf
set_option linter.unusedVariables false
set_option linter.unusedSimpArgs false
set_option maxRecDepth 100000

/-- A range whose first is a point. -/
abbrev PtR := {r : Rg // 0 ≤ r.1 ∧ r.1 ≤ 1114111}
instance : Inhabited PtR := ⟨⟨(0, 0), by decide⟩⟩
def encP (x : PtR) : List Value := [.int .i64 x.1.1, .int .i64 x.1.2]
def cfP (x y : PtR) : Int := x.1.1 - y.1.1
theorem ltP (x y : PtR) : ltOf cfP x y = decide (x.1.1 < y.1.1) := by
  unfold ltOf cfP
  rw [decide_eq_decide]; omega
theorem swoP : SWO (ltOf cfP) where
  irrefl x := by rw [ltP]; simp
  trans x y z h1 h2 := by rw [ltP] at *; simp at *; omega
  ntrans x y z h1 h2 := by rw [ltP] at *; simp at *; omega
theorem ptrs : ∀ l : List Rg, (∀ r ∈ l, 0 ≤ r.1 ∧ r.1 ≤ 1114111) → ∃ L : List PtR, L.map (·.1) = l
  | [], _ => ⟨[], rfl⟩
  | r :: l, h => by
    obtain ⟨L, hL⟩ := ptrs l fun q hq => h q (List.mem_cons_of_mem _ hq)
    exact ⟨⟨r, h r (List.mem_cons_self ..)⟩ :: L, by rw [List.map_cons, hL]⟩
theorem flatP (L : List PtR) : (flatK encP 2 L.toArray).toList = rv (L.map (·.1)) := by
  apply List.ext_getElem?
  intro t
  by_cases ht : t < L.length * 2
  · have hq : t / 2 < L.length := by omega
    rw [Array.getElem?_toList]
    have h1 := get_flatK encP 2 L.toArray t (by simpa using ht)
    have hsz : t < (flatK encP 2 L.toArray).size := by rw [size_flatK]; simpa using ht
    rw [Array.getElem?_eq_getElem hsz]
    rw [getElem!_pos _ t hsz] at h1
    rw [h1]
    obtain ⟨r1, r2⟩ := rv_get (l := L.map (·.1)) (k := t / 2) (by simpa using hq)
    have hnth : nthR (L.map (·.1)) (t / 2) = (L[t / 2]'hq).1 := by rw [nthR_get (by simpa using hq)]; simp
    have hd : L.toArray[t / 2]! = L[t / 2]'hq := by simp [hq]
    rw [hd]
    rw [hnth] at r1 r2
    rcases Nat.mod_two_eq_zero_or_one t with q | q
    · have e : t = t / 2 * 2 := by omega
      rw [q]
      conv => rhs; rw [e]
      rw [r1]; rfl
    · have e : t = t / 2 * 2 + 1 := by omega
      rw [q]
      conv => rhs; rw [e]
      rw [r2]; rfl
  · rw [List.getElem?_eq_none (by simp; omega), List.getElem?_eq_none (by rw [rv_len]; simp; omega)]

/-- The closure. -/
theorem canon1_any (x y : PtR) (W : World) : Calls Try.prog 45 #[.agg #[.int .i64 x.1.1, .int .i64 x.1.2], .agg #[.int .i64 y.1.1, .int .i64 y.1.2]] W fun e w' => e = .returned (.int .i64 (cfP x y)) ∧ ∃ q os', w' = grow (W.drewN q) os' := by
  obtain ⟨⟨a, b⟩, hx1, hx2⟩ := x
  obtain ⟨⟨c, d⟩, hy1, hy2⟩ := y
  simp only at hx1 hx2 hy1 hy2
  unfold cfP
  simp only
  go_enter Try.func45, Try.ntmps45
  go_wp2
  go_ret
  exact ⟨rfl, 0, _, by rw [alloc_eq_grow, alloc_eq_grow, grow_grow]; rfl⟩
theorem cmpP (blk off size : Nat) (w : World) : CmpLays Try.prog 45 #[] encP 2 cfP blk off size w :=
  fun _ _ _ _ x y => canon1_any x y _

theorem sortRg_any (base : Nat) (v : Value) (l : List Rg) (w : World) (ho : OwG w base v l) (hbd : ∀ r ∈ l, 0 ≤ r.1 ∧ r.1 ≤ 1114111) (hl4 : l.length ≤ 100000) :
    Calls Try.prog 44 #[v, .func (.func 45) #[] #[]] w fun e w' => e = .returned (.tuple #[]) ∧ ∃ l', l'.Perm l ∧ l'.Pairwise (fun a b => a.1 ≤ b.1) ∧ OwG w' base v l' ∧ Below base w w' := by
  rcases List.eq_nil_or_concat l with hl | ⟨l0, x0, hl⟩
  · obtain ⟨A, c, rfl, _, _, _⟩ := ho.form
    have hcon := AnyF.slices_SortFunc_none sortRg A c (.func (.func 45) #[] #[]) w
    change Calls Try.prog 44 _ _ _ at hcon
    have hz : l.length = 0 := by rw [hl]; rfl
    rw [hz]
    rw [hz] at ho
    refine hcon.mono ?_
    rintro e w' ⟨rfl, rfl⟩
    refine ⟨rfl, l, List.Perm.refl _, ?_, ?_, Below.refl _ _⟩
    · rw [hl]; exact List.Pairwise.nil
    · exact ho
  · obtain ⟨L, hL⟩ := ptrs l hbd
    have hlen : L.length = l.length := by rw [← hL, List.length_map]
    have h0 : 0 < l.length := by rw [hl]; simp
    rcases ho.2 with ⟨_, h0'⟩ | ⟨g, cap, cur, rfl, hb, hg, hn, hc, hs, ht⟩
    · omega
    · have hgs : g < w.heap.size := (Array.getElem?_eq_some_iff.1 hg).1
      have hH : HoldsK encP 2 w g 0 L.toArray := by
        intro j hj
        have hj2 : j < L.length * 2 := by rw [size_flatK] at hj; simpa using hj
        refine ⟨?_, by simp [World.frozen?, hg]⟩
        rw [getElem!_pos _ j hj]
        have h1 : (flatK encP 2 L.toArray).toList[j]? = some (flatK encP 2 L.toArray)[j] := by rw [Array.getElem?_toList]; exact Array.getElem?_eq_getElem hj
        rw [flatP, hL, ← ht, List.getElem?_take] at h1
        rw [if_pos (by omega)] at h1
        rw [cell_of_row w g (0 + j) cur 59 (0, 0) hg, Nat.zero_add, ← Array.getElem?_toList, h1]
        rfl
      have eg : ∀ args w, (callFunc 45 args).run Try.prog w = .ok (.enter 45 args) w := enters_of Try.func45 (by kernel_rfl) rfl
      have hcon := AnyQ.slices_SortFunc sortRg 2 Try.isAgg59 Try.sizeOf59 encP (fun _ => rfl) (fun x v hv => by simp [encP] at hv; rcases hv with rfl | rfl <;> rfl) cfP swoP 45 #[] g 0 cap L.toArray w eg (cmpP g 0 L.toArray.size w) hH hgs (by rw [List.size_toArray, hlen]; omega)
      change Calls Try.prog 44 _ _ _ at hcon
      rw [List.size_toArray, hlen] at hcon
      refine hcon.mono ?_
      rintro e w' ⟨rfl, d', n, os, ⟨hp1, _, hp2⟩, hsd, rfl⟩
      have hds : d'.size = l.length := by rw [hp1, List.size_toArray, hlen]
      have he1 : d'.extract 0 l.length = d' := by rw [← hds]; exact Array.extract_size
      have he2 : L.toArray.extract 0 l.length = L.toArray := by
        have e : L.toArray.size = l.length := by rw [List.size_toArray, hlen]
        rw [← e]; exact Array.extract_size
      rw [he1, he2] at hp2
      have hp3 : (d'.toList.map (·.1)).Perm l := by
        have := hp2.map (fun x : PtR => x.1)
        rwa [List.toList_toArray, hL] at this
      have hll : (d'.toList.map (·.1)).length = l.length := hp3.length_eq
      refine ⟨rfl, d'.toList.map (·.1), hp3, ?_, ⟨by rw [rv_len], .inr ⟨g, cap, putCells id 0 (flatK encP 2 d') cur, by rw [hll], hb, ?_, by rw [hll]; exact hn, hc, by simp [putCells, hs], ?_⟩⟩, ?_⟩
      · rw [List.pairwise_map, List.pairwise_iff_getElem]
        intro i j hi hj hij
        have hi' : i < d'.size := by simpa using hi
        have hj' : j < d'.size := by simpa using hj
        have := hsd i j (Nat.zero_le _) hij (by omega)
        rw [ltP, getElem!_pos d' i hi', getElem!_pos d' j hj'] at this
        simp only [decide_eq_false_iff_not] at this
        simp only [Array.getElem_toList]
        omega
      · unfold sortWorldK putRowK
        rw [heap_grow_old _ _ (by simp [putRow, mapBlock, Go.Sort.ahead]; exact hgs)]
        simp [putRow, mapBlock, Go.Sort.ahead, Array.getElem?_modify, hg, onCells]
      · rw [hll]
        have hfl := flatP d'.toList
        rw [Array.toArray_toList] at hfl
        rw [← hfl]
        apply List.ext_getElem?
        intro j
        by_cases hj : j < l.length * 2
        · have hjc : j < cur.size := by rw [hs]; omega
          have hjf : j < (flatK encP 2 d').size := by rw [size_flatK, hds]; exact hj
          rw [List.getElem?_take, if_pos (by omega), Array.getElem?_toList, Array.getElem?_toList]
          simp only [putCells, Array.getElem?_mapIdx, Array.getElem?_eq_getElem hjc, Option.map_some, Nat.zero_le, true_and, Nat.zero_add, Nat.sub_zero, id]
          rw [if_pos hjf, getElem!_pos _ j hjf, Array.getElem?_eq_getElem hjf]
        · rw [List.getElem?_take, if_neg (by omega), List.getElem?_eq_none (by rw [Array.length_toList, size_flatK, hds]; omega)]
      · refine ⟨rfl, rfl, rfl, ?_, fun k hk => ?_⟩
        · unfold sortWorldK putRowK; simp [putRow, mapBlock, Go.Sort.ahead]
        · unfold sortWorldK putRowK
          rw [heap_grow_old _ _ (by simp [putRow, mapBlock, Go.Sort.ahead]; omega)]
          have : g ≠ k := by omega
          simp [putRow, mapBlock, Go.Sort.ahead, Array.getElem?_modify, this]
end Go.Proofs.Ytihfdmjejllhnaa
