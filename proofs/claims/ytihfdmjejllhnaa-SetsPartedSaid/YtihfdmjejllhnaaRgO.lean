/- Classes sorted by their first points: slices.SortFunc's contract at points.Classes' call. -/
import Derived.Test.YtihfdmjejllhnaaRgW
import Derived.Test.YtihfdmjejllhnaaRgX
import Derived.Test.YtihfdmjejllhnaaRgL
import Derived.Shelf.SlSortCmp.Whole1
namespace Go.Proofs.Ytihfdmjejllhnaa
open Go.RowKit BigFrame Go.Sort Go.Shelf
set_option linter.unusedVariables false
set_option linter.unusedSimpArgs false
set_option maxRecDepth 100000

theorem sortRowsL : Go.Proofs.SlLaysF.n6 Try.prog sortRows_ren := { sortRows with a24 := Try.isAgg35, z24 := Try.sizeOf35 }
/-- A row that reads its ranges in a block of its own. -/
def okR (w : World) (blk : Nat) (p : Value × List Rg) : Prop :=
  ∃ b c, p.1 = .slice (some ⟨b, 0, none⟩) p.2.length c ∧ b ≠ blk ∧ b < w.heap.size ∧ RdG w w.heap.size (some ⟨b, 0, none⟩) p.2 ∧ 0 < p.2.length ∧ 0 ≤ fstR p.2 ∧ fstR p.2 ≤ 1114111
abbrev RowR (w : World) (blk : Nat) := {p : Value × List Rg // okR w blk p}
def cfR {w : World} {blk : Nat} (x y : RowR w blk) : Int := fstR x.1.2 - fstR y.1.2
def encR {w : World} {blk : Nat} (x : RowR w blk) : Value := x.1.1
section
variable {w : World} {blk : Nat}
theorem ltR (x y : RowR w blk) : ltOf cfR x y = decide (fstR x.1.2 < fstR y.1.2) := by
  unfold ltOf cfR
  rw [decide_eq_decide]; omega
theorem swoR : SWO (ltOf (cfR (w := w) (blk := blk))) where
  irrefl x := by rw [ltR]; simp
  trans x y z h1 h2 := by rw [ltR] at *; simp at *; omega
  ntrans x y z h1 h2 := by rw [ltR] at *; simp at *; omega
theorem oneR : Go.Proofs.OneCell (encR (w := w) (blk := blk)) := fun x => by
  obtain ⟨p, b, c, e, _⟩ := x
  show p.1.oneCell' = true
  rw [e]; rfl
theorem cmpR [Inhabited (RowR w blk)] (off size : Nat) : Go.Proofs.CmpLays1 Try.prog 39 #[] (encR (w := w) (blk := blk)) cfR blk off size w := fun m os dk _ x y => by
  obtain ⟨⟨v, l⟩, b, c, e, hne, hb, hr, h0, hl1, hl2⟩ := x
  obtain ⟨⟨v2, l2⟩, b2, c2, e2, hne2, hb2, hr2, h02, hl3, hl4⟩ := y
  simp only at e e2 hr hr2 h0 h02 hl1 hl2 hl3 hl4
  subst e
  subst e2
  have hsz : (putRow encR (Sort.ahead w m) blk off dk).heap.size = w.heap.size := by simp [putRow, mapBlock, Sort.ahead]
  have hc : ∀ (a : Addr), a.block ≠ blk → a.block < w.heap.size → (sortWorld encR w blk off m dk os).cell? a = w.cell? a := fun a h1 h2 => by
    unfold sortWorld
    rw [cell?_grow _ _ _ (by rw [hsz]; exact h2), cell?_putRow_other _ _ _ _ _ _ (.inl h1)]
    rfl
  have tr : ∀ {bb : Nat} {ll : List Rg}, bb ≠ blk → bb < w.heap.size → RdG w w.heap.size (some ⟨bb, 0, none⟩) ll → RdG (sortWorld encR w blk off m dk os) w.heap.size (some ⟨bb, 0, none⟩) ll := fun {bb ll} q1 q2 h hne => by
    obtain ⟨b3, o3, e3, hb3, hc3⟩ := h hne
    cases e3
    exact ⟨bb, 0, rfl, hb3, fun j u hu => (hc ⟨bb, 0 + j, none⟩ q1 q2).trans (hc3 j u hu)⟩
  refine (classes1_any (some ⟨b, 0, none⟩) (some ⟨b2, 0, none⟩) l.length c l2.length c2 l l2 _ w.heap.size w.heap.size (tr hne hb hr) (tr hne2 hb2 hr2) rfl rfl h0 h02 ⟨hl1, hl2⟩ ⟨hl3, hl4⟩).mono ?_
  rintro e w' ⟨rfl, q, rfl⟩
  exact ⟨rfl, q, #[], (grow_empty _).symm⟩
end
theorem rowsR {w : World} {blk : Nat} : ∀ (vs : List Value) (R : List (List Rg)), vs.length = R.length → (∀ k u, vs[k]? = some u → okR w blk (u, nthS R k)) → ∃ L : List (RowR w blk), L.map encR = vs ∧ L.map (fun x => x.1.2) = R
  | [], [], _, _ => ⟨[], rfl, rfl⟩
  | [], _ :: _, h, _ => by simp at h
  | _ :: _, [], h, _ => by simp at h
  | u :: vs, c :: R, h, hk => by
    obtain ⟨L, h1, h2⟩ := rowsR vs R (by simpa using h) (fun k u hu => hk (k + 1) u (by simpa using hu))
    exact ⟨⟨(u, c), hk 0 u rfl⟩ :: L, by rw [List.map_cons, h1]; rfl, by rw [List.map_cons, h2]⟩

theorem sortRows_any (base : Nat) (v : Value) (vs : List Value) (R : List (List Rg)) (w : World) (h : ClV w base v vs R) (h0 : 0 < R.length) (hn : R.length ≤ 100000)
    (hb : ∀ c ∈ R, 0 < c.length ∧ 0 ≤ fstR c ∧ fstR c ≤ 1114111) :
    Calls Try.prog 38 #[v, .func (.func 39) #[] #[]] w fun e w' => e = .returned (.tuple #[]) ∧ ∃ vs' R', R'.Perm R ∧ R'.Pairwise (fun a b => fstR a ≤ fstR b) ∧ Below base w w' ∧
      w'.ownsRow base 35 1 v R'.length vs' ∧ vs'.length = R'.length ∧ (∀ k u, vs'[k]? = some u → ∃ A c, u = .slice A (nthS R' k).length c ∧ RdG w' w'.heap.size A (nthS R' k)) := by
  rcases h.row.2 with ⟨_, q⟩ | ⟨g, cap, cur, rfl, hbb, hg, hnc, hc, hs, ht⟩
  · omega
  · have hgs : g < w.heap.size := (Array.getElem?_eq_some_iff.1 hg).1
    obtain ⟨L, hL1, hL2⟩ := rowsR (w := w) (blk := g) vs R h.l (fun k u hu => by
      have hk : k < R.length := by rw [← h.l]; exact (List.getElem?_eq_some_iff.1 hu).1
      obtain ⟨q1, q2, q3⟩ := hb _ (nthS_mem hk)
      obtain ⟨b, c, e, e2, _, q4, _, _, _⟩ := (h.cl k u hu).blk q1
      obtain ⟨A, c', e3, _, _, q5⟩ := (h.cl k u hu).form
      rw [e] at e3
      simp only [Value.slice.injEq] at e3
      obtain ⟨rfl, _, rfl⟩ := e3
      exact ⟨b, c, e, fun z => h.ro k u b hu e2 (by rw [z]; rfl), q4, q5, q1, q2, q3⟩)
    have hlen : L.length = R.length := by rw [← hL2, List.length_map]
    have hin : Inhabited (RowR w g) := by
      cases L with
      | nil => simp at hlen; omega
      | cons x L => exact ⟨x⟩
    have hH : Holds (encR (w := w) (blk := g)) w g 0 L.toArray := fun j hj => by
      have hj2 : j < L.length := by simpa using hj
      refine ⟨?_, by simp [World.frozen?, hg]⟩
      have hv : vs[j]? = some (encR L[j]) := by rw [← hL1, List.getElem?_map, List.getElem?_eq_getElem hj2]; rfl
      rw [cell_of_row w g (0 + j) cur 35 (0, 0) hg, Nat.zero_add, ← Array.getElem?_toList]
      rw [← ht, List.getElem?_take] at hv
      split at hv
      · rw [hv]; simp [hj2]
      · cases hv
    have eg : ∀ args w, (callFunc 39 args).run Try.prog w = .ok (.enter 39 args) w := enters_of Try.func39 (by kernel_rfl) rfl
    have hcon := Go.Proofs.Any.slices_SortFunc sortRowsL encR oneR cfR swoR 39 #[] g 0 cap L.toArray w eg (cmpR 0 L.toArray.size) hH hgs (by rw [List.size_toArray, hlen]; omega)
    change Calls Try.prog 38 _ _ _ at hcon
    rw [List.size_toArray, hlen] at hcon
    refine hcon.mono ?_
    rintro e w' ⟨rfl, d', n, os, ⟨hp1, _, hp2⟩, hsd, rfl⟩
    have hds : d'.size = R.length := by rw [hp1, List.size_toArray, hlen]
    have he1 : d'.extract 0 R.length = d' := by rw [← hds]; exact Array.extract_size
    have he2 : L.toArray.extract 0 R.length = L.toArray := by
      have e : L.toArray.size = R.length := by rw [List.size_toArray, hlen]
      rw [← e]; exact Array.extract_size
    rw [he1, he2] at hp2
    have hp3 : (d'.toList.map (fun x => x.1.2)).Perm R := by
      have := hp2.map (fun x : RowR w g => x.1.2)
      rwa [List.toList_toArray, hL2] at this
    have hll : (d'.toList.map (fun x : RowR w g => x.1.2)).length = R.length := hp3.length_eq
    have hsz : (putRow encR (Sort.ahead w n) g 0 d').heap.size = w.heap.size := by simp [putRow, mapBlock, Sort.ahead]
    have hcell : ∀ (a : Addr), a.block ≠ g → a.block < w.heap.size → (sortWorld encR w g 0 n d' os).cell? a = w.cell? a := fun a h1 h2 => by
      unfold sortWorld
      rw [cell?_grow _ _ _ (by rw [hsz]; exact h2), cell?_putRow_other _ _ _ _ _ _ (.inl h1)]
      rfl
    have hwsz : w.heap.size ≤ (sortWorld encR w g 0 n d' os).heap.size := by unfold sortWorld; simp [putRow, mapBlock, Sort.ahead]
    refine ⟨rfl, d'.toList.map encR, d'.toList.map (fun x => x.1.2), hp3, ?_, ?_, ?_, by simp, ?_⟩
    · rw [List.pairwise_map, List.pairwise_iff_getElem]
      intro i j hi hj hij
      have hi' : i < d'.size := by simpa using hi
      have hj' : j < d'.size := by simpa using hj
      have := hsd i j (Nat.zero_le _) hij (by omega)
      rw [ltR, getElem!_pos d' i hi', getElem!_pos d' j hj'] at this
      simp only [decide_eq_false_iff_not] at this
      simp only [Array.getElem_toList]
      omega
    · refine ⟨rfl, rfl, rfl, hwsz, fun k hk => ?_⟩
      unfold sortWorld
      rw [heap_grow_old _ _ (by rw [hsz]; omega)]
      have : g ≠ k := by omega
      simp [putRow, mapBlock, Sort.ahead, Array.getElem?_modify, this]
    · refine ⟨by simp, .inr ⟨g, cap, putCells encR 0 d' cur, by rw [hll], hbb, ?_, by rw [hll]; exact hnc, hc, by simp [putCells, hs], ?_⟩⟩
      · unfold sortWorld
        rw [heap_grow_old _ _ (by rw [hsz]; exact hgs)]
        simp [putRow, mapBlock, Sort.ahead, Array.getElem?_modify, hg, onCells]
      · rw [hll]
        apply List.ext_getElem?
        intro j
        by_cases hj : j < R.length
        · have hjc : j < cur.size := by rw [hs]; omega
          have hjf : j < d'.size := by rw [hds]; exact hj
          rw [List.getElem?_take, if_pos (by omega), Array.getElem?_toList, List.getElem?_map, Array.getElem?_toList]
          simp only [putCells, Array.getElem?_mapIdx, Array.getElem?_eq_getElem hjc, Option.map_some, Nat.zero_le, true_and, Nat.zero_add, Nat.sub_zero]
          rw [if_pos hjf, getElem!_pos _ j hjf, Array.getElem?_eq_getElem hjf]
          rfl
        · rw [List.getElem?_take, if_neg (by omega), List.getElem?_eq_none (by simp [hds]; omega)]
    · intro k u hu
      rw [List.getElem?_map] at hu
      cases hx : d'.toList[k]? with
      | none => rw [hx] at hu; cases hu
      | some x =>
        rw [hx] at hu
        simp only [Option.map_some, Option.some.injEq] at hu
        have hn2 : nthS (d'.toList.map (fun x : RowR w g => x.1.2)) k = x.1.2 := by
          unfold nthS; rw [List.getD_eq_getElem?_getD, List.getElem?_map, hx]; rfl
        rw [hn2]
        obtain ⟨⟨v2, l2⟩, b, c, e, q1, q2, q3, q4, q5, q6⟩ := x
        simp only at e q3
        subst e
        refine ⟨some ⟨b, 0, none⟩, c, hu.symm, ?_⟩
        intro hne
        obtain ⟨b3, o3, e3, hb3, hc3⟩ := q3 hne
        cases e3
        exact ⟨b, 0, rfl, Nat.lt_of_lt_of_le hb3 hwsz, fun j u hu => (hcell ⟨b, 0 + j, none⟩ q1 q2).trans (hc3 j u hu)⟩
end Go.Proofs.Ytihfdmjejllhnaa
