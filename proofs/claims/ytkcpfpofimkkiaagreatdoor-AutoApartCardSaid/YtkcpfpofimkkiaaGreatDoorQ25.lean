/- Numbers of pieces sorted by where the pieces begin: slices.SortFunc's contract at auto.newAlphabet's call. -/
import Derived.Test.YtkcpfpofimkkiaaGreatDoorQ17
import Derived.Test.YtkcpfpofimkkiaaGreatDoorQ24
namespace Go.Proofs.YtkcpfpofimkkiaaGreatDoor
open Go.RowKit BigFrame Go.Sort Go.Shelf
set_option linter.unusedVariables false
set_option linter.unusedSimpArgs false
set_option maxRecDepth 100000

theorem newAlphabet1_any (px xb xo P cx i j : Nat) (vy vn : Value) (X : List Rg) (w : World) (z0 : w.cell? ⟨px, 0, none⟩ = some (.slice (some ⟨xb, xo, none⟩) P cx)) (hl : X.length = P) (hP : P ≤ cx ∧ cx ≤ maxLen) (hi : i < P) (hj : j < P)
    (h1 : w.cell? ⟨xb, xo + i * 2, none⟩ = some (.int .i64 (nthR X i).1)) (h2 : w.cell? ⟨xb, xo + j * 2, none⟩ = some (.int .i64 (nthR X j).1)) (hb1 : isP (nthR X i).1) (hb2 : isP (nthR X j).1) (hPn : P ≤ 1000000) :
    Calls Tryz.prog 30 #[.int .i64 (i : Int), .int .i64 (j : Int), .pointer (some ⟨px, 0, none⟩)] w fun e w' => e = .returned (.int .i64 ((nthR X i).1 - (nthR X j).1)) ∧ ∃ q, w' = w.drewN q := by
  unfold isP at hb1 hb2
  obtain ⟨p1, p2⟩ := hb1
  obtain ⟨p3, p4⟩ := hb2
  obtain ⟨p5, p6⟩ := hP
  unfold maxLen at p6
  clear hl
  generalize (nthR X i).1 = x at *
  generalize (nthR X j).1 = y at *
  go_enter Tryz.func30, Tryz.ntmps30
  go_wp2_with fail
  go_quiet (fail)
  go_wp2_with fail
  go_ret
  exact ⟨rfl, _, rfl⟩
theorem sortIntsL : Go.Proofs.SlLaysF.n6 Tryz.prog sortInts_ren := { sortInts with a24 := Tryz.isAgg3, z24 := Tryz.sizeOf3 }
abbrev IxP (P : Nat) := {i : Nat // i < P}
def encX {P : Nat} (x : IxP P) : Value := .int .i64 (x.1 : Int)
def cfX {P : Nat} (X : List Rg) (x y : IxP P) : Int := (nthR X x.1).1 - (nthR X y.1).1
theorem ltX {P : Nat} (X : List Rg) (x y : IxP P) : ltOf (cfX X) x y = decide ((nthR X x.1).1 < (nthR X y.1).1) := by
  unfold ltOf cfX
  rw [decide_eq_decide]; omega
theorem swoX {P : Nat} (X : List Rg) : SWO (ltOf (cfX (P := P) X)) where
  irrefl x := by rw [ltX]; simp
  trans x y z h1 h2 := by rw [ltX] at *; simp at *; omega
  ntrans x y z h1 h2 := by rw [ltX] at *; simp at *; omega
theorem oneX {P : Nat} : Go.Proofs.OneCell (encX (P := P)) := fun x => rfl
theorem cmpX {P px xb xo cx blk off size : Nat} [Inhabited (IxP P)] {X : List Rg} {w : World} (z0 : w.cell? ⟨px, 0, none⟩ = some (.slice (some ⟨xb, xo, none⟩) P cx)) (hl : X.length = P) (hP : P ≤ cx ∧ cx ≤ maxLen) (hc : ∀ k, k < P → w.cell? ⟨xb, xo + k * 2, none⟩ = some (.int .i64 (nthR X k).1)) (hp : ∀ k, k < P → isP (nthR X k).1) (hPn : P ≤ 1000000)
    (hne : px ≠ blk) (hne2 : xb ≠ blk) (hlt : px < w.heap.size) (hlt2 : xb < w.heap.size) : Go.Proofs.CmpLays1 Tryz.prog 30 #[.pointer (some ⟨px, 0, none⟩)] (encX (P := P)) (cfX X) blk off size w := fun m os dk _ x y => by
  have hsz : (putRow encX (Sort.ahead w m) blk off dk).heap.size = w.heap.size := by simp [putRow, mapBlock, Sort.ahead]
  have hcc : ∀ (a : Addr), a.block ≠ blk → a.block < w.heap.size → (sortWorld encX w blk off m dk os).cell? a = w.cell? a := fun a h1 h2 => by
    unfold sortWorld
    rw [cell?_grow _ _ _ (by rw [hsz]; exact h2), cell?_putRow_other _ _ _ _ _ _ (.inl h1)]
    rfl
  refine (newAlphabet1_any px xb xo P cx x.1 y.1 .nilIface .nilIface X _ ((hcc ⟨px, 0, none⟩ hne hlt).trans z0) hl hP x.2 y.2 ((hcc ⟨xb, xo + x.1 * 2, none⟩ hne2 hlt2).trans (hc _ x.2)) ((hcc ⟨xb, xo + y.1 * 2, none⟩ hne2 hlt2).trans (hc _ y.2)) (hp _ x.2) (hp _ y.2) hPn).mono ?_
  rintro e w' ⟨rfl, q, rfl⟩
  exact ⟨rfl, q, #[], (grow_empty _).symm⟩
def intV (k : Nat) : Value := .int .i64 (k : Int)
theorem rowsX {P : Nat} : ∀ (o : List Nat), (∀ k ∈ o, k < P) → ∃ L : List (IxP P), L.map (fun x => x.1) = o
  | [], _ => ⟨[], rfl⟩
  | k :: o, h => by
    obtain ⟨L, hL⟩ := rowsX o (fun j hj => h j (by simp [hj]))
    exact ⟨⟨k, h k (by simp)⟩ :: L, by simp [hL]⟩
theorem sortInts_any (base P px xb xo cx : Nat) (v : Value) (o : List Nat) (X : List Rg) (w : World) (h : w.ownsRow base 3 1 v o.length (o.map intV)) (h0 : 0 < o.length) (hn : o.length ≤ 200000) (ho : ∀ k ∈ o, k < P)
    (z0 : w.cell? ⟨px, 0, none⟩ = some (.slice (some ⟨xb, xo, none⟩) P cx)) (hl : X.length = P) (hP : P ≤ cx ∧ cx ≤ maxLen) (hc : ∀ k, k < P → w.cell? ⟨xb, xo + k * 2, none⟩ = some (.int .i64 (nthR X k).1)) (hp : ∀ k, k < P → isP (nthR X k).1) (hPn : P ≤ 1000000)
    (hne : v.ownBlock ≠ some px) (hne2 : v.ownBlock ≠ some xb) (hlt : px < w.heap.size) (hlt2 : xb < w.heap.size) :
    Calls Tryz.prog 29 #[v, .func (.func 30) #[] #[.pointer (some ⟨px, 0, none⟩)]] w fun e w' => e = .returned (.tuple #[]) ∧ ∃ o' : List Nat, o'.Perm o ∧ o'.Pairwise (fun a b => (nthR X a).1 ≤ (nthR X b).1) ∧ Below base w w' ∧
      (∀ k, v.ownBlock ≠ some k → k < w.heap.size → w'.heap[k]? = w.heap[k]?) ∧ w'.ownsRow base 3 1 v o'.length (o'.map intV) := by
  rcases h.2 with ⟨_, q⟩ | ⟨g, cap, cur, rfl, hbb, hg, hnc, hcm, hs, ht⟩
  · omega
  · have hgs : g < w.heap.size := (Array.getElem?_eq_some_iff.1 hg).1
    obtain ⟨L, hL⟩ := rowsX o ho
    have hL1 : L.map (encX (P := P)) = o.map intV := by rw [← hL, List.map_map]; rfl
    have hlen : L.length = o.length := by rw [← hL, List.length_map]
    have hin : Inhabited (IxP P) := by
      cases L with
      | nil => simp at hlen; omega
      | cons x L => exact ⟨x⟩
    have hH : Holds (encX (P := P)) w g 0 L.toArray := fun j hj => by
      have hj2 : j < L.length := by simpa using hj
      refine ⟨?_, by simp [World.frozen?, hg]⟩
      have hv : (o.map intV)[j]? = some (encX L[j]) := by rw [← hL1, List.getElem?_map, List.getElem?_eq_getElem hj2]; rfl
      rw [cell_of_row w g (0 + j) cur 3 (0, 0) hg, Nat.zero_add, ← Array.getElem?_toList]
      rw [← ht, List.getElem?_take] at hv
      split at hv
      · rw [hv]; simp [hj2]
      · cases hv
    have eg : ∀ args w, (callFunc 30 args).run Tryz.prog w = .ok (.enter 30 args) w := enters_of Tryz.func30 (by kernel_rfl) rfl
    have n1 : px ≠ g := fun e => hne (by rw [e]; rfl)
    have n2 : xb ≠ g := fun e => hne2 (by rw [e]; rfl)
    have hcon := Go.Proofs.Any.slices_SortFunc sortIntsL encX oneX (cfX X) (swoX X) 30 #[.pointer (some ⟨px, 0, none⟩)] g 0 cap L.toArray w eg (cmpX (blk := g) (off := 0) (size := L.toArray.size) z0 hl hP hc hp hPn n1 n2 hlt hlt2) hH hgs (by rw [List.size_toArray, hlen]; omega)
    change Calls Tryz.prog 29 _ _ _ at hcon
    rw [List.size_toArray, hlen] at hcon
    refine hcon.mono ?_
    rintro e w' ⟨rfl, d', n, os, ⟨hp1, _, hp2⟩, hsd, rfl⟩
    have hds : d'.size = o.length := by rw [hp1, List.size_toArray, hlen]
    have he1 : d'.extract 0 o.length = d' := by rw [← hds]; exact Array.extract_size
    have he2 : L.toArray.extract 0 o.length = L.toArray := by
      have e : L.toArray.size = o.length := by rw [List.size_toArray, hlen]
      rw [← e]; exact Array.extract_size
    rw [he1, he2] at hp2
    have hp3 : (d'.toList.map (fun x : IxP P => x.1)).Perm o := by
      have := hp2.map (fun x : IxP P => x.1)
      rwa [List.toList_toArray, hL] at this
    have hll : (d'.toList.map (fun x : IxP P => x.1)).length = o.length := hp3.length_eq
    have hsz : (putRow encX (Sort.ahead w n) g 0 d').heap.size = w.heap.size := by simp [putRow, mapBlock, Sort.ahead]
    have hwsz : w.heap.size ≤ (sortWorld encX w g 0 n d' os).heap.size := by unfold sortWorld; simp [putRow, mapBlock, Sort.ahead]
    have hkeep : ∀ k, g ≠ k → k < w.heap.size → (sortWorld encX w g 0 n d' os).heap[k]? = w.heap[k]? := fun k hk hk2 => by
      unfold sortWorld
      rw [heap_grow_old _ _ (by rw [hsz]; omega)]
      simp [putRow, mapBlock, Sort.ahead, Array.getElem?_modify, hk]
    refine ⟨rfl, d'.toList.map (fun x => x.1), hp3, ?_, ?_, ?_, ?_⟩
    · rw [List.pairwise_map, List.pairwise_iff_getElem]
      intro i j hi hj hij
      have hi' : i < d'.size := by simpa using hi
      have hj' : j < d'.size := by simpa using hj
      have := hsd i j (Nat.zero_le _) hij (by omega)
      rw [ltX, getElem!_pos d' i hi', getElem!_pos d' j hj'] at this
      simp only [decide_eq_false_iff_not] at this
      simp only [Array.getElem_toList]
      omega
    · exact ⟨rfl, rfl, rfl, hwsz, fun k hk => hkeep k (by omega) (by have := h.1; omega)⟩
    · exact fun k hk hk2 => hkeep k (fun e => hk (by rw [← e]; rfl)) hk2
    · have hm : (d'.toList.map (fun x : IxP P => x.1)).map intV = d'.toList.map encX := by rw [List.map_map]; rfl
      rw [hm]
      refine ⟨by simp, .inr ⟨g, cap, putCells encX 0 d' cur, by rw [hll], hbb, ?_, by rw [hll]; exact hnc, hcm, by simp [putCells, hs], ?_⟩⟩
      · unfold sortWorld
        rw [heap_grow_old _ _ (by rw [hsz]; exact hgs)]
        simp [putRow, mapBlock, Sort.ahead, Array.getElem?_modify, hg, onCells]
      · rw [hll]
        apply List.ext_getElem?
        intro j
        by_cases hj : j < o.length
        · have hjc : j < cur.size := by rw [hs]; omega
          have hjf : j < d'.size := by rw [hds]; exact hj
          rw [List.getElem?_take, if_pos (by omega), Array.getElem?_toList, List.getElem?_map, Array.getElem?_toList]
          simp only [putCells, Array.getElem?_mapIdx, Array.getElem?_eq_getElem hjc, Option.map_some, Nat.zero_le, true_and, Nat.zero_add, Nat.sub_zero]
          rw [if_pos hjf, getElem!_pos _ j hjf, Array.getElem?_eq_getElem hjf]
          rfl
        · rw [List.getElem?_take, if_neg (by omega), List.getElem?_eq_none (by simp [hds]; omega)]
end Go.Proofs.YtkcpfpofimkkiaaGreatDoor
