/- Numbers of pieces sorted by where the pieces begin: slices.SortFunc's contract at auto.newAlphabet's call. · Memory: maps from numbers to slices. -/
import Derived.Test.YthikgdogfkjioaaGreatDoorQ28
import Derived.Test.YthikgdogfkjioaaGreatDoorQ32
import Derived.Test.YthikgdogfkjioaaGreatDoorQ26
namespace Go.Proofs.YthikgdogfkjioaaGreatDoor
open Go.RowKit BigFrame Go.Sort Go.Shelf
set_option linter.unusedVariables false
set_option linter.unusedSimpArgs false
set_option maxRecDepth 100000

theorem newAlphabet1_any (px xb xo P cx i j : Nat) (vy vn : Value) (X : List Rg) (w : World) (z0 : w.cell? ⟨px, 0, none⟩ = some (.slice (some ⟨xb, xo, none⟩) P cx)) (hl : X.length = P) (hP : P ≤ cx ∧ cx ≤ maxLen) (hi : i < P) (hj : j < P)
    (h1 : w.cell? ⟨xb, xo + i * 2, none⟩ = some (.int .i64 (nthR X i).1)) (h2 : w.cell? ⟨xb, xo + j * 2, none⟩ = some (.int .i64 (nthR X j).1)) (hb1 : isP (nthR X i).1) (hb2 : isP (nthR X j).1) (hPn : P ≤ 1000000) :
    Calls Tryz.prog 21 #[.int .i64 (i : Int), .int .i64 (j : Int), .pointer (some ⟨px, 0, none⟩)] w fun e w' => e = .returned (.int .i64 ((nthR X i).1 - (nthR X j).1)) ∧ ∃ q, w' = w.drewN q := by
  unfold isP at hb1 hb2
  obtain ⟨p1, p2⟩ := hb1
  obtain ⟨p3, p4⟩ := hb2
  obtain ⟨p5, p6⟩ := hP
  unfold maxLen at p6
  clear hl
  generalize (nthR X i).1 = x at *
  generalize (nthR X j).1 = y at *
  go_enter Tryz.func21, Tryz.ntmps21
  go_wp2_with fail
  go_quiet (fail)
  go_wp2_with fail
  go_ret
  exact ⟨rfl, _, rfl⟩
theorem sortIntsL : Go.Proofs.SlLaysF.n6 Tryz.prog sortInts_ren := { sortInts with a24 := Tryz.isAgg3, z24 := Tryz.sizeOf3 }
abbrev IxP (P : Nat) := {i : Nat // i < P}
def encX {P : Nat} (x : IxP P) : Value := .int .i64 (x.1 : Int)
def cfX {P : Nat} (X : List Rg) (x y : IxP P) : Int := (nthR X x.1).1 - (nthR X y.1).1
theorem ltX {P : Nat} (X : List Rg) (x y : IxP P) : ltOf (cfX X) x y = decide ((nthR X x.1).1 < (nthR X y.1).1) := by
  unfold ltOf cfX
  rw [decide_eq_decide]; omega
theorem swoX {P : Nat} (X : List Rg) : SWO (ltOf (cfX (P := P) X)) where
  irrefl x := by rw [ltX]; simp
  trans x y z h1 h2 := by rw [ltX] at *; simp at *; omega
  ntrans x y z h1 h2 := by rw [ltX] at *; simp at *; omega
theorem oneX {P : Nat} : Go.Proofs.OneCell (encX (P := P)) := fun x => rfl
theorem cmpX {P px xb xo cx blk off size : Nat} [Inhabited (IxP P)] {X : List Rg} {w : World} (z0 : w.cell? ⟨px, 0, none⟩ = some (.slice (some ⟨xb, xo, none⟩) P cx)) (hl : X.length = P) (hP : P ≤ cx ∧ cx ≤ maxLen) (hc : ∀ k, k < P → w.cell? ⟨xb, xo + k * 2, none⟩ = some (.int .i64 (nthR X k).1)) (hp : ∀ k, k < P → isP (nthR X k).1) (hPn : P ≤ 1000000)
    (hne : px ≠ blk) (hne2 : xb ≠ blk) (hlt : px < w.heap.size) (hlt2 : xb < w.heap.size) : Go.Proofs.CmpLays1 Tryz.prog 21 #[.pointer (some ⟨px, 0, none⟩)] (encX (P := P)) (cfX X) blk off size w := fun m os dk _ x y => by
  have hsz : (putRow encX (Sort.ahead w m) blk off dk).heap.size = w.heap.size := by simp [putRow, mapBlock, Sort.ahead]
  have hcc : ∀ (a : Addr), a.block ≠ blk → a.block < w.heap.size → (sortWorld encX w blk off m dk os).cell? a = w.cell? a := fun a h1 h2 => by
    unfold sortWorld
    rw [cell?_grow _ _ _ (by rw [hsz]; exact h2), cell?_putRow_other _ _ _ _ _ _ (.inl h1)]
    rfl
  refine (newAlphabet1_any px xb xo P cx x.1 y.1 .nilIface .nilIface X _ ((hcc ⟨px, 0, none⟩ hne hlt).trans z0) hl hP x.2 y.2 ((hcc ⟨xb, xo + x.1 * 2, none⟩ hne2 hlt2).trans (hc _ x.2)) ((hcc ⟨xb, xo + y.1 * 2, none⟩ hne2 hlt2).trans (hc _ y.2)) (hp _ x.2) (hp _ y.2) hPn).mono ?_
  rintro e w' ⟨rfl, q, rfl⟩
  exact ⟨rfl, q, #[], (grow_empty _).symm⟩
def intV (k : Nat) : Value := .int .i64 (k : Int)
theorem rowsX {P : Nat} : ∀ (o : List Nat), (∀ k ∈ o, k < P) → ∃ L : List (IxP P), L.map (fun x => x.1) = o
  | [], _ => ⟨[], rfl⟩
  | k :: o, h => by
    obtain ⟨L, hL⟩ := rowsX o (fun j hj => h j (by simp [hj]))
    exact ⟨⟨k, h k (by simp)⟩ :: L, by simp [hL]⟩
theorem sortInts_any (base P px xb xo cx : Nat) (v : Value) (o : List Nat) (X : List Rg) (w : World) (h : w.ownsRow base 3 1 v o.length (o.map intV)) (h0 : 0 < o.length) (hn : o.length ≤ 100000) (ho : ∀ k ∈ o, k < P)
    (z0 : w.cell? ⟨px, 0, none⟩ = some (.slice (some ⟨xb, xo, none⟩) P cx)) (hl : X.length = P) (hP : P ≤ cx ∧ cx ≤ maxLen) (hc : ∀ k, k < P → w.cell? ⟨xb, xo + k * 2, none⟩ = some (.int .i64 (nthR X k).1)) (hp : ∀ k, k < P → isP (nthR X k).1) (hPn : P ≤ 1000000)
    (hne : v.ownBlock ≠ some px) (hne2 : v.ownBlock ≠ some xb) (hlt : px < w.heap.size) (hlt2 : xb < w.heap.size) :
    Calls Tryz.prog 20 #[v, .func (.func 21) #[] #[.pointer (some ⟨px, 0, none⟩)]] w fun e w' => e = .returned (.tuple #[]) ∧ ∃ o' : List Nat, o'.Perm o ∧ o'.Pairwise (fun a b => (nthR X a).1 ≤ (nthR X b).1) ∧ Below base w w' ∧
      (∀ k, v.ownBlock ≠ some k → k < w.heap.size → w'.heap[k]? = w.heap[k]?) ∧ w'.ownsRow base 3 1 v o'.length (o'.map intV) := by
  rcases h.2 with ⟨_, q⟩ | ⟨g, cap, cur, rfl, hbb, hg, hnc, hcm, hs, ht⟩
  · omega
  · have hgs : g < w.heap.size := (Array.getElem?_eq_some_iff.1 hg).1
    obtain ⟨L, hL⟩ := rowsX o ho
    have hL1 : L.map (encX (P := P)) = o.map intV := by rw [← hL, List.map_map]; rfl
    have hlen : L.length = o.length := by rw [← hL, List.length_map]
    have hin : Inhabited (IxP P) := by
      cases L with
      | nil => simp at hlen; omega
      | cons x L => exact ⟨x⟩
    have hH : Holds (encX (P := P)) w g 0 L.toArray := fun j hj => by
      have hj2 : j < L.length := by simpa using hj
      refine ⟨?_, by simp [World.frozen?, hg]⟩
      have hv : (o.map intV)[j]? = some (encX L[j]) := by rw [← hL1, List.getElem?_map, List.getElem?_eq_getElem hj2]; rfl
      rw [cell_of_row w g (0 + j) cur 3 (0, 0) hg, Nat.zero_add, ← Array.getElem?_toList]
      rw [← ht, List.getElem?_take] at hv
      split at hv
      · rw [hv]; simp [hj2]
      · cases hv
    have eg : ∀ args w, (callFunc 21 args).run Tryz.prog w = .ok (.enter 21 args) w := enters_of Tryz.func21 (by kernel_rfl) rfl
    have n1 : px ≠ g := fun e => hne (by rw [e]; rfl)
    have n2 : xb ≠ g := fun e => hne2 (by rw [e]; rfl)
    have hcon := Go.Proofs.Any.slices_SortFunc sortIntsL encX oneX (cfX X) (swoX X) 21 #[.pointer (some ⟨px, 0, none⟩)] g 0 cap L.toArray w eg (cmpX (blk := g) (off := 0) (size := L.toArray.size) z0 hl hP hc hp hPn n1 n2 hlt hlt2) hH hgs (by rw [List.size_toArray, hlen]; omega)
    change Calls Tryz.prog 20 _ _ _ at hcon
    rw [List.size_toArray, hlen] at hcon
    refine hcon.mono ?_
    rintro e w' ⟨rfl, d', n, os, ⟨hp1, _, hp2⟩, hsd, rfl⟩
    have hds : d'.size = o.length := by rw [hp1, List.size_toArray, hlen]
    have he1 : d'.extract 0 o.length = d' := by rw [← hds]; exact Array.extract_size
    have he2 : L.toArray.extract 0 o.length = L.toArray := by
      have e : L.toArray.size = o.length := by rw [List.size_toArray, hlen]
      rw [← e]; exact Array.extract_size
    rw [he1, he2] at hp2
    have hp3 : (d'.toList.map (fun x : IxP P => x.1)).Perm o := by
      have := hp2.map (fun x : IxP P => x.1)
      rwa [List.toList_toArray, hL] at this
    have hll : (d'.toList.map (fun x : IxP P => x.1)).length = o.length := hp3.length_eq
    have hsz : (putRow encX (Sort.ahead w n) g 0 d').heap.size = w.heap.size := by simp [putRow, mapBlock, Sort.ahead]
    have hwsz : w.heap.size ≤ (sortWorld encX w g 0 n d' os).heap.size := by unfold sortWorld; simp [putRow, mapBlock, Sort.ahead]
    have hkeep : ∀ k, g ≠ k → k < w.heap.size → (sortWorld encX w g 0 n d' os).heap[k]? = w.heap[k]? := fun k hk hk2 => by
      unfold sortWorld
      rw [heap_grow_old _ _ (by rw [hsz]; omega)]
      simp [putRow, mapBlock, Sort.ahead, Array.getElem?_modify, hk]
    refine ⟨rfl, d'.toList.map (fun x => x.1), hp3, ?_, ?_, ?_, ?_⟩
    · rw [List.pairwise_map, List.pairwise_iff_getElem]
      intro i j hi hj hij
      have hi' : i < d'.size := by simpa using hi
      have hj' : j < d'.size := by simpa using hj
      have := hsd i j (Nat.zero_le _) hij (by omega)
      rw [ltX, getElem!_pos d' i hi', getElem!_pos d' j hj'] at this
      simp only [decide_eq_false_iff_not] at this
      simp only [Array.getElem_toList]
      omega
    · exact ⟨rfl, rfl, rfl, hwsz, fun k hk => hkeep k (by omega) (by have := h.1; omega)⟩
    · exact fun k hk hk2 => hkeep k (fun e => hk (by rw [← e]; rfl)) hk2
    · have hm : (d'.toList.map (fun x : IxP P => x.1)).map intV = d'.toList.map encX := by rw [List.map_map]; rfl
      rw [hm]
      refine ⟨by simp, .inr ⟨g, cap, putCells encX 0 d' cur, by rw [hll], hbb, ?_, by rw [hll]; exact hnc, hcm, by simp [putCells, hs], ?_⟩⟩
      · unfold sortWorld
        rw [heap_grow_old _ _ (by rw [hsz]; exact hgs)]
        simp [putRow, mapBlock, Sort.ahead, Array.getElem?_modify, hg, onCells]
      · rw [hll]
        apply List.ext_getElem?
        intro j
        by_cases hj : j < o.length
        · have hjc : j < cur.size := by rw [hs]; omega
          have hjf : j < d'.size := by rw [hds]; exact hj
          rw [List.getElem?_take, if_pos (by omega), Array.getElem?_toList, List.getElem?_map, Array.getElem?_toList]
          simp only [putCells, Array.getElem?_mapIdx, Array.getElem?_eq_getElem hjc, Option.map_some, Nat.zero_le, true_and, Nat.zero_add, Nat.sub_zero]
          rw [if_pos hjf, getElem!_pos _ j hjf, Array.getElem?_eq_getElem hjf]
          rfl
        · rw [List.getElem?_take, if_neg (by omega), List.getElem?_eq_none (by simp [hds]; omega)]
end Go.Proofs.YthikgdogfkjioaaGreatDoor
namespace Go.Proofs.YthikgdogfkjioaaGreatDoor
open Go.RowKit BigFrame Go.Maps
set_option linter.unusedVariables false
set_option linter.unusedSimpArgs false
set_option maxRecDepth 100000

/-- How an element that is a slice reads. -/
def vElem : Value → Option (DataW Unit × List MemPlace)
  | .slice none n c => some (.agg [.lit (.int .i64 n), .lit (.int .i64 c)], [])
  | .slice (some ⟨b, o, none⟩) n c => some (.agg [.lit (.int .i64 b), .lit (.int .i64 o), .lit (.int .i64 n), .lit (.int .i64 c)], [])
  | _ => none
theorem vElem_inj {u v : Value} {d : DataW Unit} {p q : List MemPlace} (hu : vElem u = some (d, p)) (hv : vElem v = some (d, q)) : u = v := by
  unfold vElem at hu hv
  split at hu <;> split at hv <;> first | (simp only [Option.some.injEq, Prod.mk.injEq, reduceCtorEq] at hu hv; done) | skip
  all_goals (simp only [Option.some.injEq, Prod.mk.injEq] at hu hv; obtain ⟨rfl, -⟩ := hu; obtain ⟨e, -⟩ := hv; simp at e)
  · obtain ⟨e1, e2⟩ := e
    rw [Int.ofNat.inj e1, Int.ofNat.inj e2]
  · obtain ⟨e1, e2, e3, e4⟩ := e
    rw [Int.ofNat.inj e1, Int.ofNat.inj e2, Int.ofNat.inj e3, Int.ofNat.inj e4]
def nilV : Value := .slice none 0 0
def VMap (w : World) (b n : Nat) (f : Int → Option Value) : Prop :=
  ∃ D : DataW Unit, w.ownsMap Tryz.prog 3 vElem b n D ∧ ∀ x, wfI x → Maps.has D (.int .i64 x) = (f x).isSome ∧ vElem ((f x).getD nilV) = some (D.atKey (.int .i64 x) (.agg [.lit (.int .i64 0), .lit (.int .i64 0)]), [])
section
variable {w w' : World} {b n : Nat} {f : Int → Option Value}
theorem VMap.lt (h : VMap w b n f) : b < w.heap.size := by obtain ⟨D, hD, _⟩ := h; exact hD.lt
theorem VMap.kept (h : VMap w b n f) {row : Option Nat} (hg : w.grownBy w' row) (hne : some b ≠ row) : VMap w' b n f := by
  obtain ⟨D, hD, h2⟩ := h
  exact ⟨D, hD.kept hg hne, h2⟩
theorem VMap.ext (h : VMap w b n f) (hb : Below w.heap.size w w') : VMap w' b n f := h.kept (row := none) ⟨hb.os, hb.tape, hb.output, hb.size, fun k hk _ => hb.block k hk⟩ (by simp)
theorem VMap.set_ (h : VMap w b n f) {a : Addr} (ha : b ≠ a.block) (u : Value) : VMap (w.setCell a u) b n f := by
  obtain ⟨D, hD, h2⟩ := h
  exact ⟨D, hD.setCell ha u, h2⟩
theorem VMap.made (w : World) : VMap (w.alloc (.map #[] 0)) w.heap.size 0 (fun _ => none) :=
  ⟨.map [], World.ownsMap_made _ _ _ _, fun x _ => ⟨by simp [Maps.has], rfl⟩⟩
theorem VMap.look2 (h : VMap w b n f) {x : Int} (hx : wfI x) : (Instr.lookup 55 (.map (some b)) (.int .i64 x) true).run Tryz.prog w = .ok (.tuple #[(f x).getD nilV, .bool (f x).isSome]) w := by
  obtain ⟨D, hD, h2⟩ := h
  obtain ⟨v, ps, hrun, hv⟩ := hD.look_ok (t := 55) (e := 33) lawI Tryz.underlying55 (z := nilV) (by rfl) (zd := .agg [.lit (.int .i64 0), .lit (.int .i64 0)]) (zp := []) rfl (keyI hx)
  obtain ⟨e1, e2⟩ := h2 x hx
  rw [hrun, e1, vElem_inj hv e2]
theorem VMap.look1 (h : VMap w b n f) {x : Int} (hx : wfI x) : (Instr.lookup 55 (.map (some b)) (.int .i64 x) false).run Tryz.prog w = .ok ((f x).getD nilV) w := by
  obtain ⟨D, hD, h2⟩ := h
  obtain ⟨v, ps, hrun, hv⟩ := hD.lookup (t := 55) (e := 33) lawI Tryz.underlying55 (z := nilV) (by rfl) (zd := .agg [.lit (.int .i64 0), .lit (.int .i64 0)]) (zp := []) rfl (keyI hx)
  rw [hrun, vElem_inj hv (h2 x hx).2]
theorem VMap.put (h : VMap w b n f) {x : Int} (hx : wfI x) {v : Value} {d : DataW Unit} (hv : vElem v = some (d, [])) (hn : n < 1000000) :
    ∃ w', (Instr.mapUpdate 55 (.map (some b)) (.int .i64 x) v).run Tryz.prog w = .ok () w' ∧ VMap w' b (n + 1) (fun y => if y = x then some v else f y) ∧ w.grownBy w' (some b) := by
  obtain ⟨D, hD, h2⟩ := h
  obtain ⟨w', hrun, hD', hg⟩ := hD.update (t := 55) (e := 33) lawI Tryz.underlying55 (by unfold maxLen; omega) (keyI hx) (val := v) hv
  refine ⟨w', hrun, ⟨_, hD', fun y hy => ?_⟩, hg⟩
  simp only
  by_cases e : y = x
  · subst e
    rw [if_pos rfl]
    exact ⟨by rw [has_put_same hD.isMap (by exact trivial)]; rfl, by rw [atKey_put_same hD.isMap (by exact trivial)]; exact hv⟩
  · rw [if_neg e]
    exact ⟨by rw [has_put_other (fun q => e (by injection q))]; exact (h2 y hy).1, by rw [atKey_put_other (fun q => e (by injection q))]; exact (h2 y hy).2⟩
end
end Go.Proofs.YthikgdogfkjioaaGreatDoor
