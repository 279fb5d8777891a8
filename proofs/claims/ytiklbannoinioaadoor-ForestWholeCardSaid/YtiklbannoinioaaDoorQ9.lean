/- The program's ahead; fill, plain. · fill, plain: its steps, what stays true, that it ends. · fill: memory in its main loop. -/
import Derived.Test.YtiklbannoinioaaDoorQ8
import Derived.Test.YtiklbannoinioaaDoorQ7
import Derived.Deep.Cut
import Derived.Deep.CutRange
import Derived.Deep.LoopGhost
import Derived.Laws.EntriesVeiled
namespace Go.Proofs.YtiklbannoinioaaDoor
open Go.RowKit BigFrame Go.Maps
set_option linter.unusedVariables false
set_option linter.unusedSimpArgs false
set_option maxRecDepth 100000

/-- The symbol at an item's place. -/
def aheadO (G : Gr) (x : K3) : Option Int := if x.2.1 = (rtN G x.1).length then none else some (nth (rtN G x.1) x.2.1)
def aheadV (G : Gr) (x : K3) : Value := match aheadO G x with
  | none => .tuple #[.int .i64 0, .bool false]
  | some s => .tuple #[.int .i64 s, .bool true]
/-- An item that may be. -/
def ItOk (G : Gr) (tq : Nat) (x : K3) : Prop := x.1 < G.prods.length ∧ x.2.1 ≤ (rtN G x.1).length ∧ x.2.2 ≤ tq
theorem ItOk.key {G : Gr} (hk : GOk G) {tq : Nat} (ht : tq ≤ 100) {x : K3} (h : ItOk G tq x) : inK x := by
  have h1 := hk.p
  have h2 := rtN_len hk h.1
  exact ⟨by have := h.1; omega, by have := h.2.1; omega, by have := h.2.2; omega⟩
section
variable (G : Gr) (Ap Al As : Option Addr) (np cp nl cl ns cs : Nat)
theorem ahead_any (hk : GOk G) (B c tq : Nat) (x : K3) (hx : ItOk G tq x) (ht : tq ≤ 100) (w : World) (hB : B ≤ w.heap.size) (h3 : w.cell? ⟨c, 3, none⟩ = some (.slice Ap np cp)) (hgi : GrIn w B G Ap Al As np cp nl cl ns cs) :
    Calls Tryd.prog 36 #[.pointer (some ⟨c, 0, none⟩), kV x] w fun e w' => e = .returned (aheadV G x) ∧ Below w.heap.size w w' := by
  have hpl := hgi.p.len.1
  have hb0 : Below w.heap.size w (w.alloc (.cells #[.int .i64 x.1, .int .i64 x.2.1, .int .i64 x.2.2] 92)) := (Below.refl _ _).alloc (Nat.le_refl _) _
  obtain ⟨b, off, A', n', c', rfl, hb, z0, z1, e1, e2, e3, e4⟩ := hgi.p.rt (p := x.1) (by have := hx.1; omega)
  have y3 := (hb0.cell (p := ⟨c, 3, none⟩) (lt_cell h3)).trans h3
  have y1 := (hb0.cell (p := ⟨b, off + x.1 * 3 + 1, none⟩) (lt_cell z1)).trans z1
  have hl := rtN_len hk hx.1
  have hx1 := hx.1
  have hx2 := hx.2.1
  have hnp := hk.p
  have HB := Lib.hid hb0
  unfold maxLen at e3
  by_cases q : x.2.1 = (rtN G x.1).length
  · have hv : aheadV G x = .tuple #[.int .i64 0, .bool false] := by unfold aheadV aheadO; rw [if_pos q]
    rw [hv]
    have hq : x.2.1 = n' := by omega
    have d0 : ((x.2.1 : Int) == (n' : Int)) = true := by simp; omega
    have hlt : x.1 < np := by omega
    clear hv q hgi z0 z1 e4 hx hb0 e1 hpl hx1 hx2 hq h3
    unfold kV
    obtain ⟨x1, x2, x3⟩ := x
    simp only at *
    go_enter Tryd.func36, Tryd.ntmps36
    go_wp2_with fail
    go_quiet (fail)
    go_wp2_with fail
    go_ret2
    exact ⟨rfl, bel_dN HB.out _⟩
  · have hv : aheadV G x = .tuple #[.int .i64 (nth (rtN G x.1) x.2.1), .bool true] := by unfold aheadV aheadO; rw [if_neg q]
    rw [hv]
    obtain ⟨rb, ro, rfl, hrb, hrc⟩ := e4.at_ (by omega)
    have zs := hrc x.2.1 (by omega)
    have ys := (hb0.cell (p := ⟨rb, ro + x.2.1, none⟩) (lt_cell zs)).trans zs
    have d0 : ((x.2.1 : Int) == (n' : Int)) = false := by simp; omega
    have hlt : x.1 < np := by omega
    have hlt2 : x.2.1 < n' := by omega
    generalize nth (rtN G x.1) x.2.1 = u at *
    clear hv q hgi z0 z1 e4 hx hb0 e1 hpl hx1 hx2 h3 hrc zs
    unfold kV
    obtain ⟨x1, x2, x3⟩ := x
    simp only at *
    go_enter Tryd.func36, Tryd.ntmps36
    go_wp2_with fail
    go_quiet (fail)
    go_wp2_with fail
    go_ret2
    exact ⟨rfl, bel_dN HB.out _⟩
end
end Go.Proofs.YtiklbannoinioaaDoor
namespace Go.Proofs.YtiklbannoinioaaDoor
set_option linter.unusedVariables false
set_option linter.unusedSimpArgs false

def advI (x : K3) : K3 := (x.1, x.2.1 + 1, x.2.2)
def insL (L : List K3) (y : K3) : List K3 := if y ∈ L then L else L ++ [y]
/-- The items that a terminal takes on. -/
def scanL (G : Gr) (inp : List Int) (prev : List K3) (tq : Nat) : List K3 := prev.filterMap fun x => match aheadO G x with
  | some s => if 0 ≤ s ∧ s = nth inp (tq - 1) then some (advI x) else none
  | none => none
/-- The items that a name takes on. -/
def compL (G : Gr) (name : Int) (ys : List K3) : List K3 := ys.filterMap fun y => if aheadO G y = some (-1 - name) then some (advI y) else none
/-- One item done. -/
def popS (G : Gr) (Ip : Nat → List K3) (tq : Nat) (l t L : List K3) (x : K3) : List K3 × List K3 × List K3 :=
  match aheadO G x with
  | none =>
    let q := (compL G (lfN G x.1) (if x.2.2 = tq then l else Ip x.2.2)).foldl stP (l, t)
    (q.1, q.2, insL L ((lfN G x.1).toNat, x.2.2, tq))
  | some s =>
    if s < 0 then
      let q := (begL G (-1 - s).toNat tq).foldl stP (l, t)
      let r := if ((-1 - s).toNat, tq, tq) ∈ L then stP q (advI x) else q
      (r.1, r.2, L)
    else (l, t, L)
inductive RunsTo (G : Gr) (Ip : Nat → List K3) (tq : Nat) : List K3 → List K3 → List K3 → List K3 → List K3 → Prop where
  | done (l L : List K3) : RunsTo G Ip tq l [] L l L
  | step {l t L l' L' : List K3} {x : K3} : RunsTo G Ip tq (popS G Ip tq l t L x).1 (popS G Ip tq l t L x).2.1 (popS G Ip tq l t L x).2.2 l' L' → RunsTo G Ip tq l (t ++ [x]) L l' L'
structure VI (G : Gr) (tq : Nat) (q : List K3 × List K3) : Prop where
  nd : q.1.Nodup
  ok : ∀ x ∈ q.1, ItOk G tq x
  td : q.2.Nodup
  sb : ∀ x ∈ q.2, x ∈ q.1
theorem nodup_subK {α : Type} [DecidableEq α] : ∀ (M L : List α), M.Nodup → (∀ y ∈ M, y ∈ L) → M.length ≤ L.length
  | [], L, _, _ => Nat.zero_le _
  | x :: M, L, hn, hs => by
    obtain ⟨h1, h2⟩ := List.nodup_cons.1 hn
    have := nodup_subK M (L.erase x) h2 (fun y hy => (List.mem_erase_of_ne (a := y) (b := x) (fun e => h1 (by rw [← e]; exact hy))).2 (hs y (List.mem_cons_of_mem _ hy)))
    rw [List.length_erase_of_mem (hs x (by simp))] at this
    have hp : 0 < L.length := List.length_pos_of_mem (hs x (by simp))
    simp
    omega
theorem items_len {G : Gr} (hk : GOk G) {tq : Nat} (ht : tq ≤ 100) {l : List K3} (hn : l.Nodup) (ho : ∀ x ∈ l, ItOk G tq x) : l.length ≤ 848400 := by
  have hb : ∀ x ∈ l, x.1 < 400 ∧ x.2.1 < 21 ∧ x.2.2 < 101 := fun x hx => by
    have h := ho x hx
    have h1 := hk.p
    have h2 := rtN_len hk h.1
    have h3 := h.1; have h4 := h.2.1; have h5 := h.2.2
    omega
  have hm : (l.map fun x => (x.1 * 21 + x.2.1) * 101 + x.2.2).Nodup := by
    unfold List.Nodup
    rw [List.pairwise_map]
    refine List.Pairwise.imp_of_mem ?_ hn
    intro a b ha hb' hne e
    have h1 := hb a ha
    have h2 := hb b hb'
    exact hne (Prod.ext (by omega) (Prod.ext (by omega) (by omega)))
  have := nodup_subK _ (List.range 848400) hm (fun y hy => by
    rw [List.mem_map] at hy
    obtain ⟨x, hx, rfl⟩ := hy
    have := hb x hx
    rw [List.mem_range]
    omega)
  simpa using this
section
variable {G : Gr} {tq : Nat} {q : List K3 × List K3}
theorem VI.put (h : VI G tq q) {x : K3} (hx : ItOk G tq x) : VI G tq (stP q x) := by
  unfold stP
  split
  · exact h
  · rename_i hn
    refine ⟨?_, ?_, ?_, ?_⟩
    · exact List.nodup_append.2 ⟨h.nd, by simp, fun a ha b hb => by rw [List.mem_singleton] at hb; subst hb; exact fun e => hn (e ▸ ha)⟩
    · intro y hy
      rcases List.mem_append.1 hy with hy | hy
      · exact h.ok y hy
      · rw [List.mem_singleton] at hy; subst hy; exact hx
    · exact List.nodup_append.2 ⟨h.td, by simp, fun a ha b hb => by rw [List.mem_singleton] at hb; subst hb; exact fun e => hn (h.sb _ (e ▸ ha))⟩
    · intro y hy
      rcases List.mem_append.1 hy with hy | hy
      · exact List.mem_append_left _ (h.sb y hy)
      · exact List.mem_append_right _ hy
theorem VI.fold : ∀ (xs : List K3) {q : List K3 × List K3}, VI G tq q → (∀ x ∈ xs, ItOk G tq x) → VI G tq (xs.foldl stP q)
  | [], q, h, _ => h
  | x :: xs, q, h, ho => VI.fold xs (h.put (ho x (by simp))) (fun y hy => ho y (by simp [hy]))
theorem VI.len (hk : GOk G) (ht : tq ≤ 100) (h : VI G tq q) : q.1.length ≤ 848400 ∧ q.2.length ≤ q.1.length := ⟨items_len hk ht h.nd h.ok, nodup_subK _ _ h.td h.sb⟩
/-- What is still to come. -/
def meaS (q : List K3 × List K3) : Nat := 2 * (848400 - q.1.length) + q.2.length
theorem meaS_put (hk : GOk G) (ht : tq ≤ 100) (h : VI G tq q) {x : K3} (hx : ItOk G tq x) : meaS (stP q x) ≤ meaS q := by
  have := (h.put hx).len hk ht
  unfold stP at this ⊢
  unfold meaS
  split
  · exact Nat.le_refl _
  · rename_i hn
    rw [if_neg hn] at this
    simp at this ⊢
    omega
theorem meaS_fold (hk : GOk G) (ht : tq ≤ 100) : ∀ (xs : List K3) {q : List K3 × List K3}, VI G tq q → (∀ x ∈ xs, ItOk G tq x) → meaS (xs.foldl stP q) ≤ meaS q
  | [], q, _, _ => Nat.le_refl _
  | x :: xs, q, h, ho => Nat.le_trans (meaS_fold hk ht xs (h.put (ho x (by simp))) (fun y hy => ho y (by simp [hy]))) (meaS_put hk ht h (ho x (by simp)))
end
section
variable {G : Gr} {tq : Nat}
theorem adv_ok {y : K3} {m : Nat} {s : Int} (hy : ItOk G m y) (hm : m ≤ tq) (ha : aheadO G y = some s) : ItOk G tq (advI y) := by
  unfold aheadO at ha
  split at ha
  · cases ha
  · rename_i h
    exact ⟨hy.1, by have := hy.2.1; show y.2.1 + 1 ≤ (rtN G y.1).length; omega, Nat.le_trans hy.2.2 hm⟩
theorem beg_ok {a : Nat} : ∀ x ∈ begL G a tq, ItOk G tq x := fun x hx => by
  unfold begL at hx
  rw [List.mem_map] at hx
  obtain ⟨p, hp, rfl⟩ := hx
  exact ⟨(mem_byN.1 hp).1, Nat.zero_le _, Nat.le_refl _⟩
theorem scan_ok {inp : List Int} {prev : List K3} {m : Nat} (hm : m ≤ tq) (h : ∀ y ∈ prev, ItOk G m y) : ∀ x ∈ scanL G inp prev tq, ItOk G tq x := fun x hx => by
  unfold scanL at hx
  rw [List.mem_filterMap] at hx
  obtain ⟨y, hy, e⟩ := hx
  split at e
  · rename_i s hs
    split at e
    · cases e; exact adv_ok (h y hy) hm hs
    · cases e
  · cases e
theorem comp_ok {name : Int} {ys : List K3} {m : Nat} (hm : m ≤ tq) (h : ∀ y ∈ ys, ItOk G m y) : ∀ x ∈ compL G name ys, ItOk G tq x := fun x hx => by
  unfold compL at hx
  rw [List.mem_filterMap] at hx
  obtain ⟨y, hy, e⟩ := hx
  split at e
  · rename_i hs
    cases e; exact adv_ok (h y hy) hm hs
  · cases e
/-- A step keeps what stays true, and less is still to come. -/
theorem pop_ok (hk : GOk G) (ht : tq ≤ 100) {Ip : Nat → List K3} (hI : ∀ k, k < tq → ∀ y ∈ Ip k, ItOk G k y) {l t L : List K3} {x : K3} (h : VI G tq (l, t ++ [x])) :
    VI G tq ((popS G Ip tq l t L x).1, (popS G Ip tq l t L x).2.1) ∧ meaS ((popS G Ip tq l t L x).1, (popS G Ip tq l t L x).2.1) < meaS (l, t ++ [x]) := by
  have h0 : VI G tq (l, t) := ⟨h.nd, h.ok, (List.nodup_append.1 h.td).1, fun y hy => h.sb y (List.mem_append_left _ hy)⟩
  have hx : x ∈ l := h.sb x (by simp)
  have hxo := h.ok x hx
  have hm0 : meaS (l, t) < meaS (l, t ++ [x]) := by unfold meaS; simp
  unfold popS
  split
  · rename_i ha
    have hys : ∀ y ∈ compL G (lfN G x.1) (if x.2.2 = tq then l else Ip x.2.2), ItOk G tq y := by
      by_cases e : x.2.2 = tq
      · rw [if_pos e]; exact comp_ok (Nat.le_refl _) h.ok
      · rw [if_neg e]; exact comp_ok (m := x.2.2) hxo.2.2 (hI _ (by have := hxo.2.2; omega))
    exact ⟨h0.fold _ hys, Nat.lt_of_le_of_lt (meaS_fold hk ht _ h0 hys) hm0⟩
  · rename_i s ha
    split
    · have h1 := h0.fold _ (beg_ok (G := G) (tq := tq) (a := (-1 - s).toNat))
      have h2 := meaS_fold hk ht _ h0 (beg_ok (G := G) (tq := tq) (a := (-1 - s).toNat))
      have h3 := adv_ok hxo (Nat.le_refl _) ha
      simp only
      split
      · exact ⟨h1.put h3, Nat.lt_of_le_of_lt (meaS_put hk ht h1 h3) (Nat.lt_of_le_of_lt h2 hm0)⟩
      · exact ⟨h1, Nat.lt_of_le_of_lt h2 hm0⟩
    · exact ⟨h0, hm0⟩
end
end Go.Proofs.YtiklbannoinioaaDoor
namespace Go.Proofs.YtiklbannoinioaaDoor
open Go.RowKit BigFrame Go.Maps
set_option linter.unusedVariables false
set_option linter.unusedSimpArgs false
set_option maxRecDepth 100000

/-- A row of items that nobody turns. -/
def RdK (w : World) (S : Nat → Prop) (A : Option Addr) (l : List K3) : Prop :=
  0 < l.length → ∃ b off, A = some ⟨b, off, none⟩ ∧ S b ∧ ∀ (j : Nat) (x : K3), l[j]? = some x → w.cell? ⟨b, off + j * 3, none⟩ = some (.int .i64 (x.1 : Int)) ∧ w.cell? ⟨b, off + j * 3 + 1, none⟩ = some (.int .i64 (x.2.1 : Int)) ∧ w.cell? ⟨b, off + j * 3 + 2, none⟩ = some (.int .i64 (x.2.2 : Int))
/-- A place's set that nobody turns. -/
def SetR (w : World) (S : Nat → Prop) (sk : Nat) (l : List K3) : Prop := S sk ∧ ∃ A cc, w.cell? ⟨sk, 0, none⟩ = some (.slice A l.length cc) ∧ l.length ≤ cc ∧ cc ≤ maxLen ∧ RdK w S A l
/-- What a place begins with. -/
def startL (G : Gr) (inp : List Int) (Ip : Nat → List K3) (tq : Nat) : List K3 := if tq = 0 then begL G G.start.toNat tq else scanL G inp (Ip (tq - 1)) tq

/-- The last of those to do is taken. -/
theorem FiSt.pop {w : World} {N s mk tb n cap : Nat} {l t : List K3} {x : K3} {lv : Value} {A : Option Addr} (h : FiSt w N s mk tb l (t ++ [x]) lv (.slice A n cap)) : n = t.length + 1 ∧ ∃ g, A = some ⟨g, 0, none⟩ ∧ t.length < cap ∧ FiSt (w.setCell ⟨tb, 0, none⟩ (.slice A t.length cap)) N s mk tb l t lv (.slice A t.length cap) := by
  have a := h.apart
  rcases h.ot.2 with ⟨e, q⟩ | ⟨g, cap', cur, e, hb, hg, hn, hc, hs, htk⟩
  · simp at q
  · simp only [Value.slice.injEq] at e
    obtain ⟨rfl, e2, rfl⟩ := e
    simp at e2 hn
    refine ⟨e2, g, rfl, hn, ?_⟩
    have k : Kp (fun k => k = tb) w (w.setCell ⟨tb, 0, none⟩ (.slice (some ⟨g, 0, none⟩) t.length cap)) := (Kp.refl (fun k => k = tb) w).set_ (p := ⟨tb, 0, none⟩) (.inr rfl) _
    obtain ⟨f, hm, h2⟩ := h.im
    have gne := (a.ts g rfl).2.2.1
    refine ⟨blk_kp h.sb k a.st, own_kp h.ol k (fun g q => (a.ls g q).2.2.1), ⟨f, hm.keep k a.mt, h2⟩, h.tB.set_ 0 _, ?_, h.ne⟩
    refine ⟨by rw [itC_len], .inr ⟨g, cap, cur, rfl, hb, (k.block g (Array.getElem?_eq_some_iff.1 hg).1 gne).trans hg, by omega, hc, hs, ?_⟩⟩
    have h3 := congrArg (List.take (t.length * 3)) htk
    rw [List.take_take, itC_snoc, List.take_append_of_le_length (by rw [itC_len]; exact Nat.le_refl _), ← itC_len, List.take_length] at h3
    rw [Nat.min_eq_left (by rw [itC_len]; simp; omega)] at h3
    rw [← itC_len]
    exact h3
/-- The set's own row, as it is now. -/
theorem FiSt.snp {w : World} {N s mk tb : Nat} {l t : List K3} {lv tv : Value} (h : FiSt w N s mk tb l t lv tv) {g : Nat} (hg : lv.ownBlock = some g) : Snp w s mk tb lv tv l.length g 0 l := by
  obtain ⟨a1, a2, a3, a4⟩ := h.apart.ls g hg
  exact ⟨fun j y hy => by rw [Nat.zero_add]; exact own_cell3 h.ol hg hy, a4, ⟨a1, a2, a3⟩, fun _ => ⟨rfl, Nat.le_refl _⟩, h.ne g hg⟩
/-- A row of another place. -/
theorem FiSt.snpS {w : World} {N s mk tb : Nat} {l t l1 : List K3} {lv tv : Value} (h : FiSt w N s mk tb l t lv tv) {g o : Nat} (hc : ∀ (j : Nat) (y : K3), l1[j]? = some y → w.cell? ⟨g, o + j * 3, none⟩ = some (.int .i64 (y.1 : Int)) ∧ w.cell? ⟨g, o + j * 3 + 1, none⟩ = some (.int .i64 (y.2.1 : Int)) ∧ w.cell? ⟨g, o + j * 3 + 2, none⟩ = some (.int .i64 (y.2.2 : Int)))
    (hN : g < N) (hw : g < w.heap.size) (h1 : g ≠ s ∧ g ≠ mk) (htb : N ≤ tb) : Snp w s mk tb lv tv l.length g o l1 :=
  ⟨hc, hw, ⟨h1.1, h1.2, by omega⟩, fun e => (by have := (h.ol.lt g e).1; omega), fun e => (by have := (h.ot.lt g e).1; omega)⟩
theorem scanL_snoc (G : Gr) (inp : List Int) (l : List K3) (x : K3) (tq : Nat) : scanL G inp (l ++ [x]) tq = scanL G inp l tq ++ scanL G inp [x] tq := by unfold scanL; rw [List.filterMap_append]
theorem scanL_none {G : Gr} {inp : List Int} {x : K3} {tq : Nat} (h : aheadO G x = none) : scanL G inp [x] tq = [] := by unfold scanL; simp [h]
theorem scanL_no {G : Gr} {inp : List Int} {x : K3} {tq : Nat} {u : Int} (h : aheadO G x = some u) (hn : ¬ (0 ≤ u ∧ u = nth inp (tq - 1))) : scanL G inp [x] tq = [] := by unfold scanL; simp only [List.filterMap_cons, List.filterMap_nil, h, if_neg hn]
theorem scanL_yes {G : Gr} {inp : List Int} {x : K3} {tq : Nat} {u : Int} (h : aheadO G x = some u) (hn : 0 ≤ u ∧ u = nth inp (tq - 1)) : scanL G inp [x] tq = [advI x] := by unfold scanL; simp only [List.filterMap_cons, List.filterMap_nil, h, if_pos hn]
theorem ahead_sym {G : Gr} (hk : GOk G) {tq : Nat} {x : K3} {u : Int} (hx : ItOk G tq x) (h : aheadO G x = some u) : -300 ≤ u ∧ u < 300 ∧ -G.names ≤ u ∧ u < G.terms := by
  unfold aheadO at h
  split at h
  · cases h
  · rename_i hn
    cases h
    have hl : x.2.1 < (rtN G x.1).length := by have := hx.2.1; omega
    refine rtN_sym hk hx.1 ?_
    rw [nth_get hl]
    exact List.getElem_mem _
theorem left_ok {G : Gr} (hk : GOk G) {tq : Nat} {x : K3} (hx : ItOk G tq x) : 0 ≤ lfN G x.1 ∧ lfN G x.1 < G.names := ⟨(mem_rtN hk hx.1).l0, (mem_rtN hk hx.1).l1⟩
theorem snoc_posK {T : List K3} (h : 0 < T.length) : ∃ T' t, T = T' ++ [t] := by
  rcases List.eq_nil_or_concat T with e | ⟨L, b, e⟩
  · subst e; simp at h
  · exact ⟨L, b, by rw [e, List.concat_eq_append]⟩
/-- What follows when an item is done. -/
theorem pop_fin {G : Gr} (hk : GOk G) {tq : Nat} (ht : tq ≤ 100) {Ip : Nat → List K3} (hI : ∀ k, k < tq → ∀ y ∈ Ip k, ItOk G k y) {l t L l0 t0 L0 l3 t3 L3 : List K3} {x : K3} (hV : VI G tq (l, t ++ [x])) (hR : ∀ l' L', RunsTo G Ip tq l (t ++ [x]) L l' L' → RunsTo G Ip tq l0 t0 L0 l' L')
    (he : popS G Ip tq l t L x = (l3, t3, L3)) : (∀ l' L', RunsTo G Ip tq l3 t3 L3 l' L' → RunsTo G Ip tq l0 t0 L0 l' L') ∧ VI G tq (l3, t3) ∧ meaS (l3, t3) < meaS (l, t ++ [x]) := by
  have h := pop_ok hk ht hI (L := L) hV
  rw [he] at h
  exact ⟨fun l' L' h2 => hR l' L' (RunsTo.step (by rw [he]; exact h2)), h⟩
theorem pop_done {G : Gr} {tq nm : Nat} {Ip : Nat → List K3} {l t L l1 : List K3} {x : K3} (ha : aheadO G x = none) (hn : lfN G x.1 = (nm : Int)) (hl : l1 = if x.2.2 = tq then l else Ip x.2.2) : popS G Ip tq l t L x = (((compL G nm l1).foldl stP (l, t)).1, ((compL G nm l1).foldl stP (l, t)).2, insL L (nm, x.2.2, tq)) := by
  unfold popS
  rw [ha]
  simp only [hn, Int.toNat_natCast, hl]
theorem pop_beg {G : Gr} {tq nm : Nat} {Ip : Nat → List K3} {l t L : List K3} {x : K3} {u : Int} (ha : aheadO G x = some u) (hu : u < 0) (hn : -1 - u = (nm : Int)) : popS G Ip tq l t L x = if (nm, tq, tq) ∈ L then ((stP ((begL G nm tq).foldl stP (l, t)) (advI x)).1, (stP ((begL G nm tq).foldl stP (l, t)) (advI x)).2, L) else (((begL G nm tq).foldl stP (l, t)).1, ((begL G nm tq).foldl stP (l, t)).2, L) := by
  unfold popS
  rw [ha]
  simp only [if_pos hu, hn, Int.toNat_natCast]
  split <;> rfl
theorem pop_term {G : Gr} {tq : Nat} {Ip : Nat → List K3} {l t L : List K3} {x : K3} {u : Int} (ha : aheadO G x = some u) (hu : ¬ u < 0) : popS G Ip tq l t L x = (l, t, L) := by
  unfold popS
  rw [ha]
  simp only [if_neg hu]
theorem VI.init {G : Gr} {tq : Nat} {l t : List K3} {x : K3} (h : VI G tq (l, t ++ [x])) : VI G tq (l, t) := ⟨h.nd, h.ok, (List.nodup_append.1 h.td).1, fun y hy => h.sb y (List.mem_append_left _ hy)⟩
theorem ItOk.mono {G : Gr} {a b : Nat} {x : K3} (h : ItOk G a x) (hab : a ≤ b) : ItOk G b x := ⟨h.1, h.2.1, Nat.le_trans h.2.2 hab⟩
theorem compL_snoc (G : Gr) (name : Int) (l : List K3) (x : K3) : compL G name (l ++ [x]) = compL G name l ++ compL G name [x] := by unfold compL; rw [List.filterMap_append]
theorem compL_no {G : Gr} {name : Int} {x : K3} (h : aheadO G x ≠ some (-1 - name)) : compL G name [x] = [] := by unfold compL; simp only [List.filterMap_cons, List.filterMap_nil, if_neg h]
theorem compL_yes {G : Gr} {name : Int} {x : K3} (h : aheadO G x = some (-1 - name)) : compL G name [x] = [advI x] := by unfold compL; simp only [List.filterMap_cons, List.filterMap_nil, if_pos h]
theorem ite_le {n : Nat} (b : Bool) : (if b = true then n else n + 1) ≤ n + 1 := by cases b <;> simp
theorem SpM.put {w : World} {m n : Nat} {L : List K3} (h : SpM w m n L) {x : K3} (hx : inK x) (hn : n ≤ 2000000000) :
    ∃ w' n', (Instr.mapUpdate 56 (.map (some m)) (kV x) (.int .i64 1)).run Tryd.prog w = .ok () w' ∧ SpM w' m n' (insL L x) ∧ n' ≤ n + 1 ∧ w.grownBy w' (some m) := by
  obtain ⟨w', h1, h2, h3⟩ := KMap.put (t := 56) (e := 3) h lawS3 (fun x => keyS3) Tryd.underlying56 hx (v := oneV) g_one (by unfold maxLen; omega)
  refine ⟨w', _, h1, KMap.congr h2 (fun y hy => ?_), ite_le _, h3⟩
  unfold insL
  by_cases e : y = x
  · subst e
    by_cases q : y ∈ L <;> simp [q]
  · by_cases q : x ∈ L <;> simp [q, e]
/-- The map of spans is another, or more lies in it. -/
theorem FiEnv.span {w0 w w' : World} {s mk ms c tq cb tob tb pbx ns ns' : Nat} {L L' : List K3} (h : FiEnv w0 w s mk ms c tq cb tob tb pbx ns L) (k : Kp (fun k => k = ms) w w') (hm : SpM w' ms ns' L') : FiEnv w0 w' s mk ms c tq cb tob tb pbx ns' L' :=
  ⟨h.kp.trans (k.mono fun _ _ q => .inr (.inr (.inl q))), blk_kp h.cB k (fun e => KMap.ne h.sp h.cB e.symm), blk_kp h.tO k (fun e => KMap.ne h.sp h.tO e.symm), hm, h.mm, blk_kp h.pB k (fun e => KMap.ne h.sp h.pB e.symm)⟩
theorem FiEnv.own {w0 w w' : World} {s mk ms c tq cb tob tb pbx ns : Nat} {L : List K3} {vs : List Value} (h : FiEnv w0 w s mk ms c tq cb tob tb pbx ns L) (hb : Blk w tb 70 vs) (htb : w0.heap.size ≤ tb) (k : Kp (fun k => k = tb) w w') : FiEnv w0 w' s mk ms c tq cb tob tb pbx ns L :=
  ⟨h.kp.trans (k.mono fun _ _ q => .inr (.inr (.inr (by omega)))), blk_kp h.cB k (blk_ne h.cB hb (by decide)), blk_kp h.tO k (blk_ne h.tO hb (by decide)), KMap.keep h.sp k (fun e => KMap.ne h.sp hb e), h.mm, blk_kp h.pB k (blk_ne h.pB hb (by decide))⟩
theorem FiSt.span {w w' : World} {N s mk tb ms ns : Nat} {L l t : List K3} {lv tv : Value} (h : FiSt w N s mk tb l t lv tv) (hm : SpM w ms ns L) (hne : ms ≠ mk) (k : Kp (fun k => k = ms) w w') : FiSt w' N s mk tb l t lv tv := by
  obtain ⟨f, hk, h2⟩ := h.im
  refine ⟨blk_kp h.sb k (fun e => KMap.ne hm h.sb e.symm), own_kp h.ol k (fun g q e => ?_), ⟨f, hk.keep k (fun e => hne e.symm), h2⟩, blk_kp h.tB k (fun e => KMap.ne hm h.tB e.symm), own_kp h.ot k (fun g q e => ?_), h.ne⟩
  · obtain ⟨vs, hv⟩ := own_blk h.ol q
    exact KMap.ne hm hv e.symm
  · obtain ⟨vs, hv⟩ := own_blk h.ot q
    exact KMap.ne hm hv e.symm
theorem standsS_any (c ms ns : Nat) (L : List K3) (x : K3) (hx : inK x) (w : World) (z9 : w.cell? ⟨c, 9, none⟩ = some (.map (some ms))) (hm : SpM w ms ns L) :
    Calls Tryd.prog 16 #[.pointer (some ⟨c, 0, none⟩), kV x] w fun e w' => e = .returned (.bool (decide (x ∈ L))) ∧ Below w.heap.size w w' := by
  have hb0 : Below w.heap.size w (w.alloc (.cells #[.int .i64 x.1, .int .i64 x.2.1, .int .i64 x.2.2] 46)) := (Below.refl _ _).alloc (Nat.le_refl _) _
  have z1 := (hb0.cell (p := ⟨c, 9, none⟩) (lt_cell z9)).trans z9
  have hl0 : ∀ q, (Instr.lookup 56 (.map (some ms)) (kV x) false).run Tryd.prog ((w.alloc (.cells #[.int .i64 x.1, .int .i64 x.2.1, .int .i64 x.2.2] 46)).drewN q) = .ok (.int .i64 (if x ∈ L then 1 else 0)) ((w.alloc (.cells #[.int .i64 x.1, .int .i64 x.2.1, .int .i64 x.2.2] 46)).drewN q) := fun q => by
    have h3 : SpM ((w.alloc (.cells #[.int .i64 x.1, .int .i64 x.2.1, .int .i64 x.2.2] 46)).drewN q) ms ns L := KMap.same hm (hb0.block ms (KMap.lt hm))
    exact SpM.look h3 hx
  have HB := Lib.hid hb0
  clear hb0 hm hx
  unfold kV at hl0 ⊢
  by_cases q : x ∈ L
  · have d : Hid (decide (x ∈ L) = true) := Lib.hid (decide_eq_true q)
    simp only [if_pos q] at hl0
    go_enter Tryd.func16, Tryd.ntmps16
    go_wp2_with fail
    go_quiet (fail)
    go_wp2_with fail
    go_ret
    exact ⟨ret_eq (by rw [d.out]; rfl), bel_dN HB.out _⟩
  · have d : Hid (decide (x ∈ L) = false) := Lib.hid (decide_eq_false q)
    simp only [if_neg q] at hl0
    go_enter Tryd.func16, Tryd.ntmps16
    go_wp2_with fail
    go_quiet (fail)
    go_wp2_with fail
    go_ret
    exact ⟨ret_eq (by rw [d.out]; rfl), bel_dN HB.out _⟩
end Go.Proofs.YtiklbannoinioaaDoor
