/- The mender's map: keys are pairs of places; its elements are blocks of bests. · The mender's symbol. -/
import Derived.Test.YtklhjaohnimmnaaDoorQ13
import Derived.Maps.RangeWalk
import Derived.Maps.OwnOps
import Derived.DeepKeys4
import Derived.MapViews
import Derived.Laws.ResultCell
namespace Go.Proofs.YtklhjaohnimmnaaDoor
open Go.RowKit BigFrame Go.Maps
set_option linter.unusedVariables false
set_option linter.unusedSimpArgs false
set_option maxRecDepth 100000

theorem laidOutK : laidOutB Tryd.prog = true := by kernel_rfl
theorem lawK : Keyed Tryd.prog 53 := Keyed.of_law (deep_law_laid laidOutK (m := 8) (by decide) (of_decide_eq_true (by kernel_rfl)) (by kernel_rfl) (by kernel_rfl))
def kV (f t : Nat) : Value := .agg #[.int .i64 (f : Int), .int .i64 (t : Int)]
def kL (f t : Nat) : Lit := .string (keyBytes [.int .i64 (f : Int), .int .i64 (t : Int)])
theorem wf_nat {a : Nat} (h : a ≤ 100000) : (Lit.int .i64 (a : Int)).wf = true := WalkArith.wf_i64 (by omega)
theorem kOf {f t : Nat} (hf : f ≤ 1000) (ht : t ≤ 1000) : keyOf Tryd.prog 53 (kV f t) = some (kL f t) := by
  have h1 := wf_nat (a := f) (by omega)
  have h2 := wf_nat (a := t) (by omega)
  have c1 : Tryd.prog.cellsOf 3 = 1 := by kernel_rfl
  have c2 : Tryd.prog.cellsOf 53 = 2 := by kernel_rfl
  have h3 : Tryd.prog.keyType 53 = true := by kernel_rfl
  have h4 : (kV f t).formed Tryd.prog 53 = true := by
    unfold kV Value.formed
    simp [Tryd.underlying53, c2]
  have h5 : ∀ d, Tryd.prog.keyLits (d + 2) 53 (kV f t).cells.toList = some [.int .i64 (f : Int), .int .i64 (t : Int)] := fun d => by
    have hr : List.range 2 = [0, 1] := rfl
    unfold kV
    simp [Program.keyLits, hr, Tryd.underlying53, Tryd.underlying3, c1, c2, h1, h2, Value.cells]
  obtain ⟨d, hd⟩ : ∃ d, Tryd.prog.types.size + 1 = d + 2 := ⟨_, rfl⟩
  unfold keyOf
  rw [Tryd.underlying53]
  simp only [h3, h4, hd, h5, Bool.and_self, if_true, Option.map_some]
  rfl

theorem kL_inj {f t f' t' : Nat} (hf : f ≤ 1000) (ht : t ≤ 1000) (hf' : f' ≤ 1000) (ht' : t' ≤ 1000) (h : kL f t = kL f' t') : f = f' ∧ t = t' := by
  have h1 := kOf hf ht
  have h2 := kOf hf' ht'
  rw [← h] at h2
  have h3 := lawK.inj h1 h2
  unfold kV at h3
  simp at h3
  omega

/-- How a row of bests reads: by its block. -/
def sElem (N : Nat) : Value → Option (DataW Unit × List MemPlace)
  | .slice none 0 0 => some (.lit (.int .i64 (-1)), [])
  | .slice (some ⟨b, 0, none⟩) n c => if n = N ∧ c = N then some (.lit (.int .i64 (b : Int)), []) else none
  | _ => none
def rowV (N : Nat) : Option Nat → Value
  | none => .slice none 0 0
  | some g => .slice (some ⟨g, 0, none⟩) N N
def enB : Option Nat → Int
  | none => -1
  | some g => (g : Int)
theorem sElem_row (N : Nat) (o : Option Nat) : sElem N (rowV N o) = some (.lit (.int .i64 (enB o)), []) := by
  cases o with
  | none => rfl
  | some g => simp [rowV, sElem, enB]
theorem sElem_inv {N : Nat} {v : Value} {o : Option Nat} {ps : List MemPlace} (h : sElem N v = some (.lit (.int .i64 (enB o)), ps)) : v = rowV N o := by
  unfold sElem at h
  split at h
  · cases o with
    | none => rfl
    | some g => simp [enB] at h
  · rename_i b n c
    split at h
    · rename_i hnc
      obtain ⟨rfl, rfl⟩ := hnc
      cases o with
      | none => simp [enB] at h
      | some g =>
        simp [enB] at h
        have : b = g := by omega
        subst this
        rfl
    · cases h
  · cases h

/-- Block g holds N bests. -/
def BtB (w : World) (g N : Nat) (β : Nat → Bs) : Prop :=
  ∃ cs : List Value, Blk w g 51 cs ∧ cs.length = N * 4 ∧ ∀ X, X < N → ∃ v0 v1 v2 v3, cs[X * 4]? = some v0 ∧ cs[X * 4 + 1]? = some v1 ∧ cs[X * 4 + 2]? = some v2 ∧ cs[X * 4 + 3]? = some v3 ∧ BsT w (.agg #[v0, v1, v2, v3]) (β X)
section
variable {w w' : World} {g N : Nat} {β : Nat → Bs}
theorem BtB.lt (h : BtB w g N β) : g < w.heap.size := by obtain ⟨cs, h, _⟩ := h; exact h.lt
theorem BtB.at_ (h : BtB w g N β) {X : Nat} (hX : X < N) : ∃ k c n A l cap, w.cell? ⟨g, X * 4, none⟩ = some (.bool k) ∧ w.cell? ⟨g, X * 4 + 1, none⟩ = some (.int .i64 c) ∧ w.cell? ⟨g, X * 4 + 2, none⟩ = some (.int .i64 n) ∧ w.cell? ⟨g, X * 4 + 3, none⟩ = some (.slice A l cap) ∧ BsT w (.agg #[.bool k, .int .i64 c, .int .i64 n, .slice A l cap]) (β X) := by
  obtain ⟨cs, hb, hl, hc⟩ := h
  obtain ⟨v0, v1, v2, v3, h0, h1, h2, h3, h4⟩ := hc X hX
  obtain ⟨k, c, n, A, l, cap, e⟩ := h4.form
  simp only [Value.agg.injEq, Array.mk.injEq, List.cons.injEq, and_true] at e
  obtain ⟨rfl, rfl, rfl, rfl⟩ := e
  exact ⟨k, c, n, A, l, cap, hb.cell h0, hb.cell h1, hb.cell h2, hb.cell h3, h4⟩
theorem BtB.frozen (h : BtB w g N β) (i : Nat) : w.frozen? ⟨g, i, none⟩ = false := by obtain ⟨cs, h, _⟩ := h; exact h.frozen i
theorem BtB.keep (h : BtB w g N β) (hg : w'.heap[g]? = w.heap[g]?) (hk : ∀ (b : Nat) (arr : Array Value) (cur : Nat × Nat), w.heap[b]? = some (.cells arr 3 cur) → w'.heap[b]? = w.heap[b]?) : BtB w' g N β := by
  obtain ⟨cs, hb, hl, hc⟩ := h
  refine ⟨cs, hg.trans hb, hl, fun X hX => ?_⟩
  obtain ⟨v0, v1, v2, v3, h0, h1, h2, h3, h4⟩ := hc X hX
  exact ⟨v0, v1, v2, v3, h0, h1, h2, h3, h4.keep hk⟩
theorem BtB.below (h : BtB w g N β) (hb : Below w.heap.size w w') : BtB w' g N β := h.keep (hb.block g h.lt) fun b arr cur hc => hb.block b (Array.getElem?_eq_some_iff.1 hc).1
theorem BtB.congr {γ : Nat → Bs} (h : BtB w g N β) (e : ∀ X, X < N → β X = γ X) : BtB w g N γ := by
  obtain ⟨cs, hb, hl, hc⟩ := h
  refine ⟨cs, hb, hl, fun X hX => ?_⟩
  rw [← e X hX]
  exact hc X hX
theorem int_ne_best {w : World} {g b : Nat} {cs : List Value} {arr : Array Value} {cur : Nat × Nat} (h : Blk w g 51 cs) (hb : w.heap[b]? = some (.cells arr 3 cur)) : b ≠ g := by
  rintro rfl
  unfold Blk at h
  rw [h] at hb
  simp at hb
/-- A best more. -/
theorem BtB.put (h : BtB w g N β) {X : Nat} (hX : X < N) {b : Bs} {v0 v1 v2 v3 : Value} (hv : BsT w (.agg #[v0, v1, v2, v3]) b) :
    BtB ((((w.setCell ⟨g, X * 4, none⟩ v0).setCell ⟨g, X * 4 + 1, none⟩ v1).setCell ⟨g, X * 4 + 2, none⟩ v2).setCell ⟨g, X * 4 + 3, none⟩ v3) g N (fun Y => if Y = X then b else β Y) := by
  obtain ⟨cs, hb, hl, hc⟩ := h
  have hk : ∀ (b : Nat) (arr : Array Value) (cur : Nat × Nat), w.heap[b]? = some (.cells arr 3 cur) → ((((w.setCell ⟨g, X * 4, none⟩ v0).setCell ⟨g, X * 4 + 1, none⟩ v1).setCell ⟨g, X * 4 + 2, none⟩ v2).setCell ⟨g, X * 4 + 3, none⟩ v3).heap[b]? = w.heap[b]? := fun b arr cur hbb => by
    have hne := int_ne_best hb hbb
    rw [Below.heap_setCell _ _ _ _ hne, Below.heap_setCell _ _ _ _ hne, Below.heap_setCell _ _ _ _ hne, Below.heap_setCell _ _ _ _ hne]
  refine ⟨_, (((hb.set_ (X * 4) v0).set_ (X * 4 + 1) v1).set_ (X * 4 + 2) v2).set_ (X * 4 + 3) v3, by simp [hl], fun Y hY => ?_⟩
  by_cases e : Y = X
  · subst e
    rw [show (fun Z => if Z = Y then b else β Z) Y = b from if_pos rfl]
    refine ⟨v0, v1, v2, v3, ?_, ?_, ?_, ?_, hv.keep hk⟩ <;> simp [List.getElem?_set] <;> omega
  · rw [show (fun Z => if Z = X then b else β Z) Y = β Y from if_neg e]
    obtain ⟨u0, u1, u2, u3, h0, h1, h2, h3, h4⟩ := hc Y hY
    refine ⟨u0, u1, u2, u3, ?_, ?_, ?_, ?_, h4.keep hk⟩
    all_goals
      rw [List.getElem?_set_ne (by omega), List.getElem?_set_ne (by omega), List.getElem?_set_ne (by omega), List.getElem?_set_ne (by omega)]
      assumption
end

/-- A new row of bests: none is there. -/
def bz (N : Nat) : Array Value := madeCells #[.bool false, .int .i64 0, .int .i64 0, .slice none 0 0] (N * 4)
theorem bz_get {N X i : Nat} (hX : X < N) (hi : i < 4) : (bz N).toList[X * 4 + i]? = some (#[Value.bool false, .int .i64 0, .int .i64 0, .slice none 0 0][i]!) := by
  have h : X * 4 + i < N * 4 := by omega
  have e : (X * 4 + i) % 4 = i := by omega
  unfold bz madeCells
  simp [h, e]
theorem elBt : ElTy Tryd.prog 52 51 4 48 (.agg #[.bool false, .int .i64 0, .int .i64 0, .slice none 0 0]) := ⟨Tryd.underlying52, by kernel_rfl, rfl, by decide⟩
theorem mk_bests (N : Nat) (k : Int) (hk : k = (N : Int)) (hN : N ≤ 1000) (w : World) : (Instr.makeSlice 52 (.int .i64 k) (.int .i64 k)).run Tryd.prog w = .ok (.slice (some ⟨w.heap.size, 0, none⟩) N N) (w.alloc (.cells (bz N) 51)) := by
  subst hk
  obtain ⟨i, hi, hz, hsz, hby⟩ := info_parts elBt.hi
  have h := run_make (P := Tryd.prog) w 52 51 i _ elBt.ht hi hz .i64 .i64 N N (by omega) (Int.le_refl _) (by rw [hby]; omega) (by omega)
  rw [h, hsz]
  rfl
theorem BtB.made (w : World) (N : Nat) : BtB (w.alloc (.cells (bz N) 51)) w.heap.size N (fun _ => none) := by
  refine ⟨(bz N).toList, heap_alloc_new w _, by unfold bz; simp [size_madeCells], fun X hX => ⟨_, _, _, _, bz_get (i := 0) hX (by omega), bz_get (i := 1) hX (by omega), bz_get (i := 2) hX (by omega), bz_get (i := 3) hX (by omega), rfl⟩⟩

/-- Map bM leads from places to rows of N bests: M. -/
structure ChM (w : World) (bM N n lo : Nat) (γ : Nat → Nat → Option Nat) (M : BCh) : Prop where
  o : ∃ D, w.ownsMap Tryd.prog 53 (sElem N) bM n D ∧ ∀ f t, f ≤ 1000 → t ≤ 1000 → D.atKey (kL f t) (.lit (.int .i64 (-1))) = .lit (.int .i64 (enB (γ f t)))
  i : ∀ f t g, f ≤ 1000 → t ≤ 1000 → γ f t = some g → BtB w g N (fun X => M X f t)
  z : ∀ f t X, f ≤ 1000 → t ≤ 1000 → γ f t = none → X < N → M X f t = none
  d : ∀ f t f' t' g, f ≤ 1000 → t ≤ 1000 → f' ≤ 1000 → t' ≤ 1000 → γ f t = some g → γ f' t' = some g → f = f' ∧ t = t'
  ne : ∀ f t g, f ≤ 1000 → t ≤ 1000 → γ f t = some g → g ≠ bM ∧ lo ≤ g
  lb : lo ≤ bM
section
variable {w w' : World} {bM N n lo : Nat} {γ : Nat → Nat → Option Nat} {M M' : BCh}
theorem owns_of_block {P : Program} {k : TypeId} {R : Value → Option (DataW Unit × List MemPlace)} {w w' : World} {b n : Nat} {D : DataW Unit} (h : w.ownsMap P k R b n D) (e : w'.heap[b]? = w.heap[b]?) : w'.ownsMap P k R b n D := by
  obtain ⟨es, clock, hb, F, hs, hD⟩ := h
  exact ⟨es, clock, e.trans hb, F, hs, hD⟩
theorem ChM.lt (h : ChM w bM N n lo γ M) : bM < w.heap.size := by obtain ⟨D, hD, _⟩ := h.o; exact hD.lt
theorem ChM.glt (h : ChM w bM N n lo γ M) {f t g : Nat} (hf : f ≤ 1000) (ht : t ≤ 1000) (hg : γ f t = some g) : g < w.heap.size := (h.i f t g hf ht hg).lt
theorem ChM.keep (h : ChM w bM N n lo γ M) (e : ∀ k : Nat, (k = bM ∨ ∃ f t, f ≤ 1000 ∧ t ≤ 1000 ∧ γ f t = some k) → w'.heap[k]? = w.heap[k]?) (hk : ∀ (b : Nat) (arr : Array Value) (cur : Nat × Nat), w.heap[b]? = some (.cells arr 3 cur) → w'.heap[b]? = w.heap[b]?) : ChM w' bM N n lo γ M := by
  obtain ⟨D, hD, hD2⟩ := h.o
  exact ⟨⟨D, owns_of_block hD (e _ (.inl rfl)), hD2⟩, fun f t g hf ht hg => (h.i f t g hf ht hg).keep (e _ (.inr ⟨f, t, hf, ht, hg⟩)) hk, h.z, h.d, h.ne, h.lb⟩
theorem ChM.below (h : ChM w bM N n lo γ M) (hb : Below w.heap.size w w') : ChM w' bM N n lo γ M := h.keep (fun k hk => hb.block k (by rcases hk with rfl | ⟨f, t, hf, ht, hg⟩; exact h.lt; exact h.glt hf ht hg)) fun b arr cur hc => hb.block b (Array.getElem?_eq_some_iff.1 hc).1
theorem ChM.mono (h : ChM w bM N n lo γ M) {n' : Nat} (hn : n ≤ n') : ChM w bM N n' lo γ M := by
  obtain ⟨D, hD, hD2⟩ := h.o
  exact ⟨⟨D, hD.mono hn, hD2⟩, h.i, h.z, h.d, h.ne, h.lb⟩
theorem ChM.congr (h : ChM w bM N n lo γ M) (e : ∀ X f t, X < N → f ≤ 1000 → t ≤ 1000 → M X f t = M' X f t) : ChM w bM N n lo γ M' :=
  ⟨h.o, fun f t g hf ht hg => (h.i f t g hf ht hg).congr fun X hX => e X f t hX hf ht, fun f t X hf ht hz hX => by rw [← e X f t hX hf ht]; exact h.z f t X hf ht hz hX, h.d, h.ne, h.lb⟩
theorem ChM.made (w : World) (N : Nat) {lo : Nat} (hlo : lo ≤ w.heap.size) : ChM (w.alloc (.map #[] 0)) w.heap.size N 0 lo (fun _ _ => none) (fun _ _ _ => none) :=
  ⟨⟨_, World.ownsMap_made _ _ _ _, fun f t _ _ => rfl⟩, (fun f t g _ _ h => by cases h), fun _ _ _ _ _ _ _ => rfl, (fun f t f' t' g _ _ _ _ h => by cases h), (fun f t g _ _ h => by cases h), hlo⟩
/-- What a look gives. -/
theorem ChM.look (h : ChM w bM N n lo γ M) {f t : Nat} (hf : f ≤ 1000) (ht : t ≤ 1000) : (Instr.lookup 46 (.map (some bM)) (.agg #[.int .i64 (f : Int), .int .i64 (t : Int)]) false).run Tryd.prog w = .ok (rowV N (γ f t)) w := by
  obtain ⟨D, hD, hD2⟩ := h.o
  obtain ⟨v, ps, hrun, hv⟩ := hD.lookup (t := 46) (e := 52) lawK Tryd.underlying46 (z := .slice none 0 0) (by rfl) (zd := .lit (.int .i64 (-1))) (zp := []) rfl (kOf hf ht)
  rw [hD2 f t hf ht] at hv
  have e := sElem_inv hv
  subst e
  exact hrun
/-- A new row at a pair of places. -/
theorem ChM.putO (h : ChM w bM N n lo γ M) {f t : Nat} (hf : f ≤ 1000) (ht : t ≤ 1000) (hn : n < 100000) (hz : γ f t = none) (hlo : lo ≤ w.heap.size) :
    ∃ w', (Instr.mapUpdate 46 (.map (some bM)) (.agg #[.int .i64 (f : Int), .int .i64 (t : Int)]) (.slice (some ⟨w.heap.size, 0, none⟩) N N)).run Tryd.prog (w.alloc (.cells (bz N) 51)) = .ok () w' ∧ ChM w' bM N (n + 1) lo (fun a c => if a = f ∧ c = t then some w.heap.size else γ a c) M ∧ (w.alloc (.cells (bz N) 51)).grownBy w' (some bM) := by
  have hb0 : Below w.heap.size w (w.alloc (.cells (bz N) 51)) := (Below.refl _ _).alloc (Nat.le_refl _) _
  have h1 := h.below hb0
  obtain ⟨D, hD, hD2⟩ := h1.o
  obtain ⟨w', hrun, hD', hg⟩ := hD.update (t := 46) (e := 52) lawK Tryd.underlying46 (by unfold maxLen; omega) (kOf hf ht) (val := .slice (some ⟨w.heap.size, 0, none⟩) N N) (d := .lit (.int .i64 (w.heap.size : Int))) (ps := []) (by simp [sElem])
  have hbl := h.lt
  have hmade := BtB.made w N
  have hkeep : ∀ (b : Nat) (arr : Array Value) (cur : Nat × Nat), (w.alloc (.cells (bz N) 51)).heap[b]? = some (.cells arr 3 cur) → w'.heap[b]? = (w.alloc (.cells (bz N) 51)).heap[b]? := fun b arr cur hc => hg.block b (Array.getElem?_eq_some_iff.1 hc).1 (fun e => by
    simp only [Option.some.injEq] at e
    subst e
    obtain ⟨es, clock, hb2, _⟩ := hD
    rw [hb2] at hc
    cases hc)
  refine ⟨w', hrun, ⟨⟨_, hD', fun a c ha hc => ?_⟩, fun a c g ha hc hg2 => ?_, fun a c X ha hc hz2 hX => ?_, fun a c a' c' g ha hc ha' hc' h2 h3 => ?_, fun a c g ha hc h2 => ?_, h.lb⟩, hg⟩
  · by_cases e : a = f ∧ c = t
    · obtain ⟨rfl, rfl⟩ := e
      rw [if_pos ⟨rfl, rfl⟩, atKey_put_same hD.isMap (by exact trivial)]
      rfl
    · rw [if_neg e, atKey_put_other (fun q => e (kL_inj ha hc hf ht q))]
      exact hD2 a c ha hc
  · by_cases e : a = f ∧ c = t
    · obtain ⟨rfl, rfl⟩ := e
      rw [if_pos ⟨rfl, rfl⟩] at hg2
      cases hg2
      exact (hmade.congr (fun X hX => (h.z a c X hf ht hz hX).symm)).keep (hg.block _ (by simp) (by simp; omega)) hkeep
    · rw [if_neg e] at hg2
      have hb2 := h1.i a c g ha hc hg2
      exact hb2.keep (hg.block _ hb2.lt (by simp; exact (h.ne a c g ha hc hg2).1)) hkeep
  · by_cases e : a = f ∧ c = t
    · rw [if_pos e] at hz2; cases hz2
    · rw [if_neg e] at hz2; exact h.z a c X ha hc hz2 hX
  · by_cases e : a = f ∧ c = t
    · by_cases e2 : a' = f ∧ c' = t
      · omega
      · rw [if_pos e] at h2; rw [if_neg e2] at h3; cases h2
        have := h.glt ha' hc' h3; omega
    · rw [if_neg e] at h2
      by_cases e2 : a' = f ∧ c' = t
      · rw [if_pos e2] at h3; cases h3
        have := h.glt ha hc h2; omega
      · rw [if_neg e2] at h3; exact h.d a c a' c' g ha hc ha' hc' h2 h3
  · by_cases e : a = f ∧ c = t
    · rw [if_pos e] at h2; cases h2; exact ⟨by omega, hlo⟩
    · rw [if_neg e] at h2; exact h.ne a c g ha hc h2
/-- A best more in a row. -/
theorem ChM.putI (h : ChM w bM N n lo γ M) {f t g X : Nat} (hf : f ≤ 1000) (ht : t ≤ 1000) (hg : γ f t = some g) (hX : X < N) {b : Bs} {v0 v1 v2 v3 : Value} (hv : BsT w (.agg #[v0, v1, v2, v3]) b) :
    ChM ((((w.setCell ⟨g, X * 4, none⟩ v0).setCell ⟨g, X * 4 + 1, none⟩ v1).setCell ⟨g, X * 4 + 2, none⟩ v2).setCell ⟨g, X * 4 + 3, none⟩ v3) bM N n lo γ (updB M X f t b) := by
  have hbg := h.i f t g hf ht hg
  have hne := (h.ne f t g hf ht hg).1
  have hfar : ∀ k : Nat, k ≠ g → ((((w.setCell ⟨g, X * 4, none⟩ v0).setCell ⟨g, X * 4 + 1, none⟩ v1).setCell ⟨g, X * 4 + 2, none⟩ v2).setCell ⟨g, X * 4 + 3, none⟩ v3).heap[k]? = w.heap[k]? := fun k hk => by
    rw [Below.heap_setCell _ _ _ _ hk, Below.heap_setCell _ _ _ _ hk, Below.heap_setCell _ _ _ _ hk, Below.heap_setCell _ _ _ _ hk]
  have hk : ∀ (b : Nat) (arr : Array Value) (cur : Nat × Nat), w.heap[b]? = some (.cells arr 3 cur) → ((((w.setCell ⟨g, X * 4, none⟩ v0).setCell ⟨g, X * 4 + 1, none⟩ v1).setCell ⟨g, X * 4 + 2, none⟩ v2).setCell ⟨g, X * 4 + 3, none⟩ v3).heap[b]? = w.heap[b]? := fun b arr cur hbb => by
    obtain ⟨cs, hb, _⟩ := hbg
    exact hfar b (int_ne_best hb hbb)
  obtain ⟨D, hD, hD2⟩ := h.o
  refine ⟨⟨D, owns_of_block hD (hfar bM hne.symm), hD2⟩, fun a c g' ha hc hg2 => ?_, fun a c Y ha hc hz2 hY => ?_, h.d, h.ne, h.lb⟩
  · by_cases e : a = f ∧ c = t
    · obtain ⟨rfl, rfl⟩ := e
      rw [hg] at hg2
      cases hg2
      refine (hbg.put hX hv).congr fun Y hY => ?_
      by_cases e2 : Y = X
      · subst e2; rw [if_pos rfl, updB_at]
      · rw [if_neg e2, updB_off (.inl e2)]
    · have hne2 : g' ≠ g := fun q => by subst q; exact e (h.d a c f t g' ha hc hf ht hg2 hg)
      refine ((h.i a c g' ha hc hg2).keep (hfar g' hne2) hk).congr fun Y hY => ?_
      rw [updB_off (by omega)]
  · rw [updB_off]
    · exact h.z a c Y ha hc hz2 hY
    · by_cases e : a = f ∧ c = t
      · obtain ⟨rfl, rfl⟩ := e
        rw [hg] at hz2; cases hz2
      · omega
end
end Go.Proofs.YtklhjaohnimmnaaDoor
namespace Go.Proofs.YtklhjaohnimmnaaDoor
open Go.RowKit BigFrame Go.Maps
set_option linter.unusedVariables false
set_option linter.unusedSimpArgs false
set_option maxRecDepth 100000

theorem MdIn.below {w w' : World} {B m : Nat} {G : Gr} {Ap Al As : Option Addr} {np cp nl cl ns cs : Nat} {D : Md} {A1 A2 A3 A4 : Option Addr} {n1 c1 n2 c2 n3 c3 n4 c4 bM : Nat} (h : MdIn w B m G Ap Al As np cp nl cl ns cs D A1 A2 A3 A4 n1 c1 n2 c2 n3 c3 n4 c4 bM) (hb : Below w.heap.size w w') (hB : B ≤ w.heap.size) : MdIn w' B m G Ap Al As np cp nl cl ns cs D A1 A2 A3 A4 n1 c1 n2 c2 n3 c3 n4 c4 bM :=
  { h with b := h.b.below' hb, p := h.p.below (hb.mono hB), l := h.l.below (hb.mono hB), i := h.i.below (hb.mono hB), s := h.s.below hb }
theorem BsT.set4 {w : World} {v : Value} {b : Bs} (h : BsT w v b) {g : Nat} {cs : List Value} (hg : Blk w g 51 cs) (i0 i1 i2 i3 : Nat) (u0 u1 u2 u3 : Value) :
    BsT ((((w.setCell ⟨g, i0, none⟩ u0).setCell ⟨g, i1, none⟩ u1).setCell ⟨g, i2, none⟩ u2).setCell ⟨g, i3, none⟩ u3) v b := h.keep fun k arr cur hk => by
  have hne := int_ne_best hg hk
  rw [Below.heap_setCell _ _ _ _ hne, Below.heap_setCell _ _ _ _ hne, Below.heap_setCell _ _ _ _ hne, Below.heap_setCell _ _ _ _ hne]
theorem bel_set4 {B : Nat} {w0 w : World} (h : Below B w0 w) {g : Nat} (hg : B ≤ g) (i0 i1 i2 i3 : Nat) (u0 u1 u2 u3 : Value) :
    Below B w0 ((((w.setCell ⟨g, i0, none⟩ u0).setCell ⟨g, i1, none⟩ u1).setCell ⟨g, i2, none⟩ u2).setCell ⟨g, i3, none⟩ u3) := (((h.setCell (p := ⟨g, i0, none⟩) hg _).setCell (p := ⟨g, i1, none⟩) hg _).setCell (p := ⟨g, i2, none⟩) hg _).setCell (p := ⟨g, i3, none⟩) hg _

theorem BtB.far4 {w : World} {g g' N N' : Nat} {β β' : Nat → Bs} (h : BtB w g N β) (h' : BtB w g' N' β') (hne : g ≠ g') (i0 i1 i2 i3 : Nat) (u0 u1 u2 u3 : Value) :
    BtB ((((w.setCell ⟨g', i0, none⟩ u0).setCell ⟨g', i1, none⟩ u1).setCell ⟨g', i2, none⟩ u2).setCell ⟨g', i3, none⟩ u3) g N β := by
  obtain ⟨cs, hb, _⟩ := h'
  have hfar : ∀ k : Nat, k ≠ g' → ((((w.setCell ⟨g', i0, none⟩ u0).setCell ⟨g', i1, none⟩ u1).setCell ⟨g', i2, none⟩ u2).setCell ⟨g', i3, none⟩ u3).heap[k]? = w.heap[k]? := fun k hk => by
    rw [Below.heap_setCell _ _ _ _ hk, Below.heap_setCell _ _ _ _ hk, Below.heap_setCell _ _ _ _ hk, Below.heap_setCell _ _ _ _ hk]
  exact h.keep (hfar g hne) fun b arr cur hc => hfar b (int_ne_best hb hc)

set_option maxHeartbeats 2000000 in
theorem symbol_any (G : Gr) (Ap Al As : Option Addr) (np cp nl cl ns cs : Nat) (D : Md) (A1 A2 A3 A4 : Option Addr) (n1 c1 n2 c2 n3 c3 n4 c4 bM m : Nat) (w : World) (B : Nat) (hB : B ≤ w.heap.size) (hM : MdIn w B m G Ap Al As np cp nl cl ns cs D A1 A2 A3 A4 n1 c1 n2 c2 n3 c3 n4 c4 bM)
    (N n lo : Nat) (γ : Nat → Nat → Option Nat) (M : BCh) (hC : ChM w bM N n lo γ M) (hN : N ≤ 300) (s : Int) (f u : Nat) (hs1 : s < 0 → (-1 - s).toNat < N) (hs2 : 0 ≤ s → s.toNat < n1 ∧ s.toNat < n2) (hf : f ≤ u) (hu : u ≤ n3) :
    Calls Tryd.prog 40 #[.pointer (some ⟨m, 0, none⟩), .int .i64 s, .int .i64 (f : Int), .int .i64 (u : Int)] w fun e w' => ∃ v, e = .returned v ∧ BsT w' v (symB (nthI D.P) (nthI D.L) M D.I s f u) ∧ Below w.heap.size w w' := by
  obtain ⟨w1, hw1⟩ : ∃ w1, w1 = w.alloc (.cells #[.bool false, .int .i64 0, .int .i64 0, .slice none 0 0] 51) := ⟨_, rfl⟩
  have hb1 : Below w.heap.size w w1 := by rw [hw1]; exact (Below.refl _ _).alloc (Nat.le_refl _) _
  have hk1 : Blk w1 w.heap.size 51 [.bool false, .int .i64 0, .int .i64 0, .slice none 0 0] := by rw [hw1]; exact Blk.new w 51 [.bool false, .int .i64 0, .int .i64 0, .slice none 0 0]
  have hM1 := hM.below hb1 hB
  have hs := hb1.size
  by_cases h0 : 0 ≤ s
  · as_aux_lemma =>
      obtain ⟨x, rfl⟩ := Int.eq_ofNat_of_zero_le h0
      obtain ⟨q1, q2⟩ := hs2 h0
      rw [Int.toNat_natCast] at q1 q2
      have HC := Lib.hid (terminal_any G Ap Al As np cp nl cl ns cs D A1 A2 A3 A4 n1 c1 n2 c2 n3 c3 n4 c4 bM m w1 B (Nat.le_trans hB hs) hM1 x f u q1 q2 hf hu)
      have HE : Hid (symB (nthI D.P) (nthI D.L) M D.I (x : Int) f u = termB (nthI D.P) (nthI D.L) (x : Int) (sub D.I f u)) := Lib.hid (by unfold symB; rw [if_neg (by omega)])
      have HK := Lib.hid hk1; have HB := Lib.hid hb1
      have d1 : decide ((0 : Int) ≤ (x : Int)) = true := decide_eq_true h0
      clear hM hM1 hC hk1 hb1 hs hs1 hs2 h0
      go_enter Tryd.func40, Tryd.ntmps40
      go_wp2_with fail
      rw [← hw1]
      clear hw1
      refine HC.out.mono ?_
      rintro e w2 ⟨v, rfl, hv, hb2⟩
      obtain ⟨k, c, n, A, l, cap, rfl⟩ := hv.form
      have hk2 := HK.out.below' hb2
      have hb3 : Below w.heap.size w w2 := HB.out.trans (hb2.mono HB.out.size)
      have z0 := hk2.cell (i := 0) rfl
      have z1 := hk2.cell (i := 1) rfl
      have z2 := hk2.cell (i := 2) rfl
      have z3 := hk2.cell (i := 3) rfl
      have f0 := hk2.frozen 0
      have f1 := hk2.frozen 1
      have f2 := hk2.frozen 2
      have f3 := hk2.frozen 3
      have HV := Lib.hid hv; have HK2 := Lib.hid hk2; have HB3 := Lib.hid hb3
      clear hv hk2 hb3 hb2 HC HK HB
      go_wp2_with fail
      have hk3 := (((HK2.out.set_ 0 (.bool k)).set_ 1 (.int .i64 c)).set_ 2 (.int .i64 n)).set_ 3 (.slice A l cap)
      refine bodyPost_ret (results_cell_row rfl _ _ w.heap.size _ #[.bool k, .int .i64 c, .int .i64 n, .slice A l cap] _ _ rfl hk3 Tryd.underlying51 rfl (by kernel_rfl)) rfl ?_
      rw [HE.out]
      exact ⟨_, rfl, HV.out.set4 HK2.out _ _ _ _ _ _ _ _, bel_set4 HB3.out (Nat.le_refl _) _ _ _ _ _ _ _ _⟩
  · as_aux_lemma =>
      have hm3 := hM.m3
      have d1 : decide ((0 : Int) ≤ s) = false := decide_eq_false h0
      have hX := hs1 (by omega)
      obtain ⟨X, hXe⟩ : ∃ X, X = (-1 - s).toNat := ⟨_, rfl⟩
      rw [← hXe] at hX
      have hts : -1 - s = (X : Int) := by omega
      have hC1 := hC.below hb1
      have hrun := hC1.look (f := f) (t := u) (by omega) (by omega)
      have x10 := hM1.b.cell (i := 10) rfl
      have HE : Hid (symB (nthI D.P) (nthI D.L) M D.I s f u = M X f u) := Lib.hid (by unfold symB; rw [if_pos (by omega), ← hXe])
      have HK := Lib.hid hk1; have HB := Lib.hid hb1
      cases hγ : γ f u with
      | none =>
        rw [hγ] at hrun
        have HZ := Lib.hid (hC.z f u X (by omega) (by omega) hγ hX)
        have z0 := hk1.cell (i := 0) rfl
        have z1 := hk1.cell (i := 1) rfl
        have z2 := hk1.cell (i := 2) rfl
        have z3 := hk1.cell (i := 3) rfl
        have f0 := hk1.frozen 0
        have f1 := hk1.frozen 1
        have f2 := hk1.frozen 2
        have f3 := hk1.frozen 3
        unfold rowV at hrun
        rw [hw1] at hrun x10 z0 z1 z2 z3 f0 f1 f2 f3
        clear hM hM1 hC hC1 hk1 hb1 hs hs1 hs2 hγ hXe h0
        have hnil : ∀ w : World, (binOp .eql 52 (.slice none 0 0) (.slice none 0 0)).run Tryd.prog w = .ok (.bool true) w := fun _ => rfl
        go_enter Tryd.func40, Tryd.ntmps40
        go_wp2_with fail
        rw [← hw1]
        refine bodyPost_ret (results_cell_row rfl _ _ w.heap.size _ #[.bool false, .int .i64 0, .int .i64 0, .slice none 0 0] _ _ rfl HK.out Tryd.underlying51 rfl (by kernel_rfl)) rfl ?_
        rw [HE.out, HZ.out]
        exact ⟨_, rfl, rfl, HB.out⟩
      | some g =>
        rw [hγ] at hrun
        have hbt := hC1.i f u g (by omega) (by omega) hγ
        obtain ⟨k, c, n, A, l, cap, y0, y1, y2, y3, hv⟩ := hbt.at_ hX
        have f0 := hk1.frozen 0
        have f1 := hk1.frozen 1
        have f2 := hk1.frozen 2
        have f3 := hk1.frozen 3
        have z0 := hk1.cell (i := 0) rfl
        have z1 := hk1.cell (i := 1) rfl
        have z2 := hk1.cell (i := 2) rfl
        have z3 := hk1.cell (i := 3) rfl
        obtain ⟨k', c', n', A', l', cap', x0, x1, x2, x3, hv'⟩ := (hC.i f u g (by omega) (by omega) hγ).at_ hX
        have HV : Hid (BsT w (.agg #[.bool k, .int .i64 c, .int .i64 n, .slice A l cap]) (M X f u)) := Lib.hid (by
          have hlt := hC.glt (f := f) (t := u) (by omega) (by omega) hγ
          rw [(hb1.cell (p := ⟨g, X * 4, none⟩) hlt), x0] at y0
          rw [(hb1.cell (p := ⟨g, X * 4 + 1, none⟩) hlt), x1] at y1
          rw [(hb1.cell (p := ⟨g, X * 4 + 2, none⟩) hlt), x2] at y2
          rw [(hb1.cell (p := ⟨g, X * 4 + 3, none⟩) hlt), x3] at y3
          cases y0; cases y1; cases y2; cases y3
          exact hv')
        clear x0 x1 x2 x3 hv'
        unfold rowV at hrun
        rw [hw1] at hrun x10 z0 z1 z2 z3 f0 f1 f2 f3 y0 y1 y2 y3
        clear hM hM1 hC hC1 hk1 hb1 hs hs1 hs2 hγ hXe h0 hv hbt
        have hnil : ∀ w : World, (binOp .eql 52 (.slice (some ⟨g, 0, none⟩) N N) (.slice none 0 0)).run Tryd.prog w = .ok (.bool false) w := fun _ => rfl
        go_enter Tryd.func40, Tryd.ntmps40
        go_wp2_with fail
        refine bodyPost_ret (results_cell_row rfl _ _ w.heap.size _ #[.bool k, .int .i64 c, .int .i64 n, .slice A l cap] _ _ rfl (Blk.new w 51 [.bool k, .int .i64 c, .int .i64 n, .slice A l cap]) Tryd.underlying51 rfl (by kernel_rfl)) rfl ?_
        rw [HE.out]
        exact ⟨_, rfl, HV.out.below ((Below.refl _ _).alloc (Nat.le_refl _) _), (Below.refl _ _).alloc (Nat.le_refl _) _⟩
end Go.Proofs.YtklhjaohnimmnaaDoor
