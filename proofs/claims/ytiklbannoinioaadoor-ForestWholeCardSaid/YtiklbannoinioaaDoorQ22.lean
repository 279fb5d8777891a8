/- The protocol between an iterator and the loop over it: what each may turn; the loop's law. · The leaves' iterator. · The rows' iterator. -/
import Derived.RangeFuncNested
import Derived.RangeFuncCalls
import Derived.RangeFuncBound
import Derived.RangeFuncLeaves
import Derived.Test.YtiklbannoinioaaDoorQ1
import Derived.Test.YtiklbannoinioaaDoorQ8
import Derived.OwnWalkIn
import Derived.TacticsInMore
import Derived.LoopNIn
import Derived.LoopIn
import Derived.Shelf.Abstract
import Derived.Shelf.RegionOpen
import Derived.Test.YtiklbannoinioaaDoorQ7
import Derived.Deep.Cut
namespace Go.Proofs.YtiklbannoinioaaDoor
open Go Go.RowKit
set_option linter.unusedVariables false

/-- X: blocks that the consumer may turn; R: blocks that nobody turns any more; m: the block that both turn, and hand over as it was. -/
structure Sep (m : Nat) (X R : Nat → Prop) (W : World) : Prop where
  xs : ∀ k, X k → k < W.heap.size
  rs : ∀ k, R k → k < W.heap.size
  xr : ∀ k, X k → ¬ R k
  xm : ¬ X m
  rm : ¬ R m
  ms : m < W.heap.size
/-- What a consumer does between two worlds. -/
structure Gro (m : Nat) (X R : Nat → Prop) (W : World) (X' R' : Nat → Prop) (W' : World) : Prop where
  x : ∀ k, X' k → X k ∨ W.heap.size ≤ k
  r1 : ∀ k, R k → R' k
  r2 : ∀ k, R' k → R k ∨ W.heap.size ≤ k
  kp : Kp (fun k => X k ∨ k = m) W W'
  sep : Sep m X' R' W'
section
variable {m : Nat} {X R X' R' X'' R'' : Nat → Prop} {W W' W'' : World}
theorem Sep.keep (h : Sep m X R W) (hs : W.heap.size ≤ W'.heap.size) : Sep m X R W' := ⟨fun k q => Nat.lt_of_lt_of_le (h.xs k q) hs, fun k q => Nat.lt_of_lt_of_le (h.rs k q) hs, h.xr, h.xm, h.rm, Nat.lt_of_lt_of_le h.ms hs⟩
theorem Gro.refl (h : Sep m X R W) : Gro m X R W X R W := ⟨fun _ q => .inl q, fun _ q => q, fun _ q => .inl q, Kp.refl _ _, h⟩
theorem Gro.trans (h : Gro m X R W X' R' W') (k : Gro m X' R' W' X'' R'' W'') : Gro m X R W X'' R'' W'' :=
  ⟨fun j q => by
    rcases k.x j q with q | q
    · exact h.x j q
    · exact .inr (Nat.le_trans h.kp.size q),
   fun j q => k.r1 j (h.r1 j q),
   fun j q => by
    rcases k.r2 j q with q | q
    · exact h.r2 j q
    · exact .inr (Nat.le_trans h.kp.size q),
   ⟨k.kp.os.trans h.kp.os, k.kp.tape.trans h.kp.tape, k.kp.output.trans h.kp.output, Nat.le_trans h.kp.size k.kp.size, fun j hj hn => (k.kp.block j (Nat.lt_of_lt_of_le hj h.kp.size) (fun e => by
      rcases e with e | e
      · rcases h.x j e with q | q
        · exact hn (.inl q)
        · omega
      · exact hn (.inr e))).trans (h.kp.block j hj hn)⟩, k.sep⟩
/-- Steps that turn nothing but m and what came of late. -/
theorem Gro.own (h : Gro m X R W X' R' W') (k : Kp (fun j => (W.heap.size ≤ j ∧ ¬ X' j ∧ ¬ R' j) ∨ j = m) W' W'') : Gro m X R W X' R' W'' :=
  ⟨h.x, h.r1, h.r2, ⟨k.os.trans h.kp.os, k.tape.trans h.kp.tape, k.output.trans h.kp.output, Nat.le_trans h.kp.size k.size, fun j hj hn => (k.block j (Nat.lt_of_lt_of_le hj h.kp.size) (fun e => by
      rcases e with e | e
      · omega
      · exact hn (.inr e))).trans (h.kp.block j hj hn)⟩, h.sep.keep k.size⟩
/-- What neither X nor m holds lies as it lay. -/
theorem Gro.same (h : Gro m X R W X' R' W') {k : Nat} (hk : k < W.heap.size) (hx : ¬ X k) (hm : k ≠ m) : W'.heap[k]? = W.heap[k]? := h.kp.block k hk (fun e => e.elim hx hm)
theorem Gro.nx (h : Gro m X R W X' R' W') {k : Nat} (hk : k < W.heap.size) (hx : ¬ X k) : ¬ X' k := fun q => by
  rcases h.x k q with q | q
  · exact hx q
  · omega
theorem Gro.nr (h : Gro m X R W X' R' W') {k : Nat} (hk : k < W.heap.size) (hx : ¬ R k) : ¬ R' k := fun q => by
  rcases h.r2 k q with q | q
  · exact hx q
  · omega
end

theorem flat_pf {α β : Type} {l L : List α} {a : α} {f : α → List β} {q : List β} (h : (l ++ [a]) <+: L) (hq : q <+: f a) : (l.flatMap f ++ q) <+: L.flatMap f := by
  obtain ⟨r, rfl⟩ := h
  obtain ⟨r2, e2⟩ := hq
  refine ⟨r2 ++ r.flatMap f, ?_⟩
  simp only [List.flatMap_append, List.flatMap_cons, List.flatMap_nil, List.append_nil, ← e2, List.append_assoc]
theorem map_pf {α β : Type} {l L : List α} {a : α} (f : α → β) (h : (l ++ [a]) <+: L) : (l.map f ++ [f a]) <+: L.map f := by
  obtain ⟨r, rfl⟩ := h
  exact ⟨r.map f, by simp⟩
theorem take_pf {α : Type} {l : List α} {k : Nat} {a : α} (h : l[k]? = some a) : (l.take k ++ [a]) <+: l := by
  have e : l.take k ++ [a] = l.take (k + 1) := by rw [List.take_add_one, h]; rfl
  rw [e]
  exact List.take_prefix _ _
section
variable (P : Program) (m : Nat) {T : Type} (Op OpX : World → Prop) (V : World → (Nat → Prop) → Value → T → Prop)
abbrev Inv (T : Type) := T → (Nat → Prop) → (Nat → Prop) → World → Prop
/-- Steps of an iterator leave I. -/
def Stab (N : Nat) {S : Type} (I : Inv S) : Prop :=
  ∀ s X R R' W W', I s X R W → Sep m X R' W → (∀ k, R k → R' k) → (∀ k, R' k → R k ∨ N ≤ k) → Kp (fun k => (N ≤ k ∧ ¬ X k ∧ ¬ R' k) ∨ k = m) W W' → I s X R' W'
/-- What yield does. -/
def Yields (N l : Nat) (L : List T) (J : Inv (List T)) (Jx : Inv Unit) : Prop :=
  ∀ pre X R R1 x v W, (pre ++ [x]) <+: L → J pre X R W → Sep m X R1 W → (∀ k, R k → R1 k) → (∀ k, R1 k → R k ∨ N ≤ k) → Op W → V W R1 v x →
    YieldAt Fence.wide 9 P l #[v] W fun e W' => ∃ X' R', Gro m X R1 W X' R' W' ∧ ((e = .returned (.bool true) ∧ Op W' ∧ J (pre ++ [x]) X' R' W') ∨ (e = .returned (.bool false) ∧ OpX W' ∧ Jx () X' R' W'))
/-- An iterator that gives the list L. -/
def IterC (Pre : Inv Unit) (gf : Nat) (lb : Array Value) (L : List T) : Prop :=
  ∀ l J Jx X R W, Sep m X R W → Pre () X R W → Op W → Stab m W.heap.size J → Stab m W.heap.size Jx → Yields P m Op OpX V W.heap.size l L J Jx → J [] X R W →
    CallsIn Fence.wide 9 P gf (#[.func (.yield l) #[] #[]] ++ lb) W fun e W' => e = .returned (.tuple #[]) ∧ ∃ X' R', Gro m X R W X' R' W' ∧ ((Op W' ∧ J L X' R' W') ∨ (OpX W' ∧ Jx () X' R' W'))
end

theorem Stab.k {m N : Nat} {S : Type} {I : Inv S} (h : Stab m N I) {s : S} {X R : Nat → Prop} {W W' : World} (hi : I s X R W) (hs : Sep m X R W) (hk : Kp (fun k => (N ≤ k ∧ ¬ X k ∧ ¬ R k) ∨ k = m) W W') : I s X R W' := h _ _ _ _ _ _ hi hs (fun _ q => q) (fun _ q => .inl q) hk
section
variable {m : Nat} {X R X' R' R1 X0 R0 : Nat → Prop} {W0 W W1 W' : World}
theorem Sep.more (h : Sep m X R W) (hr1 : ∀ k, R1 k → R k ∨ (k < W1.heap.size ∧ ¬ X k ∧ k ≠ m)) (hs : W.heap.size ≤ W1.heap.size) : Sep m X R1 W1 :=
  ⟨fun k q => Nat.lt_of_lt_of_le (h.xs k q) hs, fun k q => (hr1 k q).elim (fun q => Nat.lt_of_lt_of_le (h.rs k q) hs) (fun q => q.1), fun k q e => (hr1 k e).elim (h.xr k q) (fun e => e.2.1 q), h.xm, fun q => (hr1 m q).elim h.rm (fun e => e.2.2 rfl), Nat.lt_of_lt_of_le h.ms hs⟩
/-- Done so far, own steps, more that nobody turns; then the consumer. -/
theorem Gro.step (h : Gro m X0 R0 W0 X R W) (k : Kp (fun j => (W0.heap.size ≤ j ∧ ¬ X j ∧ ¬ R j) ∨ j = m) W W1) (hr : ∀ j, R j → R1 j) (hr1 : ∀ j, R1 j → R j ∨ W0.heap.size ≤ j) (g : Gro m X R1 W1 X' R' W') : Gro m X0 R0 W0 X' R' W' := by
  have h1 := h.own k
  refine ⟨fun j q => ?_, fun j q => g.r1 j (hr j (h.r1 j q)), fun j q => ?_, ?_, g.sep⟩
  · rcases g.x j q with q | q
    · exact h.x j q
    · exact .inr (Nat.le_trans h1.kp.size q)
  · rcases g.r2 j q with q | q
    · rcases hr1 j q with q | q
      · exact h.r2 j q
      · exact .inr q
    · exact .inr (Nat.le_trans h1.kp.size q)
  · refine ⟨g.kp.os.trans h1.kp.os, g.kp.tape.trans h1.kp.tape, g.kp.output.trans h1.kp.output, Nat.le_trans h1.kp.size g.kp.size, fun j hj hn => (g.kp.block j (Nat.lt_of_lt_of_le hj h1.kp.size) (fun e => ?_)).trans (h1.kp.block j hj hn)⟩
    rcases e with e | e
    · rcases h.x j e with q | q
      · exact hn (.inl q)
      · omega
    · exact hn (.inr e)
/-- A block of one's own. -/
structure Mine (m : Nat) (X R : Nat → Prop) (W : World) (k : Nat) : Prop where
  lt : k < W.heap.size
  x : ¬ X k
  r : ¬ R k
  m : k ≠ m
theorem Mine.gro {k : Nat} (h : Mine m X R W k) (g : Gro m X R W X' R' W') : Mine m X' R' W' k := ⟨Nat.lt_of_lt_of_le h.lt g.kp.size, g.nx h.lt h.x, g.nr h.lt h.r, h.m⟩
theorem Mine.keep {k : Nat} (h : Mine m X R W k) (hs : W.heap.size ≤ W'.heap.size) : Mine m X R W' k := ⟨Nat.lt_of_lt_of_le h.lt hs, h.x, h.r, h.m⟩
theorem Mine.new {k : Nat} (h : Sep m X R W) (h1 : W.heap.size ≤ k) (h2 : k < W'.heap.size) : Mine m X R W' k := ⟨h2, fun q => by have := h.xs k q; omega, fun q => by have := h.rs k q; omega, fun q => by have := h.ms; omega⟩
end

section
variable {m N N' : Nat} {S S' : Type} {I I' : Inv S}
theorem stab_and (h : Stab m N I) (k : Stab m N I') : Stab m N (fun s X R W => I s X R W ∧ I' s X R W) := fun s X R R' W W' hi hs h1 h2 hk => ⟨h s X R R' W W' hi.1 hs h1 h2 hk, k s X R R' W W' hi.2 hs h1 h2 hk⟩
theorem stab_gro {X0 R0 : Nat → Prop} {W0 : World} (hN : W0.heap.size ≤ N) : Stab m N (fun (_ : S) X R W => Gro m X0 R0 W0 X R W) := fun s X R R' W W' hi hs h1 h2 hk => by
  have g := hi.own (W'' := W') (hk.mono fun k _ q => q.elim (fun q => .inl ⟨by omega, q.2.1, fun e => q.2.2 (h1 k e)⟩) .inr)
  exact ⟨g.x, fun k q => h1 k (g.r1 k q), fun k q => (h2 k q).elim (g.r2 k) (fun q => .inr (by omega)), g.kp, hs.keep hk.size⟩
theorem stab_at (h : Stab m N I) (hN : N ≤ N') (f : S' → S) : Stab m N' (fun s X R W => I (f s) X R W) := fun s X R R' W W' hi hs h1 h2 hk => h _ X R R' W W' hi hs h1 (fun k q => (h2 k q).elim .inl (fun q => .inr (by omega))) (hk.mono fun k _ q => q.elim (fun q => .inl ⟨by omega, q.2⟩) .inr)
theorem stab_pure (p : S → Prop) : Stab m N (fun s (_ _ : Nat → Prop) (_ : World) => p s) := fun s X R R' W W' hi hs h1 h2 hk => hi
end
/-- Marks: the deferred calls' blocks of the loops that were, none of which holds a call. -/
def marks (Ds : List Nat) : List Deferred := Ds.map fun D => { target := .collected D, args := #[] }
theorem leaves_marks {F : Fence} {n : Nat} {P : Program} {fn : Func} {tmps : Array Value} {R : Ending → World → Prop} : ∀ (Ds : List Nat) (W : World), Ds.Nodup → (∀ D ∈ Ds, W.heap[D]? = some (.deferred (some []))) →
    (∀ W', Kp (fun k => k ∈ Ds) W W' → LeavesIn F n P fn tmps R [] .returning W') → LeavesInM F n P fn tmps R (marks Ds) .returning W
  | [], W, _, _, h => h W (Kp.refl _ _)
  | D :: Ds, W, hn, hD, h => by
    obtain ⟨h1, h2⟩ := List.nodup_cons.1 hn
    have hlt : D < W.heap.size := (Array.getElem?_eq_some_iff.1 (hD D (by simp))).1
    have kq : Kp (fun k => k = D) W (W.putObj D (.deferred none)) := ⟨rfl, rfl, rfl, by simp, fun k _ hn => World.putObj_heap_other hn⟩
    refine ⟨by simp, .inl ⟨D, W.putObj D (.deferred none), rfl, run_takeDeferred (hD D (by simp)), leaves_marks Ds _ h2 (fun D' q => ?_) (fun W' hk => h W' ?_)⟩⟩
    · exact (kq.block D' ((Array.getElem?_eq_some_iff.1 (hD D' (by simp [q]))).1) (fun e => h1 (e ▸ q))).trans (hD D' (by simp [q]))
    · exact (kq.mono (fun k _ e => by simp [e])).trans (hk.mono (fun k _ e => by simp [e]))

theorem roundIn_any {l : Nat} {n n' : Nat} {P : Program} {f : FuncId} {tmps : Array Value} {assign body : Code} {w : World} {R : Ending → World → Prop}
    (h : RoundIn Fence.wide n P l f tmps assign body w R) : RoundIn Fence.wide n' P l f tmps assign body w R := ⟨h.1, fun c cs _ => h.2 c cs (room_wide _)⟩
theorem roundIn_in {l l' : Nat} {n n' : Nat} {P : Program} {f : FuncId} {tmps : Array Value} {assign body : Code} {w : World} {R : Ending → World → Prop}
    (h : RoundIn Fence.wide n P l f tmps assign body w R) : RoundIn (Fence.wide.inRound l') n' P l f tmps assign body w R := roundIn_any h
theorem callsIn_any {n n' : Nat} {P : Program} {f : FuncId} {args : Array Value} {w : World} {R : Ending → World → Prop} (h : CallsIn Fence.wide n P f args w R) : CallsIn Fence.wide n' P f args w R := callsIn_wide.2 (callsIn_wide.1 h)

/-- Block r becomes another. -/
theorem kp_putObj (W : World) (l : Nat) (o : Obj) : Kp (fun k => k = l) W (W.putObj l o) :=
  ⟨rfl, rfl, rfl, by simp, fun k _ hn => World.putObj_heap_other hn⟩

section
variable {m : Nat} {T : Type} {Op OpX : World → Prop} {V : World → (Nat → Prop) → Value → T → Prop}
/-- What a round begins with. -/
structure Rnd (m : Nat) (Op : World → Prop) (V : World → (Nat → Prop) → Value → T → Prop) (L : List T) (N l : Nat) (I : Inv (List T)) (pre : List T) (X R R1 : Nat → Prop) (x : T) (v : Value) (W : World) : Prop where
  i : I pre X R W
  s : Sep m X R1 W
  rr : ∀ k, R k → R1 k
  rn : ∀ k, R1 k → R k ∨ N ≤ k
  op : Op W
  v : V W R1 v x
  lp : ∃ r, W.heap[l]? = some (.loop r)
  lx : ¬ X l
  lr : ¬ R1 l
  lm : l ≠ m
  lN : N ≤ l
  pf : (pre ++ [x]) <+: L
/-- What a round's end owes. -/
def bPost (m : Nat) (Op OpX : World → Prop) (I : Inv (List T)) (Ix : Inv Code) (pre : List T) (x : T) (X R1 : Nat → Prop) (W : World) : Exit → Act → World → Prop
  | .normal, _, W' => ∃ X' R', Gro m X R1 W X' R' W' ∧ Op W' ∧ I (pre ++ [x]) X' R' W'
  | .ret, _, W' => ∃ X' R', Gro m X R1 W X' R' W' ∧ OpX W' ∧ Ix .ret X' R' W'
  | .exit id, _, W' => ∃ X' R', Gro m X R1 W X' R' W' ∧ OpX W' ∧ Ix (.exit id) X' R' W'
  | _, _, _ => False

/-- One round, as the protocol wants it; E: the blocks of the book-keeping (the record l is one of them), O: what the others hold. -/
theorem round_law {P : Program} {L : List T} {fn : FuncId} {tmps : Array Value} {ps : Array Tmp} {assign body : Code} {N l : Nat} {rec : LoopState → Option Code → Loop}
    (hrec : ∃ defers, rec = fun st pe => { state := st, pending := pe, fn, tmps, params := ps, assign, body, defers }) (hps : ps.size = 1)
    (hOp : ∀ W W', Op W → Kp (fun k => k ≠ m) W W' → W'.heap[m]? = W.heap[m]? → Op W') (hOpX : ∀ W W', OpX W → Kp (fun k => k ≠ m) W W' → W'.heap[m]? = W.heap[m]? → OpX W') (hV : ∀ W W' R v x, V W R v x → (∀ k, R k → W'.heap[k]? = W.heap[k]?) → V W' R v x)
    (I : Inv (List T)) (Ix : Inv Code) (sI : Stab m N I) (sIx : Stab m N Ix) (E : Nat → Prop) (O : Nat → Option Obj) (hEl : E l) (hE : ∀ k, E k → N ≤ k ∧ k ≠ m) {N' : Nat} (hNN : N ≤ N')
    (hbody : ∀ pre X R R1 x v W, Rnd m Op V L N l I pre X R R1 x v W →
      assign.wpIn (Fence.wide.inRound l) 9 P (Exit.then (fun a₁ w₁ => Kp (fun _ => False) W w₁ ∧ ∀ W2, Kp (fun k => k = l) w₁ W2 → Rnd m Op V L N l I pre X R R1 x v W2 → body.wpIn (Fence.wide.inRound l) 9 P (bPost m Op OpX I Ix pre x X R1 W2) a₁ W2) (fun _ _ _ => False))
        { tmps := (ps.zip #[v]).foldl (fun t (p, v) => t.setIfInBounds p v) tmps, defers := [] } W) :
    Yields P m Op OpX V N' l L (fun pre Y R W => ∃ X, Y = (fun k => X k ∨ E k) ∧ I pre X R W ∧ (∀ k, E k → ¬ X k ∧ ¬ R k) ∧ (∀ k, E k → k ≠ l → W.heap[k]? = O k) ∧ W.heap[l]? = some (.loop (rec .ready none)))
      (fun _ Y R W => ∃ X c, Y = (fun k => X k ∨ E k) ∧ Ix c X R W ∧ (∀ k, E k → ¬ X k ∧ ¬ R k) ∧ (∀ k, E k → k ≠ l → W.heap[k]? = O k) ∧ W.heap[l]? = some (.loop (rec .done (some c)))) := by
  obtain ⟨dd, hrec⟩ := hrec
  obtain ⟨hlN, hlm⟩ := hE l hEl
  rintro pre Y R R1 x v W hpf ⟨X, rfl, hi, hEx, hEo, hl⟩ hs hrr hrn' hop hv
  have hrn : ∀ k, R1 k → R k ∨ N ≤ k := fun k q => (hrn' k q).elim .inl (fun q => .inr (Nat.le_trans hNN q))
  have hlx := (hEx l hEl).1
  have hlr := (hEx l hEl).2
  have hlt : l < W.heap.size := (Array.getElem?_eq_some_iff.1 hl).1
  have hEr1 : ∀ k, E k → ¬ R1 k := fun k q => hs.xr k (.inr q)
  have hEs : ∀ k, E k → k < W.heap.size := fun k q => hs.xs k (.inr q)
  have hlr1 : ¬ R1 l := hEr1 l hEl
  have hs1 : Sep m X R1 W := ⟨fun k q => hs.xs k (.inl q), hs.rs, fun k q => hs.xr k (.inl q), fun q => hs.xm (.inl q), hs.rm, hs.ms⟩
  have hs0 : Sep m X R W := ⟨hs1.xs, fun k q => hs1.rs k (hrr k q), fun k q e => hs1.xr k q (hrr k e), hs1.xm, fun q => hs1.rm (hrr m q), hs1.ms⟩
  have hy := run_yield (P := P) (args := #[v]) hl (by rw [hrec]; exact hps.symm)
  rw [hrec] at hy
  refine ⟨fn, _, assign, body, hy, roundIn_of_wpIn trivial (wpIn_mono (hbody pre X R R1 x v W ⟨hi, hs1, hrr, hrn, hop, hv, ⟨_, hl⟩, hlx, hlr1, hlm, hlN, hpf⟩) ?_)⟩
  clear hy
  intro e a₁ w₁ hq
  cases e with
  | normal =>
    obtain ⟨k1, hB⟩ := hq
    have hl1 : w₁.heap[l]? = some (.loop (rec .ready none)) := (k1.block l hlt (fun q => q)).trans hl
    refine ⟨_, run_beginRound hl1 (by rw [hrec]), ?_⟩
    obtain ⟨W2, hW2⟩ : ∃ W2, W2 = w₁.putObj l (.loop { rec .ready none with state := .busy }) := ⟨_, rfl⟩
    rw [← hW2]
    have k2 : Kp (fun k => k = l) w₁ W2 := by rw [hW2]; exact kp_putObj _ _ _
    have hl2 : W2.heap[l]? = some (.loop { rec .ready none with state := .busy }) := by rw [hW2]; exact World.putObj_heap_same (by have := k1.size; omega)
    have k12 : Kp (fun k => k = l) W W2 := (k1.mono (fun _ _ q => q.elim)).trans k2
    have hop2 : Op W2 := hOp W W2 hop (k12.mono (fun k _ q => by subst q; exact hlm)) (k12.block m hs1.ms (fun q => hlm q.symm))
    have hv2 : V W2 R1 v x := hV W W2 R1 v x hv (fun k q => k12.block k (hs1.rs k q) (fun q2 => hlr1 (q2 ▸ q)))
    have hi2 : I pre X R W2 := sI.k hi hs0 (k12.mono (fun k _ q => by subst q; exact .inl ⟨hlN, hlx, hlr⟩))
    have hs2 : Sep m X R1 W2 := hs1.keep k12.size
    have hEo2 : ∀ k, E k → k ≠ l → W2.heap[k]? = O k := fun k q hn => (k12.block k (hEs k q) hn).trans (hEo k q hn)
    have fin : ∀ (jump : Option Code) (X' R' : Nat → Prop) (W3 : World), Gro m X R1 W2 X' R' W3 →
        (Instr.endRound l jump).run P W3 = .ok (.bool jump.isNone) (W3.putObj l (.loop (rec (if jump.isNone then .ready else .done) jump))) ∧
        (W3.putObj l (.loop (rec (if jump.isNone then .ready else .done) jump))).heap[l]? = some (.loop (rec (if jump.isNone then .ready else .done) jump)) ∧
        (∀ k, E k → ¬ X' k ∧ ¬ R' k) ∧ (∀ k, E k → k ≠ l → (W3.putObj l (.loop (rec (if jump.isNone then .ready else .done) jump))).heap[k]? = O k) ∧ Kp (fun k => k = l) W3 (W3.putObj l (.loop (rec (if jump.isNone then .ready else .done) jump))) ∧
        Gro m (fun k => X k ∨ E k) R1 W (fun k => X' k ∨ E k) R' (W3.putObj l (.loop (rec (if jump.isNone then .ready else .done) jump))) ∧
        Kp (fun k => (N ≤ k ∧ ¬ X' k ∧ ¬ R' k) ∨ k = m) W3 (W3.putObj l (.loop (rec (if jump.isNone then .ready else .done) jump))) ∧ Sep m X' R' W3 := by
      intro jump X' R' W3 hg
      have hEs2 : ∀ k, E k → k < W2.heap.size := fun k q => Nat.lt_of_lt_of_le (hEs k q) k12.size
      have hlt2 : l < W2.heap.size := hEs2 l hEl
      have hl3 : W3.heap[l]? = some (.loop { rec .ready none with state := .busy }) := (hg.same hlt2 hlx hlm).trans hl2
      have hlt3 : l < W3.heap.size := (Array.getElem?_eq_some_iff.1 hl3).1
      have nE : ∀ k, E k → ¬ X' k ∧ ¬ R' k := fun k q => ⟨hg.nx (hEs2 k q) (hEx k q).1, hg.nr (hEs2 k q) (hEr1 k q)⟩
      have hr := run_endRound (P := P) jump hl3
      rw [hrec] at hr
      have kq := kp_putObj W3 l (.loop (rec (if jump.isNone then .ready else .done) jump))
      refine ⟨by rw [hrec]; exact hr, World.putObj_heap_same hlt3, nE, fun k q hn => ((kq.block k (Nat.lt_of_lt_of_le (hEs2 k q) hg.kp.size) hn).trans (hg.same (hEs2 k q) (hEx k q).1 (hE k q).2)).trans (hEo2 k q hn), kq, ?_, kq.mono (fun k _ q => by subst q; exact .inl ⟨hlN, nE k hEl⟩), hg.sep⟩
      have s4 : Sep m (fun k => X' k ∨ E k) R' (W3.putObj l (.loop (rec (if jump.isNone then .ready else .done) jump))) := by
        have s3 := hg.sep.keep kq.size
        refine ⟨fun k q => ?_, s3.rs, fun k q => ?_, fun q => ?_, s3.rm, s3.ms⟩
        · rcases q with q | q
          · exact s3.xs k q
          · exact Nat.lt_of_lt_of_le (hEs2 k q) (Nat.le_trans hg.kp.size kq.size)
        · rcases q with q | q
          · exact s3.xr k q
          · exact (nE k q).2
        · rcases q with q | q
          · exact s3.xm q
          · exact (hE m q).2 rfl
      refine ⟨fun k q => ?_, hg.r1, fun k q => ?_, ?_, s4⟩
      · rcases q with q | q
        · rcases hg.x k q with q | q
          · exact .inl (.inl q)
          · exact .inr (Nat.le_trans k12.size q)
        · exact .inl (.inr q)
      · rcases hg.r2 k q with q | q
        · exact .inl q
        · exact .inr (Nat.le_trans k12.size q)
      · have e1 : Kp (fun k => (X k ∨ E k) ∨ k = m) W W2 := k12.mono (fun k _ q => .inl (.inr (q ▸ hEl)))
        have e2 : Kp (fun k => (X k ∨ E k) ∨ k = m) W2 W3 := hg.kp.mono (fun k _ q => q.elim (fun q => .inl (.inl q)) .inr)
        exact (e1.trans e2).trans (kq.mono (fun k _ q => .inl (.inr (q ▸ hEl))))
    refine wpIn_mono (hB W2 k2 ⟨hi2, hs2, hrr, hrn, hop2, hv2, ⟨_, hl2⟩, hlx, hlr1, hlm, hlN, hpf⟩) ?_
    intro e a3 W3 hp
    cases e with
    | normal =>
      obtain ⟨X', R', hg, hop3, hi3⟩ := hp
      obtain ⟨f1, f2, f3, f4, f5, f6, f7, f8⟩ := fin none X' R' W3 hg
      exact ⟨_, _, f1, _, R', f6, .inl ⟨rfl, hOp _ _ hop3 (f5.mono (fun k _ q => by subst q; exact hlm)) (f5.block m f8.ms (fun q => hlm q.symm)), X', rfl, sI.k hi3 f8 f7, f3, f4, f2⟩⟩
    | ret =>
      obtain ⟨X', R', hg, hop3, hi3⟩ := hp
      obtain ⟨f1, f2, f3, f4, f5, f6, f7, f8⟩ := fin (some .ret) X' R' W3 hg
      exact ⟨_, _, f1, _, R', f6, .inr ⟨rfl, hOpX _ _ hop3 (f5.mono (fun k _ q => by subst q; exact hlm)) (f5.block m f8.ms (fun q => hlm q.symm)), X', _, rfl, sIx.k hi3 f8 f7, f3, f4, f2⟩⟩
    | exit id =>
      obtain ⟨X', R', hg, hop3, hi3⟩ := hp
      obtain ⟨f1, f2, f3, f4, f5, f6, f7, f8⟩ := fin (some (.exit id)) X' R' W3 hg
      exact ⟨_, _, f1, _, R', f6, .inr ⟨rfl, hOpX _ _ hop3 (f5.mono (fun k _ q => by subst q; exact hlm)) (f5.block m f8.ms (fun q => hlm q.symm)), X', _, rfl, sIx.k hi3 f8 f7, f3, f4, f2⟩⟩
    | goto t => exact hp.elim
    | panic ch => exact hp.elim
    | outgrown => exact hp.elim
  | _ => exact hq.elim

/-- What the loop's own blocks do not disturb. -/
theorem stab_more {N N' : Nat} {S : Type} {E : Nat → Prop} {O : Nat → Option Obj} {l : Nat} {o : S → Option Obj} {I : Inv S} (hI : Stab m N I) (hN : N ≤ N') (hE : ∀ k, E k → k < N') (hEm : ∀ k, E k → k ≠ m) (hl : E l) :
    Stab m N' (fun s Y R W => ∃ X, Y = (fun k => X k ∨ E k) ∧ I s X R W ∧ (∀ k, E k → ¬ X k ∧ ¬ R k) ∧ (∀ k, E k → k ≠ l → W.heap[k]? = O k) ∧ W.heap[l]? = o s) := by
  rintro s Y R R' W W' ⟨X, rfl, hi, hx, ho, hlo⟩ hs h1 h2 hk
  have hs1 : Sep m X R' W := ⟨fun k q => hs.xs k (.inl q), hs.rs, fun k q => hs.xr k (.inl q), fun q => hs.xm (.inl q), hs.rm, hs.ms⟩
  have same : ∀ k, E k → W'.heap[k]? = W.heap[k]? := fun k q => hk.block k (hs.xs k (.inr q)) (fun e => by
    rcases e with ⟨e, _⟩ | e
    · have := hE k q; omega
    · exact hEm k q e)
  refine ⟨X, rfl, hI _ _ _ _ _ _ hi hs1 h1 (fun k q => (h2 k q).elim .inl (fun q => .inr (by omega))) (hk.mono fun k _ e => ?_), fun k q => ⟨(hx k q).1, hs.xr k (.inr q)⟩, fun k q hn => (same k q).trans (ho k q hn), (same l hl).trans hlo⟩
  rcases e with ⟨e1, e2, e3⟩ | e
  · exact .inl ⟨by omega, fun q => e2 (.inl q), e3⟩
  · exact .inr e

section
variable {P : Program} {g : Operand} {ps : Array Tmp} {assign body : Code} {Q : Exit → Act → World → Prop} {a : Act} {w : World} {gf : Nat} {lb : Array Value} {Pre : Inv Unit} {L : List T} {X R : Nat → Prop}
/-- The loop, outside of every round. -/
theorem range_out (hg : a.eval g = .func (.func gf) #[] lb) (eg : ∀ args w, (callFunc gf args).run P w = .ok (.enter gf args) w) (hps : ps.size = 1)
    (hit : IterC P m Op OpX V Pre gf lb L) (hs : Sep m X R w)
    (hOp : ∀ W W', Op W → Kp (fun k => k ≠ m) W W' → W'.heap[m]? = W.heap[m]? → Op W') (hOpX : ∀ W W', OpX W → Kp (fun k => k ≠ m) W W' → W'.heap[m]? = W.heap[m]? → OpX W') (hV : ∀ W W' R v x, V W R v x → (∀ k, R k → W'.heap[k]? = W.heap[k]?) → V W' R v x) (hop : Op w)
    (hpre : ∀ Y W1, (∀ k, Y k → X k ∨ w.heap.size ≤ k) → Below w.heap.size w W1 → Pre () Y R W1)
    (I : Inv (List T)) (Ix : Inv Code) (sI : Stab m w.heap.size I) (sIx : Stab m w.heap.size Ix) (h0 : I [] X R w)
    (hbody : ∀ l pre X R R1 x v W, Rnd m Op V L w.heap.size l I pre X R R1 x v W →
      assign.wpIn (Fence.wide.inRound l) 9 P (Exit.then (fun a₁ w₁ => Kp (fun _ => False) W w₁ ∧ ∀ W2, Kp (fun k => k = l) w₁ W2 → Rnd m Op V L w.heap.size l I pre X R R1 x v W2 → body.wpIn (Fence.wide.inRound l) 9 P (bPost m Op OpX I Ix pre x X R1 W2) a₁ W2) (fun _ _ _ => False))
        { tmps := (ps.zip #[v]).foldl (fun t (p, v) => t.setIfInBounds p v) a.tmps, defers := [] } W)
    (hdone : ∀ D X' R' W, w.heap.size ≤ D → W.heap[D]? = some (.deferred (some [])) → ¬ X' D → ¬ R' D → Gro m X R w X' R' W → Op W → I L X' R' W → Q .normal { a with defers := { target := .collected D, args := #[] } :: a.defers } W)
    (hstop : ∀ D c X' R' W, w.heap.size ≤ D → W.heap[D]? = some (.deferred (some [])) → ¬ X' D → ¬ R' D → Gro m X R w X' R' W → OpX W → Ix c X' R' W → c.wpIn Fence.wide 9 P Q { a with defers := { target := .collected D, args := #[] } :: a.defers } W) :
    (Code.rangeFunc g ps assign body).wpIn Fence.wide 9 P Q a w := by
  refine wpIn_rangeFunc ?_
  intro fn _
  obtain ⟨rec, hrec⟩ : ∃ rec : LoopState → Option Code → Loop, rec = fun st pe => { state := st, pending := pe, fn, tmps := a.tmps, params := ps, assign, body, defers := w.heap.size } := ⟨_, rfl⟩
  obtain ⟨W1, hW1⟩ : ∃ W1, (w.alloc (.deferred (some []))).alloc (.loop (rec .ready none)) = W1 := ⟨_, rfl⟩
  have hL1 : W1.heap[w.heap.size + 1]? = some (.loop (rec .ready none)) := by
    rw [← hW1]; have := World.alloc_heap_new (w.alloc (.deferred (some []))) (.loop (rec .ready none)); rwa [World.size_alloc] at this
  have hK1 : W1.heap[w.heap.size]? = some (.deferred (some [])) := by
    rw [← hW1]; exact (Below.heap_alloc _ _ _ (by simp)).trans (World.alloc_heap_new w _)
  have hb1 : Below w.heap.size w W1 := by
    rw [← hW1]; exact ((Below.refl _ w).alloc (Nat.le_refl _) _).alloc (by simp) _
  have hsz : W1.heap.size = w.heap.size + 2 := by rw [← hW1]; simp
  have hms := hs.ms
  have k1 : Kp (fun _ => False) w W1 := Kp.of hb1
  have hop1 : Op W1 := hOp w W1 hop (k1.mono fun _ _ q => q.elim) (k1.block m hs.ms (fun q => q))
  obtain ⟨E, hE⟩ : ∃ E : Nat → Prop, E = fun k => k = w.heap.size + 1 ∨ k = w.heap.size := ⟨_, rfl⟩
  have hE1 : ∀ k, E k → w.heap.size ≤ k ∧ k < W1.heap.size ∧ k ≠ m := fun k q => by rw [hE] at q; omega
  have hEl : E (w.heap.size + 1) := by rw [hE]; exact .inl rfl
  have hED : E w.heap.size := by rw [hE]; exact .inr rfl
  have hEx : ∀ k, E k → ¬ X k ∧ ¬ R k := fun k q => ⟨fun e => by have := hs.xs k e; have := hE1 k q; omega, fun e => by have := hs.rs k e; have := hE1 k q; omega⟩
  have sep1 : Sep m (fun k => X k ∨ E k) R W1 := by
    have s := hs.keep k1.size
    exact ⟨fun k q => q.elim (s.xs k) (fun q => (hE1 k q).2.1), s.rs, fun k q => q.elim (s.xr k) (fun q => (hEx k q).2), fun q => q.elim s.xm (fun q => (hE1 m q).2.2 rfl), s.rm, s.ms⟩
  have hI1 : I [] X R W1 := sI.k h0 hs (k1.mono fun _ _ q => q.elim)
  have hgr : ∀ X' R' W2, (∃ Y, Gro m (fun k => X k ∨ E k) R W1 Y R' W2 ∧ Y = (fun k => X' k ∨ E k)) → (∀ k, E k → ¬ X' k ∧ ¬ R' k) → ∀ o, Gro m X R w X' R' (W2.putObj (w.heap.size + 1) o) ∧ Kp (fun k => (w.heap.size ≤ k ∧ ¬ X' k ∧ ¬ R' k) ∨ k = m) W2 (W2.putObj (w.heap.size + 1) o) ∧ Sep m X' R' W2 := by
    rintro X' R' W2 ⟨Y, hg, rfl⟩ hEx' o
    have s2 : Sep m X' R' W2 := ⟨fun k q => hg.sep.xs k (.inl q), hg.sep.rs, fun k q => hg.sep.xr k (.inl q), fun q => hg.sep.xm (.inl q), hg.sep.rm, hg.sep.ms⟩
    have kq := kp_putObj W2 (w.heap.size + 1) o
    have kp2 : Kp (fun k => X k ∨ k = m) w (W2.putObj (w.heap.size + 1) o) := by
      refine ⟨kq.os.trans (hg.kp.os.trans k1.os), kq.tape.trans (hg.kp.tape.trans k1.tape), kq.output.trans (hg.kp.output.trans k1.output), Nat.le_trans k1.size (Nat.le_trans hg.kp.size kq.size), fun k hk hn => ?_⟩
      have hk1 := k1.size
      have hk2 := hg.kp.size
      refine ((kq.block k (by omega) (by omega)).trans (hg.kp.block k (by omega) (fun e => ?_))).trans (k1.block k hk (fun q => q))
      rcases e with (e | e) | e
      · exact hn (.inl e)
      · have := hE1 k e; omega
      · exact hn (.inr e)
    refine ⟨⟨fun k q => ?_, hg.r1, fun k q => ?_, kp2, s2.keep kq.size⟩, kq.mono (fun k _ q => by subst q; exact .inl ⟨by omega, hEx' _ hEl⟩), s2⟩
    · rcases hg.x k (.inl q) with (e | e) | e
      · exact .inl e
      · exact absurd q (hEx' k e).1
      · exact .inr (by omega)
    · rcases hg.r2 k q with e | e
      · exact .inl e
      · exact .inr (by omega)
  refine ⟨w.heap.size + 1, [{ target := .collected w.heap.size, args := #[] }], W1, { target := .fn (.func gf) lb, args := #[.func (.yield (w.heap.size + 1)) #[] #[]] }, W1, gf,
    #[.func (.yield (w.heap.size + 1)) #[] #[]] ++ lb, W1, ?_, ?_, ?_, ?_, fun _ => by omega, ?_⟩
  · rw [← hW1, hrec]; exact run_enterLoop_outer _ _ _ _ _
  · simp only [resolve, hg]
    simp [go_sem]
  · intro f' _; trivial
  · simp [invoke, go_sem, eg]
  · obtain ⟨O, hO⟩ : ∃ O : Nat → Option Obj, O = fun _ => some (.deferred (some [])) := ⟨_, rfl⟩
    have hY := round_law (P := P) (fn := fn) (tmps := a.tmps) (ps := ps) (assign := assign) (body := body) (N := w.heap.size) (l := w.heap.size + 1) (rec := rec) ⟨_, hrec⟩ hps hOp hOpX hV I Ix sI sIx E O hEl (fun k q => ⟨(hE1 k q).1, (hE1 k q).2.2⟩) (N' := W1.heap.size) (by omega) (fun pre X R R1 x v W h => hbody _ pre X R R1 x v W h)
    have hEo1 : ∀ k, E k → k ≠ w.heap.size + 1 → W1.heap[k]? = O k := fun k q hn => by rw [hE] at q; rcases q with q | q; exact absurd q hn; subst q; rw [hO]; exact hK1
    have st1 := stab_more (N' := W1.heap.size) (E := E) (O := O) (l := w.heap.size + 1) (o := fun _ => some (Obj.loop (rec .ready none))) sI (by omega) (fun k q => (hE1 k q).2.1) (fun k q => (hE1 k q).2.2) hEl
    have st2 : Stab m W1.heap.size (fun (_ : Unit) Y R W => ∃ X c, Y = (fun k => X k ∨ E k) ∧ Ix c X R W ∧ (∀ k, E k → ¬ X k ∧ ¬ R k) ∧ (∀ k, E k → k ≠ w.heap.size + 1 → W.heap[k]? = O k) ∧ W.heap[w.heap.size + 1]? = some (.loop (rec .done (some c)))) := by
      rintro s Y R R' W W' ⟨X, c, h⟩ hs h1 h2 hk
      obtain ⟨X2, h2⟩ := stab_more (N' := W1.heap.size) (E := E) (O := O) (l := w.heap.size + 1) (o := fun c => some (Obj.loop (rec .done (some c)))) sIx (by omega) (fun k q => (hE1 k q).2.1) (fun k q => (hE1 k q).2.2) hEl c Y R R' W W' ⟨X, h⟩ hs h1 h2 hk
      exact ⟨X2, c, h2⟩
    refine (callsIn_any (hit (w.heap.size + 1) _ _ (fun k => X k ∨ E k) R W1 sep1 (hpre _ _ (fun k q => q.elim .inl (fun q => .inr (hE1 k q).1)) hb1) hop1 st1 st2 hY ⟨X, rfl, hI1, hEx, hEo1, hL1⟩)).mono ?_
    rintro e W2 ⟨rfl, Y, R', hg, ⟨hop2, h⟩ | ⟨hop2, h⟩⟩
    · obtain ⟨X', rfl, hi, hEx', hEo', hl⟩ := h
      obtain ⟨g1, g2, g3⟩ := hgr X' R' W2 ⟨_, hg, rfl⟩ hEx' (.loop (rec .exhausted none))
      have kq := kp_putObj W2 (w.heap.size + 1) (.loop (rec .exhausted none))
      have hop3 := hOp _ _ hop2 (kq.mono (fun k _ q => by omega)) (kq.block m g3.ms (by omega))
      refine ⟨none, W2.putObj (w.heap.size + 1) (.loop (rec .exhausted none)), ?_, hdone w.heap.size X' R' _ (Nat.le_refl _) ?_ (hEx' _ hED).1 (hEx' _ hED).2 g1 hop3 (sI.k hi g3 g2)⟩
      · have := run_endLoop (P := P) hl (by rw [hrec]; simp); rw [hrec] at this ⊢; exact this
      · refine (kq.block _ (hg.sep.xs _ (.inr hED)) (by omega)).trans ?_
        rw [hEo' _ hED (by omega), hO]
    · obtain ⟨X', c, rfl, hi, hEx', hEo', hl⟩ := h
      obtain ⟨g1, g2, g3⟩ := hgr X' R' W2 ⟨_, hg, rfl⟩ hEx' (.loop (rec .exhausted (some c)))
      have kq := kp_putObj W2 (w.heap.size + 1) (.loop (rec .exhausted (some c)))
      have hop3 := hOpX _ _ hop2 (kq.mono (fun k _ q => by omega)) (kq.block m g3.ms (by omega))
      refine ⟨some c, W2.putObj (w.heap.size + 1) (.loop (rec .exhausted (some c))), ?_, hstop w.heap.size c X' R' _ (Nat.le_refl _) ?_ (hEx' _ hED).1 (hEx' _ hED).2 g1 hop3 (sIx.k hi g3 g2)⟩
      · have := run_endLoop (P := P) hl (by rw [hrec]; simp); rw [hrec] at this ⊢; exact this
      · refine (kq.block _ (hg.sep.xs _ (.inr hED)) (by omega)).trans ?_
        rw [hEo' _ hED (by omega), hO]
/-- The loop, in a round of another. -/
theorem range_in {l₀ : Nat} {r₀ : Loop} (hl₀ : w.heap[l₀]? = some (.loop r₀)) (hg : a.eval g = .func (.func gf) #[] lb) (eg : ∀ args w, (callFunc gf args).run P w = .ok (.enter gf args) w) (hps : ps.size = 1)
    (hit : IterC P m Op OpX V Pre gf lb L) (hs : Sep m X R w)
    (hOp : ∀ W W', Op W → Kp (fun k => k ≠ m) W W' → W'.heap[m]? = W.heap[m]? → Op W') (hOpX : ∀ W W', OpX W → Kp (fun k => k ≠ m) W W' → W'.heap[m]? = W.heap[m]? → OpX W') (hV : ∀ W W' R v x, V W R v x → (∀ k, R k → W'.heap[k]? = W.heap[k]?) → V W' R v x) (hop : Op w)
    (hpre : ∀ Y W1, (∀ k, Y k → X k ∨ w.heap.size ≤ k) → Below w.heap.size w W1 → Pre () Y R W1)
    (I : Inv (List T)) (Ix : Inv Code) (sI : Stab m w.heap.size I) (sIx : Stab m w.heap.size Ix) (h0 : I [] X R w)
    (hbody : ∀ l pre X R R1 x v W, Rnd m Op V L w.heap.size l I pre X R R1 x v W →
      assign.wpIn (Fence.wide.inRound l) 9 P (Exit.then (fun a₁ w₁ => Kp (fun _ => False) W w₁ ∧ ∀ W2, Kp (fun k => k = l) w₁ W2 → Rnd m Op V L w.heap.size l I pre X R R1 x v W2 → body.wpIn (Fence.wide.inRound l) 9 P (bPost m Op OpX I Ix pre x X R1 W2) a₁ W2) (fun _ _ _ => False))
        { tmps := (ps.zip #[v]).foldl (fun t (p, v) => t.setIfInBounds p v) a.tmps, defers := [] } W)
    (hdone : ∀ X' R' W, Gro m X R w X' R' W → Op W → I L X' R' W → Q .normal a W)
    (hstop : ∀ c X' R' W, Gro m X R w X' R' W → OpX W → Ix c X' R' W → c.wpIn (Fence.wide.inRound l₀) 9 P Q a W) :
    (Code.rangeFunc g ps assign body).wpIn (Fence.wide.inRound l₀) 9 P Q a w := by
  refine wpIn_rangeFunc ?_
  intro fn _
  obtain ⟨rec, hrec⟩ : ∃ rec : LoopState → Option Code → Loop, rec = fun st pe => { state := st, pending := pe, fn, tmps := a.tmps, params := ps, assign, body, defers := r₀.defers } := ⟨_, rfl⟩
  obtain ⟨W1, hW1⟩ : ∃ W1, w.alloc (.loop (rec .ready none)) = W1 := ⟨_, rfl⟩
  have hL1 : W1.heap[w.heap.size]? = some (.loop (rec .ready none)) := by
    rw [← hW1]; exact World.alloc_heap_new w _
  have hb1 : Below w.heap.size w W1 := by
    rw [← hW1]; exact (Below.refl _ w).alloc (Nat.le_refl _) _
  have hsz : W1.heap.size = w.heap.size + 1 := by rw [← hW1]; simp
  have hms := hs.ms
  have k1 : Kp (fun _ => False) w W1 := Kp.of hb1
  have hop1 : Op W1 := hOp w W1 hop (k1.mono fun _ _ q => q.elim) (k1.block m hs.ms (fun q => q))
  obtain ⟨E, hE⟩ : ∃ E : Nat → Prop, E = fun k => k = w.heap.size := ⟨_, rfl⟩
  have hE1 : ∀ k, E k → w.heap.size ≤ k ∧ k < W1.heap.size ∧ k ≠ m := fun k q => by rw [hE] at q; omega
  have hEl : E w.heap.size := by rw [hE]
  have hEx : ∀ k, E k → ¬ X k ∧ ¬ R k := fun k q => ⟨fun e => by have := hs.xs k e; have := hE1 k q; omega, fun e => by have := hs.rs k e; have := hE1 k q; omega⟩
  have sep1 : Sep m (fun k => X k ∨ E k) R W1 := by
    have s := hs.keep k1.size
    exact ⟨fun k q => q.elim (s.xs k) (fun q => (hE1 k q).2.1), s.rs, fun k q => q.elim (s.xr k) (fun q => (hEx k q).2), fun q => q.elim s.xm (fun q => (hE1 m q).2.2 rfl), s.rm, s.ms⟩
  have hI1 : I [] X R W1 := sI.k h0 hs (k1.mono fun _ _ q => q.elim)
  have hgr : ∀ X' R' W2, (∃ Y, Gro m (fun k => X k ∨ E k) R W1 Y R' W2 ∧ Y = (fun k => X' k ∨ E k)) → (∀ k, E k → ¬ X' k ∧ ¬ R' k) → ∀ o, Gro m X R w X' R' (W2.putObj w.heap.size o) ∧ Kp (fun k => (w.heap.size ≤ k ∧ ¬ X' k ∧ ¬ R' k) ∨ k = m) W2 (W2.putObj w.heap.size o) ∧ Sep m X' R' W2 := by
    rintro X' R' W2 ⟨Y, hg, rfl⟩ hEx' o
    have s2 : Sep m X' R' W2 := ⟨fun k q => hg.sep.xs k (.inl q), hg.sep.rs, fun k q => hg.sep.xr k (.inl q), fun q => hg.sep.xm (.inl q), hg.sep.rm, hg.sep.ms⟩
    have kq := kp_putObj W2 w.heap.size o
    have kp2 : Kp (fun k => X k ∨ k = m) w (W2.putObj w.heap.size o) := by
      refine ⟨kq.os.trans (hg.kp.os.trans k1.os), kq.tape.trans (hg.kp.tape.trans k1.tape), kq.output.trans (hg.kp.output.trans k1.output), Nat.le_trans k1.size (Nat.le_trans hg.kp.size kq.size), fun k hk hn => ?_⟩
      have hk1 := k1.size
      have hk2 := hg.kp.size
      refine ((kq.block k (by omega) (by omega)).trans (hg.kp.block k (by omega) (fun e => ?_))).trans (k1.block k hk (fun q => q))
      rcases e with (e | e) | e
      · exact hn (.inl e)
      · have := hE1 k e; omega
      · exact hn (.inr e)
    refine ⟨⟨fun k q => ?_, hg.r1, fun k q => ?_, kp2, s2.keep kq.size⟩, kq.mono (fun k _ q => by subst q; exact .inl ⟨by omega, hEx' _ hEl⟩), s2⟩
    · rcases hg.x k (.inl q) with (e | e) | e
      · exact .inl e
      · exact absurd q (hEx' k e).1
      · exact .inr (by omega)
    · rcases hg.r2 k q with e | e
      · exact .inl e
      · exact .inr (by omega)
  refine ⟨w.heap.size, [], W1, { target := .fn (.func gf) lb, args := #[.func (.yield w.heap.size) #[] #[]] }, W1, gf,
    #[.func (.yield w.heap.size) #[] #[]] ++ lb, W1, ?_, ?_, ?_, ?_, fun _ => by omega, ?_⟩
  · rw [← hW1, hrec]; exact run_enterLoop_inner hl₀ _ _ _ _ _
  · simp only [resolve, hg]
    simp [go_sem]
  · intro f' _; trivial
  · simp [invoke, go_sem, eg]
  · obtain ⟨O, hO⟩ : ∃ O : Nat → Option Obj, O = fun _ => none := ⟨_, rfl⟩
    have hY := round_law (P := P) (fn := fn) (tmps := a.tmps) (ps := ps) (assign := assign) (body := body) (N := w.heap.size) (l := w.heap.size) (rec := rec) ⟨_, hrec⟩ hps hOp hOpX hV I Ix sI sIx E O hEl (fun k q => ⟨(hE1 k q).1, (hE1 k q).2.2⟩) (N' := W1.heap.size) (by omega) (fun pre X R R1 x v W h => hbody _ pre X R R1 x v W h)
    have hEo1 : ∀ k, E k → k ≠ w.heap.size → W1.heap[k]? = O k := fun k q hn => by rw [hE] at q; exact absurd q hn
    have st1 := stab_more (N' := W1.heap.size) (E := E) (O := O) (l := w.heap.size) (o := fun _ => some (Obj.loop (rec .ready none))) sI (by omega) (fun k q => (hE1 k q).2.1) (fun k q => (hE1 k q).2.2) hEl
    have st2 : Stab m W1.heap.size (fun (_ : Unit) Y R W => ∃ X c, Y = (fun k => X k ∨ E k) ∧ Ix c X R W ∧ (∀ k, E k → ¬ X k ∧ ¬ R k) ∧ (∀ k, E k → k ≠ w.heap.size → W.heap[k]? = O k) ∧ W.heap[w.heap.size]? = some (.loop (rec .done (some c)))) := by
      rintro s Y R R' W W' ⟨X, c, h⟩ hs h1 h2 hk
      obtain ⟨X2, h2⟩ := stab_more (N' := W1.heap.size) (E := E) (O := O) (l := w.heap.size) (o := fun c => some (Obj.loop (rec .done (some c)))) sIx (by omega) (fun k q => (hE1 k q).2.1) (fun k q => (hE1 k q).2.2) hEl c Y R R' W W' ⟨X, h⟩ hs h1 h2 hk
      exact ⟨X2, c, h2⟩
    refine (callsIn_any (hit w.heap.size _ _ (fun k => X k ∨ E k) R W1 sep1 (hpre _ _ (fun k q => q.elim .inl (fun q => .inr (hE1 k q).1)) hb1) hop1 st1 st2 hY ⟨X, rfl, hI1, hEx, hEo1, hL1⟩)).mono ?_
    rintro e W2 ⟨rfl, Y, R', hg, ⟨hop2, h⟩ | ⟨hop2, h⟩⟩
    · obtain ⟨X', rfl, hi, hEx', hEo', hl⟩ := h
      obtain ⟨g1, g2, g3⟩ := hgr X' R' W2 ⟨_, hg, rfl⟩ hEx' (.loop (rec .exhausted none))
      have kq := kp_putObj W2 w.heap.size (.loop (rec .exhausted none))
      have hop3 := hOp _ _ hop2 (kq.mono (fun k _ q => by omega)) (kq.block m g3.ms (by omega))
      refine ⟨none, W2.putObj w.heap.size (.loop (rec .exhausted none)), ?_, hdone X' R' _ g1 hop3 (sI.k hi g3 g2)⟩
      have := run_endLoop (P := P) hl (by rw [hrec]; simp); rw [hrec] at this ⊢; exact this
    · obtain ⟨X', c, rfl, hi, hEx', hEo', hl⟩ := h
      obtain ⟨g1, g2, g3⟩ := hgr X' R' W2 ⟨_, hg, rfl⟩ hEx' (.loop (rec .exhausted (some c)))
      have kq := kp_putObj W2 w.heap.size (.loop (rec .exhausted (some c)))
      have hop3 := hOpX _ _ hop2 (kq.mono (fun k _ q => by omega)) (kq.block m g3.ms (by omega))
      refine ⟨some c, W2.putObj w.heap.size (.loop (rec .exhausted (some c))), ?_, hstop c X' R' _ g1 hop3 (sIx.k hi g3 g2)⟩
      have := run_endLoop (P := P) hl (by rw [hrec]; simp); rw [hrec] at this ⊢; exact this
/-- The loop, as a plain walk comes to it. -/
theorem range_wp (hg : a.eval g = .func (.func gf) #[] lb) (eg : ∀ args w, (callFunc gf args).run P w = .ok (.enter gf args) w) (hps : ps.size = 1)
    (hit : IterC P m Op OpX V Pre gf lb L) (hs : Sep m X R w)
    (hOp : ∀ W W', Op W → Kp (fun k => k ≠ m) W W' → W'.heap[m]? = W.heap[m]? → Op W') (hOpX : ∀ W W', OpX W → Kp (fun k => k ≠ m) W W' → W'.heap[m]? = W.heap[m]? → OpX W') (hV : ∀ W W' R v x, V W R v x → (∀ k, R k → W'.heap[k]? = W.heap[k]?) → V W' R v x) (hop : Op w)
    (hpre : ∀ Y W1, (∀ k, Y k → X k ∨ w.heap.size ≤ k) → Below w.heap.size w W1 → Pre () Y R W1)
    (I : Inv (List T)) (Ix : Inv Code) (sI : Stab m w.heap.size I) (sIx : Stab m w.heap.size Ix) (h0 : I [] X R w)
    (hbody : ∀ l pre X R R1 x v W, Rnd m Op V L w.heap.size l I pre X R R1 x v W →
      assign.wpIn (Fence.wide.inRound l) 9 P (Exit.then (fun a₁ w₁ => Kp (fun _ => False) W w₁ ∧ ∀ W2, Kp (fun k => k = l) w₁ W2 → Rnd m Op V L w.heap.size l I pre X R R1 x v W2 → body.wpIn (Fence.wide.inRound l) 9 P (bPost m Op OpX I Ix pre x X R1 W2) a₁ W2) (fun _ _ _ => False))
        { tmps := (ps.zip #[v]).foldl (fun t (p, v) => t.setIfInBounds p v) a.tmps, defers := [] } W)
    (hdone : ∀ D X' R' W, w.heap.size ≤ D → W.heap[D]? = some (.deferred (some [])) → ¬ X' D → ¬ R' D → Gro m X R w X' R' W → Op W → I L X' R' W → Q .normal { a with defers := { target := .collected D, args := #[] } :: a.defers } W)
    (hstop : ∀ D c X' R' W, w.heap.size ≤ D → W.heap[D]? = some (.deferred (some [])) → ¬ X' D → ¬ R' D → Gro m X R w X' R' W → OpX W → Ix c X' R' W → c.wp P Q { a with defers := { target := .collected D, args := #[] } :: a.defers } W) :
    (Code.rangeFunc g ps assign body).wp P Q a w :=
  wpIn_wide.1 (range_out hg eg hps hit hs hOp hOpX hV hop hpre I Ix sI sIx h0 hbody hdone (fun D c X' R' W h1 h2 h3 h4 h5 h6 h7 => wpIn_wide.2 (hstop D c X' R' W h1 h2 h3 h4 h5 h6 h7)))
/-- A function's contract, from a plain walk of its body, the loops' marks and all. -/
theorem callsIn_marks {f : FuncId} {fn : Func} {c : Code} {args : Array Value} {w : World} {R : Ending → World → Prop} (hf : P.funcs[f]? = some fn) (hb : fn.body = some c)
    (h : c.wp P (bodyPostM Fence.wide 9 P fn R) { tmps := args ++ Array.replicate (fn.ntmps - args.size) undef, defers := [] } w) : CallsIn Fence.wide 9 P f args w R :=
  callsIn_of_wp_marks hf hb trivial (wpIn_wide.2 h)
end
end
end Go.Proofs.YtiklbannoinioaaDoor
namespace Go.Proofs.YtiklbannoinioaaDoor
open Go.RowKit Go.Shelf BigFrame Go.Maps
attribute [local go_sem] Oper.semAt_some
set_option linter.unusedVariables false
set_option linter.unusedSimpArgs false
set_option maxRecDepth 100000

/-- A tree that came. -/
abbrev VT (W : World) (R : Nat → Prop) (v : Value) (t : Tr) : Prop := TrIn W R v t
theorem VT_keep (W W' : World) (R : Nat → Prop) (v : Value) (t : Tr) (h : VT W R v t) (hk : ∀ k, R k → W'.heap[k]? = W.heap[k]?) : VT W' R v t := TrIn.keep hk (fun _ q => q) h
/-- A row of n trees that came. -/
def VL (n : Nat) (W : World) (R : Nat → Prop) (v : Value) (ts : List Tr) : Prop := ts.length = n ∧ ∃ A c, v = .slice A ts.length c ∧ ts.length ≤ c ∧ c ≤ maxLen ∧ (0 < ts.length → ∃ kb off, A = some ⟨kb, off, none⟩ ∧ R kb ∧ TrsIn W R kb off ts)
theorem VL_keep (n : Nat) (W W' : World) (R : Nat → Prop) (v : Value) (ts : List Tr) (h : VL n W R v ts) (hk : ∀ k, R k → W'.heap[k]? = W.heap[k]?) : VL n W' R v ts := by
  obtain ⟨hn, A, c, e, h1, h2, h3⟩ := h
  refine ⟨hn, A, c, e, h1, h2, fun h0 => ?_⟩
  obtain ⟨kb, off, e2, q, h4⟩ := h3 h0
  exact ⟨kb, off, e2, q, TrsIn.keep hk (fun _ q => q) q h4⟩
/-- Whatever is open. -/
def OpnX (m : Nat) (W : World) : Prop := ∃ n f, n ≤ 1000000 ∧ KMap 46 zeroV W m n f
theorem OpnX_keep (m : Nat) (W W' : World) (h : OpnX m W) (_ : Kp (fun k => k ≠ m) W W') (e : W'.heap[m]? = W.heap[m]?) : OpnX m W' := by
  obtain ⟨n, f, h1, h2⟩ := h
  exact ⟨n, f, h1, h2.same e⟩
theorem OpnX.same {m : Nat} {W W' : World} (h : OpnX m W) (e : W'.heap[m]? = W.heap[m]?) : OpnX m W' := by
  obtain ⟨n, f, h1, h2⟩ := h
  exact ⟨n, f, h1, h2.same e⟩
/-- An entry put, and taken out again. -/
theorem OpnX.put {m : Nat} {W : World} (h : OpnX m W) {x : K3} (hx : inK x) :
    ∃ w', (Instr.mapUpdate 56 (.map (some m)) (kV x) (.int .i64 1)).run Tryd.prog W = .ok () w' ∧ W.grownBy w' (some m) ∧
      ∀ W2, W2.heap[m]? = w'.heap[m]? → ∀ ty, ∃ w2, (Builtin.delete_ #[56, 46] ty #[.map (some m), kV x]).run Tryd.prog W2 = .ok (.tuple #[]) w2 ∧ OpnX m w2 ∧ W2.grownBy w2 (some m) := by
  obtain ⟨n, f, h1, h2⟩ := h
  obtain ⟨w', e1, e2, e3⟩ := h2.put (t := 56) (e := 3) lawS3 (fun x => keyS3) Tryd.underlying56 hx (v := oneV) g_one (by unfold maxLen; omega)
  refine ⟨w', e1, e3, fun W2 hW ty => ?_⟩
  obtain ⟨w2, d1, d2, d3⟩ := (e2.same hW).del (t := 56) (e := 3) lawS3 (fun x => keyS3) Tryd.underlying56 hx ty
  refine ⟨w2, d1, ⟨_, _, ?_, d2⟩, d3⟩
  simp only [if_pos rfl, Option.isSome_some, if_true]
  split <;> omega
theorem Opn_keep (m : Nat) (O : List K3) (W W' : World) (h : Opn m O W) (_ : Kp (fun k => k ≠ m) W W') (e : W'.heap[m]? = W.heap[m]?) : Opn m O W' := h.same e

/-- The box of a leaf that a closure holds. -/
def PreLeaf (m bx i : Nat) : Inv Unit := fun _ X R W => W.cell? ⟨bx, 1, none⟩ = some (.int .i64 (i : Int))
set_option maxHeartbeats 4000000 in
theorem leaf_iter (m bx i : Nat) (O : List K3) : IterC Tryd.prog m (Opn m O) (OpnX m) VT (PreLeaf m bx i) 86 #[.pointer (some ⟨bx, 0, none⟩)] [.node (-1) (i : Int) []] := by
  intro l J Jx X R W hs hp hop sJ sJx hY h0
  obtain ⟨N, hN⟩ : ∃ N, N = W.heap.size := ⟨_, rfl⟩
  have z : W.cell? ⟨bx, 1, none⟩ = some (.int .i64 (i : Int)) := hp
  obtain ⟨W1, hW1⟩ : ∃ W1, W1 = W.alloc (.cells #[.int .i64 (-1), .int .i64 (i : Int), .slice none 0 0] 80) := ⟨_, rfl⟩
  have hb1 : Below W.heap.size W W1 := by rw [hW1]; exact (Below.refl _ _).alloc (Nat.le_refl _) _
  have hz1 : W1.heap.size = W.heap.size + 1 := by rw [hW1]; simp
  have k1 : Kp (fun _ => False) W W1 := Kp.of hb1
  obtain ⟨R1, hR1⟩ : ∃ R1 : Nat → Prop, R1 = fun k => R k ∨ k = W.heap.size := ⟨_, rfl⟩
  have hs1 : Sep m X R1 W1 := hs.more (fun k q => by
    rw [hR1] at q
    rcases q with q | q
    · exact .inl q
    · exact .inr ⟨by omega, fun e => by have := hs.xs k e; omega, fun e => by have := hs.ms; omega⟩) (by omega)
  have hv : VT W1 R1 (.pointer (some ⟨W.heap.size, 0, none⟩)) (.node (-1) (i : Int) []) := by
    rw [hW1]
    unfold VT
    rw [TrIn]
    exact ⟨_, none, 0, rfl, by rw [hR1]; exact .inr rfl, by simp, by simp, by simp, Nat.le_refl _, by unfold maxLen; omega, fun h => absurd h (by simp)⟩
  have hj1 : J [] X R W1 := sJ.k h0 hs (k1.mono fun _ _ q => q.elim)
  have hy := hY [] X R R1 _ _ W1 (List.prefix_refl _) hj1 hs1 (fun k q => by rw [hR1]; exact .inl q) (fun k q => by rw [hR1] at q; rcases q with q | q; exact .inl q; exact .inr (by omega)) (hop.same (k1.block m hs.ms (fun q => q))) hv
  have hGR : ∀ X' R' W', Gro m X R1 W1 X' R' W' → Gro m X R W X' R' W' := fun X' R' W' g => (Gro.refl hs).step (k1.mono fun _ _ q => q.elim) (fun k q => by rw [hR1]; exact .inl q) (fun k q => by rw [hR1] at q; rcases q with q | q; exact .inl q; exact .inr (by omega)) g
  obtain ⟨fn, tmps, assign, body, hy1, hR⟩ := hy
  have HG := Lib.hid hGR; have HRR := Lib.hid hR
  rw [hW1] at hy1
  clear hGR hj1 hv hs1 k1 hb1 h0 hY sJ sJx hop hs hR hp
  refine callsIn_of_wp_marks Tryd.func86 rfl trivial ?_ rfl
  simp only [Tryd.ntmps86, List.size_toArray, List.length_cons, List.length_nil, Nat.reduceAdd, Nat.reduceSub, Array.replicate_succ, Array.replicate_zero, List.push_toArray, List.append_toArray, List.nil_append, List.cons_append]
  gi_wp2_with fail
  rw [← hW1]
  refine (roundIn_any HRR.out).mono ?_
  rintro e W' ⟨X', R', g, (⟨rfl, hop', hj⟩ | ⟨rfl, hop', hj⟩)⟩
  · have HJ := Lib.hid hj; have HG1 := Lib.hid (HG.out X' R' W' g); have HO := Lib.hid hop'
    clear hj g hop'
    gi_wp2_with fail
    exact ⟨_, results_none rfl _ _ _, rfl, X', R', HG1.out, .inl ⟨HO.out, HJ.out⟩⟩
  · have HJ := Lib.hid hj; have HG1 := Lib.hid (HG.out X' R' W' g); have HO := Lib.hid hop'
    clear hj g hop'
    gi_wp2_with fail
    exact ⟨_, results_none rfl _ _ _, rfl, X', R', HG1.out, .inr ⟨HO.out, HJ.out⟩⟩
end Go.Proofs.YtiklbannoinioaaDoor
namespace Go.Proofs.YtiklbannoinioaaDoor
open Go.RowKit Go.Shelf BigFrame Go.Maps
attribute [local go_sem] Oper.semAt_some
set_option linter.unusedVariables false
set_option linter.unusedSimpArgs false
set_option maxRecDepth 100000

section
variable (m : Nat) (S : Nat → Prop) (B c : Nat) (G : Gr) (Ap Al As : Option Addr) (np cp nl cl ns cs : Nat) (Ai : Option Addr) (ni ci : Nat) (inp : List Int) (C : Ct)
/-- The chart lies where the consumer does not turn anything. -/
structure Stc (X : Nat → Prop) (W : World) : Prop where
  ch : ChIn W S B c m G Ap Al As np cp nl cl ns cs Ai ni ci inp C
  lt : ∀ b, S b → b < W.heap.size ∧ ¬ X b ∧ b ≠ m
  B : B ≤ W.heap.size
/-- A block that the consumer does not turn. -/
def Fixd (X : Nat → Prop) (W : World) (b : Nat) : Prop := b < W.heap.size ∧ ¬ X b ∧ b ≠ m
def PreT (bc bx : Nat) (x : K3) : Inv Unit := fun _ X R W => Stc m S B c G Ap Al As np cp nl cl ns cs Ai ni ci inp C X W ∧ Fixd m X W bc ∧ Fixd m X W bx ∧ W.cell? ⟨bc, 0, none⟩ = some (.pointer (some ⟨c, 0, none⟩)) ∧
  W.cell? ⟨bx, 0, none⟩ = some (.int .i64 (x.1 : Int)) ∧ W.cell? ⟨bx, 1, none⟩ = some (.int .i64 (x.2.1 : Int)) ∧ W.cell? ⟨bx, 2, none⟩ = some (.int .i64 (x.2.2 : Int))
def PreR (b1 b2 b3 b4 b5 p at_ i j : Nat) : Inv Unit := fun _ X R W => Stc m S B c G Ap Al As np cp nl cl ns cs Ai ni ci inp C X W ∧ (Fixd m X W b1 ∧ Fixd m X W b2 ∧ Fixd m X W b3 ∧ Fixd m X W b4 ∧ Fixd m X W b5) ∧ W.cell? ⟨b1, 0, none⟩ = some (.pointer (some ⟨c, 0, none⟩)) ∧
  W.cell? ⟨b2, 0, none⟩ = some (.int .i64 (p : Int)) ∧ W.cell? ⟨b3, 0, none⟩ = some (.int .i64 (at_ : Int)) ∧ W.cell? ⟨b4, 0, none⟩ = some (.int .i64 (i : Int)) ∧ W.cell? ⟨b5, 0, none⟩ = some (.int .i64 (j : Int))
end
section
variable {m : Nat} {S : Nat → Prop} {B c : Nat} {G : Gr} {Ap Al As : Option Addr} {np cp nl cl ns cs : Nat} {Ai : Option Addr} {ni ci : Nat} {inp : List Int} {C : Ct} {X X' R R' : Nat → Prop} {W W' : World}
theorem Stc.gro (h : Stc m S B c G Ap Al As np cp nl cl ns cs Ai ni ci inp C X W) (g : Gro m X R W X' R' W') : Stc m S B c G Ap Al As np cp nl cl ns cs Ai ni ci inp C X' W' :=
  ⟨h.ch.kp g.kp (fun b q => (h.lt b q).1) (fun b q e => e.elim (h.lt b q).2.1 (h.lt b q).2.2), fun b q => ⟨Nat.lt_of_lt_of_le (h.lt b q).1 g.kp.size, g.nx (h.lt b q).1 (h.lt b q).2.1, (h.lt b q).2.2⟩, Nat.le_trans h.B g.kp.size⟩
theorem Stc.own {Z : Nat → Prop} (h : Stc m S B c G Ap Al As np cp nl cl ns cs Ai ni ci inp C X W) (k : Kp Z W W') (hz : ∀ b, Z b → W.heap.size ≤ b ∨ b = m) : Stc m S B c G Ap Al As np cp nl cl ns cs Ai ni ci inp C X W' :=
  ⟨h.ch.kp k (fun b q => (h.lt b q).1) (fun b q e => (hz b e).elim (fun e => by have := (h.lt b q).1; omega) (h.lt b q).2.2), fun b q => ⟨Nat.lt_of_lt_of_le (h.lt b q).1 k.size, (h.lt b q).2⟩, Nat.le_trans h.B k.size⟩
theorem Stc.more {N : Nat} {Y : Nat → Prop} (h : Stc m S B c G Ap Al As np cp nl cl ns cs Ai ni ci inp C X W) (hb : Below W.heap.size W W') (hN : W.heap.size ≤ N) (hY : ∀ k, Y k → X k ∨ N ≤ k) : Stc m S B c G Ap Al As np cp nl cl ns cs Ai ni ci inp C Y W' :=
  ⟨h.ch.bel (fun b q => (h.lt b q).1) hb, fun b q => ⟨Nat.lt_of_lt_of_le (h.lt b q).1 hb.size, fun e => (hY b e).elim (h.lt b q).2.1 (fun e => by have := (h.lt b q).1; omega), (h.lt b q).2.2⟩, Nat.le_trans h.B hb.size⟩
theorem Fixd.gro {b : Nat} (h : Fixd m X W b) (g : Gro m X R W X' R' W') : Fixd m X' W' b ∧ W'.heap[b]? = W.heap[b]? := ⟨⟨Nat.lt_of_lt_of_le h.1 g.kp.size, g.nx h.1 h.2.1, h.2.2⟩, g.same h.1 h.2.1 h.2.2⟩
end

theorem rowsT_nil (C : Ct) (inp : List Int) (tf : Int → Nat → Nat → List Tr) (i j : Nat) : rowsT C inp tf [] i j = if i = j then [[]] else [] := by rw [rowsT]

section
variable (m : Nat) (S : Nat → Prop) (B c : Nat) (G : Gr) (Ap Al As : Option Addr) (np cp nl cl ns cs : Nat) (Ai : Option Addr) (ni ci : Nat) (inp : List Int) (C : Ct)
set_option maxHeartbeats 4000000 in
theorem rows_end (hk : GOk G) (O : List K3) (tf : Int → Nat → Nat → List Tr) (p : Nat) (hp : p < np) (hn : ni ≤ 100) (at_ : Nat) (hat : at_ = (rtN G p).length) (i j : Nat) (hi : i ≤ ni) (hj : j ≤ ni) (b1 b2 b3 b4 b5 : Nat) :
    IterC Tryd.prog m (Opn m O) (OpnX m) (VL ((rtN G p).length - at_)) (PreR m S B c G Ap Al As np cp nl cl ns cs Ai ni ci inp C b1 b2 b3 b4 b5 p at_ i j) 37 #[.pointer (some ⟨b1, 0, none⟩), .pointer (some ⟨b2, 0, none⟩), .pointer (some ⟨b3, 0, none⟩), .pointer (some ⟨b4, 0, none⟩), .pointer (some ⟨b5, 0, none⟩)] (rowsT C inp tf ((rtN G p).drop at_) i j) := by
  intro l J Jx X R W hs hp0 hop sJ sJx hY h0
  obtain ⟨hst, _, z1, z2, z3, z4, z5⟩ := hp0
  have hpl : G.prods.length = np := hst.ch.gi.p.len.1
  obtain ⟨W1, hW1⟩ : ∃ W1, W1 = W.alloc (.cells #[.func (.yield l) #[] #[]] 97) := ⟨_, rfl⟩
  have hb1 : Below W.heap.size W W1 := by rw [hW1]; exact (Below.refl _ _).alloc (Nat.le_refl _) _
  have k1 : Kp (fun _ => False) W W1 := Kp.of hb1
  have hst1 := hst.own k1 (fun _ q => q.elim)
  obtain ⟨b, off, A', n', c', rfl, hb, y0, y1, e1, e2, e3, e4⟩ := hst1.ch.gi.p.rt hp
  have y3 := hst1.ch.g3
  have w1 := (hb1.cell (p := ⟨b1, 0, none⟩) (lt_cell z1)).trans z1
  have w2 := (hb1.cell (p := ⟨b2, 0, none⟩) (lt_cell z2)).trans z2
  have w3 := (hb1.cell (p := ⟨b3, 0, none⟩) (lt_cell z3)).trans z3
  have w4 := (hb1.cell (p := ⟨b4, 0, none⟩) (lt_cell z4)).trans z4
  have w5 := (hb1.cell (p := ⟨b5, 0, none⟩) (lt_cell z5)).trans z5
  have hl := rtN_len hk (p := p) (by omega)
  have hdn : (rtN G p).drop at_ = [] := List.drop_eq_nil_of_le (by omega)
  obtain rfl : at_ = n' := by omega
  have HD := Lib.hid hdn
  have HY := Lib.hid (fun (hij : i = j) q => hY [] X R R [] (.slice none 0 0) (W1.drewN q) (by rw [hdn, rowsT_nil, if_pos hij]; exact List.prefix_refl _) (sJ.k h0 hs ((k1.draws q).mono fun _ _ q => q.elim)) (hs.keep k1.size) (fun _ q => q) (fun _ q => .inl q) (hop.same (k1.block m hs.ms (fun q => q))) ⟨by simp; omega, none, 0, rfl, Nat.le_refl _, by unfold maxLen; omega, fun h => absurd h (by simp)⟩)
  have HN := Lib.hid (fun q => sJ.k h0 hs ((k1.draws q).mono fun _ _ q => q.elim))
  have HG : Hid (∀ q X' R' W', Gro m X R (W1.drewN q) X' R' W' → Gro m X R W X' R' W') := Lib.hid (fun q X' R' W' g => (Gro.refl hs).step ((k1.draws q).mono fun _ _ q => q.elim) (fun k q => q) (fun k q => .inl q) g)
  have HS := Lib.hid hs; have HOP := Lib.hid hop; have HK := Lib.hid k1
  clear hs hop h0 hY sJ sJx hdn hst hst1 hat e1 e4 z1 z2 z3 z4 z5 y0 k1 hl
  unfold maxLen at e3
  have HW1 := Lib.hid hW1
  have HZ : Hid (∀ q, (W1.drewN q).cell? ⟨W.heap.size, 0, none⟩ = some (.func (.yield l) #[] #[])) := Lib.hid (fun q => by rw [hW1]; show (W.alloc _).cell? _ = _; simp)
  rw [hW1] at w1 w2 w3 w4 w5 y1 y3
  clear hW1 hb1
  by_cases q : i = j
  · subst q
    refine callsIn_marks Tryd.func37 rfl ?_
    simp only [Tryd.ntmps37, List.size_toArray, List.length_cons, List.length_nil, Nat.reduceAdd, Nat.reduceSub, Array.replicate_succ, Array.replicate_zero, List.push_toArray, List.append_toArray, List.nil_append, List.cons_append]
    go_wp2_with fail
    go_quiet (fail)
    go_upto_region 4 with (fail)
    rw [← HW1.out]
    have hy := HY.out (by first | exact trivial | rfl) nq
    obtain ⟨fn, tmps, assign, body, hy1, hR⟩ := hy
    have HR := Lib.hid hR
    have zy := HZ.out nq
    clear hR
    refine (wpIn_wide (n := 9)).1 ?_
    gi_wp2_with fail
    refine (roundIn_any HR.out).mono ?_
    rintro e W' ⟨X', R', g, (⟨rfl, hop', hj⟩ | ⟨rfl, hop', hj⟩)⟩
    · have HJ := Lib.hid hj; have HG1 := Lib.hid (HG.out nq X' R' W' g); have HO := Lib.hid hop'
      clear hj g hop'
      gi_wp2_with fail
      go_wp2_with fail
      exact ⟨_, results_none rfl _ _ _, rfl, X', R', HG1.out, .inl ⟨HO.out, by rw [HD.out, rowsT, if_pos rfl]; exact HJ.out⟩⟩
    · have HJ := Lib.hid hj; have HG1 := Lib.hid (HG.out nq X' R' W' g); have HO := Lib.hid hop'
      clear hj g hop'
      gi_wp2_with fail
      go_wp2_with fail
      exact ⟨_, results_none rfl _ _ _, rfl, X', R', HG1.out, .inr ⟨HO.out, HJ.out⟩⟩
  · have d0 : ((i : Int) == (j : Int)) = false := by simp; omega
    have HQ := Lib.hid q
    clear q
    refine callsIn_marks Tryd.func37 rfl ?_
    simp only [Tryd.ntmps37, List.size_toArray, List.length_cons, List.length_nil, Nat.reduceAdd, Nat.reduceSub, Array.replicate_succ, Array.replicate_zero, List.push_toArray, List.append_toArray, List.nil_append, List.cons_append]
    go_wp2_with fail
    go_quiet (fail)
    go_wp2_with fail
    rw [← HW1.out]
    exact ⟨_, results_none rfl _ _ _, rfl, X, R, (Gro.refl HS.out).own ((HK.out.draws _).mono fun _ _ q => q.elim), .inl ⟨HOP.out.same (HK.out.block m HS.out.ms (fun q => q)), by rw [HD.out, rowsT, if_neg HQ.out]; exact HN.out _⟩⟩
theorem cell_newA (W : World) (vs : List Value) (e : TypeId) (n i : Nat) (u : Value) (hn : W.heap.size = n) (hu : vs[i]? = some u) : (W.alloc (.cells vs.toArray e)).cell? ⟨n, i, none⟩ = some u := by subst hn; exact (Blk.new W e vs).cell hu
theorem cell_oldA (W : World) (o : Obj) (p : Addr) (u : Value) (h : W.cell? p = some u) (hp : p.block < W.heap.size) : (W.alloc o).cell? p = some u := (((Below.refl _ W).alloc (Nat.le_refl _) o).cell hp).trans h
/-- The closure that rows makes. -/
theorem mkRows_any (p at_ i j : Nat) (w : World) : Calls Tryd.prog 27 #[.pointer (some ⟨c, 0, none⟩), .int .i64 p, .int .i64 at_, .int .i64 i, .int .i64 j] w fun e w' =>
    e = .returned (.func (.func 37) #[] #[.pointer (some ⟨w.heap.size, 0, none⟩), .pointer (some ⟨w.heap.size + 1, 0, none⟩), .pointer (some ⟨w.heap.size + 2, 0, none⟩), .pointer (some ⟨w.heap.size + 3, 0, none⟩), .pointer (some ⟨w.heap.size + 4, 0, none⟩)]) ∧
    Below w.heap.size w w' ∧ w'.heap.size = w.heap.size + 5 ∧ w'.cell? ⟨w.heap.size, 0, none⟩ = some (.pointer (some ⟨c, 0, none⟩)) ∧ w'.cell? ⟨w.heap.size + 1, 0, none⟩ = some (.int .i64 p) ∧ w'.cell? ⟨w.heap.size + 2, 0, none⟩ = some (.int .i64 at_) ∧ w'.cell? ⟨w.heap.size + 3, 0, none⟩ = some (.int .i64 i) ∧ w'.cell? ⟨w.heap.size + 4, 0, none⟩ = some (.int .i64 j) := by
  obtain ⟨a1, h1⟩ : ∃ a1, a1 = w.alloc (.cells [.pointer (some ⟨c, 0, none⟩)].toArray 42) := ⟨_, rfl⟩
  obtain ⟨a2, h2⟩ : ∃ a2, a2 = a1.alloc (.cells [.int .i64 (p : Int)].toArray 3) := ⟨_, rfl⟩
  obtain ⟨a3, h3⟩ : ∃ a3, a3 = a2.alloc (.cells [.int .i64 (at_ : Int)].toArray 3) := ⟨_, rfl⟩
  obtain ⟨a4, h4⟩ : ∃ a4, a4 = a3.alloc (.cells [.int .i64 (i : Int)].toArray 3) := ⟨_, rfl⟩
  obtain ⟨a5, h5⟩ : ∃ a5, a5 = a4.alloc (.cells [.int .i64 (j : Int)].toArray 3) := ⟨_, rfl⟩
  have s1 : a1.heap.size = w.heap.size + 1 := by rw [h1]; simp
  have s2 : a2.heap.size = w.heap.size + 2 := by rw [h2]; simp [s1]
  have s3 : a3.heap.size = w.heap.size + 3 := by rw [h3]; simp [s2]
  have s4 : a4.heap.size = w.heap.size + 4 := by rw [h4]; simp [s3]
  have s5 : a5.heap.size = w.heap.size + 5 := by rw [h5]; simp [s4]
  have b1 : Below w.heap.size w a1 := by rw [h1]; exact (Below.refl _ _).alloc (Nat.le_refl _) _
  have b2 : Below (w.heap.size + 1) a1 a2 := by rw [h2, ← s1]; exact (Below.refl _ _).alloc (Nat.le_refl _) _
  have b3 : Below (w.heap.size + 2) a2 a3 := by rw [h3, ← s2]; exact (Below.refl _ _).alloc (Nat.le_refl _) _
  have b4 : Below (w.heap.size + 3) a3 a4 := by rw [h4, ← s3]; exact (Below.refl _ _).alloc (Nat.le_refl _) _
  have b5 : Below (w.heap.size + 4) a4 a5 := by rw [h5, ← s4]; exact (Below.refl _ _).alloc (Nat.le_refl _) _
  have c1 : a1.cell? ⟨w.heap.size, 0, none⟩ = some (.pointer (some ⟨c, 0, none⟩)) := by rw [h1]; exact cell_newA w _ _ _ _ _ rfl rfl
  have c2 : a2.cell? ⟨w.heap.size + 1, 0, none⟩ = some (.int .i64 p) := by rw [h2]; exact cell_newA a1 _ _ _ _ _ s1 rfl
  have c3 : a3.cell? ⟨w.heap.size + 2, 0, none⟩ = some (.int .i64 at_) := by rw [h3]; exact cell_newA a2 _ _ _ _ _ s2 rfl
  have c4 : a4.cell? ⟨w.heap.size + 3, 0, none⟩ = some (.int .i64 i) := by rw [h4]; exact cell_newA a3 _ _ _ _ _ s3 rfl
  have c5 : a5.cell? ⟨w.heap.size + 4, 0, none⟩ = some (.int .i64 j) := by rw [h5]; exact cell_newA a4 _ _ _ _ _ s4 rfl
  have HF : Hid (Below w.heap.size w a5 ∧ a5.heap.size = w.heap.size + 5 ∧ a5.cell? ⟨w.heap.size, 0, none⟩ = some (.pointer (some ⟨c, 0, none⟩)) ∧ a5.cell? ⟨w.heap.size + 1, 0, none⟩ = some (.int .i64 p) ∧ a5.cell? ⟨w.heap.size + 2, 0, none⟩ = some (.int .i64 at_) ∧ a5.cell? ⟨w.heap.size + 3, 0, none⟩ = some (.int .i64 i) ∧ a5.cell? ⟨w.heap.size + 4, 0, none⟩ = some (.int .i64 j)) := Lib.hid
    ⟨b1.trans ((b2.mono (by omega)).trans ((b3.mono (by omega)).trans ((b4.mono (by omega)).trans (b5.mono (by omega))))), s5,
      (b5.cell (p := ⟨w.heap.size, 0, none⟩) (by show w.heap.size < _; omega)).trans ((b4.cell (p := ⟨w.heap.size, 0, none⟩) (by show w.heap.size < _; omega)).trans ((b3.cell (p := ⟨w.heap.size, 0, none⟩) (by show w.heap.size < _; omega)).trans ((b2.cell (p := ⟨w.heap.size, 0, none⟩) (by show w.heap.size < _; omega)).trans c1))),
      (b5.cell (p := ⟨w.heap.size + 1, 0, none⟩) (by show w.heap.size + 1 < _; omega)).trans ((b4.cell (p := ⟨w.heap.size + 1, 0, none⟩) (by show w.heap.size + 1 < _; omega)).trans ((b3.cell (p := ⟨w.heap.size + 1, 0, none⟩) (by show w.heap.size + 1 < _; omega)).trans c2)),
      (b5.cell (p := ⟨w.heap.size + 2, 0, none⟩) (by show w.heap.size + 2 < _; omega)).trans ((b4.cell (p := ⟨w.heap.size + 2, 0, none⟩) (by show w.heap.size + 2 < _; omega)).trans c3),
      (b5.cell (p := ⟨w.heap.size + 3, 0, none⟩) (by show w.heap.size + 3 < _; omega)).trans c4, c5⟩
  rw [h5, h4, h3, h2, h1] at HF
  clear c1 c2 c3 c4 c5 b1 b2 b3 b4 b5 s1 s2 s3 s4 s5 h5 h4 h3 h2 h1
  go_enter Tryd.func27, Tryd.ntmps27
  go_wp2_with fail
  go_ret
  exact ⟨rfl, HF.out⟩
/-- The closure that trees makes. -/
theorem mkTrees_any (x : K3) (w : World) : Calls Tryd.prog 18 #[.pointer (some ⟨c, 0, none⟩), kV x] w fun e w' =>
    e = .returned (.func (.func 25) #[] #[.pointer (some ⟨w.heap.size, 0, none⟩), .pointer (some ⟨w.heap.size + 1, 0, none⟩)]) ∧
    w' = (w.alloc (.cells #[.pointer (some ⟨c, 0, none⟩)] 42)).alloc (.cells #[.int .i64 x.1, .int .i64 x.2.1, .int .i64 x.2.2] 46) := by
  unfold kV
  go_enter Tryd.func18, Tryd.ntmps18
  go_wp2_with fail
  go_ret
  exact ⟨rfl, rfl⟩
theorem mkSpan_any (a i j : Nat) (w : World) : Calls Tryd.prog 81 #[.agg #[.int .i64 a, .int .i64 i, .int .i64 j], .pointer (some ⟨c, 0, none⟩)] w fun e w' =>
    e = .returned (.func (.func 25) #[] #[.pointer (some ⟨w.heap.size + 1, 0, none⟩), .pointer (some ⟨w.heap.size + 2, 0, none⟩)]) ∧
    Below w.heap.size w w' ∧ w'.heap.size = w.heap.size + 3 ∧ w'.cell? ⟨w.heap.size + 1, 0, none⟩ = some (.pointer (some ⟨c, 0, none⟩)) ∧ w'.cell? ⟨w.heap.size + 2, 0, none⟩ = some (.int .i64 a) ∧ w'.cell? ⟨w.heap.size + 2, 1, none⟩ = some (.int .i64 i) ∧ w'.cell? ⟨w.heap.size + 2, 2, none⟩ = some (.int .i64 j) := by
  obtain ⟨a1, h1⟩ : ∃ a1, a1 = w.alloc (.cells #[.int .i64 (a : Int), .int .i64 (i : Int), .int .i64 (j : Int)] 46) := ⟨_, rfl⟩
  have s1 : a1.heap.size = w.heap.size + 1 := by rw [h1]; simp
  have b1 : Below w.heap.size w a1 := by rw [h1]; exact (Below.refl _ _).alloc (Nat.le_refl _) _
  have HM := Lib.hid (mkTrees_any c (a, i, j) a1)
  unfold kV at HM
  have HF : Hid (∀ w', w' = (a1.alloc (.cells #[.pointer (some ⟨c, 0, none⟩)] 42)).alloc (.cells #[.int .i64 a, .int .i64 i, .int .i64 j] 46) → Below w.heap.size w w' ∧ w'.heap.size = w.heap.size + 3 ∧ w'.cell? ⟨w.heap.size + 1, 0, none⟩ = some (.pointer (some ⟨c, 0, none⟩)) ∧ w'.cell? ⟨w.heap.size + 2, 0, none⟩ = some (.int .i64 a) ∧ w'.cell? ⟨w.heap.size + 2, 1, none⟩ = some (.int .i64 i) ∧ w'.cell? ⟨w.heap.size + 2, 2, none⟩ = some (.int .i64 j)) := Lib.hid (by
    intro w' hw'
    obtain ⟨a2, h2⟩ : ∃ a2, a2 = a1.alloc (.cells [.pointer (some ⟨c, 0, none⟩)].toArray 42) := ⟨_, rfl⟩
    have h3 : w' = a2.alloc (.cells [.int .i64 (a : Int), .int .i64 (i : Int), .int .i64 (j : Int)].toArray 46) := by rw [h2]; exact hw'
    have s2 : a2.heap.size = w.heap.size + 2 := by rw [h2]; simp [s1]
    have s3 : w'.heap.size = w.heap.size + 3 := by rw [h3]; simp [s2]
    have b2 : Below (w.heap.size + 1) a1 a2 := by rw [h2, ← s1]; exact (Below.refl _ _).alloc (Nat.le_refl _) _
    have b3 : Below (w.heap.size + 2) a2 w' := by rw [h3, ← s2]; exact (Below.refl _ _).alloc (Nat.le_refl _) _
    have c2 : a2.cell? ⟨w.heap.size + 1, 0, none⟩ = some (.pointer (some ⟨c, 0, none⟩)) := by rw [h2]; exact cell_newA a1 _ _ _ _ _ s1 rfl
    refine ⟨b1.trans ((b2.mono (by omega)).trans (b3.mono (by omega))), s3, (b3.cell (p := ⟨w.heap.size + 1, 0, none⟩) (by show w.heap.size + 1 < _; omega)).trans c2, ?_, ?_, ?_⟩
    · rw [h3]; exact cell_newA a2 _ _ _ 0 _ s2 rfl
    · rw [h3]; exact cell_newA a2 _ _ _ 1 _ s2 rfl
    · rw [h3]; exact cell_newA a2 _ _ _ 2 _ s2 rfl)
  have HS1 := Lib.hid s1
  rw [h1] at HM HF HS1
  clear h1 s1 b1
  go_enter Tryd.func81, Tryd.ntmps81
  go_wp2_with fail
  refine HM.out.mono ?_
  rintro e w' ⟨rfl, hw'⟩
  have HW := Lib.hid (HF.out w' hw')
  clear hw'
  go_wp2_with fail
  go_ret
  exact ⟨rfl, HW.out⟩
theorem mkLeaf_any (s : Int) (i j : Nat) (w : World) : Calls Tryd.prog 84 #[.agg #[.int .i64 s, .int .i64 i, .int .i64 j], .pointer (some ⟨c, 0, none⟩)] w fun e w' =>
    e = .returned (.func (.func 86) #[] #[.pointer (some ⟨w.heap.size, 0, none⟩)]) ∧ w' = w.alloc (.cells #[.int .i64 s, .int .i64 i, .int .i64 j] 111) := by
  go_enter Tryd.func84, Tryd.ntmps84
  go_wp2_with fail
  go_ret
  exact ⟨rfl, rfl⟩

/-- An append, as a step of a region in a round: its run is known. -/
theorem step_append_in {F : Fence} {n : Nat} {P : Program} {ops : Array Oper} {Q : Exit → Act → World → Prop} {K : Act → World → Prop} {a : Act} {w w' : World} {o : Oper} (hg : o.guard = none) (s x : Operand) (t : TypeId) (hop : o.op = Op.call { callee := Callee.builtin Builtin.append, args := #[s, x], argTypes := #[t, t] })
    (v u r : Value) (hs : a.eval s = v) (hx : a.eval x = u) (hrun : (Builtin.append_ #[t, t] o.type #[v, u]).run P w = .ok r w') (hK : K (a.put o.dst r) w') :
    if Region.wanted o (yielded ops a.tmps) = true then Oper.wpIn F n P o a w K Q else (∀ f, o.about P w a.eval = some f → F.fn f) ∧ K (a.put o.dst undef) w := by
  rw [if_pos (by simp [Region.wanted, hg])]
  unfold Oper.wpIn
  refine ⟨?_, ?_⟩
  · simp [Oper.about, hop, resolve, Target.leads, Sem.run_pure]
  · rw [Oper.semAt_plain F _ _ (by rw [hop]; intro c hc'; cases hc')]
    simp [execOp, hop, resolve, invoke, builtin, hs, hx, hrun, Result.andThen]
    exact hK
theorem elT : ElTy Tryd.prog 28 34 1 8 (.pointer none) := ⟨Tryd.underlying28, by kernel_rfl, rfl, by decide⟩
theorem trs_cells {W : World} {R : Nat → Prop} {kb : Nat} : ∀ {ts : List Tr} {off : Nat}, TrsIn W R kb off ts → ∃ vs : List Value, vs.length = ts.length ∧ (∀ u ∈ vs, u.oneCell' = true) ∧ ∀ j t, ts[j]? = some t → ∃ u, vs[j]? = some u ∧ W.cell? ⟨kb, off + j, none⟩ = some u ∧ TrIn W R u t
  | [], off, _ => ⟨[], rfl, (fun u h => by cases h), (fun j t h => by simp at h)⟩
  | t :: ts, off, h => by
    rw [TrsIn] at h
    obtain ⟨⟨u, h1, h2⟩, h3⟩ := h
    obtain ⟨vs, e1, e2, e3⟩ := trs_cells h3
    refine ⟨u :: vs, by simp [e1], fun x hx => ?_, fun j t' hj => ?_⟩
    · rcases List.mem_cons.1 hx with rfl | hx
      · exact h2.one
      · exact e2 x hx
    · cases j with
      | zero => simp at hj; subst hj; exact ⟨u, rfl, h1, h2⟩
      | succ j =>
        obtain ⟨u', f1, f2, f3⟩ := e3 j t' (by simpa using hj)
        exact ⟨u', by simpa using f1, by rw [← f2]; congr 2; omega, f3⟩
/-- A tree put in front of a row. -/
theorem cons_row (W : World) (R : Nat → Prop) (v0 : Option Addr) (x : Tr) (ys : List Tr) (A : Option Addr) (n ca : Nat) (hV : VL n W R (.slice A ys.length ca) ys) (hx : TrIn W R (.pointer v0) x) (hR : ∀ k, R k → k < W.heap.size) (hn : n ≤ 100) :
    ∃ v' w', (Builtin.append_ #[28, 28] 28 #[.slice (some ⟨W.heap.size, 0, none⟩) 1 1, .slice A ys.length ca]).run Tryd.prog (W.alloc (.cells #[.pointer v0] 34)) = .ok v' w' ∧ Below W.heap.size W w' ∧
      VL (n + 1) w' (fun k => R k ∨ (W.heap.size ≤ k ∧ k < w'.heap.size)) v' (x :: ys) := by
  obtain ⟨hl, A', c', e, h1, h2, h3⟩ := hV
  simp only [Value.slice.injEq] at e
  obtain ⟨rfl, -, rfl⟩ := e
  have hb1 : Below W.heap.size W (W.alloc (.cells #[.pointer v0] 34)) := (Below.refl _ _).alloc (Nat.le_refl _) _
  have hc0 : (W.alloc (.cells #[.pointer v0] 34)).heap[W.heap.size]? = some (.cells #[.pointer v0] 34 (0, 0)) := heap_alloc_new W _
  have hx1 : ∀ w', Below W.heap.size W w' → TrIn w' (fun k => R k ∨ (W.heap.size ≤ k ∧ k < w'.heap.size)) (.pointer v0) x := fun w' hb => TrIn.keep (fun k q => hb.block k (hR k q)) (fun _ q => .inl q) hx
  cases ys with
  | nil =>
    have hrun := run_app_zero elT 28 (W.alloc (.cells #[.pointer v0] 34)) (some ⟨W.heap.size, 0, none⟩) 1 1 (Nat.le_refl _) A ca
    refine ⟨_, _, hrun, hb1, by simp at hl ⊢; omega, some ⟨W.heap.size, 0, none⟩, 1, rfl, Nat.le_refl _, by unfold maxLen; omega, fun _ => ⟨_, 0, rfl, .inr ⟨Nat.le_refl _, by simp⟩, ?_⟩⟩
    rw [TrsIn]
    refine ⟨⟨.pointer v0, ?_, hx1 _ hb1⟩, by rw [TrsIn]; trivial⟩
    rw [cell_of_row _ W.heap.size 0 _ 34 (0, 0) hc0]; rfl
  | cons y ys =>
    obtain ⟨kb, off, rfl, hkb, hts⟩ := h3 (by simp)
    obtain ⟨vs, e1, e2, e3⟩ := trs_cells hts
    obtain ⟨i, hi, hz, hsz, hby⟩ := info_parts elT.hi
    have hown : (W.alloc (.cells #[.pointer v0] 34)).ownsRow W.heap.size 34 1 (.slice (some ⟨W.heap.size, 0, none⟩) 1 1) 1 [.pointer v0] := ⟨rfl, .inr ⟨W.heap.size, 1, #[.pointer v0], rfl, Nat.le_refl _, hc0, Nat.le_refl _, by unfold maxLen; omega, rfl, rfl⟩⟩
    obtain ⟨v', w', hrun, hown', hg, _, hb5⟩ := run_append_own_at (w := W.alloc (.cells #[.pointer v0] 34)) W.heap.size 28 28 34 i (.pointer none) 1 8 elT.ht hi hz hsz hby elT.hz elT.hs _ 1 [.pointer v0] hown ⟨kb, off, none⟩ (y :: ys).length ca vs (by rw [e1]; simp) (fun j u hu => by
      have hj : j < (y :: ys).length := by rw [← e1]; exact (List.getElem?_eq_some_iff.1 hu).1
      obtain ⟨u', f1, f2, _⟩ := e3 j _ (List.getElem?_eq_getElem hj)
      rw [hu] at f1
      cases f1
      have hadd : (⟨kb, off, none⟩ : Addr).add j = ⟨kb, off + j, none⟩ := by unfold Addr.add; split <;> simp_all
      rw [hadd]
      exact (hb1.cell (p := ⟨kb, off + j, none⟩) (hR kb hkb)).trans f2) e2 (by unfold maxLen; omega) (by omega) (by simp)
    have hbw : Below W.heap.size W w' := by
      refine ⟨hg.os.trans hb1.os, hg.tape.trans hb1.tape, hg.output.trans hb1.output, Nat.le_trans hb1.size hg.size, fun k hk => (hg.block k (Nat.lt_of_lt_of_le hk hb1.size) (fun e => ?_)).trans (hb1.block k hk)⟩
      simp [Value.ownBlock] at e
      omega
    obtain ⟨f1, f2⟩ := hown'
    rcases f2 with ⟨_, q⟩ | ⟨g, cap, cur, rfl, hg1, hg2, hg3, hg4, hg5, hg6⟩
    · omega
    · have hglt := (Array.getElem?_eq_some_iff.1 hg2).1
      refine ⟨_, _, hrun, hbw, by simp at hl ⊢; omega, some ⟨g, 0, none⟩, cap, by simp [Nat.add_comm], by simp at hg3 ⊢; omega, hg4, fun _ => ⟨g, 0, rfl, .inr ⟨hg1, hglt⟩, TrsIn.mk_ fun j t hj => ?_⟩⟩
      have cell : ∀ u, ([Value.pointer v0] ++ vs)[j]? = some u → w'.cell? ⟨g, 0 + j, none⟩ = some u := fun u hu => by
        rw [cell_of_row w' g (0 + j) cur 34 (0, 0) hg2, Nat.zero_add]
        rw [← hg6] at hu
        rw [List.getElem?_take] at hu
        split at hu
        · simpa using hu
        · cases hu
      cases j with
      | zero =>
        simp at hj
        subst hj
        exact ⟨_, cell _ rfl, hx1 _ hbw⟩
      | succ j =>
        obtain ⟨u, q1, q2, q3⟩ := e3 j t (by simpa using hj)
        exact ⟨u, cell u (by simpa using q1), TrIn.keep (fun k q => hbw.block k (hR k q)) (fun _ q => .inl q) q3⟩
/-- What one place between gives. -/
def gapT (C : Ct) (inp : List Int) (tf : Int → Nat → Nat → List Tr) (s : Int) (r : List Int) (i j mm : Nat) : List (List Tr) :=
  if stB C inp s i mm && restB C inp r mm j then (tf s i mm).flatMap fun k => (rowsT C inp tf r mm j).map (k :: ·) else []
theorem rowsT_cons (C : Ct) (inp : List Int) (tf : Int → Nat → Nat → List Tr) (s : Int) (r : List Int) (i j : Nat) : rowsT C inp tf (s :: r) i j = (mids i j).flatMap (gapT C inp tf s r i j) := by rw [rowsT]; rfl
theorem mids_pf {i j k : Nat} (h : i + k ≤ j) : (midsTo i k ++ [i + k]) <+: mids i j := by
  obtain ⟨d, e⟩ : ∃ d, j + 1 - i = k + 1 + d := ⟨j - i - k, by omega⟩
  have h2 : List.range (k + 1) <+: List.range (k + 1 + d) := ⟨_, (List.range_add ..).symm⟩
  rw [← midsTo_succ]
  unfold mids
  rw [e]
  exact h2.map _
/-- Where the loop over the places between stands. -/
structure RInv (m : Nat) (O : List K3) (J : Inv (List (List Tr))) (fm : Nat → List (List Tr)) (l i j : Nat) (X R : Nat → Prop) (W : World) (k mb : Nat) (Ds : List Nat) (X' R' : Nat → Prop) (wr : World) : Prop where
  kj : k ≤ j + 1 - i
  g : Gro m X R W X' R' wr
  jl : J ((midsTo i k).flatMap fm) X' R' wr
  op : Opn m O wr
  yb : Mine m X' R' wr W.heap.size
  yc : wr.cell? ⟨W.heap.size, 0, none⟩ = some (.func (.yield l) #[] #[])
  mm : Mine m X' R' wr mb
  mc : Blk wr mb 3 [.int .i64 ((i + k : Nat) : Int)]
  mW : W.heap.size ≤ mb
  nd : Ds.Nodup
  ds : ∀ D ∈ Ds, Mine m X' R' wr D ∧ wr.heap[D]? = some (.deferred (some [])) ∧ W.heap.size ≤ D
/-- The next place between: a box of its own for it. -/
theorem RInv.next {m : Nat} {O : List K3} {J : Inv (List (List Tr))} {fm : Nat → List (List Tr)} {l i j : Nat} {X R : Nat → Prop} {W : World} {k mb : Nat} {Ds : List Nat} {X' R' X'' R'' : Nat → Prop} {wr W3 : World} (h : RInv m O J fm l i j X R W k mb Ds X' R' wr) (hk : i + k ≤ j)
    (sJ : Stab m W.heap.size J) (g : Gro m X R W X'' R'' W3) (gy : Mine m X'' R'' W3 W.heap.size) (gc : W3.cell? ⟨W.heap.size, 0, none⟩ = some (.func (.yield l) #[] #[])) (hj : J ((midsTo i k).flatMap fm ++ fm (i + k)) X'' R'' W3) (hop : Opn m O W3) (Ds' : List Nat) (hn : Ds'.Nodup) (hd : ∀ D ∈ Ds', Mine m X'' R'' W3 D ∧ W3.heap[D]? = some (.deferred (some [])) ∧ W.heap.size ≤ D) :
    RInv m O J fm l i j X R W (k + 1) W3.heap.size Ds' X'' R'' (W3.alloc (.cells #[.int .i64 (((i + k : Nat) : Int) + 1)] 3)) := by
  have k3 : Kp (fun _ => False) W3 (W3.alloc (.cells #[.int .i64 (((i + k : Nat) : Int) + 1)] 3)) := Kp.of ((Below.refl _ _).alloc (Nat.le_refl _) _)
  have hsz : (W3.alloc (.cells #[.int .i64 (((i + k : Nat) : Int) + 1)] 3)).heap.size = W3.heap.size + 1 := by simp
  refine ⟨by have := h.kj; omega, g.own (k3.mono fun _ _ q => q.elim), ?_, hop.same (k3.block m g.sep.ms (fun q => q)), gy.keep k3.size, (k3.cell (p := ⟨W.heap.size, 0, none⟩) gy.lt (fun q => q)).trans gc, ⟨by omega, fun q => by have := g.sep.xs _ q; omega, fun q => by have := g.sep.rs _ q; omega, fun q => by have := g.sep.ms; omega⟩, ?_, g.kp.size, hn, fun D q => ?_⟩
  · rw [midsTo_succ, List.flatMap_append]
    have e : fm (i + k) = List.flatMap fm [i + k] := by simp
    rw [← e]
    exact sJ.k hj g.sep (k3.mono fun _ _ q => q.elim)
  · have := Blk.new W3 3 [.int .i64 (((i + k : Nat) : Int) + 1)]
    exact this
  · obtain ⟨q1, q2, q3⟩ := hd D q
    exact ⟨q1.keep k3.size, (k3.block D q1.lt (fun q => q)).trans q2, q3⟩
/-- Nothing there. -/
theorem RInv.skip {m : Nat} {O : List K3} {J : Inv (List (List Tr))} {fm : Nat → List (List Tr)} {l i j : Nat} {X R : Nat → Prop} {W : World} {k mb mm : Nat} {Ds : List Nat} {X' R' : Nat → Prop} {wr W3 : World} (h : RInv m O J fm l i j X R W k mb Ds X' R' wr) (hmm : mm = i + k) (hk : mm ≤ j)
    (sJ : Stab m W.heap.size J) (hb : Below wr.heap.size wr W3) (he : fm mm = []) :
    RInv m O J fm l i j X R W (k + 1) W3.heap.size Ds X' R' (W3.alloc (.cells #[.int .i64 ((mm : Int) + 1)] 3)) := by
  subst hmm
  have k3 : Kp (fun _ => False) wr W3 := Kp.of hb
  refine h.next (by omega) sJ (h.g.own (k3.mono fun _ _ q => q.elim)) (h.yb.keep k3.size) ((k3.cell (p := ⟨W.heap.size, 0, none⟩) h.yb.lt (fun q => q)).trans h.yc) ?_ (h.op.same (k3.block m h.g.sep.ms (fun q => q))) Ds h.nd (fun D q => ?_)
  · rw [he, List.append_nil]
    exact sJ.k h.jl h.g.sep (k3.mono fun _ _ q => q.elim)
  · obtain ⟨q1, q2, q3⟩ := h.ds D q
    exact ⟨q1.keep k3.size, (k3.block D q1.lt (fun q => q)).trans q2, q3⟩
theorem RInv.next' {m : Nat} {O : List K3} {J : Inv (List (List Tr))} {fm : Nat → List (List Tr)} {l i j : Nat} {X R : Nat → Prop} {W : World} {k mb mm D : Nat} {Ds : List Nat} {X' R' X'' R'' : Nat → Prop} {wr w4 W3 : World} (h : RInv m O J fm l i j X R W k mb Ds X' R' wr) (hmm : mm = i + k) (hk : mm ≤ j)
    (sJ : Stab m W.heap.size J) (h4 : Kp (fun _ => False) wr w4) (g : Gro m X' R' w4 X'' R'' W3) (hD : w4.heap.size ≤ D) (hDh : W3.heap[D]? = some (.deferred (some []))) (hDx : ¬ X'' D) (hDr : ¬ R'' D) (hj : J ((midsTo i k).flatMap fm ++ fm mm) X'' R'' W3) (hop : Opn m O W3) :
    RInv m O J fm l i j X R W (k + 1) W3.heap.size (D :: Ds) X'' R'' (W3.alloc (.cells #[.int .i64 ((mm : Int) + 1)] 3)) ∧ Gro m X R W X'' R'' W3 ∧ (∀ D' ∈ D :: Ds, Mine m X'' R'' W3 D' ∧ W3.heap[D']? = some (.deferred (some [])) ∧ W.heap.size ≤ D') ∧ (D :: Ds).Nodup := by
  subst hmm
  have hsz := h.g.kp.size
  have hs4 := h4.size
  have G : Gro m X R W X'' R'' W3 := h.g.step (h4.mono fun _ _ q => q.elim) (fun _ q => q) (fun _ q => .inl q) g
  have mk : ∀ b, Mine m X' R' wr b → Mine m X'' R'' W3 b ∧ W3.heap[b]? = wr.heap[b]? := fun b hb => ⟨(hb.keep hs4).gro g, (g.same (Nat.lt_of_lt_of_le hb.lt hs4) hb.x hb.m).trans (h4.block b hb.lt (fun q => q))⟩
  have hds : ∀ D' ∈ D :: Ds, Mine m X'' R'' W3 D' ∧ W3.heap[D']? = some (.deferred (some [])) ∧ W.heap.size ≤ D' := fun D' q => by
    rcases List.mem_cons.1 q with rfl | q
    · exact ⟨⟨(Array.getElem?_eq_some_iff.1 hDh).1, hDx, hDr, fun e => by have := h.g.sep.ms; omega⟩, hDh, by omega⟩
    · obtain ⟨q1, q2, q3⟩ := h.ds D' q
      obtain ⟨q4, q5⟩ := mk D' q1
      exact ⟨q4, q5.trans q2, q3⟩
  have hnd : (D :: Ds).Nodup := List.nodup_cons.2 ⟨fun q => by have := (h.ds D q).1.lt; omega, h.nd⟩
  obtain ⟨y1, y2⟩ := mk _ h.yb
  exact ⟨h.next hk sJ G y1 ((World.cell?_of_block (a := ⟨W.heap.size, 0, none⟩) y2).trans h.yc) hj hop (D :: Ds) hnd hds, G, hds, hnd⟩
/-- The end of all. -/
theorem RInv.fin {m : Nat} {O : List K3} {J : Inv (List (List Tr))} {Jx : Inv Unit} {X R X' R' : Nat → Prop} {W wr : World} {Ds : List Nat} {fn : Func} {tmps : Array Value} {L : List (List Tr)} (hres : fn.results = #[]) (g : Gro m X R W X' R' wr) (sJ : Stab m W.heap.size J) (sJx : Stab m W.heap.size Jx) (hn : Ds.Nodup)
    (hd : ∀ D ∈ Ds, Mine m X' R' wr D ∧ wr.heap[D]? = some (.deferred (some [])) ∧ W.heap.size ≤ D) (hj : (Opn m O wr ∧ J L X' R' wr) ∨ (OpnX m wr ∧ Jx () X' R' wr)) :
    LeavesInM Fence.wide 9 Tryd.prog fn tmps (fun e W' => e = .returned (.tuple #[]) ∧ ∃ X' R', Gro m X R W X' R' W' ∧ ((Opn m O W' ∧ J L X' R' W') ∨ (OpnX m W' ∧ Jx () X' R' W'))) (marks Ds) .returning wr := by
  refine leaves_marks Ds wr hn (fun D q => (hd D q).2.1) (fun W' hk => ?_)
  have k2 : Kp (fun k => (W.heap.size ≤ k ∧ ¬ X' k ∧ ¬ R' k) ∨ k = m) wr W' := hk.mono fun k _ q => .inl ⟨(hd k q).2.2, (hd k q).1.x, (hd k q).1.r⟩
  have e := hk.block m g.sep.ms (fun q => (hd m q).1.m rfl)
  exact ⟨_, results_none hres _ _ _, rfl, X', R', g.own k2, hj.elim (fun h => .inl ⟨h.1.same e, sJ.k h.2 g.sep k2⟩) (fun h => .inr ⟨h.1.same e, sJx.k h.2 g.sep k2⟩)⟩

end
end Go.Proofs.YtiklbannoinioaaDoor
