/- Memory for auto.live: what is alive, the rows back, what is still to be walked back from. · strconv.Itoa laid at this program: written by the kit's laying tool (lay-plain) for this seat, names turned. -/
import Derived.Test.YthikgdogfkjioaaGreatDoorQ36
import Derived.Test.YthikgdogfkjioaaGreatDoorQ37
import Derived.Test.YthikgdogfkjioaaGreatDoorQ3
import Derived.Shelf.Small.Bits
import Derived.Shelf.Strconv.Itoa0
import Derived.Shelf.Strconv.Itoa1
import Derived.Shelf.LaysM
import Derived.Shelf.Strconv.Itoa2
import Derived.Shelf.Strconv.Itoa3
import Derived.Test.YthikgdogfkjioaaGreatDoorProg
namespace Go.Proofs.YthikgdogfkjioaaGreatDoor
open Go.RowKit BigFrame
set_option linter.unusedVariables false
set_option linter.unusedSimpArgs false
set_option maxRecDepth 100000

structure Lv (w1 W : World) (gl gb N : Nat) (A : List Bool) (vs : List Value) (bk : Nat → List Nat) (v : Value) (T : List Nat) : Prop where
  kp : Kp (fun q => q = gl ∨ q = gb) w1 W
  l : Blk W gl 4 (bv A)
  mm : Blk W gb 34 vs
  lm : vs.length = N
  rows : ∀ (t : Nat) (u : Value), vs[t]? = some u → W.ownsRow w1.heap.size 3 1 u (bk t).length (nv (bk t))
  todo : W.ownsRow w1.heap.size 3 1 v T.length (nv T)
  ap : ∀ (t t' : Nat) (u u' : Value) (q : Nat), t ≠ t' → vs[t]? = some u → vs[t']? = some u' → u.ownBlock = some q → u'.ownBlock ≠ some q
  av : ∀ (t : Nat) (u : Value) (q : Nat), vs[t]? = some u → u.ownBlock = some q → v.ownBlock ≠ some q
  hl : gl < w1.heap.size
  hb : gb < w1.heap.size
  ne : gl ≠ gb
section
variable {w1 W W' : World} {gl gb N : Nat} {A : List Bool} {vs : List Value} {bk : Nat → List Nat} {v v' : Value} {T : List Nat}
theorem Lv.le (h : Lv w1 W gl gb N A vs bk v T) : w1.heap.size ≤ W.heap.size := h.kp.size
theorem Lv.ext (h : Lv w1 W gl gb N A vs bk v T) (hb : Below W.heap.size W W') : Lv w1 W' gl gb N A vs bk v T :=
  ⟨h.kp.trans (Kp.of hb), h.l.below' hb, h.mm.below' hb, h.lm, fun t u q => own_ext (h.rows t u q) hb, own_ext h.todo hb, h.ap, h.av, h.hl, h.hb, h.ne⟩
/-- A row back is grown, and stored anew. -/
theorem Lv.push (h : Lv w1 W gl gb N A vs bk v T) {t s : Nat} {u u' : Value} (hu : vs[t]? = some u) (hg : W.grownBy W' u.ownBlock) (hr : W'.ownsRow w1.heap.size 3 1 u' ((bk t).length + 1) (nv (bk t) ++ [.int .i64 (s : Int)]))
    (hat : u'.ownBlock = u.ownBlock ∨ u'.ownBlock = some (W.heap.size + 1)) : Lv w1 (W'.setCell ⟨gb, t, none⟩ u') gl gb N A (vs.set t u') (fun x => if x = t then bk x ++ [s] else bk x) v T := by
  have hlo : ∀ q, u.ownBlock = some q → w1.heap.size ≤ q := fun q e => ((h.rows t u hu).lt q e).1
  have hll := h.hl; have hbb := h.hb
  have htl : t < vs.length := (List.getElem?_eq_some_iff.1 hu).1
  have keep : ∀ {n : Nat} {x : Value} {xs : List Value}, W.ownsRow w1.heap.size 3 1 x n xs → (∀ q, x.ownBlock = some q → u.ownBlock ≠ some q) → (W'.setCell ⟨gb, t, none⟩ u').ownsRow w1.heap.size 3 1 x n xs := fun {n x xs} hx hne =>
    own_set (p := ⟨gb, t, none⟩) (hx.kept hg (by
      cases e : x.ownBlock with
      | none => exact .inl rfl
      | some q => exact .inr (fun z => hne q e z.symm))) h.hb
  have old : ∀ (t' : Nat) (x : Value) (q : Nat), vs[t']? = some x → x.ownBlock = some q → q < W.heap.size := fun t' x q e1 e2 => ((h.rows t' x e1).lt q e2).2
  have oldv : ∀ q, v.ownBlock = some q → q < W.heap.size := fun q e => (h.todo.lt q e).2
  refine ⟨(h.kp.grown hg (fun q e => .inl (hlo q e))).set_ (p := ⟨gb, t, none⟩) (.inr (.inr rfl)) _, (h.l.grown hg (fun e => by have := hlo gl e.symm; omega)).far (p := ⟨gb, t, none⟩) h.ne _, (h.mm.grown hg (fun e => by have := hlo gb e.symm; omega)).set_ t u', by rw [List.length_set]; exact h.lm, fun t' x hx => ?_, ?_, fun t' t'' x x' q hne h1 h2 e => ?_, fun t' x q h1 e => ?_, h.hl, h.hb, h.ne⟩
  · by_cases e : t' = t
    · subst e
      rw [List.getElem?_set_self htl] at hx
      simp only [Option.some.injEq] at hx
      subst hx
      rw [if_pos rfl, List.length_append, show nv (bk t' ++ [s]) = nv (bk t') ++ [.int .i64 (s : Int)] by unfold nv; rw [List.map_append]; rfl]
      exact own_set (p := ⟨gb, t', none⟩) hr h.hb
    · rw [List.getElem?_set_ne (fun z => e z.symm)] at hx
      rw [if_neg e]
      exact keep (h.rows t' x hx) (fun q e2 z => h.ap t' t x u q e hx hu e2 z)
  · exact keep h.todo (fun q e z => h.av t u q hu z e)
  · have key : ∀ (a : Nat) (y : Value), (vs.set t u')[a]? = some y → (a = t ∧ y = u') ∨ (a ≠ t ∧ vs[a]? = some y) := fun a y hy => by
      by_cases z : a = t
      · subst z
        rw [List.getElem?_set_self htl] at hy
        simp only [Option.some.injEq] at hy
        exact .inl ⟨rfl, hy.symm⟩
      · rw [List.getElem?_set_ne (fun q => z q.symm)] at hy
        exact .inr ⟨z, hy⟩
    rcases key t' x h1 with ⟨rfl, rfl⟩ | ⟨z1, y1⟩
    · rcases key t'' x' h2 with ⟨z2, _⟩ | ⟨z2, y2⟩
      · exact absurd z2.symm hne
      · rcases hat with k | k
        · exact h.ap t' t'' u x' q (Ne.symm z2) hu y2 (by rw [← k]; exact e)
        · intro e2
          have := old t'' x' q y2 e2
          rw [k] at e; cases e; omega
    · rcases key t'' x' h2 with ⟨rfl, rfl⟩ | ⟨z2, y2⟩
      · intro e2
        rcases hat with k | k
        · exact h.ap t' t'' x u q z1 y1 hu e (by rw [← k]; exact e2)
        · have := old t' x q y1 e
          rw [k] at e2; cases e2; omega
      · exact h.ap t' t'' x x' q hne y1 y2 e
  · by_cases z : t' = t
    · subst z
      rw [List.getElem?_set_self htl] at h1
      simp only [Option.some.injEq] at h1
      subst h1
      rcases hat with k | k
      · exact h.av t' u q hu (by rw [← k]; exact e)
      · intro e2
        have := oldv q e2
        rw [k] at e; cases e; omega
    · rw [List.getElem?_set_ne (fun q => z q.symm)] at h1
      exact h.av t' x q h1 e
/-- One more to be walked back from. -/
theorem Lv.todo_push (h : Lv w1 W gl gb N A vs bk v T) {s : Nat} (hg : W.grownBy W' v.ownBlock) (hr : W'.ownsRow w1.heap.size 3 1 v' (T.length + 1) (nv T ++ [.int .i64 (s : Int)])) (hat : v'.ownBlock = v.ownBlock ∨ v'.ownBlock = some (W.heap.size + 1)) :
    Lv w1 W' gl gb N A vs bk v' (T ++ [s]) := by
  have hlo : ∀ q, v.ownBlock = some q → w1.heap.size ≤ q := fun q e => (h.todo.lt q e).1
  have hll := h.hl; have hbb := h.hb
  refine ⟨h.kp.grown hg (fun q e => .inl (hlo q e)), h.l.grown hg (fun e => by have := hlo gl e.symm; omega), h.mm.grown hg (fun e => by have := hlo gb e.symm; omega), h.lm, fun t u hu => (h.rows t u hu).kept hg ?_, ?_, h.ap, fun t u q hu e => ?_, h.hl, h.hb, h.ne⟩
  · cases e : u.ownBlock with
    | none => exact .inl rfl
    | some q => exact .inr (fun z => h.av t u q hu e z.symm)
  · rw [List.length_append, show nv (T ++ [s]) = nv T ++ [.int .i64 (s : Int)] by unfold nv; rw [List.map_append]; rfl]
    exact hr
  · rcases hat with k | k
    · rw [k]; exact h.av t u q hu e
    · have := ((h.rows t u hu).lt q e).2
      rw [k]; intro z; cases z; omega
theorem Lv.todo_pop {t n c : Nat} {a : Option Addr} (h : Lv w1 W gl gb N A vs bk (.slice a (n + 1) c) (T ++ [t])) : Lv w1 W gl gb N A vs bk (.slice a n c) T := by
  refine ⟨h.kp, h.l, h.mm, h.lm, h.rows, ?_, h.ap, fun t u q hu e => by have := h.av t u q hu e; cases a <;> exact this, h.hl, h.hb, h.ne⟩
  have ht := h.todo
  have hl1 := ht.1
  rcases ht.2 with ⟨e, _⟩ | ⟨g, cap, cur, e, hb, hg, hn, hc, hs, htk⟩
  · cases e
  · injection e with e1 e2 e3
    subst e1; subst e3
    rw [List.length_append] at e2 hn htk
    simp only [List.length_cons, List.length_nil] at e2 hn htk
    have hnT : n = T.length := by omega
    refine ⟨by rw [nv_len, Nat.mul_one], .inr ⟨g, c, cur, by rw [hnT], hb, hg, by omega, hc, hs, ?_⟩⟩
    have h2 : (cur.toList.take ((T.length + 1) * 1)).take (T.length * 1) = (nv (T ++ [t])).take (T.length * 1) := by rw [htk]
    rw [List.take_take, Nat.min_eq_left (by omega)] at h2
    rw [h2]
    unfold nv
    rw [List.map_append, List.take_left' (by simp)]
theorem Lv.mark (h : Lv w1 W gl gb N A vs bk v T) (s : Nat) : Lv w1 (W.setCell ⟨gl, s, none⟩ (.bool true)) gl gb N (A.set s true) vs bk v T :=
  ⟨h.kp.set_ (p := ⟨gl, s, none⟩) (.inr (.inl rfl)) _, h.l.bset s true, h.mm.far (p := ⟨gl, s, none⟩) (Ne.symm h.ne) _, h.lm, fun t u hu => own_set (p := ⟨gl, s, none⟩) (h.rows t u hu) h.hl, own_set (p := ⟨gl, s, none⟩) h.todo h.hl, h.ap, h.av, h.hl, h.hb, h.ne⟩
theorem own_nform {w : World} {base n : Nat} {v : Value} {L : List Nat} (h : w.ownsRow base 3 1 v n (nv L)) (hn : n = L.length) : ∃ a c, v = .slice a n c ∧ n ≤ c ∧ c ≤ maxLen ∧ (0 < n → ∃ b, a = some ⟨b, 0, none⟩ ∧ base ≤ b ∧ b < w.heap.size ∧ ∀ k, k < n → w.cell? ⟨b, k, none⟩ = some (.int .i64 ((nAt L k : Nat) : Int))) := by
  subst hn
  rcases h.2 with ⟨rfl, h0⟩ | ⟨g, cap, cur, rfl, hb, hg, hn, hc, hs, ht⟩
  · exact ⟨none, 0, by rw [h0], by omega, Nat.zero_le _, fun q => by omega⟩
  · refine ⟨some ⟨g, 0, none⟩, cap, rfl, hn, hc, fun _ => ⟨g, rfl, hb, (Array.getElem?_eq_some_iff.1 hg).1, fun k hk => ?_⟩⟩
    have := h.cells (g := g) rfl k (intV L[k]) (by unfold nv; rw [List.getElem?_map, List.getElem?_eq_getElem hk]; rfl)
    have hadd : (⟨g, 0, none⟩ : Addr).add k = ⟨g, 0 + k, none⟩ := by unfold Addr.add; split <;> simp_all
    rw [hadd, Nat.zero_add] at this
    rw [this]
    have : nAt L k = L[k] := by simp [nAt, hk]
    rw [this]; rfl
end
theorem alive_set {A : List Bool} {b : Nat} {T : List Nat} (hb : b < A.length) (h : ∀ t ∈ T, bAt A t = true) : ∀ t ∈ T ++ [b], bAt (A.set b true) t = true := fun t ht => by
  rw [bAt_set hb]
  split
  · rfl
  · rename_i e
    rcases List.mem_append.1 ht with q | q
    · exact h t q
    · rw [List.mem_singleton] at q; exact absurd q.symm e
theorem snoc_of_pos {T : List Nat} (h : 0 < T.length) : ∃ T' t, T = T' ++ [t] := by
  rcases List.eq_nil_or_concat T with e | ⟨L, b, e⟩
  · subst e; simp at h
  · exact ⟨L, b, by rw [e, List.concat_eq_append]⟩
/-- What the first loop finds: the states of a rule. -/
structure L1 (ru : Nat → Int) (N : Nat) (A : List Bool) (T : List Nat) (i : Nat) : Prop where
  len : A.length = N
  t : ∀ s ∈ T, s < i ∧ 0 ≤ ru s
  a : ∀ s, s < N → (bAt A s = true ↔ s < i ∧ 0 ≤ ru s)
  on : ∀ s, s < i → 0 ≤ ru s → s ∈ T
  sz : T.length ≤ i
theorem L1.start {ru : Nat → Int} {N : Nat} : L1 ru N (List.replicate N false) [] 0 :=
  ⟨by simp, by simp, fun s hs => by unfold bAt; simp [List.getD, hs], fun s h => by omega, by simp⟩
theorem L1.no {ru : Nat → Int} {N i : Nat} {A : List Bool} {T : List Nat} (h : L1 ru N A T i) (hr : ¬ 0 ≤ ru i) : L1 ru N A T (i + 1) :=
  ⟨h.len, fun s hs => by have := h.t s hs; exact ⟨by omega, this.2⟩, fun s hs => by
    rw [h.a s hs]
    by_cases e : s = i
    · subst e; exact ⟨fun q => by omega, fun q => absurd q.2 hr⟩
    · exact ⟨fun q => ⟨by omega, q.2⟩, fun q => ⟨by omega, q.2⟩⟩, fun s hs q => by
    by_cases e : s = i
    · subst e; exact absurd q hr
    · exact h.on s (by omega) q, by have := h.sz; omega⟩
theorem L1.yes {ru : Nat → Int} {N i : Nat} {A : List Bool} {T : List Nat} (h : L1 ru N A T i) (hi : i < N) (hr : 0 ≤ ru i) : L1 ru N (A.set i true) (T ++ [i]) (i + 1) := by
  refine ⟨by rw [List.length_set]; exact h.len, fun s hs => ?_, fun s hs => ?_, fun s hs q => ?_, by have := h.sz; simp; omega⟩
  · rcases List.mem_append.1 hs with q | q
    · have := h.t s q; exact ⟨by omega, this.2⟩
    · rw [List.mem_singleton] at q; subst q; exact ⟨by omega, hr⟩
  · rw [bAt_set (by rw [h.len]; exact hi)]
    by_cases e : i = s
    · subst e; simp [hr]
    · rw [if_neg e, h.a s hs]
      exact ⟨fun q => ⟨by omega, q.2⟩, fun q => ⟨by omega, q.2⟩⟩
  · by_cases e : s = i
    · subst e; simp
    · exact List.mem_append_left _ (h.on s (by omega) q)
theorem L1.alive {ru : Nat → Int} {N : Nat} {A : List Bool} {T : List Nat} (h : L1 ru N A T N) : ∀ t ∈ T, bAt A t = true := fun t ht => (h.a t (h.t t ht).1).2 (h.t t ht)
theorem L1.done {ru : Nat → Int} {mv : Nat → Nat → Nat} {K N : Nat} {bk : Nat → List Nat} {A : List Bool} {T : List Nat} (h : L1 ru N A T N) : LvI ru mv K N bk (T.length + A.count false) A T N 0 :=
  ⟨h.len, fun s hs => (h.t s hs).1, fun s hs q => ⟨[], by simp, ((h.a s hs).1 q).2⟩, fun s hs q => (h.a s hs).2 ⟨hs, q⟩, fun t ht q => .inl (h.on t ht ((h.a t ht).1 q).2), rfl⟩
end Go.Proofs.YthikgdogfkjioaaGreatDoor
namespace Go.Proofs.YthikgdogfkjioaaGreatDoor
open Go.Shelf
def y_lays128_ren : Go.Shelf.Ren := ⟨fun | 128 => 56 | n => n, fun | 51 => 93 | 3 => 3 | 4 => 4 | 46 => 78 | 5 => 5 | 9 => 9 | n => n, fun | n => n⟩
theorem y_lays128 : Go.Proofs.Lays.n128 Tryz.prog y_lays128_ren := {
  mixed := by kernel_rfl
  f128 := Tryz.func56.trans (congrArg some (by kernel_rfl))
  t3 := Tryz.underlying3
  a3 := Tryz.isAgg3
  z3 := Tryz.sizeOf3
  v3 := Tryz.zeroValue3
  t4 := Tryz.underlying4
  a4 := Tryz.isAgg4
  z4 := Tryz.sizeOf4
  v4 := Tryz.zeroValue4
  t5 := Tryz.underlying5
  a5 := Tryz.isAgg5
  z5 := Tryz.sizeOf5
  v5 := Tryz.zeroValue5
  t9 := Tryz.underlying9
  a9 := Tryz.isAgg9
  z9 := Tryz.sizeOf9
  v9 := Tryz.zeroValue9
  t46 := Tryz.underlying78
  a46 := Tryz.isAgg78
  z46 := Tryz.sizeOf78
  v46 := Tryz.zeroValue78
  t51 := Tryz.underlying93
  a51 := Tryz.isAgg93
  z51 := Tryz.sizeOf93
  v51 := Tryz.zeroValue93 }
/-- bits.Len32: "Len32 returns the minimum number of bits required to represent x; the result is 0 for x == 0.": IT RETURNS 'Lib.bitLen x'; the world is as it was. ('h0', 'h1': x is a uint32.) (LAID: no walk: one application.) -/
theorem y_bits_Len32 (x : Int) (w : World) (h0 : 0 ≤ x) (h1 : x ≤ 4294967295) :
    Calls Tryz.prog 56 #[.int .u32 x] w fun e w' => e = .returned (.int .i64 (Lib.bitLen x.toNat)) ∧ w' = w := Any.bits_Len32 y_lays128 x w h0 h1
def y_lays125_ren : Go.Shelf.Ren := ⟨fun | 125 => 39 | 128 => 56 | 129 => 57 | n => n, fun | 46 => 78 | 3 => 3 | 51 => 93 | 53 => 95 | 4 => 4 | 5 => 5 | 9 => 9 | n => n, fun | n => n⟩
theorem y_lays125 : Go.Proofs.Lays.n125 Tryz.prog y_lays125_ren := {
  mixed := by kernel_rfl
  f125 := Tryz.func39.trans (congrArg some (by kernel_rfl))
  f128 := Tryz.func56.trans (congrArg some (by kernel_rfl))
  f129 := Tryz.func57.trans (congrArg some (by kernel_rfl))
  t3 := Tryz.underlying3
  a3 := Tryz.isAgg3
  z3 := Tryz.sizeOf3
  v3 := Tryz.zeroValue3
  t4 := Tryz.underlying4
  a4 := Tryz.isAgg4
  z4 := Tryz.sizeOf4
  v4 := Tryz.zeroValue4
  t5 := Tryz.underlying5
  a5 := Tryz.isAgg5
  z5 := Tryz.sizeOf5
  v5 := Tryz.zeroValue5
  t9 := Tryz.underlying9
  a9 := Tryz.isAgg9
  z9 := Tryz.sizeOf9
  v9 := Tryz.zeroValue9
  t46 := Tryz.underlying78
  a46 := Tryz.isAgg78
  z46 := Tryz.sizeOf78
  v46 := Tryz.zeroValue78
  t51 := Tryz.underlying93
  a51 := Tryz.isAgg93
  z51 := Tryz.sizeOf93
  v51 := Tryz.zeroValue93
  t53 := Tryz.underlying95
  a53 := Tryz.isAgg95
  z53 := Tryz.sizeOf95
  v53 := Tryz.zeroValue95 }
/-- bits.Len: "Len returns the minimum number of bits required to represent x; the result is 0 for x == 0.": IT RETURNS 'Lib.bitLen x'; the world is as it was. (A uint has 64 bits in the model.) ITS CALLEE bits.Len64 IS MET BY ITS OWN CONTRACT OFF THE SHELF (lay that first). (LAID: no walk: one application.) -/
theorem y_bits_Len (x : Int) (w : World) (h0 : 0 ≤ x) (h1 : x ≤ 18446744073709551615) :
    Calls Tryz.prog 39 #[.int .u64 x] w fun e w' => e = .returned (.int .i64 (Lib.bitLen x.toNat)) ∧ w' = w := Any.bits_Len y_lays125 x w h0 h1
def y_lays129_ren : Go.Shelf.Ren := ⟨fun | 129 => 57 | n => n, fun | 53 => 95 | 3 => 3 | 4 => 4 | 46 => 78 | 5 => 5 | 9 => 9 | n => n, fun | n => n⟩
theorem y_lays129 : Go.Proofs.Lays.n129 Tryz.prog y_lays129_ren := {
  mixed := by kernel_rfl
  f129 := Tryz.func57.trans (congrArg some (by kernel_rfl))
  t3 := Tryz.underlying3
  a3 := Tryz.isAgg3
  z3 := Tryz.sizeOf3
  v3 := Tryz.zeroValue3
  t4 := Tryz.underlying4
  a4 := Tryz.isAgg4
  z4 := Tryz.sizeOf4
  v4 := Tryz.zeroValue4
  t5 := Tryz.underlying5
  a5 := Tryz.isAgg5
  z5 := Tryz.sizeOf5
  v5 := Tryz.zeroValue5
  t9 := Tryz.underlying9
  a9 := Tryz.isAgg9
  z9 := Tryz.sizeOf9
  v9 := Tryz.zeroValue9
  t46 := Tryz.underlying78
  a46 := Tryz.isAgg78
  z46 := Tryz.sizeOf78
  v46 := Tryz.zeroValue78
  t53 := Tryz.underlying95
  a53 := Tryz.isAgg95
  z53 := Tryz.sizeOf95
  v53 := Tryz.zeroValue95 }
/-- bits.Len64: "Len64 returns the minimum number of bits required to represent x; the result is 0 for x == 0.": IT RETURNS 'Lib.bitLen x'; the world is as it was. ('h0', 'h1': x is a uint64.) (LAID: no walk: one application.) -/
theorem y_bits_Len64 (x : Int) (w : World) (h0 : 0 ≤ x) (h1 : x ≤ 18446744073709551615) :
    Calls Tryz.prog 57 #[.int .u64 x] w fun e w' => e = .returned (.int .i64 (Lib.bitLen x.toNat)) ∧ w' = w := Any.bits_Len64 y_lays129 x w h0 h1
def y_lays317_ren : Go.Shelf.Ren := ⟨fun | 317 => 83 | n => n, fun | 3 => 3 | 46 => 78 | n => n, fun | n => n⟩
theorem y_lays317 : Go.Proofs.Lays.n317 Tryz.prog y_lays317_ren := {
  mixed := by kernel_rfl
  f317 := Tryz.func83.trans (congrArg some (by kernel_rfl))
  t3 := Tryz.underlying3
  a3 := Tryz.isAgg3
  z3 := Tryz.sizeOf3
  v3 := Tryz.zeroValue3
  t46 := Tryz.underlying78
  a46 := Tryz.isAgg78
  z46 := Tryz.sizeOf78
  v46 := Tryz.zeroValue78 }
open Go.Lib in
/-- internal/strconv.log10Pow2: "log10Pow2(x) returns ⌊log₁₀ 2**x⌋ = ⌊x * log₁₀ 2⌋.": '(x * 78913) >> 18', at an x up to 64 (a length in bits). The world is as it was. (LAID: no walk: one application.) -/
theorem y_internal_strconv_log10Pow2 (x : Nat) (h : x ≤ 64) (w : World) :
    Calls Tryz.prog 83 #[.int .i64 x] w fun e w' => e = .returned (.int .i64 (Lib.l10 x)) ∧ w' = w := Any.internal_strconv_log10Pow2 y_lays317 x h w
def y_lays318_ren : Go.Shelf.Ren := ⟨fun | 318 => 84 | n => n, fun | 3 => 3 | 4 => 4 | n => n, fun | n => n⟩
theorem y_lays318 : Go.Proofs.Lays.n318 Tryz.prog y_lays318_ren := {
  mixed := by kernel_rfl
  f318 := Tryz.func84.trans (congrArg some (by kernel_rfl))
  t3 := Tryz.underlying3
  a3 := Tryz.isAgg3
  z3 := Tryz.sizeOf3
  v3 := Tryz.zeroValue3
  t4 := Tryz.underlying4
  a4 := Tryz.isAgg4
  z4 := Tryz.sizeOf4
  v4 := Tryz.zeroValue4 }
open Go.Lib in
/-- internal/strconv.bool2: "bool2 converts b to an integer: 1 for true, 0 for false." The world is as it was. (LAID: no walk: one application.) -/
theorem y_internal_strconv_bool2_int (b : Bool) (w : World) :
    Calls Tryz.prog 84 #[.bool b] w fun e w' => e = .returned (.int .i64 (if b then 1 else 0)) ∧ w' = w := Any.internal_strconv_bool2_int y_lays318 b w
def y_lays283_ren : Go.Shelf.Ren := ⟨fun | 283 => 74 | n => n, fun | 3 => 3 | 9 => 9 | 4 => 4 | n => n, fun | n => n⟩
theorem y_lays283 : Go.Proofs.Lays.n283 Tryz.prog y_lays283_ren := {
  mixed := by kernel_rfl
  f283 := Tryz.func74.trans (congrArg some (by kernel_rfl))
  t3 := Tryz.underlying3
  a3 := Tryz.isAgg3
  z3 := Tryz.sizeOf3
  v3 := Tryz.zeroValue3
  t4 := Tryz.underlying4
  a4 := Tryz.isAgg4
  z4 := Tryz.sizeOf4
  v4 := Tryz.zeroValue4
  t9 := Tryz.underlying9
  a9 := Tryz.isAgg9
  z9 := Tryz.sizeOf9
  v9 := Tryz.zeroValue9 }
open Go.Lib in
/-- internal/strconv.small: "small returns the string for an i with 0 <= i < nSmalls.": i's decimal numeral. The world is as it was. (LAID: no walk: one application.) -/
theorem y_internal_strconv_small (i : Nat) (h : i < 100) (w : World) :
    Calls Tryz.prog 74 #[.int .i64 i] w fun e w' => e = .returned (.string ⟨(Lib.decDigits i).toArray⟩) ∧ w' = w := Any.internal_strconv_small y_lays283 i h w
def y_laysM284_ren : Go.Shelf.Ren := ⟨fun | 284 => 75 | 129 => 57 | 317 => 83 | 318 => 84 | n => n, fun | 53 => 95 | 3 => 3 | 212 => 123 | 0 => 0 | 4 => 4 | 46 => 78 | 5 => 5 | 9 => 9 | n => n, fun | 17 => 0 | n => n⟩
theorem y_laysM284 : Go.Proofs.LaysM.n284 Tryz.prog y_laysM284_ren := {
  mixed := by kernel_rfl
  f129 := Tryz.func57.trans (congrArg some (by kernel_rfl))
  f284 := Tryz.func75.trans (congrArg some (by kernel_rfl))
  f317 := Tryz.func83.trans (congrArg some (by kernel_rfl))
  f318 := Tryz.func84.trans (congrArg some (by kernel_rfl))
  t0 := Tryz.underlying0
  a0 := Tryz.isAgg0
  z0 := Tryz.sizeOf0
  v0 := Tryz.zeroValue0
  t3 := Tryz.underlying3
  a3 := Tryz.isAgg3
  z3 := Tryz.sizeOf3
  v3 := Tryz.zeroValue3
  t4 := Tryz.underlying4
  a4 := Tryz.isAgg4
  z4 := Tryz.sizeOf4
  v4 := Tryz.zeroValue4
  t5 := Tryz.underlying5
  a5 := Tryz.isAgg5
  z5 := Tryz.sizeOf5
  v5 := Tryz.zeroValue5
  t9 := Tryz.underlying9
  a9 := Tryz.isAgg9
  z9 := Tryz.sizeOf9
  v9 := Tryz.zeroValue9
  t46 := Tryz.underlying78
  a46 := Tryz.isAgg78
  z46 := Tryz.sizeOf78
  v46 := Tryz.zeroValue78
  t53 := Tryz.underlying95
  a53 := Tryz.isAgg95
  z53 := Tryz.sizeOf95
  v53 := Tryz.zeroValue95
  t212 := Tryz.underlying123
  a212 := Tryz.isAgg123
  z212 := Tryz.sizeOf123
  v212 := Tryz.zeroValue123
  g17 := by kernel_rfl
  i0 := by kernel_rfl
  i3 := by kernel_rfl
  i4 := by kernel_rfl
  i5 := by kernel_rfl
  i9 := by kernel_rfl
  i46 := by kernel_rfl
  i53 := by kernel_rfl
  i212 := by kernel_rfl
  m17 := by kernel_rfl }
open Go.Lib in
/-- internal/strconv.numDigits, at a d that is not 0: THE NUMBER OF d's DECIMAL DIGITS. The world is as it was. (LAID: no walk: one application.) -/
theorem y_internal_strconv_numDigits (u : Nat) (h1 : 1 ≤ u) (h2 : u < 18446744073709551616) (w : World) (htab : Lib.TabIs Tryz.prog w "internal/strconv.uint64pow10" .u64 Lib.pow10Tab) :
    Calls Tryz.prog 75 #[.int .u64 u] w fun e w' => e = .returned (.int .i64 (Lib.nDigits u)) ∧ w' = w := Any.internal_strconv_numDigits y_laysM284 u h1 h2 w htab
def y_lays285_ren : Go.Shelf.Ren := ⟨fun | 285 => 76 | n => n, fun | 37 => 112 | 53 => 95 | 3 => 3 | 4 => 4 | 51 => 93 | 9 => 9 | 5 => 5 | 0 => 0 | n => n, fun | n => n⟩
theorem y_lays285 : Go.Proofs.Lays.n285 Tryz.prog y_lays285_ren := {
  mixed := by kernel_rfl
  f285 := Tryz.func76.trans (congrArg some (by kernel_rfl))
  t0 := Tryz.underlying0
  a0 := Tryz.isAgg0
  z0 := Tryz.sizeOf0
  v0 := Tryz.zeroValue0
  t3 := Tryz.underlying3
  a3 := Tryz.isAgg3
  z3 := Tryz.sizeOf3
  v3 := Tryz.zeroValue3
  t4 := Tryz.underlying4
  a4 := Tryz.isAgg4
  z4 := Tryz.sizeOf4
  v4 := Tryz.zeroValue4
  t5 := Tryz.underlying5
  a5 := Tryz.isAgg5
  z5 := Tryz.sizeOf5
  v5 := Tryz.zeroValue5
  t9 := Tryz.underlying9
  a9 := Tryz.isAgg9
  z9 := Tryz.sizeOf9
  v9 := Tryz.zeroValue9
  t37 := Tryz.underlying112
  a37 := Tryz.isAgg112
  z37 := Tryz.sizeOf112
  v37 := Tryz.zeroValue112
  t51 := Tryz.underlying93
  a51 := Tryz.isAgg93
  z51 := Tryz.sizeOf93
  v51 := Tryz.zeroValue93
  t53 := Tryz.underlying95
  a53 := Tryz.isAgg95
  z53 := Tryz.sizeOf95
  v53 := Tryz.zeroValue95 }
open Go.RowKit Go.Sort Go.Lib in
/-- internal/strconv.formatBase10: "formatBase10 formats the decimal representation of u into a. The caller is responsible for ensuring that a is big enough to hold u. If a is too big, leading zeros will be filled in as needed.": THE ROW HOLDS u's DIGITS ('FmtInv .. 0 ..': every place t holds 'dg u (len - 1 - t)'); all else is as it was but for the count of draws. (LAID: no walk: one application.) -/
theorem y_internal_strconv_formatBase10 (blk off cap : Nat) (u : Nat) (d : Array UInt8) (w : World) (hH : Holds (fun (b : UInt8) => Value.int .u8 (b.toNat : Int)) w blk off d) (hu : u < 10 ^ d.size) (hu64 : u < 18446744073709551616) (hsz : d.size < 4611686018427387904) :
    Calls Tryz.prog 76 #[.slice (some ⟨blk, off, none⟩) d.size cap, .int .u64 u] w fun e w' =>
      e = .returned (.tuple #[]) ∧ ∃ (n v' : Nat) (dk : Array UInt8), w' = (putRow (fun (b : UInt8) => Value.int .u8 (b.toNat : Int)) w blk off dk).drewN n ∧ FmtInv d.size u 0 v' dk := Any.internal_strconv_formatBase10 y_lays285 blk off cap u d w hH hu hu64 hsz
def y_laysM246_ren : Go.Shelf.Ren := ⟨fun | 246 => 58 | 283 => 74 | 284 => 75 | 285 => 76 | 286 => 77 | 129 => 57 | 317 => 83 | 318 => 84 | 319 => 85 | 320 => 86 | 337 => 96 | 338 => 97 | n => n, fun | 2 => 2 | 3 => 3 | 9 => 9 | 4 => 4 | 171 => 110 | 0 => 0 | 53 => 95 | 37 => 112 | 5 => 5 | 173 => 113 | 212 => 123 | 51 => 93 | 20 => 20 | 213 => 124 | 46 => 78 | 232 => 134 | 233 => 135 | n => n, fun | 17 => 0 | 18 => 1 | 19 => 2 | n => n⟩
theorem y_laysM246 : Go.Proofs.LaysM.n246 Tryz.prog y_laysM246_ren := {
  mixed := by kernel_rfl
  f129 := Tryz.func57.trans (congrArg some (by kernel_rfl))
  f246 := Tryz.func58.trans (congrArg some (by kernel_rfl))
  f283 := Tryz.func74.trans (congrArg some (by kernel_rfl))
  f284 := Tryz.func75.trans (congrArg some (by kernel_rfl))
  f285 := Tryz.func76.trans (congrArg some (by kernel_rfl))
  f286 := Tryz.func77.trans (congrArg some (by kernel_rfl))
  f317 := Tryz.func83.trans (congrArg some (by kernel_rfl))
  f318 := Tryz.func84.trans (congrArg some (by kernel_rfl))
  f319 := Tryz.func85.trans (congrArg some (by kernel_rfl))
  f320 := Tryz.func86.trans (congrArg some (by kernel_rfl))
  f337 := Tryz.func96.trans (congrArg some (by kernel_rfl))
  f338 := Tryz.func97.trans (congrArg some (by kernel_rfl))
  t0 := Tryz.underlying0
  a0 := Tryz.isAgg0
  z0 := Tryz.sizeOf0
  v0 := Tryz.zeroValue0
  t2 := Tryz.underlying2
  a2 := Tryz.isAgg2
  z2 := Tryz.sizeOf2
  v2 := Tryz.zeroValue2
  t3 := Tryz.underlying3
  a3 := Tryz.isAgg3
  z3 := Tryz.sizeOf3
  v3 := Tryz.zeroValue3
  t4 := Tryz.underlying4
  a4 := Tryz.isAgg4
  z4 := Tryz.sizeOf4
  v4 := Tryz.zeroValue4
  t5 := Tryz.underlying5
  a5 := Tryz.isAgg5
  z5 := Tryz.sizeOf5
  v5 := Tryz.zeroValue5
  t9 := Tryz.underlying9
  a9 := Tryz.isAgg9
  z9 := Tryz.sizeOf9
  v9 := Tryz.zeroValue9
  t20 := Tryz.underlying20
  a20 := Tryz.isAgg20
  z20 := Tryz.sizeOf20
  v20 := Tryz.zeroValue20
  t37 := Tryz.underlying112
  a37 := Tryz.isAgg112
  z37 := Tryz.sizeOf112
  v37 := Tryz.zeroValue112
  t46 := Tryz.underlying78
  a46 := Tryz.isAgg78
  z46 := Tryz.sizeOf78
  v46 := Tryz.zeroValue78
  t51 := Tryz.underlying93
  a51 := Tryz.isAgg93
  z51 := Tryz.sizeOf93
  v51 := Tryz.zeroValue93
  t53 := Tryz.underlying95
  a53 := Tryz.isAgg95
  z53 := Tryz.sizeOf95
  v53 := Tryz.zeroValue95
  t171 := Tryz.underlying110
  a171 := Tryz.isAgg110
  z171 := Tryz.sizeOf110
  v171 := Tryz.zeroValue110
  t173 := Tryz.underlying113
  a173 := Tryz.isAgg113
  z173 := Tryz.sizeOf113
  v173 := Tryz.zeroValue113
  t212 := Tryz.underlying123
  a212 := Tryz.isAgg123
  z212 := Tryz.sizeOf123
  v212 := Tryz.zeroValue123
  t213 := Tryz.underlying124
  a213 := Tryz.isAgg124
  z213 := Tryz.sizeOf124
  t232 := Tryz.underlying134
  a232 := Tryz.isAgg134
  z232 := Tryz.sizeOf134
  v232 := Tryz.zeroValue134
  t233 := Tryz.underlying135
  a233 := Tryz.isAgg135
  z233 := Tryz.sizeOf135
  v233 := Tryz.zeroValue135
  g17 := by kernel_rfl
  g18 := by kernel_rfl
  g19 := by kernel_rfl
  i0 := by kernel_rfl
  i2 := by kernel_rfl
  i3 := by kernel_rfl
  i4 := by kernel_rfl
  i5 := by kernel_rfl
  i9 := by kernel_rfl
  i20 := by kernel_rfl
  i37 := by kernel_rfl
  i46 := by kernel_rfl
  i51 := by kernel_rfl
  i53 := by kernel_rfl
  i171 := by kernel_rfl
  i173 := by kernel_rfl
  i212 := by kernel_rfl
  i232 := by kernel_rfl
  i233 := by kernel_rfl
  m17 := by kernel_rfl
  m18 := by kernel_rfl
  m19 := by kernel_rfl }
open Go.RowKit Go.Sort Go.Lib in
/-- internal/strconv.FormatInt: "FormatInt returns the string representation of i in the given base": AT BASE 10: i's decimal numeral, for every int64. The world behind the call: the world before it, new blocks behind the heap, draws. (LAID: no walk: one application.) -/
theorem y_internal_strconv_FormatInt_10 (n : Int) (h0 : -9223372036854775808 ≤ n) (h1 : n ≤ 9223372036854775807) (w : World) (htab : Lib.TabIs Tryz.prog w "internal/strconv.uint64pow10" .u64 Lib.pow10Tab) :
    Calls Tryz.prog 58 #[.int .i64 n, .int .i64 10] w fun e w' => e = .returned (.string ⟨(Lib.itoa n).toArray⟩) ∧ ∃ k os, w' = grow (w.drewN k) os := Any.internal_strconv_FormatInt_10 y_laysM246 n h0 h1 w htab
def y_lays246_ren : Go.Shelf.Ren := ⟨fun | 246 => 58 | 283 => 74 | 284 => 75 | 285 => 76 | 286 => 77 | 129 => 57 | 317 => 83 | 318 => 84 | 319 => 85 | 320 => 86 | 337 => 96 | 338 => 97 | n => n, fun | 2 => 2 | 3 => 3 | 9 => 9 | 4 => 4 | 171 => 110 | 0 => 0 | 53 => 95 | 37 => 112 | 5 => 5 | 173 => 113 | 212 => 123 | 51 => 93 | 20 => 20 | 213 => 124 | 46 => 78 | 232 => 134 | 233 => 135 | n => n, fun | 17 => 0 | 18 => 1 | 19 => 2 | n => n⟩
theorem y_lays246 : Go.Proofs.Lays.n246 Tryz.prog y_lays246_ren := {
  mixed := by kernel_rfl
  f129 := Tryz.func57.trans (congrArg some (by kernel_rfl))
  f246 := Tryz.func58.trans (congrArg some (by kernel_rfl))
  f283 := Tryz.func74.trans (congrArg some (by kernel_rfl))
  f284 := Tryz.func75.trans (congrArg some (by kernel_rfl))
  f285 := Tryz.func76.trans (congrArg some (by kernel_rfl))
  f286 := Tryz.func77.trans (congrArg some (by kernel_rfl))
  f317 := Tryz.func83.trans (congrArg some (by kernel_rfl))
  f318 := Tryz.func84.trans (congrArg some (by kernel_rfl))
  f319 := Tryz.func85.trans (congrArg some (by kernel_rfl))
  f320 := Tryz.func86.trans (congrArg some (by kernel_rfl))
  f337 := Tryz.func96.trans (congrArg some (by kernel_rfl))
  f338 := Tryz.func97.trans (congrArg some (by kernel_rfl))
  t0 := Tryz.underlying0
  a0 := Tryz.isAgg0
  z0 := Tryz.sizeOf0
  v0 := Tryz.zeroValue0
  t2 := Tryz.underlying2
  a2 := Tryz.isAgg2
  z2 := Tryz.sizeOf2
  v2 := Tryz.zeroValue2
  t3 := Tryz.underlying3
  a3 := Tryz.isAgg3
  z3 := Tryz.sizeOf3
  v3 := Tryz.zeroValue3
  t4 := Tryz.underlying4
  a4 := Tryz.isAgg4
  z4 := Tryz.sizeOf4
  v4 := Tryz.zeroValue4
  t5 := Tryz.underlying5
  a5 := Tryz.isAgg5
  z5 := Tryz.sizeOf5
  v5 := Tryz.zeroValue5
  t9 := Tryz.underlying9
  a9 := Tryz.isAgg9
  z9 := Tryz.sizeOf9
  v9 := Tryz.zeroValue9
  t20 := Tryz.underlying20
  a20 := Tryz.isAgg20
  z20 := Tryz.sizeOf20
  v20 := Tryz.zeroValue20
  t37 := Tryz.underlying112
  a37 := Tryz.isAgg112
  z37 := Tryz.sizeOf112
  v37 := Tryz.zeroValue112
  t46 := Tryz.underlying78
  a46 := Tryz.isAgg78
  z46 := Tryz.sizeOf78
  v46 := Tryz.zeroValue78
  t51 := Tryz.underlying93
  a51 := Tryz.isAgg93
  z51 := Tryz.sizeOf93
  v51 := Tryz.zeroValue93
  t53 := Tryz.underlying95
  a53 := Tryz.isAgg95
  z53 := Tryz.sizeOf95
  v53 := Tryz.zeroValue95
  t171 := Tryz.underlying110
  a171 := Tryz.isAgg110
  z171 := Tryz.sizeOf110
  v171 := Tryz.zeroValue110
  t173 := Tryz.underlying113
  a173 := Tryz.isAgg113
  z173 := Tryz.sizeOf113
  v173 := Tryz.zeroValue113
  t212 := Tryz.underlying123
  a212 := Tryz.isAgg123
  z212 := Tryz.sizeOf123
  v212 := Tryz.zeroValue123
  t213 := Tryz.underlying124
  a213 := Tryz.isAgg124
  z213 := Tryz.sizeOf124
  t232 := Tryz.underlying134
  a232 := Tryz.isAgg134
  z232 := Tryz.sizeOf134
  v232 := Tryz.zeroValue134
  t233 := Tryz.underlying135
  a233 := Tryz.isAgg135
  z233 := Tryz.sizeOf135
  v233 := Tryz.zeroValue135
  g17 := by kernel_rfl
  g18 := by kernel_rfl
  g19 := by kernel_rfl }
open Go.RowKit Go.Sort Go.Lib in
/-- THE ROAD WITHOUT THE TABLE: 0 <= i < 100: two constants are read, nothing is laid: no premise on the world, and the world is as it was. (LAID: no walk: one application.) -/
theorem y_internal_strconv_FormatInt_10_small (i : Nat) (hi : i < 100) (w : World) :
    Calls Tryz.prog 58 #[.int .i64 i, .int .i64 10] w fun e w' => e = .returned (.string ⟨(Lib.decDigits i).toArray⟩) ∧ w' = w := Any.internal_strconv_FormatInt_10_small y_lays246 i hi w
def y_laysM243_ren : Go.Shelf.Ren := ⟨fun | 243 => 40 | 246 => 58 | 283 => 74 | 284 => 75 | 285 => 76 | 286 => 77 | 129 => 57 | 317 => 83 | 318 => 84 | 319 => 85 | 320 => 86 | 337 => 96 | 338 => 97 | n => n, fun | 3 => 3 | 9 => 9 | 2 => 2 | 4 => 4 | 171 => 110 | 0 => 0 | 53 => 95 | 37 => 112 | 5 => 5 | 173 => 113 | 212 => 123 | 51 => 93 | 20 => 20 | 213 => 124 | 46 => 78 | 232 => 134 | 233 => 135 | n => n, fun | 17 => 0 | 18 => 1 | 19 => 2 | n => n⟩
theorem y_laysM243 : Go.Proofs.LaysM.n243 Tryz.prog y_laysM243_ren := {
  mixed := by kernel_rfl
  f129 := Tryz.func57.trans (congrArg some (by kernel_rfl))
  f243 := Tryz.func40.trans (congrArg some (by kernel_rfl))
  f246 := Tryz.func58.trans (congrArg some (by kernel_rfl))
  f283 := Tryz.func74.trans (congrArg some (by kernel_rfl))
  f284 := Tryz.func75.trans (congrArg some (by kernel_rfl))
  f285 := Tryz.func76.trans (congrArg some (by kernel_rfl))
  f286 := Tryz.func77.trans (congrArg some (by kernel_rfl))
  f317 := Tryz.func83.trans (congrArg some (by kernel_rfl))
  f318 := Tryz.func84.trans (congrArg some (by kernel_rfl))
  f319 := Tryz.func85.trans (congrArg some (by kernel_rfl))
  f320 := Tryz.func86.trans (congrArg some (by kernel_rfl))
  f337 := Tryz.func96.trans (congrArg some (by kernel_rfl))
  f338 := Tryz.func97.trans (congrArg some (by kernel_rfl))
  t0 := Tryz.underlying0
  a0 := Tryz.isAgg0
  z0 := Tryz.sizeOf0
  v0 := Tryz.zeroValue0
  t2 := Tryz.underlying2
  a2 := Tryz.isAgg2
  z2 := Tryz.sizeOf2
  v2 := Tryz.zeroValue2
  t3 := Tryz.underlying3
  a3 := Tryz.isAgg3
  z3 := Tryz.sizeOf3
  v3 := Tryz.zeroValue3
  t4 := Tryz.underlying4
  a4 := Tryz.isAgg4
  z4 := Tryz.sizeOf4
  v4 := Tryz.zeroValue4
  t5 := Tryz.underlying5
  a5 := Tryz.isAgg5
  z5 := Tryz.sizeOf5
  v5 := Tryz.zeroValue5
  t9 := Tryz.underlying9
  a9 := Tryz.isAgg9
  z9 := Tryz.sizeOf9
  v9 := Tryz.zeroValue9
  t20 := Tryz.underlying20
  a20 := Tryz.isAgg20
  z20 := Tryz.sizeOf20
  v20 := Tryz.zeroValue20
  t37 := Tryz.underlying112
  a37 := Tryz.isAgg112
  z37 := Tryz.sizeOf112
  v37 := Tryz.zeroValue112
  t46 := Tryz.underlying78
  a46 := Tryz.isAgg78
  z46 := Tryz.sizeOf78
  v46 := Tryz.zeroValue78
  t51 := Tryz.underlying93
  a51 := Tryz.isAgg93
  z51 := Tryz.sizeOf93
  v51 := Tryz.zeroValue93
  t53 := Tryz.underlying95
  a53 := Tryz.isAgg95
  z53 := Tryz.sizeOf95
  v53 := Tryz.zeroValue95
  t171 := Tryz.underlying110
  a171 := Tryz.isAgg110
  z171 := Tryz.sizeOf110
  v171 := Tryz.zeroValue110
  t173 := Tryz.underlying113
  a173 := Tryz.isAgg113
  z173 := Tryz.sizeOf113
  v173 := Tryz.zeroValue113
  t212 := Tryz.underlying123
  a212 := Tryz.isAgg123
  z212 := Tryz.sizeOf123
  v212 := Tryz.zeroValue123
  t213 := Tryz.underlying124
  a213 := Tryz.isAgg124
  z213 := Tryz.sizeOf124
  t232 := Tryz.underlying134
  a232 := Tryz.isAgg134
  z232 := Tryz.sizeOf134
  v232 := Tryz.zeroValue134
  t233 := Tryz.underlying135
  a233 := Tryz.isAgg135
  z233 := Tryz.sizeOf135
  v233 := Tryz.zeroValue135
  g17 := by kernel_rfl
  g18 := by kernel_rfl
  g19 := by kernel_rfl
  i0 := by kernel_rfl
  i2 := by kernel_rfl
  i3 := by kernel_rfl
  i4 := by kernel_rfl
  i5 := by kernel_rfl
  i9 := by kernel_rfl
  i20 := by kernel_rfl
  i37 := by kernel_rfl
  i46 := by kernel_rfl
  i51 := by kernel_rfl
  i53 := by kernel_rfl
  i171 := by kernel_rfl
  i173 := by kernel_rfl
  i212 := by kernel_rfl
  i232 := by kernel_rfl
  i233 := by kernel_rfl
  m17 := by kernel_rfl
  m18 := by kernel_rfl
  m19 := by kernel_rfl }
open Go.RowKit Go.Sort Go.Lib in
/-- internal/strconv.Itoa: "Itoa is equivalent to FormatInt(int64(i), 10).": i's decimal numeral, for every int. (LAID: no walk: one application.) -/
theorem y_internal_strconv_Itoa (n : Int) (h0 : -9223372036854775808 ≤ n) (h1 : n ≤ 9223372036854775807) (w : World) (htab : Lib.TabIs Tryz.prog w "internal/strconv.uint64pow10" .u64 Lib.pow10Tab) :
    Calls Tryz.prog 40 #[.int .i64 n] w fun e w' => e = .returned (.string ⟨(Lib.itoa n).toArray⟩) ∧ ∃ k os, w' = grow (w.drewN k) os := Any.internal_strconv_Itoa y_laysM243 n h0 h1 w htab
def y_lays243_ren : Go.Shelf.Ren := ⟨fun | 243 => 40 | 246 => 58 | 283 => 74 | 284 => 75 | 285 => 76 | 286 => 77 | 129 => 57 | 317 => 83 | 318 => 84 | 319 => 85 | 320 => 86 | 337 => 96 | 338 => 97 | n => n, fun | 3 => 3 | 9 => 9 | 2 => 2 | 4 => 4 | 171 => 110 | 0 => 0 | 53 => 95 | 37 => 112 | 5 => 5 | 173 => 113 | 212 => 123 | 51 => 93 | 20 => 20 | 213 => 124 | 46 => 78 | 232 => 134 | 233 => 135 | n => n, fun | 17 => 0 | 18 => 1 | 19 => 2 | n => n⟩
theorem y_lays243 : Go.Proofs.Lays.n243 Tryz.prog y_lays243_ren := {
  mixed := by kernel_rfl
  f129 := Tryz.func57.trans (congrArg some (by kernel_rfl))
  f243 := Tryz.func40.trans (congrArg some (by kernel_rfl))
  f246 := Tryz.func58.trans (congrArg some (by kernel_rfl))
  f283 := Tryz.func74.trans (congrArg some (by kernel_rfl))
  f284 := Tryz.func75.trans (congrArg some (by kernel_rfl))
  f285 := Tryz.func76.trans (congrArg some (by kernel_rfl))
  f286 := Tryz.func77.trans (congrArg some (by kernel_rfl))
  f317 := Tryz.func83.trans (congrArg some (by kernel_rfl))
  f318 := Tryz.func84.trans (congrArg some (by kernel_rfl))
  f319 := Tryz.func85.trans (congrArg some (by kernel_rfl))
  f320 := Tryz.func86.trans (congrArg some (by kernel_rfl))
  f337 := Tryz.func96.trans (congrArg some (by kernel_rfl))
  f338 := Tryz.func97.trans (congrArg some (by kernel_rfl))
  t0 := Tryz.underlying0
  a0 := Tryz.isAgg0
  z0 := Tryz.sizeOf0
  v0 := Tryz.zeroValue0
  t2 := Tryz.underlying2
  a2 := Tryz.isAgg2
  z2 := Tryz.sizeOf2
  v2 := Tryz.zeroValue2
  t3 := Tryz.underlying3
  a3 := Tryz.isAgg3
  z3 := Tryz.sizeOf3
  v3 := Tryz.zeroValue3
  t4 := Tryz.underlying4
  a4 := Tryz.isAgg4
  z4 := Tryz.sizeOf4
  v4 := Tryz.zeroValue4
  t5 := Tryz.underlying5
  a5 := Tryz.isAgg5
  z5 := Tryz.sizeOf5
  v5 := Tryz.zeroValue5
  t9 := Tryz.underlying9
  a9 := Tryz.isAgg9
  z9 := Tryz.sizeOf9
  v9 := Tryz.zeroValue9
  t20 := Tryz.underlying20
  a20 := Tryz.isAgg20
  z20 := Tryz.sizeOf20
  v20 := Tryz.zeroValue20
  t37 := Tryz.underlying112
  a37 := Tryz.isAgg112
  z37 := Tryz.sizeOf112
  v37 := Tryz.zeroValue112
  t46 := Tryz.underlying78
  a46 := Tryz.isAgg78
  z46 := Tryz.sizeOf78
  v46 := Tryz.zeroValue78
  t51 := Tryz.underlying93
  a51 := Tryz.isAgg93
  z51 := Tryz.sizeOf93
  v51 := Tryz.zeroValue93
  t53 := Tryz.underlying95
  a53 := Tryz.isAgg95
  z53 := Tryz.sizeOf95
  v53 := Tryz.zeroValue95
  t171 := Tryz.underlying110
  a171 := Tryz.isAgg110
  z171 := Tryz.sizeOf110
  v171 := Tryz.zeroValue110
  t173 := Tryz.underlying113
  a173 := Tryz.isAgg113
  z173 := Tryz.sizeOf113
  v173 := Tryz.zeroValue113
  t212 := Tryz.underlying123
  a212 := Tryz.isAgg123
  z212 := Tryz.sizeOf123
  v212 := Tryz.zeroValue123
  t213 := Tryz.underlying124
  a213 := Tryz.isAgg124
  z213 := Tryz.sizeOf124
  t232 := Tryz.underlying134
  a232 := Tryz.isAgg134
  z232 := Tryz.sizeOf134
  v232 := Tryz.zeroValue134
  t233 := Tryz.underlying135
  a233 := Tryz.isAgg135
  z233 := Tryz.sizeOf135
  v233 := Tryz.zeroValue135
  g17 := by kernel_rfl
  g18 := by kernel_rfl
  g19 := by kernel_rfl }
open Go.RowKit Go.Sort Go.Lib in
/-- THE ROAD WITHOUT THE TABLE: 0 <= i < 100. (LAID: no walk: one application.) -/
theorem y_internal_strconv_Itoa_small (i : Nat) (hi : i < 100) (w : World) :
    Calls Tryz.prog 40 #[.int .i64 i] w fun e w' => e = .returned (.string ⟨(Lib.decDigits i).toArray⟩) ∧ w' = w := Any.internal_strconv_Itoa_small y_lays243 i hi w
def y_laysM171_ren : Go.Shelf.Ren := ⟨fun | 171 => 23 | 243 => 40 | 246 => 58 | 283 => 74 | 284 => 75 | 285 => 76 | 286 => 77 | 129 => 57 | 317 => 83 | 318 => 84 | 319 => 85 | 320 => 86 | 337 => 96 | 338 => 97 | n => n, fun | 3 => 3 | 9 => 9 | 2 => 2 | 4 => 4 | 171 => 110 | 0 => 0 | 53 => 95 | 37 => 112 | 5 => 5 | 173 => 113 | 212 => 123 | 51 => 93 | 20 => 20 | 213 => 124 | 46 => 78 | 232 => 134 | 233 => 135 | n => n, fun | 17 => 0 | 18 => 1 | 19 => 2 | n => n⟩
theorem y_laysM171 : Go.Proofs.LaysM.n171 Tryz.prog y_laysM171_ren := {
  mixed := by kernel_rfl
  f129 := Tryz.func57.trans (congrArg some (by kernel_rfl))
  f171 := Tryz.func23.trans (congrArg some (by kernel_rfl))
  f243 := Tryz.func40.trans (congrArg some (by kernel_rfl))
  f246 := Tryz.func58.trans (congrArg some (by kernel_rfl))
  f283 := Tryz.func74.trans (congrArg some (by kernel_rfl))
  f284 := Tryz.func75.trans (congrArg some (by kernel_rfl))
  f285 := Tryz.func76.trans (congrArg some (by kernel_rfl))
  f286 := Tryz.func77.trans (congrArg some (by kernel_rfl))
  f317 := Tryz.func83.trans (congrArg some (by kernel_rfl))
  f318 := Tryz.func84.trans (congrArg some (by kernel_rfl))
  f319 := Tryz.func85.trans (congrArg some (by kernel_rfl))
  f320 := Tryz.func86.trans (congrArg some (by kernel_rfl))
  f337 := Tryz.func96.trans (congrArg some (by kernel_rfl))
  f338 := Tryz.func97.trans (congrArg some (by kernel_rfl))
  t0 := Tryz.underlying0
  a0 := Tryz.isAgg0
  z0 := Tryz.sizeOf0
  v0 := Tryz.zeroValue0
  t2 := Tryz.underlying2
  a2 := Tryz.isAgg2
  z2 := Tryz.sizeOf2
  v2 := Tryz.zeroValue2
  t3 := Tryz.underlying3
  a3 := Tryz.isAgg3
  z3 := Tryz.sizeOf3
  v3 := Tryz.zeroValue3
  t4 := Tryz.underlying4
  a4 := Tryz.isAgg4
  z4 := Tryz.sizeOf4
  v4 := Tryz.zeroValue4
  t5 := Tryz.underlying5
  a5 := Tryz.isAgg5
  z5 := Tryz.sizeOf5
  v5 := Tryz.zeroValue5
  t9 := Tryz.underlying9
  a9 := Tryz.isAgg9
  z9 := Tryz.sizeOf9
  v9 := Tryz.zeroValue9
  t20 := Tryz.underlying20
  a20 := Tryz.isAgg20
  z20 := Tryz.sizeOf20
  v20 := Tryz.zeroValue20
  t37 := Tryz.underlying112
  a37 := Tryz.isAgg112
  z37 := Tryz.sizeOf112
  v37 := Tryz.zeroValue112
  t46 := Tryz.underlying78
  a46 := Tryz.isAgg78
  z46 := Tryz.sizeOf78
  v46 := Tryz.zeroValue78
  t51 := Tryz.underlying93
  a51 := Tryz.isAgg93
  z51 := Tryz.sizeOf93
  v51 := Tryz.zeroValue93
  t53 := Tryz.underlying95
  a53 := Tryz.isAgg95
  z53 := Tryz.sizeOf95
  v53 := Tryz.zeroValue95
  t171 := Tryz.underlying110
  a171 := Tryz.isAgg110
  z171 := Tryz.sizeOf110
  v171 := Tryz.zeroValue110
  t173 := Tryz.underlying113
  a173 := Tryz.isAgg113
  z173 := Tryz.sizeOf113
  v173 := Tryz.zeroValue113
  t212 := Tryz.underlying123
  a212 := Tryz.isAgg123
  z212 := Tryz.sizeOf123
  v212 := Tryz.zeroValue123
  t213 := Tryz.underlying124
  a213 := Tryz.isAgg124
  z213 := Tryz.sizeOf124
  t232 := Tryz.underlying134
  a232 := Tryz.isAgg134
  z232 := Tryz.sizeOf134
  v232 := Tryz.zeroValue134
  t233 := Tryz.underlying135
  a233 := Tryz.isAgg135
  z233 := Tryz.sizeOf135
  v233 := Tryz.zeroValue135
  g17 := by kernel_rfl
  g18 := by kernel_rfl
  g19 := by kernel_rfl
  i0 := by kernel_rfl
  i2 := by kernel_rfl
  i3 := by kernel_rfl
  i4 := by kernel_rfl
  i5 := by kernel_rfl
  i9 := by kernel_rfl
  i20 := by kernel_rfl
  i37 := by kernel_rfl
  i46 := by kernel_rfl
  i51 := by kernel_rfl
  i53 := by kernel_rfl
  i171 := by kernel_rfl
  i173 := by kernel_rfl
  i212 := by kernel_rfl
  i232 := by kernel_rfl
  i233 := by kernel_rfl
  m17 := by kernel_rfl
  m18 := by kernel_rfl
  m19 := by kernel_rfl }
open Go.RowKit Go.Sort Go.Lib in
/-- strconv.Itoa: "Itoa is equivalent to FormatInt(int64(i), 10).": i's DECIMAL NUMERAL ('Lib.itoa': a '-' where i is negative, then the digits), FOR EVERY int. The world behind the call: the world before it, new blocks behind the heap (the library's 'var a [24]byte'), draws. (LAID: no walk: one application.) -/
theorem y_strconv_Itoa (n : Int) (h0 : -9223372036854775808 ≤ n) (h1 : n ≤ 9223372036854775807) (w : World) (htab : Lib.TabIs Tryz.prog w "internal/strconv.uint64pow10" .u64 Lib.pow10Tab) :
    Calls Tryz.prog 23 #[.int .i64 n] w fun e w' => e = .returned (.string ⟨(Lib.itoa n).toArray⟩) ∧ ∃ k os, w' = grow (w.drewN k) os := Any.strconv_Itoa y_laysM171 n h0 h1 w htab
def y_lays171_ren : Go.Shelf.Ren := ⟨fun | 171 => 23 | 243 => 40 | 246 => 58 | 283 => 74 | 284 => 75 | 285 => 76 | 286 => 77 | 129 => 57 | 317 => 83 | 318 => 84 | 319 => 85 | 320 => 86 | 337 => 96 | 338 => 97 | n => n, fun | 3 => 3 | 9 => 9 | 2 => 2 | 4 => 4 | 171 => 110 | 0 => 0 | 53 => 95 | 37 => 112 | 5 => 5 | 173 => 113 | 212 => 123 | 51 => 93 | 20 => 20 | 213 => 124 | 46 => 78 | 232 => 134 | 233 => 135 | n => n, fun | 17 => 0 | 18 => 1 | 19 => 2 | n => n⟩
theorem y_lays171 : Go.Proofs.Lays.n171 Tryz.prog y_lays171_ren := {
  mixed := by kernel_rfl
  f129 := Tryz.func57.trans (congrArg some (by kernel_rfl))
  f171 := Tryz.func23.trans (congrArg some (by kernel_rfl))
  f243 := Tryz.func40.trans (congrArg some (by kernel_rfl))
  f246 := Tryz.func58.trans (congrArg some (by kernel_rfl))
  f283 := Tryz.func74.trans (congrArg some (by kernel_rfl))
  f284 := Tryz.func75.trans (congrArg some (by kernel_rfl))
  f285 := Tryz.func76.trans (congrArg some (by kernel_rfl))
  f286 := Tryz.func77.trans (congrArg some (by kernel_rfl))
  f317 := Tryz.func83.trans (congrArg some (by kernel_rfl))
  f318 := Tryz.func84.trans (congrArg some (by kernel_rfl))
  f319 := Tryz.func85.trans (congrArg some (by kernel_rfl))
  f320 := Tryz.func86.trans (congrArg some (by kernel_rfl))
  f337 := Tryz.func96.trans (congrArg some (by kernel_rfl))
  f338 := Tryz.func97.trans (congrArg some (by kernel_rfl))
  t0 := Tryz.underlying0
  a0 := Tryz.isAgg0
  z0 := Tryz.sizeOf0
  v0 := Tryz.zeroValue0
  t2 := Tryz.underlying2
  a2 := Tryz.isAgg2
  z2 := Tryz.sizeOf2
  v2 := Tryz.zeroValue2
  t3 := Tryz.underlying3
  a3 := Tryz.isAgg3
  z3 := Tryz.sizeOf3
  v3 := Tryz.zeroValue3
  t4 := Tryz.underlying4
  a4 := Tryz.isAgg4
  z4 := Tryz.sizeOf4
  v4 := Tryz.zeroValue4
  t5 := Tryz.underlying5
  a5 := Tryz.isAgg5
  z5 := Tryz.sizeOf5
  v5 := Tryz.zeroValue5
  t9 := Tryz.underlying9
  a9 := Tryz.isAgg9
  z9 := Tryz.sizeOf9
  v9 := Tryz.zeroValue9
  t20 := Tryz.underlying20
  a20 := Tryz.isAgg20
  z20 := Tryz.sizeOf20
  v20 := Tryz.zeroValue20
  t37 := Tryz.underlying112
  a37 := Tryz.isAgg112
  z37 := Tryz.sizeOf112
  v37 := Tryz.zeroValue112
  t46 := Tryz.underlying78
  a46 := Tryz.isAgg78
  z46 := Tryz.sizeOf78
  v46 := Tryz.zeroValue78
  t51 := Tryz.underlying93
  a51 := Tryz.isAgg93
  z51 := Tryz.sizeOf93
  v51 := Tryz.zeroValue93
  t53 := Tryz.underlying95
  a53 := Tryz.isAgg95
  z53 := Tryz.sizeOf95
  v53 := Tryz.zeroValue95
  t171 := Tryz.underlying110
  a171 := Tryz.isAgg110
  z171 := Tryz.sizeOf110
  v171 := Tryz.zeroValue110
  t173 := Tryz.underlying113
  a173 := Tryz.isAgg113
  z173 := Tryz.sizeOf113
  v173 := Tryz.zeroValue113
  t212 := Tryz.underlying123
  a212 := Tryz.isAgg123
  z212 := Tryz.sizeOf123
  v212 := Tryz.zeroValue123
  t213 := Tryz.underlying124
  a213 := Tryz.isAgg124
  z213 := Tryz.sizeOf124
  t232 := Tryz.underlying134
  a232 := Tryz.isAgg134
  z232 := Tryz.sizeOf134
  v232 := Tryz.zeroValue134
  t233 := Tryz.underlying135
  a233 := Tryz.isAgg135
  z233 := Tryz.sizeOf135
  v233 := Tryz.zeroValue135
  g17 := by kernel_rfl
  g18 := by kernel_rfl
  g19 := by kernel_rfl }
open Go.RowKit Go.Sort Go.Lib in
/-- THE ROAD WITHOUT THE TABLE: 0 <= i < 100: NO PREMISE ON THE WORLD, AND THE WORLD IS AS IT WAS: a row that keeps its argument in that range need list no table ('laid = []'). (LAID: no walk: one application.) -/
theorem y_strconv_Itoa_small (i : Nat) (hi : i < 100) (w : World) :
    Calls Tryz.prog 23 #[.int .i64 i] w fun e w' => e = .returned (.string ⟨(Lib.decDigits i).toArray⟩) ∧ w' = w := Any.strconv_Itoa_small y_lays171 i hi w
end Go.Proofs.YthikgdogfkjioaaGreatDoor
