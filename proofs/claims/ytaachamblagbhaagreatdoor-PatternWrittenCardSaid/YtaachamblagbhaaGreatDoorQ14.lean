/- The document's reader of patterns: its memory; now, skip, eat, need where the text is of ASCII. · Lists of patterns in memory; what a reading function of the document does; several. · A region that draws its order, walked by steps: what only answers a value is taken in the order of the text; of what makes or writes memory each that may come. -/
import Derived.Test.YtaachamblagbhaaGreatDoorQ13
import Derived.Test.YtaachamblagbhaaGreatDoorQ8
import Derived.Test.YtaachamblagbhaaGreatDoorQ9
import Derived.Test.YtaachamblagbhaaGreatDoorQ4
namespace Go.Proofs.YtaachamblagbhaaGreatDoor
open Go.RowKit BigFrame
set_option linter.unusedVariables false
set_option linter.unusedSimpArgs false
set_option maxRecDepth 100000

/-- The next byte as a number; -1 at the end. -/
def hdI : List UInt8 → Int
  | [] => -1
  | c :: _ => (c.toNat : Int)
/-- The reader at a place of a text, what follows there, so much open. -/
structure RS (w : World) (rb : Nat) (s : ByteArray) (i o : Nat) (rest : List UInt8) : Prop where
  asc : AsT s.data.toList
  len : s.size ≤ 65536
  b : Blk w rb 49 [.string s, .int .i64 (i : Int), .int .i64 (o : Int), .nilIface, .int .i64 0]
  at_ : s.data.toList.drop i = rest
  le : i ≤ s.size
theorem RS.cons {w : World} {rb : Nat} {s : ByteArray} {i o : Nat} {c : UInt8} {t : List UInt8} (h : RS w rb s i o (c :: t)) : i < s.size ∧ byt s i = (c.toNat : Int) ∧ c.toNat < 128 ∧ s.data.toList.drop (i + 1) = t := by
  have hsz : s.size = s.data.toList.length := by rw [Array.length_toList]; rfl
  have hi : i < s.data.toList.length := by
    have := congrArg List.length h.at_
    simp at this
    have h2 := h.le
    simp
    have : s.size = s.data.size := rfl
    omega
  have e : s.data.toList[i] = c := by
    have := congrArg (·[0]?) h.at_
    simp at this
    rw [List.getElem_eq_iff]
    simpa using this
  refine ⟨by omega, ?_, h.asc c (by rw [← e]; exact List.getElem_mem _), ?_⟩
  · unfold byt
    rw [dif_pos (by omega)]
    have : s[i] = s.data.toList[i] := by rw [Array.getElem_toList]; rfl
    rw [this, e]
  · have := congrArg List.tail h.at_
    rw [List.tail_drop] at this
    simpa using this
theorem RS.nil {w : World} {rb : Nat} {s : ByteArray} {i o : Nat} (h : RS w rb s i o []) : i = s.size := by
  have hsz : s.size = s.data.toList.length := by rw [Array.length_toList]; rfl
  have := congrArg List.length h.at_
  rw [List.length_drop] at this
  have h2 := h.le
  simp at this
  have : s.size = s.data.size := rfl
  omega
theorem RS.below {w w' : World} {rb : Nat} {s : ByteArray} {i o : Nat} {rest : List UInt8} (h : RS w rb s i o rest) (hb : Below w.heap.size w w') : RS w' rb s i o rest := ⟨h.asc, h.len, h.b.below' hb, h.at_, h.le⟩
theorem dn_below (w : World) (d : Nat) : Below w.heap.size w (w.drewN d) := ⟨rfl, rfl, rfl, Nat.le_refl _, fun _ _ => rfl⟩
theorem RS.lt {w : World} {rb : Nat} {s : ByteArray} {i o : Nat} {rest : List UInt8} (h : RS w rb s i o rest) : rb < w.heap.size := h.b.lt
abbrev rdp (rb : Nat) : Value := .pointer (some ⟨rb, 0, none⟩)

set_option maxHeartbeats 4000000 in
theorem now_any (rb i o : Nat) (s : ByteArray) (rest : List UInt8) (w : World) (h : RS w rb s i o rest) :
    Calls Tryz.prog 53 #[rdp rb] w fun e w' => e = .returned (.int .i64 (hdI rest)) ∧ Below w.heap.size w w' := by
  have z0 := h.b.cell (i := 0) rfl
  have z1 := h.b.cell (i := 1) rfl
  have z3 := h.b.cell (i := 3) rfl
  have hlen := h.len
  have hle := h.le
  cases rest with
  | nil =>
    have hi := h.nil
    have d0 : decide ((s.size : Int) ≤ (i : Int)) = true := decide_eq_true (by omega)
    clear h
    subst hi
    go_enter Tryz.func53, Tryz.ntmps53
    go_wp2_with fail
    go_quiet (fail)
    go_wp2_with fail
    go_ret
    exact ⟨rfl, dn_below _ _⟩
  | cons c t =>
    obtain ⟨h1, h2, h3, -⟩ := h.cons
    have d0 : decide ((s.size : Int) ≤ (i : Int)) = false := decide_eq_false (by omega)
    have HP : Hid (∀ W : World, Calls Tryz.prog 68 #[.string s, .int .i64 i] W fun e w' => e = .returned (.tuple #[.int .i64 (c.toNat : Int), .int .i64 1, .bool true]) ∧ w' = W) := Lib.hid (fun W => by
      rw [← h2]; exact (point_one s i W (by unfold maxLen; omega) h1 (by rw [h2]; omega)).mono fun e w' h => ⟨h.1, h.2.symm⟩)
    have HR := Lib.hid h
    clear h h2
    go_enter Tryz.func53, Tryz.ntmps53
    go_wp2_with fail
    go_quiet (fail)
    obtain ⟨w1, hw1⟩ : ∃ w1, w1 = w.drewN nq := ⟨_, rfl⟩
    have hb1 : Below w.heap.size w w1 := by rw [hw1]; exact dn_below _ _
    have hR1 := HR.out.below hb1
    have z0 := hR1.b.cell (i := 0) rfl
    have z1 := hR1.b.cell (i := 1) rfl
    have z3 := hR1.b.cell (i := 3) rfl
    rw [← hw1]
    have HB1 := Lib.hid hb1
    clear hw1 hR1 hb1
    go_wp2_with fail
    go_quiet ((go_at_call 68; exact Calls.quiet_of_same (HP.out _)))
    go_wp2_with fail
    go_ret
    exact ⟨rfl, HB1.out.trans ((dn_below _ _).mono HB1.out.size)⟩

set_option maxHeartbeats 4000000 in
theorem skip_any (rb i o : Nat) (s : ByteArray) (c : UInt8) (t : List UInt8) (w : World) (h : RS w rb s i o (c :: t)) :
    Calls Tryz.prog 54 #[rdp rb] w fun e w' => e = .returned (.tuple #[]) ∧ RS w' rb s (i + 1) o t ∧ Kp (· = rb) w w' := by
  have z0 := h.b.cell (i := 0) rfl
  have z1 := h.b.cell (i := 1) rfl
  have f1 := h.b.frozen 1
  have hlen := h.len
  obtain ⟨h1, h2, h3, h4⟩ := h.cons
  have HP : Hid (∀ W : World, Calls Tryz.prog 68 #[.string s, .int .i64 i] W fun e w' => e = .returned (.tuple #[.int .i64 (c.toNat : Int), .int .i64 1, .bool true]) ∧ w' = W) := Lib.hid (fun W => by
    rw [← h2]; exact (point_one s i W (by unfold maxLen; omega) h1 (by rw [h2]; omega)).mono fun e w' h => ⟨h.1, h.2.symm⟩)
  have HR : Hid (∀ q, RS ((w.drewN q).setCell ⟨rb, 1, none⟩ (.int .i64 ((i : Int) + 1))) rb s (i + 1) o t) := Lib.hid (fun q => ⟨h.asc, h.len, (h.b.drewN q).set_ 1 (.int .i64 ((i + 1 : Nat) : Int)), h4, h1⟩)
  have HK : Hid (∀ q, Kp (· = rb) w ((w.drewN q).setCell ⟨rb, 1, none⟩ (.int .i64 ((i : Int) + 1)))) := Lib.hid (fun q => ((Kp.refl (· = rb) w).draws q).set_ (p := ⟨rb, 1, none⟩) (.inr rfl) _)
  clear h h2 h4
  go_enter Tryz.func54, Tryz.ntmps54
  go_wp2_with fail
  go_quiet ((go_at_call 68; exact Calls.quiet_of_same (HP.out _)))
  go_wp2_with fail
  go_end0
  exact ⟨rfl, HR.out _, HK.out _⟩

/-- The sign stands there: it is eaten. -/
theorem eat_yes (rb i o : Nat) (s : ByteArray) (c : UInt8) (t : List UInt8) (x : Int) (w : World) (h : RS w rb s i o (c :: t)) (hx : (c.toNat : Int) = x) :
    Calls Tryz.prog 35 #[rdp rb, .int .i64 x] w fun e w' => e = .returned (.bool true) ∧ RS w' rb s (i + 1) o t ∧ Kp (· = rb) w w' := by
  subst hx
  have HN := Lib.hid (now_any rb i o s (c :: t) w h)
  have H := Lib.hid h
  clear h
  go_enter Tryz.func35, Tryz.ntmps35
  go_wp2_with fail
  refine HN.out.mono ?_
  rintro e w1 ⟨rfl, hb1⟩
  have HS := Lib.hid (skip_any rb i o s c t w1 (H.out.below hb1))
  have HK1 := Lib.hid (Kp.of (S := (· = rb)) hb1)
  have hh : hdI (c :: t) = (c.toNat : Int) := rfl
  rw [hh]
  clear hb1 hh
  go_wp2_with fail
  refine HS.out.mono ?_
  rintro e w2 ⟨rfl, hr2, hk2⟩
  have HR2 := Lib.hid hr2
  have HK2 := Lib.hid (HK1.out.trans hk2)
  clear hr2 hk2
  go_wp2_with fail
  go_ret
  exact ⟨rfl, HR2.out, HK2.out⟩
theorem eat_no (rb i o : Nat) (s : ByteArray) (rest : List UInt8) (x : Int) (w : World) (h : RS w rb s i o rest) (hx : hdI rest ≠ x) :
    Calls Tryz.prog 35 #[rdp rb, .int .i64 x] w fun e w' => e = .returned (.bool false) ∧ Below w.heap.size w w' := by
  have HN := Lib.hid (now_any rb i o s rest w h)
  generalize hdI rest = y at *
  clear h
  go_enter Tryz.func35, Tryz.ntmps35
  go_wp2_with fail
  refine HN.out.mono ?_
  rintro e w1 ⟨rfl, hb1⟩
  have HB := Lib.hid hb1
  clear hb1
  go_wp2_with fail
  go_ret
  exact ⟨rfl, HB.out⟩
theorem need_yes (rb i o : Nat) (s : ByteArray) (c : UInt8) (t : List UInt8) (x : Int) (w : World) (h : RS w rb s i o (c :: t)) (hx : (c.toNat : Int) = x) :
    Calls Tryz.prog 102 #[rdp rb, .int .i64 x] w fun e w' => e = .returned (.tuple #[]) ∧ RS w' rb s (i + 1) o t ∧ Kp (· = rb) w w' := by
  have HN := Lib.hid (eat_yes rb i o s c t x w h hx)
  clear h
  go_enter Tryz.func102, Tryz.ntmps102
  go_wp2_with fail
  refine HN.out.mono ?_
  rintro e w1 ⟨rfl, hr1, hk1⟩
  have HR1 := Lib.hid hr1
  have HK1 := Lib.hid hk1
  clear hr1 hk1
  go_wp2_with fail
  go_end0
  exact ⟨rfl, HR1.out, HK1.out⟩
end Go.Proofs.YtaachamblagbhaaGreatDoor
namespace Go.Proofs.YtaachamblagbhaaGreatDoor
open Go.RowKit BigFrame
set_option linter.unusedVariables false
set_option linter.unusedSimpArgs false
set_option maxRecDepth 100000

theorem elRx : ElTy Tryz.prog 39 27 1 8 (.pointer none) := ⟨Tryz.underlying39, by kernel_rfl, rfl, by decide⟩
theorem own_kept {w w' : World} {base n sz : Nat} {e : TypeId} {v : Value} {vs : List Value} (h : w.ownsRow base e sz v n vs) (hk : ∀ g, v.ownBlock = some g → w'.heap[g]? = w.heap[g]?) : w'.ownsRow base e sz v n vs := by
  refine ⟨h.1, ?_⟩
  rcases h.2 with q | ⟨g, cap, cur, rfl, hb, hg, hn, hc, hs, ht⟩
  · exact .inl q
  · exact .inr ⟨g, cap, cur, rfl, hb, (hk g rfl).trans hg, hn, hc, hs, ht⟩
theorem own_atR {w : World} {base n : Nat} {e : TypeId} {v : Value} {vs : List Value} (h : w.ownsRow base e 1 v n vs) (h0 : 0 < n) :
    ∃ g cap, v = .slice (some ⟨g, 0, none⟩) n cap ∧ n ≤ cap ∧ cap ≤ maxLen ∧ g < w.heap.size ∧ base ≤ g ∧ ∀ (k : Nat) (u : Value), vs[k]? = some u → w.cell? ⟨g, k, none⟩ = some u := by
  rcases h.2 with ⟨_, q⟩ | ⟨g, cap, cur, rfl, hb, hg, hn, hc, hs, ht⟩
  · omega
  · refine ⟨g, cap, rfl, hn, hc, (Array.getElem?_eq_some_iff.1 hg).1, hb, fun k u hk => ?_⟩
    rw [cell_of_row w g k cur e (0, 0) hg, ← Array.getElem?_toList]
    rw [← ht, List.getElem?_take] at hk
    split at hk
    · exact hk
    · cases hk
/-- Blocks from base on that are there. -/
abbrev Frm (base : Nat) (w : World) (b : Nat) : Prop := base ≤ b ∧ b < w.heap.size
/-- Patterns in an own row of pointers: the row and all of theirs lies from base on. -/
structure PsV (w : World) (base : Nat) (v : Value) (ts : List Rx) : Prop where
  ex : ∃ (vs : List Value) (S : Nat → Prop), w.ownsRow base 27 1 v ts.length vs ∧ (∀ b, S b → base ≤ b ∧ b < w.heap.size ∧ v.ownBlock ≠ some b) ∧ ∀ (i : Nat) (t : Rx), ts[i]? = some t → ∃ u, vs[i]? = some u ∧ RxIn w S u t
theorem PsV.nil (w : World) (base : Nat) : PsV w base (.slice none 0 0) [] := ⟨[], fun _ => False, World.ownsRow_nil _ _ _ _, fun b h => h.elim, fun i t h => by simp at h⟩
theorem PsV.keep {w w' : World} {base : Nat} {v : Value} {ts : List Rx} (h : PsV w base v ts) (hk : ∀ b, base ≤ b → b < w.heap.size → w'.heap[b]? = w.heap[b]?) (hs : w.heap.size ≤ w'.heap.size) : PsV w' base v ts := by
  obtain ⟨vs, S, h1, h2, h3⟩ := h.ex
  refine ⟨vs, S, own_kept h1 (fun g hg => ?_), fun b hb => ?_, fun i t ht => ?_⟩
  · have := h1.lt g hg
    exact hk g this.1 this.2
  · obtain ⟨a, b', c⟩ := h2 b hb
    exact ⟨a, by omega, c⟩
  · obtain ⟨u, x, y⟩ := h3 i t ht
    exact ⟨u, x, RxIn.keep (fun b hb => hk b (h2 b hb).1 (h2 b hb).2.1) (fun _ q => q) y⟩
theorem PsV.kp {w w' : World} {base rb : Nat} {v : Value} {ts : List Rx} (h : PsV w base v ts) (hk : Kp (· = rb) w w') (hr : rb < base) : PsV w' base v ts :=
  h.keep (fun b h1 h2 => hk.block b h2 (fun e => by omega)) hk.size
theorem PsV.form {w : World} {base : Nat} {v : Value} {ts : List Rx} (h : PsV w base v ts) : ∃ A c, v = .slice A ts.length c ∧ ts.length ≤ c ∧ c ≤ maxLen := by
  obtain ⟨vs, S, h1, _, _⟩ := h.ex
  obtain ⟨A, c, e, x, y, _⟩ := own_form h1
  exact ⟨A, c, e, x, y⟩
/-- One more, appended. -/
theorem PsV.push {w w' : World} {base : Nat} {v v' u : Value} {vs : List Value} {ts : List Rx} {p : Rx} {S T : Nat → Prop} (h1 : w.ownsRow base 27 1 v ts.length vs) (h2 : ∀ b, S b → base ≤ b ∧ b < w.heap.size ∧ v.ownBlock ≠ some b)
    (h3 : ∀ (i : Nat) (t : Rx), ts[i]? = some t → ∃ u, vs[i]? = some u ∧ RxIn w S u t) (hu : RxIn w T u p) (hT : ∀ b, T b → base ≤ b ∧ b < w.heap.size ∧ v.ownBlock ≠ some b)
    (hg : w.grownBy w' v.ownBlock) (hr : w'.ownsRow base 27 1 v' (ts.length + 1) (vs ++ [u])) (ha : v'.ownBlock = v.ownBlock ∨ ∃ k, w.heap.size ≤ k ∧ v'.ownBlock = some k) : PsV w' base v' (ts ++ [p]) := by
  have hgs := hg.size
  have hvl : vs.length = ts.length := by have := h1.1; omega
  have hne : ∀ b, (S b ∨ T b) → base ≤ b ∧ b < w.heap.size ∧ v.ownBlock ≠ some b := fun b q => by
    rcases q with q | q
    · exact h2 b q
    · exact hT b q
  have hkeep : ∀ b, (S b ∨ T b) → w'.heap[b]? = w.heap[b]? := fun b q => by
    obtain ⟨a, b', c⟩ := hne b q
    exact hg.block b b' (fun e => c e.symm)
  refine ⟨vs ++ [u], fun b => S b ∨ T b, by rw [List.length_append]; exact hr, fun b q => ?_, fun i t ht => ?_⟩
  · obtain ⟨a, b', c⟩ := hne b q
    refine ⟨a, by omega, ?_⟩
    rcases ha with ha | ⟨k, hk, ha⟩
    · rw [ha]; exact c
    · rw [ha]; intro e; cases e; omega
  · by_cases q : i < ts.length
    · rw [List.getElem?_append_left q] at ht
      obtain ⟨x, a, b⟩ := h3 i t ht
      exact ⟨x, by rw [List.getElem?_append_left (by omega)]; exact a, RxIn.keep (fun b hb => hkeep b (.inl hb)) (fun _ z => .inl z) b⟩
    · rw [List.getElem?_append_right (by omega)] at ht
      by_cases q2 : i = ts.length
      · subst q2
        simp at ht
        subst ht
        exact ⟨u, by rw [List.getElem?_append_right (by omega), hvl, Nat.sub_self]; rfl, RxIn.keep (fun b hb => hkeep b (.inr hb)) (fun _ z => .inr z) hu⟩
      · rw [List.getElem?_eq_none (by simp; omega)] at ht; cases ht
/-- A fresh row of one. -/
theorem PsV.one {w w1 : World} {base : Nat} {u : Value} {p : Rx} (h : RxIn w (Frm base w) u p) (hw : w1 = w.alloc (.cells #[u] 27)) (hb : base ≤ w.heap.size) : PsV w1 base (.slice (some ⟨w.heap.size, 0, none⟩) 1 1) [p] := by
  have hbl : Below w.heap.size w w1 := by rw [hw]; exact (Below.refl _ _).alloc (Nat.le_refl _) _
  have hs : w1.heap.size = w.heap.size + 1 := by rw [hw]; simp
  refine ⟨[u], Frm base w, ⟨rfl, .inr ⟨w.heap.size, 1, #[u], rfl, hb, by rw [hw]; exact heap_alloc_new w _, Nat.le_refl _, by unfold maxLen; decide, rfl, rfl⟩⟩, fun b hb' => ⟨hb'.1, by have := hb'.2; omega, fun e => by cases e; exact absurd hb'.2 (Nat.lt_irrefl _)⟩, fun i t ht => ?_⟩
  rcases i with _ | i
  · simp at ht
    subst ht
    exact ⟨u, rfl, RxIn.keep (fun b hb' => hbl.block b hb'.2) (fun _ z => z) h⟩
  · simp at ht
/-- The only one. -/
theorem PsV.first {w : World} {base : Nat} {v : Value} {p : Rx} (h : PsV w base v [p]) : ∃ g c u, v = .slice (some ⟨g, 0, none⟩) 1 c ∧ 1 ≤ c ∧ w.cell? ⟨g, 0, none⟩ = some u ∧ RxIn w (Frm base w) u p := by
  obtain ⟨vs, S, h1, h2, h3⟩ := h.ex
  obtain ⟨g, c, e, a, _, _, _, hc⟩ := own_atR h1 (by simp)
  obtain ⟨u, x, y⟩ := h3 0 p rfl
  exact ⟨g, c, u, e, a, hc 0 u x, RxIn.keep (fun _ _ => rfl) (fun b hb => ⟨(h2 b hb).1, (h2 b hb).2.1⟩) y⟩
/-- All of them as the kids of a new pattern. -/
theorem PsV.node {w w1 : World} {base : Nat} {v : Value} {ts : List Rx} {k : Int} (h : PsV w base v ts) (hw : w1 = w.alloc (.cells #[.int .i64 k, .slice none 0 0, .int .i64 0, .int .i64 0, v] 41)) (hb : base ≤ w.heap.size) :
    RxIn w1 (Frm base w1) (.pointer (some ⟨w.heap.size, 0, none⟩)) (.node k [] 0 0 ts) := by
  have hbl : Below w.heap.size w w1 := by rw [hw]; exact (Below.refl _ _).alloc (Nat.le_refl _) _
  have hs : w1.heap.size = w.heap.size + 1 := by rw [hw]; simp
  have hk : Blk w1 w.heap.size 41 [.int .i64 k, .slice none 0 0, .int .i64 0, .int .i64 0, v] := by rw [hw]; exact Blk.new w _ _
  obtain ⟨vs, S, h1, h2, h3⟩ := h.ex
  obtain ⟨A, c, e, x1, x2, _⟩ := own_form h1
  subst e
  refine RxIn.mk_node (A := none) (c := 0) (A' := A) (c' := c) ⟨hb, by omega⟩ (hk.cell rfl) (hk.cell rfl) (hk.cell rfl) (hk.cell rfl) (hk.cell rfl) (Nat.le_refl _) (Nat.zero_le _) x1 x2 (fun q => absurd rfl q) fun h0 => ?_
  obtain ⟨g, cap, e2, _, _, hg, hbg, hc⟩ := own_atR h1 h0
  cases e2
  refine ⟨g, 0, rfl, ⟨hbg, by omega⟩, fun i t ht => ?_⟩
  obtain ⟨u, a, b⟩ := h3 i t ht
  exact ⟨u, by rw [Nat.zero_add]; exact (hbl.cell (p := ⟨g, i, none⟩) hg).trans (hc i u a), RxIn.keep (fun b' hb' => hbl.block b' (h2 b' hb').2.1) (fun b' hb' => ⟨(h2 b' hb').1, by have := (h2 b' hb').2.1; omega⟩) b⟩

set_option maxHeartbeats 4000000 in
theorem several_one (k : Int) (v : Value) (p : Rx) (w : World) (base : Nat) (h : PsV w base v [p]) :
    Calls Tryz.prog 36 #[.int .i64 k, v] w fun e w' => ∃ u, e = .returned u ∧ RxIn w' (Frm base w') u p ∧ Below w.heap.size w w' := by
  obtain ⟨g, c, u, rfl, hc, z0, hu⟩ := h.first
  obtain ⟨up, rfl⟩ := hu.ptr
  have HU := Lib.hid hu
  clear h hu
  go_enter Tryz.func36, Tryz.ntmps36
  go_wp2_with fail
  go_ret
  exact ⟨_, rfl, HU.out, Below.refl _ _⟩
set_option maxHeartbeats 4000000 in
theorem several_more (k : Int) (v : Value) (ts : List Rx) (w : World) (base : Nat) (h : PsV w base v ts) (hl : ts.length ≠ 1) (hb : base ≤ w.heap.size) :
    Calls Tryz.prog 36 #[.int .i64 k, v] w fun e w' => ∃ u, e = .returned u ∧ RxIn w' (Frm base w') u (.node k [] 0 0 ts) ∧ Below w.heap.size w w' := by
  have HN := Lib.hid (h.node (k := k) rfl hb)
  obtain ⟨A, c, rfl, h1, h2⟩ := h.form
  have d0 : ((ts.length : Int) == 1) = false := by rw [beq_eq_false_iff_ne]; omega
  unfold maxLen at h2
  clear h
  go_enter Tryz.func36, Tryz.ntmps36
  go_wp2_with fail
  go_ret
  exact ⟨_, rfl, HN.out, (Below.refl _ _).alloc (Nat.le_refl _) _⟩

/-! ### what a reading function does -/
def fidR : Nat → FuncId
  | 0 => 18
  | 1 => 34
  | 2 => 52
  | 3 => 67
  | _ => 87
/-- What may stand behind. -/
def folR : Nat → Int → Prop
  | 0, c => c = -1 ∨ c = 41
  | 1, c => c = -1 ∨ c = 124 ∨ c = 41
  | 2, c => c = -1 ∨ c = 124 ∨ c = 38 ∨ c = 41
  | 3, c => c ≠ 42 ∧ c ≠ 43 ∧ c ≠ 63 ∧ c ≠ 123
  | _, _ => True
/-- The function of a level reads a text as a pattern. -/
def Rdz (n : Nat) (t : List UInt8) (p : Rx) (d : Nat) : Prop := ∀ (rb i o : Nat) (s : ByteArray) (rest : List UInt8) (w : World), RS w rb s i o (t ++ rest) → folR n (hdI rest) → o + d ≤ 100 →
  Calls Tryz.prog (fidR n) #[rdp rb] w fun e w' => ∃ v, e = .returned v ∧ RS w' rb s (i + t.length) o rest ∧ Kp (· = rb) w w' ∧ RxIn w' (Frm w.heap.size w') v p
end Go.Proofs.YtaachamblagbhaaGreatDoor
namespace Go.Proofs.YtaachamblagbhaaGreatDoor
open Go
set_option linter.unusedVariables false
set_option linter.unusedSimpArgs false

section
variable {P : Program} {ops : Array Oper} {md : Region.Mode} {Q : Exit → Act → World → Prop} {S : World → Prop}
/-- Whatever comes up leaves S. -/
def wpAnyS (P : Program) (md : Region.Mode) (ops : Array Oper) (Q : Exit → Act → World → Prop) (S : World → Prop) : Nat → Array Bool → Act → World → Prop
  | 0, listed, a, w => Region.ready md ops listed = [] ∧ Q .normal a w
  | f + 1, listed, a, w => Region.ready md ops listed ≠ [] ∧ ∀ i ∈ Region.ready md ops listed, wpOp P ops Q i (fun a' w' => S w' ∧ wpAnyS P md ops Q S f (listed.setIfInBounds i true) a' w') a w
theorem wpAny_of_S : ∀ (f : Nat) (listed : Array Bool) (a : Act) (w : World), wpAnyS P md ops Q S f listed a w → wpAny P md ops Q f listed a w
  | 0, listed, a, w, h => h
  | f + 1, listed, a, w, h => ⟨fun h0 => absurd h0 h.1, fun i hi => wpOp_mono (fun a' w' h' => wpAny_of_S f _ a' w' h'.2) (h.2 i hi)⟩
theorem firstS {i : Nat} {oi : Oper} {v : Value} (hi : ops[i]? = some oi) (hsel : ∀ (j : Nat) (o : Oper) cs b, ops[j]? = some o → o.op ≠ .select cs b)
    (hQ : ∀ c a d v w, Q (.panic c) (a.put d v) w → Q (.panic c) a w) :
    ∀ (f : Nat) (listed : Array Bool) (a : Act) (w : World),
      (∀ j oj, ops[j]? = some oj → j ≠ i → listed.getD j true = false → (∀ e ∈ oj.after, Region.binds md e = true → e.on ≠ i) → oi.apart ops oj = true) →
      i ∈ Region.ready md ops listed → YieldsIf P ops S oi v a → S w →
      wpAnyS P md ops Q S f (listed.setIfInBounds i true) (a.put oi.dst v) w → wpAnyS P md ops Q S (f + 1) listed a w := by
  intro f
  induction f with
  | zero =>
    intro listed a w _ hr hy hS H
    refine ⟨fun h => (by rw [h] at hr; cases hr), fun j hj => ?_⟩
    by_cases hji : j = i
    · subst hji; exact hy.wpOp hi hS ⟨hS, H⟩
    · have := ready_mono hj hji
      rw [H.1] at this
      cases this
  | succ f ih =>
    intro listed a w hfree hr hy hS H
    have hun := (mem_ready.1 hr).1
    refine ⟨fun h => (by rw [h] at hr; cases hr), fun j hj => ?_⟩
    by_cases hji : j = i
    · subst hji; exact hy.wpOp hi hS ⟨hS, H⟩
    · obtain ⟨hjun, oj, hoj, hall⟩ := mem_ready.1 hj
      have hno : ∀ e ∈ oj.after, Region.binds md e = true → e.on ≠ i := fun e he hb q => by
        have := hall e he hb
        rw [q, getD_both hun] at this
        cases this
      have h2 := wpOp_putIf hoj (hfree j oj hoj hji hjun hno) (fun cs b => hsel i oi cs b hi) (fun cs b => hsel j oj cs b hoj) (fun c a w q => hQ c a _ _ w q) hy (H.2 j (ready_mono hj hji))
      refine wpOp_mono (fun a' w' h3 => ⟨h3.2.1, ih (listed.setIfInBounds j true) a' w' (fun k ok hk hki hku hkn => hfree k ok hk hki ?_ hkn) (ready_mono hr (Ne.symm hji)) h3.1 h3.2.1 ?_⟩) h2
      · by_cases q : j = k
        · subst q; exact hjun
        · rw [getD_set_ne true q] at hku; exact hku
      · rw [Array.setIfInBounds_comm _ _ hji]; exact h3.2.2
/-- The operations from k on, f of them, only answer values, and may be taken now. -/
def lexS (md : Region.Mode) (ops : Array Oper) : Nat → Nat → Array Bool → Bool
  | 0, _, _ => true
  | f + 1, k, listed => (Region.ready md ops listed).contains k && Region.free md ops listed k && lexS md ops f (k + 1) (listed.setIfInBounds k true)
def setsB : Nat → Nat → Array Bool → Array Bool
  | 0, _, listed => listed
  | f + 1, k, listed => setsB f (k + 1) (listed.setIfInBounds k true)
theorem batchS {K : Act → Prop} {w : World} {g : Nat} (hsel : Region.noSelect ops = true) (hQ : ∀ c a d v w, Q (.panic c) (a.put d v) w → Q (.panic c) a w) (hS : S w) :
    ∀ (l : List Oper) (k : Nat) (listed : Array Bool) (a : Act), (∀ j, j < l.length → l[j]? = ops[k + j]?) → lexS md ops l.length k listed = true → l.all readB = true →
    (∀ a', K a' → wpAnyS P md ops Q S g (setsB l.length k listed) a' w) → wpQuiet P ops S K l a → wpAnyS P md ops Q S (g + l.length) listed a w
  | [], k, listed, a, _, _, _, hK, h => hK a h
  | o :: l, k, listed, a, hl, hB, hR, hK, h => by
    have h0 : ops[k]? = some o := by simpa using (hl 0 (by simp)).symm
    simp only [List.length_cons, lexS, Bool.and_eq_true] at hB
    simp only [List.all_cons, Bool.and_eq_true] at hR
    obtain ⟨⟨hr, hf⟩, hB2⟩ := hB
    have hr2 : k ∈ Region.ready md ops listed := by simpa using hr
    have key : ∀ (v : Value), YieldsIf P ops S o v a → wpQuiet P ops S K l (a.put o.dst v) → wpAnyS P md ops Q S (g + (l.length + 1)) listed a w := fun v hy h2 =>
      firstS h0 (Region.noSelect_spec hsel) hQ (g + l.length) listed a w (Region.free_spec h0 hf) hr2 hy hS
        (batchS hsel hQ hS l (k + 1) _ _ (fun j hj => by have := hl (j + 1) (by simp; omega); simpa [Nat.add_assoc, Nat.add_comm 1 j] using this) hB2 hR.2 hK h2)
    unfold wpQuiet at h
    split at h
    · rename_i hw
      obtain ⟨v, h1, h2⟩ := h
      exact key v (yieldsIf_of_quiet hR.1 hw h1) h2
    · rename_i hw
      exact key undef (.inr ⟨by simpa using hw, rfl⟩) h
/-- The region. -/
theorem wp_region_S {id : Nat} {a : Act} {w : World} {l : List Oper} (S : World → Prop) (hm : P.follows .mixedOrders = true) (h : wpAnyS P .any l.toArray Q S l.toArray.size (Array.replicate l.toArray.size false) a w.drew) : (Code.region id l.toArray true).wp P Q a w :=
  wp_region_any hm (wpAny_of_S _ _ _ _ h)
/-- The operations from k on, n of them, that only answer values. -/
theorem takeS {w : World} {l : List Oper} {a : Act} {listed : Array Bool} (g k n : Nat) (hB : (Region.noSelect l.toArray && lexS md l.toArray n k listed && decide (k + n ≤ l.length)) = true) (hR : ((l.drop k).take n).all readB = true)
    (hQ : ∀ c a d v w, Q (.panic c) (a.put d v) w → Q (.panic c) a w) (hS : S w) (h : wpQuiet P l.toArray S (fun a' => wpAnyS P md l.toArray Q S g (setsB n k listed) a' w) ((l.drop k).take n) a) : wpAnyS P md l.toArray Q S (g + n) listed a w := by
  simp only [Bool.and_eq_true, decide_eq_true_eq] at hB
  obtain ⟨⟨hsel, hlex⟩, hkn⟩ := hB
  have hlen : ((l.drop k).take n).length = n := by simp; omega
  have := batchS (md := md) (g := g) hsel hQ hS ((l.drop k).take n) k listed a (fun j hj => by
    rw [hlen] at hj
    simp [List.getElem?_take, hj]) (by rw [hlen]; exact hlex) hR (fun a' ha => by rw [hlen]; exact ha) h
  rwa [hlen] at this
/-- One operation alone may come. -/
theorem oneS {w : World} {l : List Oper} {a : Act} {listed : Array Bool} (f i : Nat) (hB : decide (Region.ready md l.toArray listed = [i]) = true) (hi : i < l.length)
    (h : wpList P l.toArray (Exit.then (fun a' w' => S w' ∧ wpAnyS P md l.toArray Q S f (listed.setIfInBounds i true) a' w') Q) ((l.drop i).take 1) a w) : wpAnyS P md l.toArray Q S (f + 1) listed a w := by
  have hr := of_decide_eq_true hB
  refine ⟨by rw [hr]; simp, fun j hj => ?_⟩
  rw [hr, List.mem_singleton] at hj
  subst hj
  have hop : l.toArray[j]? = some (l[j]'hi) := by simp
  refine wpOp_of_list hop ?_
  have h1 : (l.drop j).take 1 = [l[j]'hi] := by rw [List.drop_eq_getElem_cons hi]; rfl
  rw [← h1]
  exact h
/-- One of two may come. -/
theorem twoS {w : World} {l : List Oper} {a : Act} {listed : Array Bool} (f i j : Nat) (hB : decide (Region.ready md l.toArray listed = [i, j]) = true) (hi : i < l.length) (hj : j < l.length)
    (h : wpList P l.toArray (Exit.then (fun a' w' => S w' ∧ wpAnyS P md l.toArray Q S f (listed.setIfInBounds i true) a' w') Q) ((l.drop i).take 1) a w)
    (h' : wpList P l.toArray (Exit.then (fun a' w' => S w' ∧ wpAnyS P md l.toArray Q S f (listed.setIfInBounds j true) a' w') Q) ((l.drop j).take 1) a w) : wpAnyS P md l.toArray Q S (f + 1) listed a w := by
  have hr := of_decide_eq_true hB
  refine ⟨by rw [hr]; simp, fun k hk => ?_⟩
  rw [hr] at hk
  simp only [List.mem_cons, List.not_mem_nil, or_false] at hk
  rcases hk with rfl | rfl
  · have hop : l.toArray[k]? = some (l[k]'hi) := by simp
    refine wpOp_of_list hop ?_
    have h1 : (l.drop k).take 1 = [l[k]'hi] := by rw [List.drop_eq_getElem_cons hi]; rfl
    rw [← h1]
    exact h
  · have hop : l.toArray[k]? = some (l[k]'hj) := by simp
    refine wpOp_of_list hop ?_
    have h1 : (l.drop k).take 1 = [l[k]'hj] := by rw [List.drop_eq_getElem_cons hj]; rfl
    rw [← h1]
    exact h'
/-- None is left. -/
theorem endS {w : World} {a : Act} {listed : Array Bool} (hB : decide (Region.ready md ops listed = []) = true) (h : Q .normal a w) : wpAnyS P md ops Q S 0 listed a w := ⟨of_decide_eq_true hB, h⟩
end
end Go.Proofs.YtaachamblagbhaaGreatDoor
