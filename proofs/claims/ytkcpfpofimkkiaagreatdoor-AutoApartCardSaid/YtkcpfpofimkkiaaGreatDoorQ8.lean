/- Ranges in memory. · The document's sets: Has, wanted, SameSet, insert, edges, grow. · The document's sets: ends, edges, grow. -/
import Derived.Test.YtkcpfpofimkkiaaGreatDoorQ5
import Derived.Test.YtkcpfpofimkkiaaGreatDoorQ7
import Derived.Test.YtkcpfpofimkkiaaGreatDoorQ1
import Derived.Test.YtkcpfpofimkkiaaGreatDoorProg
import Derived.WalkSpells
import Derived.WalkLawsBesides
import Derived.Handy
import Derived.BigRegion
import Derived.Deep.QuietTactic
import Derived.BigQuiet
namespace Go.Proofs.YtkcpfpofimkkiaaGreatDoor
open Go.RowKit BigFrame
set_option linter.unusedVariables false
set_option linter.unusedSimpArgs false
set_option maxRecDepth 100000

theorem elRg : ElTy Tryz.prog 36 62 2 16 (.agg #[.int .i64 0, .int .i64 0]) := ⟨Tryz.underlying36, by kernel_rfl, rfl, by decide⟩
theorem elIn : ElTy Tryz.prog 37 3 1 8 (.int .i64 0) := ⟨Tryz.underlying37, by kernel_rfl, rfl, by decide⟩
/-- Ranges as cells. -/
def rv (l : List Rg) : List Value := l.flatMap fun r => [.int .i64 r.1, .int .i64 r.2]
theorem rv_len (l : List Rg) : (rv l).length = l.length * 2 := by
  induction l with
  | nil => rfl
  | cons r l ih => unfold rv at *; rw [List.flatMap_cons, List.length_append, ih, List.length_cons]; simp; omega
theorem rv_append (l m : List Rg) : rv (l ++ m) = rv l ++ rv m := by unfold rv; rw [List.flatMap_append]
theorem rv_one (l : List Rg) : ∀ u ∈ rv l, u.oneCell' = true := by
  intro u hu
  unfold rv at hu
  rw [List.mem_flatMap] at hu
  obtain ⟨r, _, h⟩ := hu
  simp at h
  rcases h with rfl | rfl <;> rfl
def nthR (l : List Rg) (k : Nat) : Rg := l.getD k (0, 0)
theorem nthR_get {l : List Rg} {k : Nat} (h : k < l.length) : nthR l k = l[k] := by simp [nthR, h]
theorem rv_get : ∀ {l : List Rg} {k : Nat}, k < l.length → (rv l)[k * 2]? = some (.int .i64 (nthR l k).1) ∧ (rv l)[k * 2 + 1]? = some (.int .i64 (nthR l k).2)
  | [], k, h => by simp at h
  | r :: l, 0, _ => ⟨rfl, rfl⟩
  | r :: l, k + 1, h => by
    obtain ⟨a, b⟩ := rv_get (l := l) (k := k) (by simpa using h)
    have e : rv (r :: l) = .int .i64 r.1 :: .int .i64 r.2 :: rv l := rfl
    rw [e, show (k + 1) * 2 = k * 2 + 1 + 1 by omega, show k * 2 + 1 + 1 + 1 = (k * 2 + 1) + 1 + 1 from rfl]
    simp only [List.getElem?_cons_succ]
    exact ⟨by rw [a]; rfl, by rw [b]; rfl⟩
theorem rv_set_hi : ∀ {l : List Rg} {k : Nat} {x : Int}, k < l.length → (rv l).set (k * 2 + 1) (.int .i64 x) = rv (l.set k ((nthR l k).1, x))
  | [], k, x, h => by simp at h
  | r :: l, 0, x, _ => rfl
  | r :: l, k + 1, x, h => by
    have ih := rv_set_hi (l := l) (k := k) (x := x) (by simpa using h)
    have e : rv (r :: l) = .int .i64 r.1 :: .int .i64 r.2 :: rv l := rfl
    rw [e, show (k + 1) * 2 + 1 = k * 2 + 1 + 1 + 1 by omega]
    simp only [List.set_cons_succ]
    rw [ih]; rfl
/-- A slice of ranges. -/
def RdG (w : World) (B : Nat) (A : Option Addr) (l : List Rg) : Prop := Rd w B A (rv l)
theorem RdG.at_ {w : World} {B : Nat} {A : Option Addr} {l : List Rg} (h : RdG w B A l) (hn : 0 < l.length) :
    ∃ b off, A = some ⟨b, off, none⟩ ∧ b < B ∧ ∀ k, k < l.length → w.cell? ⟨b, off + k * 2, none⟩ = some (.int .i64 (nthR l k).1) ∧ w.cell? ⟨b, off + k * 2 + 1, none⟩ = some (.int .i64 (nthR l k).2) := by
  obtain ⟨b, off, e, hb, hc⟩ := h (by intro e; have := rv_len l; rw [e] at this; simp at this; omega)
  refine ⟨b, off, e, hb, fun k hk => ?_⟩
  obtain ⟨h1, h2⟩ := rv_get hk
  exact ⟨hc _ _ h1, by rw [Nat.add_assoc]; exact hc _ _ h2⟩
theorem RdG.below {w w' : World} {B : Nat} {A : Option Addr} {l : List Rg} (h : RdG w B A l) (hb : Below B w w') : RdG w' B A l := Rd.below h hb
theorem RdG.more {w : World} {B B' : Nat} {A : Option Addr} {l : List Rg} (h : RdG w B A l) (hB : B ≤ B') : RdG w B' A l := Rd.more h hB
/-- A row of the call's own: ranges. -/
def OwG (w : World) (base : Nat) (v : Value) (l : List Rg) : Prop := w.ownsRow base 62 2 v l.length (rv l)
theorem OwG.nil (w : World) (base : Nat) : OwG w base (.slice none 0 0) [] := World.ownsRow_nil _ _ _ _
theorem OwG.form {w : World} {base : Nat} {v : Value} {l : List Rg} (h : OwG w base v l) : ∃ A c, v = .slice A l.length c ∧ l.length ≤ c ∧ c ≤ maxLen ∧ RdG w w.heap.size A l := own_form h
theorem OwG.ext {w w' : World} {base : Nat} {v : Value} {l : List Rg} (h : OwG w base v l) (hb : Below w.heap.size w w') : OwG w' base v l := own_ext h hb
/-- Its block. -/
theorem OwG.blk {w : World} {base : Nat} {v : Value} {l : List Rg} (h : OwG w base v l) (hl : 0 < l.length) : ∃ g cap, v = .slice (some ⟨g, 0, none⟩) l.length cap ∧ v.ownBlock = some g ∧ base ≤ g ∧ g < w.heap.size ∧ (∀ i, w.frozen? ⟨g, i, none⟩ = false) ∧
    (∀ k, k < l.length → w.cell? ⟨g, k * 2, none⟩ = some (.int .i64 (nthR l k).1) ∧ w.cell? ⟨g, k * 2 + 1, none⟩ = some (.int .i64 (nthR l k).2)) ∧
    ∀ k x, k < l.length → OwG (w.setCell ⟨g, k * 2 + 1, none⟩ (.int .i64 x)) base v (l.set k ((nthR l k).1, x)) := by
  rcases h.2 with ⟨_, h0⟩ | ⟨g, cap, cur, rfl, hb, hg, hn, hc, hs, ht⟩
  · omega
  · have hlen := rv_len l
    refine ⟨g, cap, rfl, rfl, hb, (Array.getElem?_eq_some_iff.1 hg).1, fun i => by simp [World.frozen?, hg], fun k hk => ?_, fun k x hk => ⟨by rw [rv_len], .inr ⟨g, cap, cur.set! (k * 2 + 1) (.int .i64 x), by rw [List.length_set], hb, ?_, by rw [List.length_set]; exact hn, hc, by simp [hs], ?_⟩⟩⟩
    · obtain ⟨r1, r2⟩ := rv_get hk
      rw [← ht] at r1 r2
      rw [List.getElem?_take] at r1 r2
      have q1 : cur.toList[k * 2]? = some (.int .i64 (nthR l k).1) := by
        split at r1
        · exact r1
        · cases r1
      have q2 : cur.toList[k * 2 + 1]? = some (.int .i64 (nthR l k).2) := by
        split at r2
        · exact r2
        · cases r2
      rw [cell_of_row w g (k * 2) cur 62 (0, 0) hg, cell_of_row w g (k * 2 + 1) cur 62 (0, 0) hg]
      exact ⟨by simpa using q1, by simpa using q2⟩
    · simp [World.setCell, Array.getElem?_modify, hg]
    · rw [List.length_set, Array.set!, Array.toList_setIfInBounds, List.take_set, ht]
      exact rv_set_hi hk
end Go.Proofs.YtkcpfpofimkkiaaGreatDoor
namespace Go.Proofs.YtkcpfpofimkkiaaGreatDoor
open Go.RowKit BigFrame
set_option linter.unusedVariables false
set_option linter.unusedSimpArgs false
set_option maxRecDepth 100000

theorem any_takeR {f : Rg → Bool} {l : List Rg} {k : Nat} (h : k < l.length) (ha : (l.take k).any f = false) (hf : f (nthR l k) = false) : (l.take (k + 1)).any f = false := by
  rw [List.take_succ_eq_append_getElem h, List.any_append, ha, ← nthR_get h]; simp [hf]
theorem mem_nthR {l : List Rg} {k : Nat} (h : k < l.length) : nthR l k ∈ l := by rw [nthR_get h]; exact List.getElem_mem h
theorem any_yesR {f : Rg → Bool} {l : List Rg} {k : Nat} (h : k < l.length) (hf : f (nthR l k) = true) : l.any f = true := by
  rw [List.any_eq_true]; exact ⟨nthR l k, mem_nthR h, hf⟩

set_option maxHeartbeats 1000000 in
theorem rHas_any (A : Option Addr) (n c : Nat) (l : List Rg) (p : Int) (w : World) (B : Nat) (hr : RdG w B A l) (hl : l.length = n) (hn : n ≤ 100000) :
    Calls Tryz.prog 66 #[.slice A n c, .int .i64 p] w fun e w' => e = .returned (.bool (inR l p)) ∧ w = w' := by
  have HR := Lib.hid hr; have HL := Lib.hid hl
  clear hr hl
  by_cases h0 : p < 0
  · have e : inR l p = false := by unfold inR isPt; simp; omega
    rw [e]
    have d0 : decide (p < 0) = true := decide_eq_true h0
    clear e
    go_enter Tryz.func66, Tryz.ntmps66
    go_wp2
    go_ret
    exact ⟨rfl, rfl⟩
  · have d0 : decide (p < 0) = false := decide_eq_false h0
    by_cases h1 : 1114111 < p
    · have e : inR l p = false := by unfold inR isPt MP; simp; omega
      rw [e]
      have d1 : decide (1114111 < p) = true := decide_eq_true h1
      clear e
      go_enter Tryz.func66, Tryz.ntmps66
      go_wp2
      go_ret
      exact ⟨rfl, rfl⟩
    · have d1 : decide (1114111 < p) = false := decide_eq_false h1
      have e : inR l p = l.any (fun r => decide (r.1 ≤ p) && decide (p ≤ r.2)) := by
        unfold inR isPt MP
        rw [decide_eq_true (by omega : 0 ≤ p), decide_eq_true (by omega : p ≤ 1114111)]
        rfl
      have HE := Lib.hid e
      clear e
      go_enter Tryz.func66, Tryz.ntmps66
      go_wp2
      go_loop [5] (fun i => ∃ k : Nat, k ≤ n ∧ i = .int .i64 k ∧ Hid ((l.take k).any (fun r => decide (r.1 ≤ p) && decide (p ≤ r.2)) = false)) (fun i => n - (intOf i).toNat)
      case atStart => exact ⟨0, Nat.zero_le _, rfl, rfl⟩
      case round =>
        obtain ⟨k, hk, rfl, HT⟩ := hrel
        by_cases hlt : k < n
        · obtain ⟨b, off, rfl, hb, hc⟩ := HR.out.at_ (by rw [HL.out]; omega)
          obtain ⟨c1, c2⟩ := hc k (by rw [HL.out]; exact hlt)
          have hy := any_yesR (f := fun r => decide (r.1 ≤ p) && decide (p ≤ r.2)) (l := l) (k := k) (by rw [HL.out]; exact hlt)
          have ht := any_takeR (f := fun r => decide (r.1 ≤ p) && decide (p ≤ r.2)) (l := l) (k := k) (by rw [HL.out]; exact hlt) HT.out
          clear hc
          generalize nthR l k = r at *
          obtain ⟨lo, hi⟩ := r
          simp only at c1 c2 hy ht
          by_cases h2 : lo ≤ p
          · have d2 : decide (lo ≤ p) = true := decide_eq_true h2
            by_cases h3 : p ≤ hi
            · have d3 : decide (p ≤ hi) = true := decide_eq_true h3
              have HY := Lib.hid (hy (by rw [d2, d3]; rfl))
              clear hy ht
              go_wp2
              go_ret
              exact ⟨ret_eq (by rw [HE.out, HY.out]; rfl), rfl⟩
            · have d3 : decide (p ≤ hi) = false := decide_eq_false h3
              have HT2 := Lib.hid (ht (by rw [d3]; simp))
              clear hy ht
              go_wp2
              go_round
              case rel => exact ⟨k + 1, by omega, by go_num, HT2⟩
              case measure => simp [intOf]; omega
          · have d2 : decide (lo ≤ p) = false := decide_eq_false h2
            have HT2 := Lib.hid (ht (by rw [d2]; rfl))
            clear hy ht
            go_wp2
            go_round
            case rel => exact ⟨k + 1, by omega, by go_num, HT2⟩
            case measure => simp [intOf]; omega
        · have hx := HT.out
          rw [List.take_of_length_le (by rw [HL.out]; omega)] at hx
          have HX := Lib.hid hx
          clear hx
          go_wp2
          go_ret
          exact ⟨ret_eq (by rw [HE.out, HX.out]; rfl), rfl⟩

/-- A number put into a list of numbers. -/
theorem insert_any (b off n c : Nat) (l : List Int) (x : Int) (w : World) (hr : RdI w w.heap.size (some ⟨b, off, none⟩) l) (hl : l.length = n) (h0 : 0 < n) (hn : n ≤ 100000) (hc : n ≤ c) (hcm : c ≤ maxLen) :
    Calls Tryz.prog 87 #[.slice (some ⟨b, off, none⟩) n c, .int .i64 x] w fun e w' => ∃ b' off' c', e = .returned (.slice (some ⟨b', off', none⟩) (ins x l).length c') ∧ (ins x l).length ≤ c' ∧ c' ≤ maxLen ∧ RdI w' w'.heap.size (some ⟨b', off', none⟩) (ins x l) ∧ Below w.heap.size w w' := by
  obtain ⟨b2, off2, e2, hb, hcs⟩ := hr.at_ (by omega)
  cases e2
  have HR := Lib.hid hr; have HL := Lib.hid hl; have HCS := Lib.hid hcs
  clear hr hl hcs
  unfold maxLen at hcm
  go_enter Tryz.func87, Tryz.ntmps87
  go_wp2
  go_loop [5] (fun i => ∃ k : Nat, k ≤ n ∧ i = .int .i64 k ∧ Hid (∀ j, j < k → nth l j < x)) (fun i => n - (intOf i).toNat)
  case atStart => exact ⟨0, Nat.zero_le _, rfl, fun j hj => by omega⟩
  case round =>
    obtain ⟨k, hk, rfl, HT⟩ := hrel
    have hat := ins_at (n := x) (l := l) (k := k) (by rw [HL.out]; exact hk) (fun j hj h => by rw [← nth_get h]; exact HT.out j hj)
    have hstop : k = n ∨ (k < n ∧ ∃ y, y = nth l k ∧ ¬ y < x ∧ y ≠ x) → ins x l = l.take k ++ x :: l.drop k := fun q => by
      rcases q with q | ⟨q1, y, rfl, q2, q3⟩
      · have h1 := hat (fun h => by rw [HL.out] at h; omega)
        rw [List.getElem?_eq_none (by rw [HL.out]; omega)] at h1
        exact h1
      · have hk2 : k < l.length := by rw [HL.out]; exact q1
        have h1 := hat (fun h => by rw [← nth_get h]; exact q2)
        rw [List.getElem?_eq_getElem hk2, ← nth_get hk2, if_neg (fun q => q3 (by simpa using q))] at h1
        exact h1
    have hfound : k < n → nth l k = x → ins x l = l := fun q1 q2 => by
      have hk2 : k < l.length := by rw [HL.out]; exact q1
      have h1 := hat (fun h => by rw [← nth_get h]; omega)
      rw [List.getElem?_eq_getElem hk2, ← nth_get hk2, if_pos (by rw [q2])] at h1
      exact h1
    have HSTOP := Lib.hid hstop; have HFOUND := Lib.hid hfound
    clear hat hstop hfound
    have HTK := Lib.hid (show Rd w w.heap.size (some ⟨b, off, none⟩) (iv (l.take k)) from fun hne => ⟨b, off, rfl, hb, fun j u hu => by
      have hj : j < (l.take k).length := by have := (List.getElem?_eq_some_iff.1 hu).1; rwa [iv_len] at this
      rw [iv_get hj] at hu
      cases hu
      have hjl : j < l.length := by rw [List.length_take] at hj; omega
      have : nth (l.take k) j = nth l j := by rw [nth_get hj, nth_get hjl, List.getElem_take]
      rw [this]; exact HCS.out j hjl⟩)
    have HDR := Lib.hid (show ∀ o, (k < n → o = off + k) → Rd w w.heap.size (some ⟨b, o, none⟩) (iv (l.drop k)) from fun o ho hne => by
      have hkn : k < n := by
        apply Classical.byContradiction
        intro q
        rw [List.drop_eq_nil_of_le (by rw [HL.out]; omega)] at hne
        exact hne rfl
      obtain rfl := ho hkn
      refine ⟨b, off + k, rfl, hb, fun j u hu => ?_⟩
      have hj : j < (l.drop k).length := by have := (List.getElem?_eq_some_iff.1 hu).1; rwa [iv_len] at this
      rw [iv_get hj] at hu
      cases hu
      have hjl : k + j < l.length := by rw [List.length_drop] at hj; omega
      have : nth (l.drop k) j = nth l (k + j) := by rw [nth_get hj, nth_get hjl, List.getElem_drop]
      rw [this, Nat.add_assoc]; exact HCS.out (k + j) hjl)
    have HN1 := Lib.hid (show (iv (l.take k)).length = k * 1 by rw [iv_len, List.length_take, HL.out]; omega)
    have HN2 := Lib.hid (show (iv (l.drop k)).length = (n - k) * 1 by rw [iv_len, List.length_drop, HL.out]; omega)
    have HO1 := Lib.hid (iv_one (l.take k)); have HO2 := Lib.hid (iv_one (l.drop k))
    have hown0 := Lib.hid (World.ownsRow_nil w w.heap.size 3 1)
    have hap : ∀ (v : Value) (wq : World) (nn : Nat), wq.ownsRow w.heap.size 3 1 v nn (iv (l.take k) ++ [Value.int .i64 x] ++ iv (l.drop k)) → ins x l = l.take k ++ x :: l.drop k → Below w.heap.size w wq →
        ∃ b' off' c', v = .slice (some ⟨b', off', none⟩) (ins x l).length c' ∧ (ins x l).length ≤ c' ∧ c' ≤ maxLen ∧ RdI wq wq.heap.size (some ⟨b', off', none⟩) (ins x l) := fun v wq nn ho hi hbq => by
      have e1 : iv (l.take k) ++ [Value.int .i64 x] ++ iv (l.drop k) = iv (ins x l) := by rw [hi]; unfold iv; simp
      rw [e1] at ho
      have hlen : nn = (ins x l).length := by have := ho.1; rw [iv_len] at this; omega
      have hpos : 0 < (ins x l).length := by rw [hi]; simp; omega
      obtain ⟨A, cc, e2, q1, q2, q3⟩ := own_form ho
      rcases ho.2 with ⟨rfl, q⟩ | ⟨g, cap, cur, e3, _⟩
      · omega
      · rw [e3] at e2
        simp only [Value.slice.injEq] at e2
        obtain ⟨rfl, _, rfl⟩ := e2
        exact ⟨g, 0, cap, by rw [e3, hlen], by omega, q2, q3⟩
    have HAP := Lib.hid hap
    clear hap
    by_cases hlt : k < n
    · have c1 := HCS.out k (by rw [HL.out]; exact hlt)
      obtain ⟨y, hy⟩ : ∃ y, y = nth l k := ⟨_, rfl⟩
      rw [← hy] at c1
      have HY := Lib.hid hy
      clear hy
      by_cases hyx : y < x
      · have d1 : decide (y < x) = true := decide_eq_true hyx
        have HT2 : Hid (∀ j, j < k + 1 → nth l j < x) := Lib.hid (fun j hj => by
          by_cases e : j = k
          · subst e; rw [← HY.out]; exact hyx
          · exact HT.out j (by omega))
        go_wp2
        go_round
        case rel => exact ⟨k + 1, by omega, by go_num, HT2⟩
        case measure => simp [intOf]; omega
      · have d1 : decide (y < x) = false := decide_eq_false hyx
        by_cases he : y = x
        · have d2 : (y == x) = true := by simpa using he
          have HI := Lib.hid (HFOUND.out hlt (by rw [← HY.out]; exact he))
          clear he
          go_wp2
          go_ret
          refine ⟨b, off, c, ?_, by rw [HI.out, HL.out]; exact hc, by unfold maxLen; omega, by rw [HI.out]; exact HR.out, Below.refl _ _⟩
          rw [HI.out, HL.out]; rfl
        · have d2 : (y == x) = false := by simpa using he
          have HI := Lib.hid (HSTOP.out (.inr ⟨hlt, y, HY.out, hyx, he⟩))
          clear he
          have hrd1 : Rd w w.heap.size (some ⟨b, off, none⟩) (iv (l.take k)) := HTK.out
          have hrd3 := HDR.out (off + k) (fun _ => rfl)
          have HRD3 := Lib.hid hrd3
          clear hrd1 hrd3
          go_wp2_with (first
            | (at_builtin; refine wpList_app_rd elIn rfl (.tmp 34) (.tmp 37) rfl w.heap.size _ 0 k c w.heap.size (some ⟨b, off, none⟩) [] (iv (l.take k)) rfl hown0.out rfl HN1.out HTK.out HO1.out (by omega) (by omega) (Nat.le_refl _) ?_; intro v1 w1 hown1 hg1 hat1; have hb1 := (Below.refl w.heap.size w).grown hg1 (Nat.le_refl _) (fun k e => (by cases e)); simp only [Nat.zero_add, List.nil_append] at hown1; have HW1 := Lib.hid hown1; have HB1 := Lib.hid hb1; have HS1 := Lib.hid hb1.size; clear hown1 hg1 hat1 hb1)
            | (at_builtin; refine wpList_app elIn rfl (.tmp 39) (.tmp 41) rfl w.heap.size _ k 1 (iv (l.take k)) [.int .i64 x] rfl HW1.out rfl rfl (by simp [Value.oneCell']) (by omega) (by omega) HS1.out ?_; intro v2 w2 hown2 hg2 hat2; have hb2 := HB1.out.grown hg2 HS1.out (fun k e => own_base HW1.out k e); have HW2 := Lib.hid hown2; have HB2 := Lib.hid hb2; have HS2 := Lib.hid hb2.size; clear hown2 hg2 hat2 hb2)
            | (at_builtin; refine wpList_app_rd elIn rfl (.tmp 43) (.tmp 46) rfl w.heap.size _ (k + 1) (n - k) (c - k) w.heap.size (some ⟨b, off + k, none⟩) _ (iv (l.drop k)) rfl HW2.out rfl (by have := HN2.out; rw [this]; try omega) (Rd.below HRD3.out HB2.out) HO2.out (by omega) (by omega) HS2.out ?_; intro v3 w3 hown3 hg3 hat3; have hb3 := HB2.out.grown hg3 HS2.out (fun k e => own_base HW2.out k e); have HW3 := Lib.hid hown3; have HB3 := Lib.hid hb3; clear hown3 hg3 hat3 hb3))
          go_ret
          obtain ⟨b', off', c', e3, q1, q2, q3⟩ := HAP.out _ _ _ HW3.out HI.out HB3.out
          exact ⟨b', off', c', ret_eq e3, q1, q2, q3, HB3.out⟩
    · have hkn : k = n := by omega
      have HI := Lib.hid (HSTOP.out (.inl hkn))
      subst hkn
      by_cases hcap : c = k
      · subst hcap
        have hrd1 : Rd w w.heap.size (some ⟨b, off, none⟩) (iv (l.take c)) := HTK.out
        have hrd3 := HDR.out (off) (fun _ => by omega)
        have HRD3 := Lib.hid hrd3
        clear hrd1 hrd3
        go_wp2_with (first
          | (at_builtin; refine wpList_app_rd elIn rfl (.tmp 34) (.tmp 37) rfl w.heap.size _ 0 c c w.heap.size (some ⟨b, off, none⟩) [] (iv (l.take c)) rfl hown0.out rfl HN1.out HTK.out HO1.out (by omega) (by omega) (Nat.le_refl _) ?_; intro v1 w1 hown1 hg1 hat1; have hb1 := (Below.refl w.heap.size w).grown hg1 (Nat.le_refl _) (fun k e => (by cases e)); simp only [Nat.zero_add, List.nil_append] at hown1; have HW1 := Lib.hid hown1; have HB1 := Lib.hid hb1; have HS1 := Lib.hid hb1.size; clear hown1 hg1 hat1 hb1)
          | (at_builtin; refine wpList_app elIn rfl (.tmp 39) (.tmp 41) rfl w.heap.size _ c 1 (iv (l.take c)) [.int .i64 x] rfl HW1.out rfl rfl (by simp [Value.oneCell']) (by omega) (by omega) HS1.out ?_; intro v2 w2 hown2 hg2 hat2; have hb2 := HB1.out.grown hg2 HS1.out (fun k e => own_base HW1.out k e); have HW2 := Lib.hid hown2; have HB2 := Lib.hid hb2; have HS2 := Lib.hid hb2.size; clear hown2 hg2 hat2 hb2)
          | (at_builtin; refine wpList_app_rd elIn rfl (.tmp 43) (.tmp 46) rfl w.heap.size _ (c + 1) (0) (0) w.heap.size (some ⟨b, off, none⟩) _ (iv (l.drop c)) rfl HW2.out rfl (by have := HN2.out; rw [this]; try omega) (Rd.below HRD3.out HB2.out) HO2.out (by omega) (by omega) HS2.out ?_; intro v3 w3 hown3 hg3 hat3; have hb3 := HB2.out.grown hg3 HS2.out (fun k e => own_base HW2.out k e); have HW3 := Lib.hid hown3; have HB3 := Lib.hid hb3; clear hown3 hg3 hat3 hb3))
        go_ret
        obtain ⟨b', off', c', e3, q1, q2, q3⟩ := HAP.out _ _ _ HW3.out HI.out HB3.out
        exact ⟨b', off', c', ret_eq e3, q1, q2, q3, HB3.out⟩
      ·
        have hrd1 : Rd w w.heap.size (some ⟨b, off, none⟩) (iv (l.take k)) := HTK.out
        have hrd3 := HDR.out (off + k) (fun _ => rfl)
        have HRD3 := Lib.hid hrd3
        clear hrd1 hrd3
        go_wp2_with (first
          | (at_builtin; refine wpList_app_rd elIn rfl (.tmp 34) (.tmp 37) rfl w.heap.size _ 0 k c w.heap.size (some ⟨b, off, none⟩) [] (iv (l.take k)) rfl hown0.out rfl HN1.out HTK.out HO1.out (by omega) (by omega) (Nat.le_refl _) ?_; intro v1 w1 hown1 hg1 hat1; have hb1 := (Below.refl w.heap.size w).grown hg1 (Nat.le_refl _) (fun k e => (by cases e)); simp only [Nat.zero_add, List.nil_append] at hown1; have HW1 := Lib.hid hown1; have HB1 := Lib.hid hb1; have HS1 := Lib.hid hb1.size; clear hown1 hg1 hat1 hb1)
          | (at_builtin; refine wpList_app elIn rfl (.tmp 39) (.tmp 41) rfl w.heap.size _ k 1 (iv (l.take k)) [.int .i64 x] rfl HW1.out rfl rfl (by simp [Value.oneCell']) (by omega) (by omega) HS1.out ?_; intro v2 w2 hown2 hg2 hat2; have hb2 := HB1.out.grown hg2 HS1.out (fun k e => own_base HW1.out k e); have HW2 := Lib.hid hown2; have HB2 := Lib.hid hb2; have HS2 := Lib.hid hb2.size; clear hown2 hg2 hat2 hb2)
          | (at_builtin; refine wpList_app_rd elIn rfl (.tmp 43) (.tmp 46) rfl w.heap.size _ (k + 1) (0) (c - k) w.heap.size (some ⟨b, off + k, none⟩) _ (iv (l.drop k)) rfl HW2.out rfl (by have := HN2.out; rw [this]; try omega) (Rd.below HRD3.out HB2.out) HO2.out (by omega) (by omega) HS2.out ?_; intro v3 w3 hown3 hg3 hat3; have hb3 := HB2.out.grown hg3 HS2.out (fun k e => own_base HW2.out k e); have HW3 := Lib.hid hown3; have HB3 := Lib.hid hb3; clear hown3 hg3 hat3 hb3))
        go_ret
        obtain ⟨b', off', c', e3, q1, q2, q3⟩ := HAP.out _ _ _ HW3.out HI.out HB3.out
        exact ⟨b', off', c', ret_eq e3, q1, q2, q3, HB3.out⟩
end Go.Proofs.YtkcpfpofimkkiaaGreatDoor
namespace Go.Proofs.YtkcpfpofimkkiaaGreatDoor
open Go.RowKit BigFrame
set_option linter.unusedVariables false
set_option linter.unusedSimpArgs false
set_option maxRecDepth 100000

theorem ins_len {n : Int} : ∀ {l : List Int}, l.length ≤ (ins n l).length ∧ (ins n l).length ≤ l.length + 1
  | [] => by simp [ins]
  | x :: l => by
    have := ins_len (n := n) (l := l)
    unfold ins
    split
    · simp; omega
    · split <;> simp
theorem edgR_len {e : List Int} {r : Rg} : e.length ≤ (edgR e r).length ∧ (edgR e r).length ≤ e.length + 2 := by
  unfold edgR
  simp only
  have h1 := ins_len (n := r.1) (l := e)
  split <;> split
  · have := ins_len (n := r.2 + 1) (l := ins r.1 e); omega
  · have := ins_len (n := r.2 + 1) (l := e); omega
  · omega
  · omega
theorem edg_len : ∀ {s : List Rg} {e : List Int}, e.length ≤ (edg e s).length ∧ (edg e s).length ≤ e.length + 2 * s.length
  | [], e => by simp [edg]
  | r :: s, e => by
    have h1 := edgR_len (e := e) (r := r)
    have h2 := edg_len (s := s) (e := edgR e r)
    have : edg e (r :: s) = edg (edgR e r) s := rfl
    rw [this]; simp only [List.length_cons]; omega
theorem edgR_eq (E : List Int) (lo hi : Int) : edgR E (lo, hi) = if 0 ≤ hi ∧ hi < 1114111 then ins (hi + 1) (if 0 < lo ∧ lo ≤ 1114111 then ins lo E else E) else (if 0 < lo ∧ lo ≤ 1114111 then ins lo E else E) := rfl
theorem edg_snoc {e : List Int} {s : List Rg} {k : Nat} (h : k < s.length) : edg e (s.take (k + 1)) = edgR (edg e (s.take k)) (nthR s k) := by
  unfold edg
  rw [List.take_succ_eq_append_getElem h, List.foldl_append, nthR_get h]; rfl

theorem ends_any (w : World) : Calls Tryz.prog 61 #[] w fun e w' => e = .returned (.slice (some ⟨w.heap.size, 0, none⟩) 2 2) ∧ w' = w.alloc (.cells #[.int .i64 0, .int .i64 1114112] 3) := by
  go_enter Tryz.func61, Tryz.ntmps61
  go_wp2
  go_ret
  exact ⟨rfl, rfl⟩

/-- A list of numbers that is read. -/
structure EdW (w0 w : World) (b off c : Nat) (l : List Int) : Prop where
  c1 : l.length ≤ c
  c2 : c ≤ maxLen
  r : RdI w w.heap.size (some ⟨b, off, none⟩) l
  bel : Below w0.heap.size w0 w

set_option maxHeartbeats 4000000 in
theorem edges_any (b off c : Nat) (e : List Int) (A : Option Addr) (n' c' : Nat) (s : List Rg) (w : World) (B : Nat) (hB : B ≤ w.heap.size) (he : EdW w w b off c e) (h0 : 0 < e.length) (hn : e.length ≤ 1000) (hs : RdG w B A s) (hl : s.length = n') (hn' : n' ≤ 1000) :
    Calls Tryz.prog 62 #[.slice (some ⟨b, off, none⟩) e.length c, .slice A n' c'] w fun q w' => ∃ b' off' c', q = .returned (.slice (some ⟨b', off', none⟩) (edg e s).length c') ∧ EdW w w' b' off' c' (edg e s) := by
  have HE := Lib.hid he; have HS := Lib.hid hs; have HL := Lib.hid hl
  clear he hs hl
  go_enter Tryz.func62, Tryz.ntmps62
  go_wp2_with fail
  go_loopw [0, 5] (fun v i wr => ∃ k b' off' c'', k ≤ n' ∧ i = .int .i64 (k : Int) ∧ v = .slice (some ⟨b', off', none⟩) (edg e (s.take k)).length c'' ∧ Hid (EdW w wr b' off' c'' (edg e (s.take k)))) (fun _ i _ => n' - (intOf i).toNat)
  case atStart => exact ⟨0, b, off, c, Nat.zero_le _, rfl, rfl, HE.out⟩
  case round =>
    as_aux_lemma =>
      clear HE
      obtain ⟨k, b', off', c'', hk, rfl, rfl, HW⟩ := hrel
      by_cases hlt : k < n'
      · as_aux_lemma =>
          have hks : k < s.length := by rw [HL.out]; exact hlt
          have hsw : RdG wr B A s := HS.out.below (HW.out.bel.mono hB)
          obtain ⟨b2, off2, rfl, hb2, hcs⟩ := hsw.at_ (by omega)
          obtain ⟨z1, z2⟩ := hcs k hks
          have hsn := edg_snoc (e := e) hks
          have hll := edg_len (s := s.take k) (e := e)
          rw [List.length_take, show min k s.length = k by omega] at hll
          have HKEEP : Hid (∀ w', Below w.heap.size w w' → RdG w' B (some ⟨b2, off2, none⟩) s) := Lib.hid (fun w' hb => HS.out.below (hb.mono hB))
          have hfin : ∀ w' b3 off3 c3, EdW wr w' b3 off3 c3 (edgR (edg e (s.take k)) (nthR s k)) → EdW w w' b3 off3 c3 (edg e (s.take (k + 1))) := fun w' b3 off3 c3 h => by
            rw [hsn]; exact ⟨h.c1, h.c2, h.r, HW.out.bel.trans (h.bel.mono HW.out.bel.size)⟩
          obtain ⟨⟨lo, hi⟩, hr⟩ : ∃ r, r = nthR s k := ⟨_, rfl⟩
          rw [← hr] at z1 z2 hfin
          simp only at z1 z2
          have hkeep2 : ∀ w', Below wr.heap.size wr w' → w'.cell? ⟨b2, off2 + k * 2, none⟩ = some (.int .i64 lo) ∧ w'.cell? ⟨b2, off2 + k * 2 + 1, none⟩ = some (.int .i64 hi) := fun w' hb => by
            have hbb : b2 < wr.heap.size := by have := HW.out.bel.size; omega
            exact ⟨(hb.cell (p := ⟨b2, off2 + k * 2, none⟩) hbb).trans z1, (hb.cell (p := ⟨b2, off2 + k * 2 + 1, none⟩) hbb).trans z2⟩
          have HK2 := Lib.hid hkeep2; have HFIN := Lib.hid hfin
          have hE1 : EdW wr wr b' off' c'' (edg e (s.take k)) := ⟨HW.out.c1, HW.out.c2, HW.out.r, Below.refl _ _⟩
          obtain ⟨E, hE⟩ : ∃ E, E = edg e (s.take k) := ⟨_, rfl⟩
          rw [← hE] at hll hE1 HFIN HW ⊢
          have HE1 := Lib.hid hE1
          rw [← hE, ← hr] at hsn
          have HSN := Lib.hid hsn
          have hp0 : 0 < E.length := by omega
          have hp1 : E.length ≤ 3000 := by omega
          have hins : ∀ x (W : World) b3 off3 c3 (L : List Int), EdW wr W b3 off3 c3 L → 0 < L.length → L.length ≤ 4000 → Calls Tryz.prog 87 #[.slice (some ⟨b3, off3, none⟩) L.length c3, .int .i64 x] W fun q w' => ∃ b4 off4 c4, q = .returned (.slice (some ⟨b4, off4, none⟩) (ins x L).length c4) ∧ EdW wr w' b4 off4 c4 (ins x L) := fun x W b3 off3 c3 L h h1 h2 =>
            (insert_any b3 off3 L.length c3 L x W h.r rfl h1 (by omega) h.c1 h.c2).mono fun q w' ⟨b4, off4, c4, he, q1, q2, q3, q4⟩ => ⟨b4, off4, c4, he, q1, q2, q3, h.bel.trans (q4.mono h.bel.size)⟩
          have HINS := Lib.hid hins
          have HL1 := Lib.hid (fun x => ins_len (n := x) (l := E))
          clear hsw hcs hsn hll hfin hr hkeep2 hE hE1 hins HKEEP HS
          have hlo : (¬ (0 < lo)) ∨ (0 < lo ∧ ¬ (lo ≤ 1114111)) ∨ (0 < lo ∧ lo ≤ 1114111) := by omega
          have hhi : (¬ (0 ≤ hi)) ∨ (0 ≤ hi ∧ ¬ (hi < 1114111)) ∨ (0 ≤ hi ∧ hi < 1114111) := by omega
          rcases hlo with p1 | ⟨p1, p2⟩ | ⟨p1, p2⟩ <;> rcases hhi with q1 | ⟨q1, q2⟩ | ⟨q1, q2⟩
          · as_aux_lemma =>
              have d1 : decide (0 < lo) = false := decide_eq_false p1
              have d3 : decide (0 ≤ hi) = false := decide_eq_false q1
              have heq : edgR E (lo, hi) = E := by rw [edgR_eq, if_neg (show ¬ (0 ≤ hi ∧ hi < 1114111) from fun z => q1 z.1), if_neg (show ¬ (0 < lo ∧ lo ≤ 1114111) from fun z => p1 z.1)]
              have HE5 : Hid (edg e (s.take (k + 1)) = E) := Lib.hid (by rw [HSN.out, heq])
              rw [heq] at HFIN
              clear heq HSN
              have hi1 := HL1.out lo
              have HE2 := HE1
              have HE3 := HE2
              have HE4 := Lib.hid (HFIN.out _ _ _ _ HE3.out)
              go_wp2_with fail
              go_roundw
              case rel => exact ⟨k + 1, _, _, _, by omega, by go_num, by rw [HE5.out], HE4.out⟩
              case measure => simp [intOf]; omega
          · as_aux_lemma =>
              have d1 : decide (0 < lo) = false := decide_eq_false p1
              have d3 : decide (0 ≤ hi) = true := decide_eq_true q1
              have d4 : decide (hi < 1114111) = false := decide_eq_false q2
              have heq : edgR E (lo, hi) = E := by rw [edgR_eq, if_neg (show ¬ (0 ≤ hi ∧ hi < 1114111) from fun z => q2 z.2), if_neg (show ¬ (0 < lo ∧ lo ≤ 1114111) from fun z => p1 z.1)]
              have HE5 : Hid (edg e (s.take (k + 1)) = E) := Lib.hid (by rw [HSN.out, heq])
              rw [heq] at HFIN
              clear heq HSN
              have hi1 := HL1.out lo
              have HE2 := HE1
              have HE3 := HE2
              have HE4 := Lib.hid (HFIN.out _ _ _ _ HE3.out)
              go_wp2_with fail
              go_roundw
              case rel => exact ⟨k + 1, _, _, _, by omega, by go_num, by rw [HE5.out], HE4.out⟩
              case measure => simp [intOf]; omega
          · as_aux_lemma =>
              have d1 : decide (0 < lo) = false := decide_eq_false p1
              have d3 : decide (0 ≤ hi) = true := decide_eq_true q1
              have d4 : decide (hi < 1114111) = true := decide_eq_true q2
              have heq : edgR E (lo, hi) = ins (hi + 1) (E) := by rw [edgR_eq, if_pos ⟨q1, q2⟩, if_neg (show ¬ (0 < lo ∧ lo ≤ 1114111) from fun z => p1 z.1)]
              have HE5 : Hid (edg e (s.take (k + 1)) = ins (hi + 1) (E)) := Lib.hid (by rw [HSN.out, heq])
              rw [heq] at HFIN
              clear heq HSN
              have hi1 := HL1.out lo
              have HE2 := HE1
              go_wp2_with fail
              refine (HINS.out (hi + 1) _ _ _ _ _ HE2.out (by omega) (by omega)).mono ?_
              rintro q w2 ⟨b5, off5, c5, rfl, hW2⟩
              have HE3 := Lib.hid hW2
              clear hW2
              have HE4 := Lib.hid (HFIN.out _ _ _ _ HE3.out)
              go_wp2_with fail
              go_roundw
              case rel => exact ⟨k + 1, _, _, _, by omega, by go_num, by rw [HE5.out], HE4.out⟩
              case measure => simp [intOf]; omega
          · as_aux_lemma =>
              have d1 : decide (0 < lo) = true := decide_eq_true p1
              have d2 : decide (lo ≤ 1114111) = false := decide_eq_false p2
              have d3 : decide (0 ≤ hi) = false := decide_eq_false q1
              have heq : edgR E (lo, hi) = E := by rw [edgR_eq, if_neg (show ¬ (0 ≤ hi ∧ hi < 1114111) from fun z => q1 z.1), if_neg (show ¬ (0 < lo ∧ lo ≤ 1114111) from fun z => p2 z.2)]
              have HE5 : Hid (edg e (s.take (k + 1)) = E) := Lib.hid (by rw [HSN.out, heq])
              rw [heq] at HFIN
              clear heq HSN
              have hi1 := HL1.out lo
              have HE2 := HE1
              have HE3 := HE2
              have HE4 := Lib.hid (HFIN.out _ _ _ _ HE3.out)
              go_wp2_with fail
              go_roundw
              case rel => exact ⟨k + 1, _, _, _, by omega, by go_num, by rw [HE5.out], HE4.out⟩
              case measure => simp [intOf]; omega
          · as_aux_lemma =>
              have d1 : decide (0 < lo) = true := decide_eq_true p1
              have d2 : decide (lo ≤ 1114111) = false := decide_eq_false p2
              have d3 : decide (0 ≤ hi) = true := decide_eq_true q1
              have d4 : decide (hi < 1114111) = false := decide_eq_false q2
              have heq : edgR E (lo, hi) = E := by rw [edgR_eq, if_neg (show ¬ (0 ≤ hi ∧ hi < 1114111) from fun z => q2 z.2), if_neg (show ¬ (0 < lo ∧ lo ≤ 1114111) from fun z => p2 z.2)]
              have HE5 : Hid (edg e (s.take (k + 1)) = E) := Lib.hid (by rw [HSN.out, heq])
              rw [heq] at HFIN
              clear heq HSN
              have hi1 := HL1.out lo
              have HE2 := HE1
              have HE3 := HE2
              have HE4 := Lib.hid (HFIN.out _ _ _ _ HE3.out)
              go_wp2_with fail
              go_roundw
              case rel => exact ⟨k + 1, _, _, _, by omega, by go_num, by rw [HE5.out], HE4.out⟩
              case measure => simp [intOf]; omega
          · as_aux_lemma =>
              have d1 : decide (0 < lo) = true := decide_eq_true p1
              have d2 : decide (lo ≤ 1114111) = false := decide_eq_false p2
              have d3 : decide (0 ≤ hi) = true := decide_eq_true q1
              have d4 : decide (hi < 1114111) = true := decide_eq_true q2
              have heq : edgR E (lo, hi) = ins (hi + 1) (E) := by rw [edgR_eq, if_pos ⟨q1, q2⟩, if_neg (show ¬ (0 < lo ∧ lo ≤ 1114111) from fun z => p2 z.2)]
              have HE5 : Hid (edg e (s.take (k + 1)) = ins (hi + 1) (E)) := Lib.hid (by rw [HSN.out, heq])
              rw [heq] at HFIN
              clear heq HSN
              have hi1 := HL1.out lo
              have HE2 := HE1
              go_wp2_with fail
              refine (HINS.out (hi + 1) _ _ _ _ _ HE2.out (by omega) (by omega)).mono ?_
              rintro q w2 ⟨b5, off5, c5, rfl, hW2⟩
              have HE3 := Lib.hid hW2
              clear hW2
              have HE4 := Lib.hid (HFIN.out _ _ _ _ HE3.out)
              go_wp2_with fail
              go_roundw
              case rel => exact ⟨k + 1, _, _, _, by omega, by go_num, by rw [HE5.out], HE4.out⟩
              case measure => simp [intOf]; omega
          · as_aux_lemma =>
              have d1 : decide (0 < lo) = true := decide_eq_true p1
              have d2 : decide (lo ≤ 1114111) = true := decide_eq_true p2
              have d3 : decide (0 ≤ hi) = false := decide_eq_false q1
              have heq : edgR E (lo, hi) = ins lo E := by rw [edgR_eq, if_neg (show ¬ (0 ≤ hi ∧ hi < 1114111) from fun z => q1 z.1), if_pos ⟨p1, p2⟩]
              have HE5 : Hid (edg e (s.take (k + 1)) = ins lo E) := Lib.hid (by rw [HSN.out, heq])
              rw [heq] at HFIN
              clear heq HSN
              have hi1 := HL1.out lo
              go_wp2_with fail
              refine (HINS.out lo _ _ _ _ _ HE1.out hp0 (by omega)).mono ?_
              rintro q w1 ⟨b4, off4, c4, rfl, hW1⟩
              have HE2 := Lib.hid hW1
              obtain ⟨z1, z2⟩ := HK2.out w1 hW1.bel
              clear hW1
              have HE3 := HE2
              have HE4 := Lib.hid (HFIN.out _ _ _ _ HE3.out)
              go_wp2_with fail
              go_roundw
              case rel => exact ⟨k + 1, _, _, _, by omega, by go_num, by rw [HE5.out], HE4.out⟩
              case measure => simp [intOf]; omega
          · as_aux_lemma =>
              have d1 : decide (0 < lo) = true := decide_eq_true p1
              have d2 : decide (lo ≤ 1114111) = true := decide_eq_true p2
              have d3 : decide (0 ≤ hi) = true := decide_eq_true q1
              have d4 : decide (hi < 1114111) = false := decide_eq_false q2
              have heq : edgR E (lo, hi) = ins lo E := by rw [edgR_eq, if_neg (show ¬ (0 ≤ hi ∧ hi < 1114111) from fun z => q2 z.2), if_pos ⟨p1, p2⟩]
              have HE5 : Hid (edg e (s.take (k + 1)) = ins lo E) := Lib.hid (by rw [HSN.out, heq])
              rw [heq] at HFIN
              clear heq HSN
              have hi1 := HL1.out lo
              go_wp2_with fail
              refine (HINS.out lo _ _ _ _ _ HE1.out hp0 (by omega)).mono ?_
              rintro q w1 ⟨b4, off4, c4, rfl, hW1⟩
              have HE2 := Lib.hid hW1
              obtain ⟨z1, z2⟩ := HK2.out w1 hW1.bel
              clear hW1
              have HE3 := HE2
              have HE4 := Lib.hid (HFIN.out _ _ _ _ HE3.out)
              go_wp2_with fail
              go_roundw
              case rel => exact ⟨k + 1, _, _, _, by omega, by go_num, by rw [HE5.out], HE4.out⟩
              case measure => simp [intOf]; omega
          · as_aux_lemma =>
              have d1 : decide (0 < lo) = true := decide_eq_true p1
              have d2 : decide (lo ≤ 1114111) = true := decide_eq_true p2
              have d3 : decide (0 ≤ hi) = true := decide_eq_true q1
              have d4 : decide (hi < 1114111) = true := decide_eq_true q2
              have heq : edgR E (lo, hi) = ins (hi + 1) (ins lo E) := by rw [edgR_eq, if_pos ⟨q1, q2⟩, if_pos ⟨p1, p2⟩]
              have HE5 : Hid (edg e (s.take (k + 1)) = ins (hi + 1) (ins lo E)) := Lib.hid (by rw [HSN.out, heq])
              rw [heq] at HFIN
              clear heq HSN
              have hi1 := HL1.out lo
              go_wp2_with fail
              refine (HINS.out lo _ _ _ _ _ HE1.out hp0 (by omega)).mono ?_
              rintro q w1 ⟨b4, off4, c4, rfl, hW1⟩
              have HE2 := Lib.hid hW1
              obtain ⟨z1, z2⟩ := HK2.out w1 hW1.bel
              clear hW1
              go_wp2_with fail
              refine (HINS.out (hi + 1) _ _ _ _ _ HE2.out (by omega) (by omega)).mono ?_
              rintro q w2 ⟨b5, off5, c5, rfl, hW2⟩
              have HE3 := Lib.hid hW2
              clear hW2
              have HE4 := Lib.hid (HFIN.out _ _ _ _ HE3.out)
              go_wp2_with fail
              go_roundw
              case rel => exact ⟨k + 1, _, _, _, by omega, by go_num, by rw [HE5.out], HE4.out⟩
              case measure => simp [intOf]; omega
      · as_aux_lemma =>
          have he : s.take k = s := List.take_of_length_le (by rw [HL.out]; omega)
          have hw := HW.out
          rw [he] at hw ⊢
          have HW2 := Lib.hid hw
          clear he hw HW
          go_wp2_with fail
          go_ret
          exact ⟨b', off', c'', rfl, HW2.out⟩
end Go.Proofs.YtkcpfpofimkkiaaGreatDoor
