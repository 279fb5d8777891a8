/- A region that draws its order: quiet operations (calls too) ahead of one store: the cheap steps. · The mender's better, joined. -/
import Derived.StillTailTactics
import Derived.BigQuiet
import Derived.Test.YtklhjaohnimmnaaDoorQ7
import Derived.Test.YtklhjaohnimmnaaDoorQ9
import Derived.Test.YtklhjaohnimmnaaDoorQ10
import Derived.BigRegion
import Derived.Laws.ResultCell
namespace Go.Proofs.YtklhjaohnimmnaaDoor
open Go
set_option linter.unusedVariables false

theorem wpStill_of_quiet {P : Program} {ops : Array Oper} {w : World} {Q : Act → Prop} : ∀ (l : List Oper) (a : Act), wpQuiet P ops (fun w' => w' = w) Q l a → wpStill P ops w Q l a
  | [], a, h => h
  | o :: rest, a, h => by
    unfold wpQuiet at h
    unfold wpStill
    split at h
    · rename_i hw
      rw [if_pos hw]
      obtain ⟨v, h1, h2⟩ := h
      have h3 := h1 w rfl
      unfold Oper.quietAt at h3
      unfold Oper.still
      generalize (execOp a.eval o).run P w = r at *
      cases r with
      | halt x w' => exact h3.elim
      | ok n w' =>
        cases n with
        | value u =>
          obtain ⟨rfl, rfl⟩ := h3
          exact ⟨rfl, wpStill_of_quiet rest _ h2⟩
        | skip =>
          obtain ⟨rfl, rfl⟩ := h3
          exact ⟨rfl, wpStill_of_quiet rest _ h2⟩
        | enter f args =>
          obtain ⟨rfl, hc⟩ := h3
          exact ⟨rfl, v, hc, wpStill_of_quiet rest _ h2⟩
        | _ => exact h3.elim
    · rename_i hw
      rw [if_neg hw]
      exact wpStill_of_quiet rest _ h

/-- N quiet operations, then the tail, in the world drawn once. -/
theorem wp_quiet_tail {P : Program} {ops : Array Oper} {w w2 : World} (hw : w2 = w.drew) {Q : Act → Prop} {l : List Oper} {a : Act} (h : wpQuiet P ops (fun w' => w' = w2) Q l a) : wpStill P ops w.drew Q l a := by
  subst hw
  exact wpStill_of_quiet l a h
end Go.Proofs.YtklhjaohnimmnaaDoor
namespace Go.Proofs.YtklhjaohnimmnaaDoor
open Go.RowKit BigFrame
set_option linter.unusedVariables false
set_option linter.unusedSimpArgs false
set_option maxRecDepth 100000

/-- A best as a value: its terminals lie in blocks below B. -/
def BsIn (w : World) (B : Nat) (v : Value) : Bs → Prop
  | none => v = .agg #[.bool false, .int .i64 0, .int .i64 0, .slice none 0 0]
  | some (c, n, l) => ∃ A cap, v = .agg #[.bool true, .int .i64 c, .int .i64 n, .slice A l.length cap] ∧ l.length ≤ cap ∧ cap ≤ maxLen ∧ RdI w B A l
theorem BsIn.below {w w' : World} {B : Nat} {v : Value} {b : Bs} (h : BsIn w B v b) (hb : Below B w w') : BsIn w' B v b := by
  cases b with
  | none => exact h
  | some x =>
    obtain ⟨c, n, l⟩ := x
    obtain ⟨A, cap, e, h1, h2, h3⟩ := h
    exact ⟨A, cap, e, h1, h2, h3.below hb⟩
theorem BsIn.more {w : World} {B B' : Nat} {v : Value} {b : Bs} (h : BsIn w B v b) (hB : B ≤ B') : BsIn w B' v b := by
  cases b with
  | none => exact h
  | some x =>
    obtain ⟨c, n, l⟩ := x
    obtain ⟨A, cap, e, h1, h2, h3⟩ := h
    exact ⟨A, cap, e, h1, h2, h3.more hB⟩

/-- A list at the head of a block of integers. -/
def LsIn (w : World) (A : Option Addr) (l : List Int) : Prop := l ≠ [] → ∃ (b : Nat) (arr : Array Value) (cur : Nat × Nat), A = some ⟨b, 0, none⟩ ∧ w.heap[b]? = some (.cells arr 3 cur) ∧ ∀ (j : Nat) (u : Value), (iv l)[j]? = some u → arr[j]? = some u
theorem LsIn.rd {w : World} {A : Option Addr} {l : List Int} (h : LsIn w A l) : RdI w w.heap.size A l := fun hn => by
  obtain ⟨b, arr, cur, e, hb, hc⟩ := h (by intro e; subst e; exact hn rfl)
  exact ⟨b, 0, e, (Array.getElem?_eq_some_iff.1 hb).1, fun j u hu => by rw [Nat.zero_add, cell_of_row w b j _ _ _ hb]; exact hc j u hu⟩
theorem LsIn.keep {w w' : World} {A : Option Addr} {l : List Int} (h : LsIn w A l) (hk : ∀ (b : Nat) (arr : Array Value) (cur : Nat × Nat), w.heap[b]? = some (.cells arr 3 cur) → w'.heap[b]? = w.heap[b]?) : LsIn w' A l := fun hn => by
  obtain ⟨b, arr, cur, e, hb, hc⟩ := h hn
  exact ⟨b, arr, cur, e, (hk b arr cur hb).trans hb, hc⟩
theorem LsIn.of_own {w : World} {base n : Nat} {A : Option Addr} {c : Nat} {l : List Int} (h : w.ownsRow base 3 1 (.slice A n c) n (iv l)) : LsIn w A l := fun hn => by
  rcases h.2 with ⟨e, e2⟩ | ⟨g, cap, cur, e, hb, hg, h1, h2, h3, h4⟩
  · have := h.1
    rw [iv_len, e2] at this
    exact absurd (List.eq_nil_of_length_eq_zero (by omega)) hn
  · simp only [Value.slice.injEq] at e
    obtain ⟨rfl, -, rfl⟩ := e
    refine ⟨g, cur, _, rfl, hg, fun j u hu => ?_⟩
    rw [← h4, Nat.mul_one] at hu
    rw [List.getElem?_take] at hu
    split at hu
    · simpa using hu
    · cases hu
theorem LsIn.of_blk {w : World} {g : Nat} {l : List Int} (h : Blk w g 3 (iv l)) : LsIn w (some ⟨g, 0, none⟩) l := fun _ => ⟨g, _, _, rfl, h, fun j u hu => by simpa using hu⟩
theorem LsIn.below {w w' : World} {A : Option Addr} {l : List Int} (h : LsIn w A l) (hb : Below w.heap.size w w') : LsIn w' A l := h.keep fun b arr cur hc => hb.block b (Array.getElem?_eq_some_iff.1 hc).1
/-- A best as a value; its terminals lie in a block of integers. -/
def BsT (w : World) (v : Value) : Bs → Prop
  | none => v = .agg #[.bool false, .int .i64 0, .int .i64 0, .slice none 0 0]
  | some (c, n, l) => ∃ A cap, v = .agg #[.bool true, .int .i64 c, .int .i64 n, .slice A l.length cap] ∧ l.length ≤ cap ∧ cap ≤ maxLen ∧ LsIn w A l
theorem BsT.rd {w : World} {v : Value} {b : Bs} (h : BsT w v b) : BsIn w w.heap.size v b := by
  cases b with
  | none => exact h
  | some x =>
    obtain ⟨c, n, l⟩ := x
    obtain ⟨A, cap, e, h1, h2, h3⟩ := h
    exact ⟨A, cap, e, h1, h2, h3.rd⟩
theorem BsT.keep {w w' : World} {v : Value} {b : Bs} (h : BsT w v b) (hk : ∀ (b : Nat) (arr : Array Value) (cur : Nat × Nat), w.heap[b]? = some (.cells arr 3 cur) → w'.heap[b]? = w.heap[b]?) : BsT w' v b := by
  cases b with
  | none => exact h
  | some x =>
    obtain ⟨c, n, l⟩ := x
    obtain ⟨A, cap, e, h1, h2, h3⟩ := h
    exact ⟨A, cap, e, h1, h2, h3.keep hk⟩
theorem BsT.below {w w' : World} {v : Value} {b : Bs} (h : BsT w v b) (hb : Below w.heap.size w w') : BsT w' v b := h.keep fun b arr cur hc => hb.block b (Array.getElem?_eq_some_iff.1 hc).1
theorem BsT.form {w : World} {v : Value} {b : Bs} (h : BsT w v b) : ∃ k c n A l cap, v = .agg #[.bool k, .int .i64 c, .int .i64 n, .slice A l cap] := by
  cases b with
  | none => exact ⟨_, _, _, _, _, _, h⟩
  | some x =>
    obtain ⟨c, n, l⟩ := x
    obtain ⟨A, cap, e, _⟩ := h
    exact ⟨_, _, _, _, _, _, e⟩

set_option maxHeartbeats 2000000 in
theorem better_any (a b : Bs) (va vb : Value) (w : World) (B : Nat) (hB : B ≤ w.heap.size) (ha : BsIn w B va a) (hb : BsIn w B vb b) :
    Calls Tryd.prog 26 #[va, vb] w fun e w' => e = .returned (.bool (betB a b)) ∧ Below w.heap.size w w' := by
  have hbl : ∀ x y : Array Value, Below w.heap.size w ((w.alloc (.cells x 51)).alloc (.cells y 51)) := fun x y => ((Below.refl w.heap.size w).alloc (Nat.le_refl _) _).alloc (by simp) _
  cases a with
  | none =>
    obtain rfl : va = _ := ha
    have hf : betB none b = false := rfl
    rw [hf]
    clear hf
    cases b with
    | none =>
      obtain rfl : vb = _ := hb
      have HB := Lib.hid hbl
      clear hbl
      go_enter Tryd.func26, Tryd.ntmps26
      go_wp2_with fail
      go_ret
      exact ⟨rfl, HB.out _ _⟩
    | some y =>
      obtain ⟨d, m, k⟩ := y
      obtain ⟨A', cap', rfl, h4, h5, h6⟩ := hb
      have HB := Lib.hid hbl
      clear hbl h6
      go_enter Tryd.func26, Tryd.ntmps26
      go_wp2_with fail
      go_ret
      exact ⟨rfl, HB.out _ _⟩
  | some x =>
    obtain ⟨c, n, l⟩ := x
    obtain ⟨A, cap, rfl, h1, h2, h3⟩ := ha
    cases b with
    | none =>
      obtain rfl : vb = _ := hb
      have HB := Lib.hid hbl
      clear hbl h3
      go_enter Tryd.func26, Tryd.ntmps26
      go_wp2_with fail
      go_ret
      exact ⟨rfl, HB.out _ _⟩
    | some y =>
      obtain ⟨d, m, k⟩ := y
      obtain ⟨A', cap', rfl, h4, h5, h6⟩ := hb
      have hval : betB (some (c, n, l)) (some (d, m, k)) = (if c ≠ d then decide (c < d) else if n ≠ m then decide (n < m) else lexlt l k) := rfl
      rw [hval]
      have hbw := hbl #[.bool true, .int .i64 c, .int .i64 n, .slice A l.length cap] #[.bool true, .int .i64 d, .int .i64 m, .slice A' k.length cap']
      have HC := Lib.hid (compare_any A A' l.length cap k.length cap' l k _ B B (h3.below (hbw.mono hB)) rfl (by omega) (h6.below (hbw.mono hB)) rfl (by omega))
      have HB := Lib.hid hbw
      clear hbl h3 h6 hval hbw
      by_cases q1 : c = d
      rotate_left
      · as_aux_lemma =>
          rw [if_pos q1]
          have d1 : (c != d) = true := by simpa using q1
          clear HC
          go_enter Tryd.func26, Tryd.ntmps26
          go_wp2_with fail
          go_ret
          exact ⟨rfl, HB.out⟩
      rw [if_neg (by simpa using q1)]
      have d1 : (c != d) = false := by simpa using q1
      by_cases q2 : n = m
      rotate_left
      · as_aux_lemma =>
          rw [if_pos q2]
          have d2 : (n != m) = true := by simpa using q2
          clear HC q1
          go_enter Tryd.func26, Tryd.ntmps26
          go_wp2_with fail
          go_ret
          exact ⟨rfl, HB.out⟩
      rw [if_neg (by simpa using q2)]
      have d2 : (n != m) = false := by simpa using q2
      have HX : Hid (decide (cmpL l k < 0) = lexlt l k) := Lib.hid (by
        cases e : lexlt l k with
        | true => simpa using (cmpL_neg l k).2 e
        | false => simp; exact Int.not_lt.1 (fun h => by rw [(cmpL_neg l k).1 h] at e; cases e))
      generalize cmpL l k = z at *
      clear q1 q2
      go_enter Tryd.func26, Tryd.ntmps26
      go_wp2_with fail
      refine HC.out.mono ?_
      rintro e w1 ⟨rfl, rfl⟩
      go_wp2_with fail
      go_ret
      exact ⟨ret_eq (by rw [← HX.out]; rfl), HB.out⟩

theorem own4 {w : World} {base n g : Nat} {e : TypeId} {v : Value} {xs : List Value} (h : w.ownsRow base e 1 v n xs) (hne : ∀ b, v.ownBlock = some b → b ≠ g) (u0 u1 u2 u3 : Value) :
    ((((w.setCell ⟨g, 0, none⟩ u0).setCell ⟨g, 1, none⟩ u1).setCell ⟨g, 2, none⟩ u2).setCell ⟨g, 3, none⟩ u3).ownsRow base e 1 v n xs :=
  ownsRow_setCell_other (ownsRow_setCell_other (ownsRow_setCell_other (ownsRow_setCell_other h (fun e => hne _ e rfl) _) (fun e => hne _ e rfl) _) (fun e => hne _ e rfl) _) (fun e => hne _ e rfl) _
set_option maxHeartbeats 4000000 in
theorem joined_any (a b : Bs) (va vb : Value) (w : World) (B : Nat) (hB : B ≤ w.heap.size) (ha : BsIn w B va a) (hb : BsIn w B vb b) (na : NumB wB a) (nb : NumB wB b) (wa : WfB a) (wb : WfB b) :
    Calls Tryd.prog 41 #[va, vb] w fun e w' => ∃ v, e = .returned v ∧ BsT w' v (joinB a b) ∧ Below w.heap.size w w' := by
  have hbl : ∀ x y z : Array Value, Below w.heap.size w (((w.alloc (.cells x 51)).alloc (.cells y 51)).alloc (.cells z 51)) := fun x y z => (((Below.refl w.heap.size w).alloc (Nat.le_refl _) _).alloc (by simp) _).alloc (by simp; omega) _
  have hbk : ∀ x y : Array Value, Blk (((w.alloc (.cells x 51)).alloc (.cells y 51)).alloc (.cells #[.bool false, .int .i64 0, .int .i64 0, .slice none 0 0] 51)) (w.heap.size + 1 + 1) 51 [.bool false, .int .i64 0, .int .i64 0, .slice none 0 0] := fun x y => by
    have := Blk.new ((w.alloc (.cells x 51)).alloc (.cells y 51)) 51 [.bool false, .int .i64 0, .int .i64 0, .slice none 0 0]
    simpa using this
  have none_end : ∀ (x y : Array Value), True := fun _ _ => trivial
  cases a with
  | none =>
    obtain rfl : va = _ := ha
    have hj : joinB none b = none := rfl
    rw [hj]
    cases b with
    | none =>
      obtain rfl : vb = _ := hb
      have HB := Lib.hid (hbl #[.bool false, .int .i64 0, .int .i64 0, .slice none 0 0] #[.bool false, .int .i64 0, .int .i64 0, .slice none 0 0] #[.bool false, .int .i64 0, .int .i64 0, .slice none 0 0])
      have hk := hbk #[.bool false, .int .i64 0, .int .i64 0, .slice none 0 0] #[.bool false, .int .i64 0, .int .i64 0, .slice none 0 0]
      obtain ⟨W, hW⟩ : ∃ W, W = ((w.alloc (.cells #[.bool false, .int .i64 0, .int .i64 0, .slice none 0 0] 51)).alloc (.cells #[.bool false, .int .i64 0, .int .i64 0, .slice none 0 0] 51)).alloc (.cells #[.bool false, .int .i64 0, .int .i64 0, .slice none 0 0] 51) := ⟨_, rfl⟩
      rw [← hW] at hk HB
      have HK := Lib.hid hk
      clear hbl hbk hk na nb wa wb
      go_enter Tryd.func41, Tryd.ntmps41
      go_wp2_with fail
      rw [← hW]
      refine bodyPost_ret (results_cell_row rfl _ _ (w.heap.size + 1 + 1) _ #[.bool false, .int .i64 0, .int .i64 0, .slice none 0 0] _ _ rfl HK.out Tryd.underlying51 rfl (by kernel_rfl)) rfl ?_
      exact ⟨_, rfl, rfl, HB.out⟩
    | some y =>
      obtain ⟨d, m, k⟩ := y
      obtain ⟨A', cap', rfl, h4, h5, h6⟩ := hb
      clear h6
      have HB := Lib.hid (hbl #[.bool false, .int .i64 0, .int .i64 0, .slice none 0 0] #[.bool true, .int .i64 d, .int .i64 m, .slice A' k.length cap'] #[.bool false, .int .i64 0, .int .i64 0, .slice none 0 0])
      have hk := hbk #[.bool false, .int .i64 0, .int .i64 0, .slice none 0 0] #[.bool true, .int .i64 d, .int .i64 m, .slice A' k.length cap']
      obtain ⟨W, hW⟩ : ∃ W, W = ((w.alloc (.cells #[.bool false, .int .i64 0, .int .i64 0, .slice none 0 0] 51)).alloc (.cells #[.bool true, .int .i64 d, .int .i64 m, .slice A' k.length cap'] 51)).alloc (.cells #[.bool false, .int .i64 0, .int .i64 0, .slice none 0 0] 51) := ⟨_, rfl⟩
      rw [← hW] at hk HB
      have HK := Lib.hid hk
      clear hbl hbk hk na nb wa wb
      go_enter Tryd.func41, Tryd.ntmps41
      go_wp2_with fail
      rw [← hW]
      refine bodyPost_ret (results_cell_row rfl _ _ (w.heap.size + 1 + 1) _ #[.bool false, .int .i64 0, .int .i64 0, .slice none 0 0] _ _ rfl HK.out Tryd.underlying51 rfl (by kernel_rfl)) rfl ?_
      exact ⟨_, rfl, rfl, HB.out⟩
  | some x =>
    obtain ⟨c, n, l⟩ := x
    obtain ⟨A, cap, rfl, h1, h2, h3⟩ := ha
    cases b with
    | none =>
      obtain rfl : vb = _ := hb
      have hj : joinB (some (c, n, l)) none = none := rfl
      rw [hj]
      clear h3
      have HB := Lib.hid (hbl #[.bool true, .int .i64 c, .int .i64 n, .slice A l.length cap] #[.bool false, .int .i64 0, .int .i64 0, .slice none 0 0] #[.bool false, .int .i64 0, .int .i64 0, .slice none 0 0])
      have hk := hbk #[.bool true, .int .i64 c, .int .i64 n, .slice A l.length cap] #[.bool false, .int .i64 0, .int .i64 0, .slice none 0 0]
      obtain ⟨W, hW⟩ : ∃ W, W = ((w.alloc (.cells #[.bool true, .int .i64 c, .int .i64 n, .slice A l.length cap] 51)).alloc (.cells #[.bool false, .int .i64 0, .int .i64 0, .slice none 0 0] 51)).alloc (.cells #[.bool false, .int .i64 0, .int .i64 0, .slice none 0 0] 51) := ⟨_, rfl⟩
      rw [← hW] at hk HB
      have HK := Lib.hid hk
      clear hbl hbk hk na nb wa wb
      go_enter Tryd.func41, Tryd.ntmps41
      go_wp2_with fail
      rw [← hW]
      refine bodyPost_ret (results_cell_row rfl _ _ (w.heap.size + 1 + 1) _ #[.bool false, .int .i64 0, .int .i64 0, .slice none 0 0] _ _ rfl HK.out Tryd.underlying51 rfl (by kernel_rfl)) rfl ?_
      exact ⟨_, rfl, rfl, HB.out⟩
    | some y =>
      obtain ⟨d, m, k⟩ := y
      obtain ⟨A', cap', rfl, h4, h5, h6⟩ := hb
      obtain ⟨c0, c1, n0, n1, -, -⟩ := na.c c n l rfl
      obtain ⟨d0, d1, m0, m1, -, -⟩ := nb.c d m k rfl
      have hll : ∀ (x : Int × Int × List Int), WfT x → x.2.2.length ≤ 1000 ∨ 1000 < x.2.2.length → x.2.2.length ≤ 1000 := fun x hx _ => by
        by_cases q : x.2.1 ≤ 1000
        · have := hx.s q; omega
        · rw [hx.b (by omega)]; simp
      have hl1 : l.length ≤ 1000 := hll _ (wa _ rfl) (by omega)
      have hk1 : k.length ≤ 1000 := hll _ (wb _ rfl) (by omega)
      have HB := Lib.hid (hbl #[.bool true, .int .i64 c, .int .i64 n, .slice A l.length cap] #[.bool true, .int .i64 d, .int .i64 m, .slice A' k.length cap'] #[.bool false, .int .i64 0, .int .i64 0, .slice none 0 0])
      have hk := hbk #[.bool true, .int .i64 c, .int .i64 n, .slice A l.length cap] #[.bool true, .int .i64 d, .int .i64 m, .slice A' k.length cap']
      obtain ⟨W, hW⟩ : ∃ W, W = ((w.alloc (.cells #[.bool true, .int .i64 c, .int .i64 n, .slice A l.length cap] 51)).alloc (.cells #[.bool true, .int .i64 d, .int .i64 m, .slice A' k.length cap'] 51)).alloc (.cells #[.bool false, .int .i64 0, .int .i64 0, .slice none 0 0] 51) := ⟨_, rfl⟩
      have hj : joinB (some (c, n, l)) (some (d, m, k)) = some (min (c + d) farC, min (n + m) farC, if 1000 < min (n + m) farC then [] else l ++ k) := rfl
      rw [hj]
      unfold farC
      obtain ⟨LL, hLL⟩ : ∃ LL : List Int, LL = if 1000 < min (n + m) 1099511627776 then [] else l ++ k := ⟨_, rfl⟩
      rw [← hLL]
      have HLL := Lib.hid hLL
      clear hLL
      rw [← hW] at hk HB
      have HK := Lib.hid hk
      have H3 := Lib.hid (h3.below (HB.out.mono hB)); have H6 := Lib.hid (h6.below (HB.out.mono hB))
      have hmin := run_min2 Tryd.prog
      clear hbl hbk hk na nb wa wb hll h3 h6 hj
      go_enter Tryd.func41, Tryd.ntmps41
      go_wp2_with fail
      go_region
      rw [← hW]
      have hs := HB.out.size
      have hkl := HK.out.lt
      have y3 : W.cell? ⟨w.heap.size, 3, none⟩ = some (.slice A l.length cap) := by
        rw [hW]
        exact (((Blk.new w 51 [.bool true, .int .i64 c, .int .i64 n, .slice A l.length cap]).alloc _).alloc _).cell rfl
      have y4 : W.cell? ⟨w.heap.size + 1, 3, none⟩ = some (.slice A' k.length cap') := by
        rw [hW]
        have := (Blk.new (w.alloc (.cells #[.bool true, .int .i64 c, .int .i64 n, .slice A l.length cap] 51)) 51 [.bool true, .int .i64 d, .int .i64 m, .slice A' k.length cap']).alloc (.cells #[.bool false, .int .i64 0, .int .i64 0, .slice none 0 0] 51)
        rw [show (w.alloc (.cells #[.bool true, .int .i64 c, .int .i64 n, .slice A l.length cap] 51)).heap.size = w.heap.size + 1 by simp] at this
        exact this.cell rfl
      clear hW hmin
      generalize hNN : min (n + m) 1099511627776 = N' at *
      generalize hCC : min (c + d) 1099511627776 = C' at *
      have hN1 : N' ≤ 1099511627776 := by omega
      have HNN := Lib.hid hNN; have HCC := Lib.hid hCC
      clear hNN hCC
      obtain ⟨W2, hW2⟩ : ∃ W2, W2 = W.drew := ⟨_, rfl⟩
      have HK2 : Hid (Blk W2 (w.heap.size + 1 + 1) 51 [.bool false, .int .i64 0, .int .i64 0, .slice none 0 0]) := Lib.hid (by rw [hW2]; exact HK.out)
      have HB2 : Hid (Below w.heap.size w W2) := Lib.hid (by rw [hW2]; exact HB.out.trans ⟨rfl, rfl, rfl, Nat.le_refl _, fun _ _ => rfl⟩)
      have H32 : Hid (RdI W2 B A l) := Lib.hid (by rw [hW2]; exact RdI.below H3.out ⟨rfl, rfl, rfl, Nat.le_refl _, fun _ _ => rfl⟩)
      have H62 : Hid (RdI W2 B A' k) := Lib.hid (by rw [hW2]; exact RdI.below H6.out ⟨rfl, rfl, rfl, Nat.le_refl _, fun _ _ => rfl⟩)
      have x3 : W2.cell? ⟨w.heap.size, 3, none⟩ = some (.slice A l.length cap) := by rw [hW2]; exact y3
      have x4 : W2.cell? ⟨w.heap.size + 1, 3, none⟩ = some (.slice A' k.length cap') := by rw [hW2]; exact y4
      clear y3 y4
      rw [← hW2]
      have z0 := HK2.out.cell (i := 0) rfl
      have z1 := HK2.out.cell (i := 1) rfl
      have z2 := HK2.out.cell (i := 2) rfl
      have z3 := HK2.out.cell (i := 3) rfl
      have f0 := HK2.out.frozen 0
      have f1 := HK2.out.frozen 1
      have f2 := HK2.out.frozen 2
      have f3 := HK2.out.frozen 3
      clear hW2 HK HB H3 H6
      by_cases q : 1000 < N'
      · as_aux_lemma =>
          go_wp2_with fail
          have hk2 := (((HK2.out.set_ 0 (.bool true)).set_ 1 (.int .i64 C')).set_ 2 (.int .i64 N')).set_ 3 (.slice none 0 0)
          refine bodyPost_ret (results_cell_row rfl _ _ (w.heap.size + 1 + 1) _ #[.bool true, .int .i64 C', .int .i64 N', .slice none 0 0] _ _ rfl hk2 Tryd.underlying51 rfl (by kernel_rfl)) rfl ?_
          have hfz := (((HB2.out.setCell (p := ⟨w.heap.size + 1 + 1, 0, none⟩) (by show _ ≤ w.heap.size + 1 + 1; omega) (.bool true)).setCell (p := ⟨w.heap.size + 1 + 1, 1, none⟩) (by show _ ≤ w.heap.size + 1 + 1; omega) (.int .i64 C')).setCell (p := ⟨w.heap.size + 1 + 1, 2, none⟩) (by show _ ≤ w.heap.size + 1 + 1; omega) (.int .i64 N')).setCell (p := ⟨w.heap.size + 1 + 1, 3, none⟩) (by show _ ≤ w.heap.size + 1 + 1; omega) (.slice none 0 0)
          have hLL := HLL.out
          rw [if_pos q] at hLL
          rw [HNN.out, HCC.out, hLL]
          exact ⟨_, rfl, ⟨none, 0, rfl, Nat.le_refl _, Nat.zero_le _, fun h => absurd rfl h⟩, hfz⟩
      · as_aux_lemma =>
          have hb3 : Below W2.heap.size W2 (W2.alloc (.cells #[.slice A l.length cap, .slice A' k.length cap'] 23)) := (Below.refl _ _).alloc (Nat.le_refl _) _
          have hz2 := HB2.out.size
          have hcc := Blk.new W2 23 [.slice A l.length cap, .slice A' k.length cap']
          have HC := Lib.hid (concat_any A A' l.length cap k.length cap' l k W2.heap.size 0 2 (W2.alloc (.cells #[.slice A l.length cap, .slice A' k.length cap'] 23)) B (by simp) (hcc.cell rfl) (hcc.cell rfl) (H32.out.below (hb3.mono (by omega))) rfl (by omega) (H62.out.below (hb3.mono (by omega))) rfl (by omega) (by simp; omega))
          have HB3 := Lib.hid hb3
          clear hb3 hcc
          go_wp2_with fail
          refine HC.out.mono ?_
          rintro e w4 ⟨v4, rfl, ho4, hb4⟩
          obtain ⟨A4, c4, rfl, g1, g2, g3⟩ := own_form ho4
          have hbw : Below W2.heap.size W2 w4 := HB3.out.trans (hb4.mono (by simp))
          have hk4 := HK2.out.below' hbw
          have hx4 : Below w.heap.size w w4 := HB2.out.trans (hbw.mono hz2)
          have z0 := hk4.cell (i := 0) rfl
          have z1 := hk4.cell (i := 1) rfl
          have z2 := hk4.cell (i := 2) rfl
          have z3 := hk4.cell (i := 3) rfl
          have f0 := hk4.frozen 0
          have f1 := hk4.frozen 1
          have f2 := hk4.frozen 2
          have f3 := hk4.frozen 3
          have HK4 := Lib.hid hk4; have HX4 := Lib.hid hx4; have HO4 := Lib.hid ho4; have HG3 := Lib.hid g3
          clear hk4 hx4 hbw hb4 ho4 g3 HC HB3
          go_wp2_with fail
          have hk2 := (((HK4.out.set_ 0 (.bool true)).set_ 1 (.int .i64 C')).set_ 2 (.int .i64 N')).set_ 3 (.slice A4 (l.length + k.length) c4)
          refine bodyPost_ret (results_cell_row rfl _ _ (w.heap.size + 1 + 1) _ #[.bool true, .int .i64 C', .int .i64 N', .slice A4 (l.length + k.length) c4] _ _ rfl hk2 Tryd.underlying51 rfl (by kernel_rfl)) rfl ?_
          have hfz := (((HX4.out.setCell (p := ⟨w.heap.size + 1 + 1, 0, none⟩) (by show _ ≤ w.heap.size + 1 + 1; omega) (.bool true)).setCell (p := ⟨w.heap.size + 1 + 1, 1, none⟩) (by show _ ≤ w.heap.size + 1 + 1; omega) (.int .i64 C')).setCell (p := ⟨w.heap.size + 1 + 1, 2, none⟩) (by show _ ≤ w.heap.size + 1 + 1; omega) (.int .i64 N')).setCell (p := ⟨w.heap.size + 1 + 1, 3, none⟩) (by show _ ≤ w.heap.size + 1 + 1; omega) (.slice A4 (l.length + k.length) c4)
          have hLL := HLL.out
          rw [if_neg (by omega)] at hLL
          rw [HNN.out, HCC.out, hLL]
          have hne : ∀ b, (Value.slice A4 (l.length + k.length) c4).ownBlock = some b → b ≠ w.heap.size + 1 + 1 := fun b e => by have h1 := (HO4.out.lt b e).1; have h2 := HK2.out.lt; simp at h1; omega
          have ho5 := own4 HO4.out hne (.bool true) (.int .i64 C') (.int .i64 N') (.slice A4 (l.length + k.length) c4)
          obtain ⟨A5, c5, e5, q1, q2, q3⟩ := own_form ho5
          simp only [Value.slice.injEq] at e5
          obtain ⟨rfl, -, rfl⟩ := e5
          exact ⟨_, rfl, ⟨A4, c4, by rw [List.length_append], by rw [List.length_append]; exact q1, q2, LsIn.of_own ho5⟩, hfz⟩
end Go.Proofs.YtklhjaohnimmnaaDoor
