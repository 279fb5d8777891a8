/- Plain: how many lists of points an automaton takes; the document's decimal. · Plain: counts under way, by the document's digits and by the program's parts. · The document's decimals: times, plus. -/
import Derived.Test.YtkcpfpofimkkiaaGreatDoorQ31
import Derived.Test.YtkcpfpofimkkiaaGreatDoorQ5
import Derived.Test.YtkcpfpofimkkiaaGreatDoorQ3
import Derived.Test.YtkcpfpofimkkiaaGreatDoorQ13
import Derived.Deep.LoopGhost
namespace Go.Proofs.YtkcpfpofimkkiaaGreatDoor
set_option linter.unusedVariables false
set_option linter.unusedSimpArgs false

/-- Points of a move. -/
def wid (m : Mv) : Nat := (m.2.1 - m.1 + 1).toNat
/-- How many lists of k points lead from a state into one that takes. -/
def cnt (l : List St) : Nat → Nat → Nat
  | 0, s => if 0 ≤ rul l s then 1 else 0
  | k + 1, s => ((((l[s]?).map (·.2)).getD []).map fun m => wid m * cnt l k m.2.2.toNat).sum
/-- What the first moves add. -/
def cntM (l : List St) (k : Nat) (ms : List Mv) : Nat := (ms.map fun m => wid m * cnt l k m.2.2.toNat).sum
theorem cntM_take {l : List St} {k : Nat} {ms : List Mv} {j : Nat} {m : Mv} (h : ms[j]? = some m) : cntM l k (ms.take (j + 1)) = cntM l k (ms.take j) + wid m * cnt l k m.2.2.toNat := by
  unfold cntM
  rw [List.take_add_one, h]
  simp
theorem cnt_zero (l : List St) {s : Nat} {st : St} (h : l[s]? = some st) : cnt l 0 s = if 0 ≤ st.1 then 1 else 0 := by
  unfold cnt rul; rw [h]
theorem cnt_succ (l : List St) (k : Nat) {s : Nat} {st : St} (h : l[s]? = some st) : cnt l (k + 1) s = cntM l k st.2 := by
  unfold cnt cntM; rw [h]; rfl

/-- Zeros at the end do not count. -/
theorem vB_strip {b : Nat} {l : List Nat} {n : Nat} (h : ∀ j, n ≤ j → l.getD j 0 = 0) : vB b (l.take n) = vB b l := by
  have e : ∀ k, vB b (l.take (n + k)) = vB b (l.take n) := by
    intro k
    induction k with
    | zero => rfl
    | succ k ih => rw [← Nat.add_assoc, vB_take_getD, h (n + k) (by omega), Nat.mul_zero, Nat.add_zero, ih]
  rw [← e l.length, List.take_of_length_le (by omega)]
/-- The document's decimal: n parts are left, the last of them not 0. -/
theorem dd_strip {l : List Nat} {n : Nat} (hd : ∀ x ∈ l, x < 10) (hn : n ≤ l.length) (h : ∀ j, n ≤ j → l.getD j 0 = 0) (h0 : 0 < n) (hl : l.getD (n - 1) 0 ≠ 0) : Lib.decDigits (vB 10 l) = (l.take n).reverse.map dg := by
  rw [← vB_strip h]
  have hne : l.take n ≠ [] := by
    intro q
    have := congrArg List.length q
    rw [List.length_take, List.length_nil] at this
    omega
  refine dd_parts _ (fun x hx => hd x (List.mem_of_mem_take hx)) hne ?_
  rw [List.getLast_eq_getElem, List.getElem_take]
  rw [List.getD_eq_getElem?_getD, List.getElem?_eq_getElem (by omega)] at hl
  have e : (l.take n).length - 1 = n - 1 := by rw [List.length_take]; omega
  simp only [e]
  exact hl
theorem dd_strip0 {l : List Nat} (h : ∀ j, l.getD j 0 = 0) : Lib.decDigits (vB 10 l) = [48] := by
  rw [← vB_strip (n := 0) (fun j _ => h j)]
  exact dd_small 0 (by decide)
/-- The text so far, from behind. -/
theorem rev_step {l : List Nat} {n i : Nat} (hi : i < n) (hn : n ≤ l.length) : ((l.take n).drop (i + 1)).reverse.map dg ++ [dg (l.getD i 0)] = ((l.take n).drop i).reverse.map dg := by
  have hl : i < (l.take n).length := by rw [List.length_take]; omega
  rw [List.drop_eq_getElem_cons hl, List.reverse_cons, List.map_append, List.getElem_take, List.getD_eq_getElem?_getD, List.getElem?_eq_getElem (by omega)]
  rfl
end Go.Proofs.YtkcpfpofimkkiaaGreatDoor
namespace Go.Proofs.YtkcpfpofimkkiaaGreatDoor
set_option linter.unusedVariables false
set_option linter.unusedSimpArgs false

theorem okM_mvs {n : Nat} : ∀ {ms : List Mv} {last : Int}, okM n last ms = true → -1 ≤ last → ∀ m ∈ ms, 0 ≤ m.1 ∧ m.1 ≤ m.2.1 ∧ m.2.1 ≤ 1114111 ∧ 0 ≤ m.2.2 ∧ m.2.2 < n
  | [], _, _, _, m, hm => by cases hm
  | a :: r, last, h, hl, m, hm => by
    unfold okM at h
    simp only [Bool.and_eq_true, decide_eq_true_eq] at h
    obtain ⟨⟨h1, h2, h3, h4, h5⟩, h6⟩ := h
    rcases List.mem_cons.1 hm with q | q
    · subst q; exact ⟨by omega, h2, h3, h4, h5⟩
    · exact okM_mvs h6 (by omega) m q
theorem okA_mvs {l : List St} (h : okA l = true) : ∀ s ∈ l, ∀ m ∈ s.2, 0 ≤ m.1 ∧ m.1 ≤ m.2.1 ∧ m.2.1 ≤ 1114111 ∧ 0 ≤ m.2.2 ∧ m.2.2 < l.length := fun s hs m hm => by
  unfold okA at h
  simp only [Bool.and_eq_true, List.all_eq_true, decide_eq_true_eq] at h
  have := h.2 s hs
  unfold okS at this
  simp only [Bool.and_eq_true] at this
  exact okM_mvs this.2 (by omega) m hm
theorem wid_lt {m : Mv} (h0 : 0 ≤ m.1) (h : m.2.1 ≤ 1114111) : wid m ≤ 1114112 := by unfold wid; omega
theorem getD_app {α : Type} {L : List α} {x d : α} {s : Nat} : (L ++ [x]).getD s d = if s < L.length then L.getD s d else if s = L.length then x else d := by
  rw [List.getD_eq_getElem?_getD, List.getD_eq_getElem?_getD]
  by_cases h : s < L.length
  · rw [if_pos h, List.getElem?_append_left h]
  · rw [if_neg h, List.getElem?_append_right (by omega)]
    by_cases h2 : s = L.length
    · subst h2; simp
    · rw [if_neg h2, List.getElem?_eq_none (by simp; omega)]; rfl

/-- The document's counts of the first m states behind k rounds. -/
structure DgR (l : List St) (k m : Nat) (L : List (List Nat)) : Prop where
  len : L.length = m
  d : ∀ s, ∀ x ∈ L.getD s [], x < 10
  v : ∀ s, s < m → vB 10 (L.getD s []) = cnt l k s
  b : ∀ s, (L.getD s []).length ≤ 70 * k + 1
theorem DgR.nil (l : List St) (k : Nat) : DgR l k 0 [] := ⟨rfl, fun s x hx => by simp at hx, fun s hs => by omega, fun s => by simp⟩
theorem DgR.push {l : List St} {k m : Nat} {L : List (List Nat)} (h : DgR l k m L) {S : List Nat} (hd : ∀ x ∈ S, x < 10) (hv : vB 10 S = cnt l k m) (hb : S.length ≤ 70 * k + 1) : DgR l k (m + 1) (L ++ [S]) := by
  refine ⟨by rw [List.length_append, h.len]; rfl, fun s x hx => ?_, fun s hs => ?_, fun s => ?_⟩
  · rw [getD_app] at hx
    split at hx
    · exact h.d s x hx
    · split at hx
      · exact hd x hx
      · simp at hx
  · rw [getD_app, h.len]
    by_cases q : s < m
    · rw [if_pos q]; exact h.v s q
    · obtain rfl : s = m := by omega
      rw [if_neg q, if_pos rfl]; exact hv
  · rw [getD_app]
    split
    · exact h.b s
    · split
      · exact hb
      · simp
theorem DgR.push0 {l : List St} {m : Nat} {L : List (List Nat)} (h : DgR l 0 m L) {st : St} (hs : l[m]? = some st) : DgR l 0 (m + 1) (L ++ [if 0 ≤ st.1 then [1] else []]) := by
  refine h.push (fun x hx => ?_) ?_ ?_
  · split at hx
    · rw [List.mem_singleton] at hx; omega
    · simp at hx
  · rw [cnt_zero l hs]
    split
    · rfl
    · rfl
  · split <;> simp
/-- The document's sum of the first j moves. -/
structure DgS (l : List St) (k : Nat) (ms : List Mv) (j : Nat) (S : List Nat) : Prop where
  d : ∀ x ∈ S, x < 10
  v : vB 10 S = cntM l k (ms.take j)
  b : S.length ≤ 70 * k + 8 + j
theorem DgS.start (l : List St) (k : Nat) (ms : List Mv) : DgS l k ms 0 [] := ⟨fun x hx => by simp at hx, by simp [vB, cntM], by simp⟩
theorem DgS.add {l : List St} {k j : Nat} {ms : List Mv} {S D : List Nat} {m : Mv} (h : DgS l k ms j S) (hm : ms[j]? = some m) (hw : wid m ≤ 1114112) (hd : ∀ x ∈ D, x < 10) (hv : vB 10 D = cnt l k m.2.2.toNat) (hb : D.length ≤ 70 * k + 1) :
    DgS l k ms (j + 1) (pls S (tby (wid m) D 0) 0) ∧ (tby (wid m) D 0).length ≤ 70 * k + 8 ∧ ∀ x ∈ tby (wid m) D 0, x < 10 := by
  have h1 := tby_len (wid m) 7 (by omega) D 0 hd (Nat.zero_le _)
  have h2 := pls_val _ S (tby (wid m) D 0) 0 (Nat.le_refl _)
  have h3 := pls_len (70 * k + 8 + j) S (tby (wid m) D 0) 0 h.b (by omega) h.d (tby_small _ _ _) (by decide)
  exact ⟨⟨h2.2, by rw [h2.1, h.v, tby_val, hv, cntM_take hm]; omega, by omega⟩, by omega, tby_small _ _ _⟩
theorem DgS.done {l : List St} {k m : Nat} {st : St} {S : List Nat} (h : DgS l k st.2 st.2.length S) (hs : l[m]? = some st) (h60 : st.2.length ≤ 60) : (∀ x ∈ S, x < 10) ∧ vB 10 S = cnt l (k + 1) m ∧ S.length ≤ 70 * (k + 1) + 1 :=
  ⟨h.d, by rw [h.v, List.take_length, cnt_succ l k hs], by have := h.b; omega⟩

/-- The program's counts behind k rounds; of the first m states. -/
structure PgR (l : List St) (k n : Nat) (L : List (List Nat)) : Prop where
  len : L.length = n
  nm : ∀ s, s < n → Nm (L.getD s [])
  v : ∀ s, s < n → vB 1000000000 (L.getD s []) = cnt l k s
  b : ∀ s, s < n → (L.getD s []).length ≤ 70 * k + 1
/-- The program's next counts under way: of the first m states done, of those behind none begun, of state m the first j moves. -/
structure PgS (l : List St) (k n m : Nat) (L : List (List Nat)) : Prop where
  len : L.length = n
  nm : ∀ s, s < n → Nm (L.getD s [])
  v : ∀ s, s < m → vB 1000000000 (L.getD s []) = cnt l (k + 1) s
  b : ∀ s, s < m → (L.getD s []).length ≤ 70 * (k + 1) + 1
  z : ∀ s, m ≤ s → L.getD s [] = []
structure PgM (l : List St) (k n m : Nat) (L : List (List Nat)) (ms : List Mv) (j : Nat) : Prop where
  len : L.length = n
  nm : ∀ s, s < n → Nm (L.getD s [])
  v : ∀ s, s < m → vB 1000000000 (L.getD s []) = cnt l (k + 1) s
  b : ∀ s, s < m → (L.getD s []).length ≤ 70 * (k + 1) + 1
  z : ∀ s, m < s → L.getD s [] = []
  vm : vB 1000000000 (L.getD m []) = cntM l k (ms.take j)
  bm : (L.getD m []).length ≤ 70 * k + 2 + j
theorem PgS.start (l : List St) (k n : Nat) : PgS l k n 0 (List.replicate n []) := by
  have e : ∀ s, (List.replicate n ([] : List Nat)).getD s [] = [] := fun s => by
    rw [List.getD_eq_getElem?_getD, List.getElem?_replicate]; split <;> rfl
  exact ⟨List.length_replicate, fun s _ => by rw [e]; exact Nm.nil, fun s h => by omega, fun s h => by omega, fun s _ => e s⟩
theorem PgS.enter {l : List St} {k n m : Nat} {L : List (List Nat)} (h : PgS l k n m L) (ms : List Mv) : PgM l k n m L ms 0 :=
  ⟨h.len, h.nm, h.v, h.b, fun s hs => h.z s (by omega), by rw [h.z m (Nat.le_refl _)]; simp [vB, cntM], by rw [h.z m (Nat.le_refl _)]; simp⟩
theorem getD_set {L : List (List Nat)} {m s : Nat} {x : List Nat} (hm : m < L.length) : (L.set m x).getD s [] = if m = s then x else L.getD s [] := by
  rw [List.getD_eq_getElem?_getD, List.getD_eq_getElem?_getD, List.getElem?_set]
  by_cases q : m = s
  · subst q; rw [if_pos rfl, if_pos hm, if_pos rfl]; rfl
  · rw [if_neg q, if_neg q]
theorem PgM.add {l : List St} {k n m j : Nat} {L : List (List Nat)} {ms : List Mv} {mv : Mv} (h : PgM l k n m L ms j) (hmn : m < n) (hmv : ms[j]? = some mv) {S D P : List Nat} (hD : vB 1000000000 D = cnt l k mv.2.2.toNat) (hP : vB 1000000000 P = wid mv * vB 1000000000 D) (hPl : P.length ≤ 70 * k + 2)
    (hS : vB 1000000000 S = vB 1000000000 (L.getD m []) + vB 1000000000 P) (hSN : Nm S) (hSl : S.length ≤ max (L.getD m []).length P.length + 1) : PgM l k n m (L.set m S) ms (j + 1) := by
  have hml : m < L.length := by rw [h.len]; exact hmn
  refine ⟨by rw [List.length_set]; exact h.len, fun s hs => ?_, fun s hs => ?_, fun s hs => ?_, fun s hs => ?_, ?_, ?_⟩
  · rw [getD_set hml]
    split
    · exact hSN
    · exact h.nm s hs
  · rw [getD_set hml, if_neg (by omega)]; exact h.v s hs
  · rw [getD_set hml, if_neg (by omega)]; exact h.b s hs
  · rw [getD_set hml, if_neg (by omega)]; exact h.z s hs
  · rw [getD_set hml, if_pos rfl, hS, h.vm, hP, hD, cntM_take hmv]
  · rw [getD_set hml, if_pos rfl]
    have := h.bm
    omega
theorem PgM.done {l : List St} {k n m : Nat} {L : List (List Nat)} {st : St} (h : PgM l k n m L st.2 st.2.length) (hs : l[m]? = some st) (h60 : st.2.length ≤ 60) : PgS l k n (m + 1) L := by
  refine ⟨h.len, h.nm, fun s hs2 => ?_, fun s hs2 => ?_, fun s hs2 => h.z s (by omega)⟩
  · by_cases q : s < m
    · exact h.v s q
    · obtain rfl : s = m := by omega
      rw [h.vm, List.take_length, cnt_succ l k hs]
  · by_cases q : s < m
    · exact h.b s q
    · obtain rfl : s = m := by omega
      have := h.bm
      omega
theorem PgS.done {l : List St} {k n : Nat} {L : List (List Nat)} (h : PgS l k n n L) : PgR l (k + 1) n L := ⟨h.len, h.nm, h.v, h.b⟩
/-- At the start: the first m states done. -/
structure Pg0 (l : List St) (n m : Nat) (L : List (List Nat)) : Prop where
  len : L.length = n
  nm : ∀ s, s < n → Nm (L.getD s [])
  v : ∀ s, s < m → vB 1000000000 (L.getD s []) = cnt l 0 s
  b : ∀ s, s < n → (L.getD s []).length ≤ 1
  z : ∀ s, m ≤ s → L.getD s [] = []
theorem Pg0.start (l : List St) (n : Nat) : Pg0 l n 0 (List.replicate n []) := by
  have e : ∀ s, (List.replicate n ([] : List Nat)).getD s [] = [] := fun s => by
    rw [List.getD_eq_getElem?_getD, List.getElem?_replicate]; split <;> rfl
  exact ⟨List.length_replicate, fun s _ => by rw [e]; exact Nm.nil, fun s h => by omega, fun s h => by rw [e]; simp, fun s _ => e s⟩
theorem Pg0.yes {l : List St} {n m : Nat} {L : List (List Nat)} {st : St} (h : Pg0 l n m L) (hmn : m < n) (hs : l[m]? = some st) (hr : 0 ≤ st.1) : Pg0 l n (m + 1) (L.set m [1]) := by
  have hml : m < L.length := by rw [h.len]; exact hmn
  refine ⟨by rw [List.length_set]; exact h.len, fun s hs => ?_, fun s hs2 => ?_, fun s hs => ?_, fun s hs => ?_⟩
  · rw [getD_set hml]
    split
    · exact Nm.of_last (l := []) (fun y hy => by simp at hy) (by decide) (by decide)
    · exact h.nm s hs
  · rw [getD_set hml]
    split
    · rename_i q
      subst q
      rw [cnt_zero l hs, if_pos hr]; rfl
    · exact h.v s (by omega)
  · rw [getD_set hml]
    split
    · simp
    · exact h.b s hs
  · rw [getD_set hml, if_neg (by omega)]; exact h.z s (by omega)
theorem Pg0.no {l : List St} {n m : Nat} {L : List (List Nat)} {st : St} (h : Pg0 l n m L) (hs : l[m]? = some st) (hr : ¬ 0 ≤ st.1) : Pg0 l n (m + 1) L := by
  refine ⟨h.len, h.nm, fun s hs2 => ?_, h.b, fun s hs2 => h.z s (by omega)⟩
  by_cases q : s < m
  · exact h.v s q
  · obtain rfl : s = m := by omega
    rw [h.z s (Nat.le_refl _), cnt_zero l hs, if_neg hr]; rfl
theorem Pg0.done {l : List St} {n : Nat} {L : List (List Nat)} (h : Pg0 l n n L) : PgR l 0 n L := ⟨h.len, h.nm, h.v, fun s hs => by have := h.b s hs; omega⟩
end Go.Proofs.YtkcpfpofimkkiaaGreatDoor
namespace Go.Proofs.YtkcpfpofimkkiaaGreatDoor
open Go.RowKit BigFrame
set_option linter.unusedVariables false
set_option linter.unusedSimpArgs false
set_option maxRecDepth 100000

/-- Digits as integers. -/
def dv (l : List Nat) : List Int := l.map fun (x : Nat) => (x : Int)
theorem dv_len (l : List Nat) : (dv l).length = l.length := List.length_map _
theorem dv_nth {l : List Nat} {k : Nat} (h : k < l.length) : nth (dv l) k = ((l.getD k 0 : Nat) : Int) := by
  rw [nth_get (by rw [dv_len]; exact h)]
  unfold dv
  rw [List.getElem_map, List.getD_eq_getElem?_getD, List.getElem?_eq_getElem h]; rfl
theorem dv_snoc (l : List Nat) (x : Nat) : iv (dv (l ++ [x])) = iv (dv l) ++ [.int .i64 (x : Int)] := by unfold iv dv; rw [List.map_append, List.map_append]; rfl
/-- A slice of digits. -/
def RdD (w : World) (B : Nat) (A : Option Addr) (l : List Nat) : Prop := RdI w B A (dv l)
theorem RdD.at_ {w : World} {B : Nat} {A : Option Addr} {l : List Nat} (h : RdD w B A l) (hn : 0 < l.length) :
    ∃ b off, A = some ⟨b, off, none⟩ ∧ b < B ∧ ∀ k, k < l.length → w.cell? ⟨b, off + k, none⟩ = some (.int .i64 ((l.getD k 0 : Nat) : Int)) := by
  obtain ⟨b, off, e, hb, hc⟩ := RdI.at_ h (by rw [dv_len]; exact hn)
  exact ⟨b, off, e, hb, fun k hk => by rw [hc k (by rw [dv_len]; exact hk), dv_nth hk]⟩
theorem RdD.below {w w' : World} {B : Nat} {A : Option Addr} {l : List Nat} (h : RdD w B A l) (hb : Below B w w') : RdD w' B A l := RdI.below h hb
theorem RdD.more {w : World} {B B' : Nat} {A : Option Addr} {l : List Nat} (h : RdD w B A l) (hB : B ≤ B') : RdD w B' A l := RdI.more h hB
def OwD (w : World) (base : Nat) (v : Value) (l : List Nat) : Prop := w.ownsRow base 3 1 v l.length (iv (dv l))
theorem OwD.nil (w : World) (base : Nat) : OwD w base (.slice none 0 0) [] := World.ownsRow_nil _ _ _ _
theorem OwD.form {w : World} {base : Nat} {v : Value} {l : List Nat} (h : OwD w base v l) : ∃ A c, v = .slice A l.length c ∧ l.length ≤ c ∧ c ≤ maxLen ∧ RdD w w.heap.size A l := by
  obtain ⟨A, c, e, h1, h2, h3⟩ := own_form h
  exact ⟨A, c, e, h1, h2, h3⟩
theorem OwD.ext {w w' : World} {base : Nat} {v : Value} {l : List Nat} (h : OwD w base v l) (hb : Below w.heap.size w w') : OwD w' base v l := own_ext h hb
theorem OwD.snoc {w : World} {base : Nat} {v : Value} {l : List Nat} {t : Int} {x : Nat} (h : w.ownsRow base 3 1 v (l.length + 1) (iv (dv l) ++ [.int .i64 t])) (e : t = (x : Int)) : OwD w base v (l ++ [x]) := by
  subst e
  unfold OwD
  rw [List.length_append, dv_snoc]; exact h

theorem tby_round {n : Nat} {l : List Nat} {i c : Nat} (h : i < l.length ∨ 0 < c) : tby n (l.drop i) c = (c + l.getD i 0 * n) % 10 :: tby n (l.drop (i + 1)) ((c + l.getD i 0 * n) / 10) := by
  by_cases hi : i < l.length
  · rw [List.drop_eq_getElem_cons hi, tby_cons, List.getD_eq_getElem?_getD, List.getElem?_eq_getElem hi]; rfl
  · rw [List.drop_of_length_le (by omega), List.drop_of_length_le (by omega), tby_nil n (by rcases h with q | q; exact absurd q hi; exact q), List.getD_eq_getElem?_getD, List.getElem?_eq_none (by omega)]
    simp
theorem tby_end {n : Nat} {l : List Nat} {i c : Nat} (h : ¬ i < l.length) (hc : c = 0) : tby n (l.drop i) c = [] := by
  rw [hc, List.drop_of_length_le (by omega), tby_nil0]

set_option maxHeartbeats 4000000 in
theorem timesBy_any (A : Option Addr) (n c m : Nat) (l : List Nat) (w : World) (B : Nat) (hB : B ≤ w.heap.size) (h : RdD w B A l) (hl : l.length = n) (hn : n ≤ 1000000) (hd : ∀ x ∈ l, x < 10) (hm : m ≤ 10000000) (hlen : (tby m l 0).length ≤ 2000000) :
    Calls Tryz.prog 25 #[.slice A n c, .int .i64 (m : Int)] w fun e w' => ∃ v, e = .returned v ∧ OwD w' w.heap.size v (tby m l 0) ∧ Below w.heap.size w w' := by
  have H := Lib.hid h; have HL := Lib.hid hl; have HD := Lib.hid hd; have HLEN := Lib.hid hlen
  clear h hl hd hlen
  go_enter Tryz.func25, Tryz.ntmps25
  go_wp2_with fail
  go_loopg [5, 6, 7] (tby m l 0).length (fun gk v cy i wr => ∃ (k c : Nat) (out : List Nat), i = .int .i64 (k : Int) ∧ cy = .int .i64 (c : Int) ∧ c ≤ m ∧ k ≤ 2000000 ∧ gk = (tby m (l.drop k) c).length ∧ Hid (out.length = k) ∧ Hid (tby m l 0 = out ++ tby m (l.drop k) c) ∧ Hid (OwD wr w.heap.size v out) ∧ Hid (Below w.heap.size w wr))
  case atStart => exact ⟨0, 0, [], rfl, rfl, Nat.zero_le _, Nat.zero_le _, rfl, rfl, rfl, OwD.nil _ _, Below.refl _ _⟩
  case round =>
    as_aux_lemma =>
      obtain ⟨k, cy, out, rfl, rfl, hcy, hk, hgk, HO, HT, HV, HW⟩ := hrel
      have hz := HW.out.size
      have HGK := Lib.hid hgk
      clear hgk
      by_cases hgo : k < n ∨ 0 < cy
      · as_aux_lemma =>
          have hR := tby_round (n := m) (l := l) (i := k) (c := cy) (by rw [HL.out]; exact hgo)
          have hx := getD_lt (b := 10) (by decide) HD.out k
          obtain ⟨x, hxe⟩ : ∃ x, x = l.getD k 0 := ⟨_, rfl⟩
          rw [← hxe] at hx hR
          obtain ⟨p, hp⟩ : ∃ p : Nat, x * m = p := ⟨_, rfl⟩
          have hpm : p ≤ 9 * m := by rw [← hp]; exact Nat.mul_le_mul_right m (by omega)
          have hcn : (cy + p) / 10 ≤ m := by omega
          rw [hp] at hR
          have HR := Lib.hid hR
          have hol : out.length ≤ 2000000 := by rw [HO.out]; exact hk
          have hk2 : k + 1 ≤ 2000000 := by
            have h1 := HLEN.out
            rw [HT.out, List.length_append, HO.out, hR, List.length_cons] at h1
            omega
          have HT2 : Hid (tby m l 0 = (out ++ [(cy + p) % 10]) ++ tby m (l.drop (k + 1)) ((cy + p) / 10)) := Lib.hid (by rw [HT.out, hR]; simp)
          have HO2 : Hid ((out ++ [(cy + p) % 10]).length = k + 1) := Lib.hid (by rw [List.length_append, HO.out]; rfl)
          clear hR
          by_cases hkn : k < n
          · as_aux_lemma =>
              have d0 : decide (k < n) = true := decide_eq_true (by omega)
              have hpi : (x : Int) * (m : Int) = (p : Int) := by rw [← hp]; simp
              obtain ⟨ba, oa, rfl, hba, hca⟩ := (H.out.below (HW.out.mono hB)).at_ (by rw [HL.out]; omega)
              have ca := hca k (by rw [HL.out]; exact hkn)
              rw [← hxe] at ca
              clear hca hxe hp hgo
              go_wp2_with (at_builtin; refine wpList_app elIn rfl (.tmp 30) (.tmp 33) rfl w.heap.size _ out.length 1 (iv (dv out)) [.int .i64 (((cy : Int) + (p : Int)) % 10)] rfl HV.out rfl rfl (by simp [Value.oneCell']) (by omega) (by omega) hz ?_; intro v' w1 hown2 hg hat)
              go_roundg (tby m (l.drop (k + 1)) ((cy + p) / 10)).length
              case rel => exact ⟨k + 1, (cy + p) / 10, out ++ [(cy + p) % 10], by go_num, by congr 1, hcn, hk2, rfl, HO2.out, HT2.out, OwD.snoc hown2 (by omega), HW.out.grown hg hz (own_base HV.out)⟩
              case measure => rw [HGK.out, HR.out, List.length_cons]; omega
          · as_aux_lemma =>
              have d0 : decide (k < n) = false := decide_eq_false (by omega)
              have d1 : decide (0 < cy) = true := decide_eq_true (by omega)
              have hx0 : x = 0 := by rw [hxe, List.getD_eq_getElem?_getD, List.getElem?_eq_none (by rw [HL.out]; omega)]; rfl
              have hp0 : p = 0 := by rw [← hp, hx0, Nat.zero_mul]
              have HP0 := Lib.hid hp0
              clear hxe hp hgo hx0 hp0
              go_wp2_with (at_builtin; refine wpList_app elIn rfl (.tmp 30) (.tmp 33) rfl w.heap.size _ out.length 1 (iv (dv out)) [.int .i64 ((cy : Int) % 10)] rfl HV.out rfl rfl (by simp [Value.oneCell']) (by omega) (by omega) hz ?_; intro v' w1 hown2 hg hat)
              go_roundg (tby m (l.drop (k + 1)) ((cy + p) / 10)).length
              case rel =>
                obtain rfl := HP0.out
                exact ⟨k + 1, (cy + 0) / 10, out ++ [(cy + 0) % 10], by go_num, by congr 1, hcn, hk2, rfl, HO2.out, HT2.out, OwD.snoc hown2 (by omega), HW.out.grown hg hz (own_base HV.out)⟩
              case measure => rw [HGK.out, HR.out, List.length_cons]; omega
      · as_aux_lemma =>
          have d0 : decide (k < n) = false := decide_eq_false (by omega)
          have d1 : decide (0 < cy) = false := decide_eq_false (by omega)
          have HE : Hid (tby m l 0 = out) := Lib.hid (by rw [HT.out, tby_end (by rw [HL.out]; omega) (by omega), List.append_nil])
          have hkn : ¬ k < n := by omega
          clear hgo
          go_wp2_with fail
          go_ret
          exact ⟨_, rfl, by rw [HE.out]; exact HV.out, HW.out⟩
end Go.Proofs.YtkcpfpofimkkiaaGreatDoor
