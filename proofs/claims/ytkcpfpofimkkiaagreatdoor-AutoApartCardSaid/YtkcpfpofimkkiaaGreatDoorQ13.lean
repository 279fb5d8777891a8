/- Plain: pairs of states in the order in which they are come to; by all points, by tiles. · Rows of truths: a list of slices of truths, each row in a block of its own. · Memory: rows of integers read, and made by append. -/
import Derived.Test.YtkcpfpofimkkiaaGreatDoorQ12
import Derived.Test.YtkcpfpofimkkiaaGreatDoorQ7
import Derived.Test.YtkcpfpofimkkiaaGreatDoorQ11
namespace Go.Proofs.YtkcpfpofimkkiaaGreatDoor
set_option linter.unusedVariables false
set_option linter.unusedSimpArgs false

/-- No half of a pair. -/
def vpt (p : Int) : Bool := !(decide (55296 ≤ p) && decide (p ≤ 57343))
/-- The first point of a stretch that is no half. -/
def fpt (r : Int × Int) : Option Int :=
  let p := if 55296 ≤ r.1 ∧ r.1 ≤ 57343 then 57344 else r.1
  if p ≤ r.2 then some p else none
/-- A pair come to: the two states, the points behind which they stand. -/
abbrev Nd := (Nat × Nat) × List Int
def addN (st : Nat × Nat → Int → Nat × Nat) (n : Nd) (T : List Nd) (p : Int) : List Nd :=
  if st n.1 p ∈ T.map (·.1) then T else T ++ [(st n.1 p, n.2 ++ [p])]
def rowN (st : Nat × Nat → Int → Nat × Nat) (n : Nd) (ps : List Int) (T : List Nd) : List Nd := ps.foldl (addN st n) T
theorem addN_mem {st : Nat × Nat → Int → Nat × Nat} {n : Nd} {T : List Nd} {p : Int} : st n.1 p ∈ (addN st n T p).map (·.1) := by
  unfold addN
  split
  · assumption
  · simp
theorem addN_keep {st : Nat × Nat → Int → Nat × Nat} {n : Nd} {T : List Nd} {p : Int} {k : Nat × Nat} (h : k ∈ T.map (·.1)) : k ∈ (addN st n T p).map (·.1) := by
  unfold addN
  split
  · exact h
  · rw [List.map_append]; exact List.mem_append_left _ h
theorem rowN_keep {st : Nat × Nat → Int → Nat × Nat} {n : Nd} {k : Nat × Nat} : ∀ {ps : List Int} {T : List Nd}, k ∈ T.map (·.1) → k ∈ (rowN st n ps T).map (·.1)
  | [], T, h => h
  | p :: ps, T, h => rowN_keep (ps := ps) (addN_keep h)
theorem rowN_mem {st : Nat × Nat → Int → Nat × Nat} {n : Nd} {q : Int} : ∀ {ps : List Int} {T : List Nd}, q ∈ ps → st n.1 q ∈ (rowN st n ps T).map (·.1)
  | p :: ps, T, h => by
    rcases List.mem_cons.1 h with rfl | h
    · exact rowN_keep (ps := ps) addN_mem
    · exact rowN_mem (ps := ps) h
theorem rowN_app {st : Nat × Nat → Int → Nat × Nat} {n : Nd} (ps qs : List Int) (T : List Nd) : rowN st n (ps ++ qs) T = rowN st n qs (rowN st n ps T) := List.foldl_append
/-- Points behind which nothing is new. -/
theorem rowN_idle {st : Nat × Nat → Int → Nat × Nat} {n : Nd} : ∀ {ps : List Int} {T : List Nd}, (∀ p ∈ ps, st n.1 p ∈ T.map (·.1)) → rowN st n ps T = T
  | [], T, h => rfl
  | p :: ps, T, h => by
    have h1 : addN st n T p = T := by unfold addN; rw [if_pos (h p List.mem_cons_self)]
    show rowN st n ps (addN st n T p) = T
    rw [h1]
    exact rowN_idle fun q hq => h q (List.mem_cons_of_mem _ hq)
/-- n points from a on. -/
def pts (a : Int) : Nat → List Int
  | 0 => []
  | n + 1 => a :: pts (a + 1) n
theorem pts_app (a : Int) : ∀ (n m : Nat), pts a (n + m) = pts a n ++ pts (a + n) m
  | 0, m => by simp [pts]
  | n + 1, m => by
    rw [show n + 1 + m = (n + m) + 1 by omega, pts, pts_app (a + 1) n m, pts, List.cons_append, show a + 1 + (n : Int) = a + ((n + 1 : Nat) : Int) by omega]
theorem pts_mem {a : Int} : ∀ {n : Nat} {p : Int}, p ∈ pts a n ↔ a ≤ p ∧ p < a + n
  | 0, p => by simp only [pts, List.not_mem_nil, false_iff]; omega
  | n + 1, p => by
    rw [pts, List.mem_cons, pts_mem]
    omega
/-- The points of a stretch that are no halves: the first one, and others. -/
theorem tile_pts {lo : Int} : ∀ (n : Nat), (fpt (lo, lo + n) = none ∧ (pts lo (n + 1)).filter vpt = []) ∨ ∃ p t, fpt (lo, lo + n) = some p ∧ (pts lo (n + 1)).filter vpt = p :: t ∧ ∀ q ∈ p :: t, lo ≤ q ∧ q ≤ lo + n := by
  intro n
  by_cases h : 55296 ≤ lo ∧ lo ≤ 57343
  · by_cases h2 : 57344 ≤ lo + n
    · right
      obtain ⟨k, hk⟩ : ∃ k : Nat, (57344 : Int) = lo + k := ⟨(57344 - lo).toNat, by omega⟩
      obtain ⟨m, hm⟩ : ∃ m : Nat, n + 1 = k + (m + 1) := ⟨n - k, by omega⟩
      refine ⟨57344, (pts (lo + k + 1) m).filter vpt, ?_, ?_, fun q hq => ?_⟩
      · unfold fpt; simp only; rw [if_pos h, if_pos h2]
      · rw [hm, pts_app, List.filter_append]
        have e : (pts lo k).filter vpt = [] := by
          rw [List.filter_eq_nil_iff]
          intro p hp
          have := pts_mem.1 hp
          unfold vpt
          simp
          omega
        rw [e, List.nil_append, pts, List.filter_cons_of_pos (by rw [← hk]; rfl), ← hk]
      · rcases List.mem_cons.1 hq with rfl | hq
        · omega
        · have := pts_mem.1 (List.mem_filter.1 hq).1
          omega
    · left
      refine ⟨by unfold fpt; simp only; rw [if_pos h, if_neg h2], ?_⟩
      rw [List.filter_eq_nil_iff]
      intro p hp
      have := pts_mem.1 hp
      unfold vpt
      simp
      omega
  · right
    refine ⟨lo, (pts (lo + 1) n).filter vpt, ?_, ?_, fun q hq => ?_⟩
    · unfold fpt; simp only; rw [if_neg h, if_pos (by omega)]
    · rw [pts, List.filter_cons_of_pos (by unfold vpt; simp; omega)]
    · rcases List.mem_cons.1 hq with rfl | hq
      · omega
      · have := pts_mem.1 (List.mem_filter.1 hq).1
        omega
theorem tiles_le : ∀ {a b : Int} {X : List (Int × Int)}, Tiles a X b → a ≤ b + 1
  | _, _, _, .nil _ => by omega
  | _, _, _, .cons h1 h2 => by have := tiles_le h2; omega
/-- By tiles on which nothing changes: as by all points. -/
theorem rowN_tiles {st : Nat × Nat → Int → Nat × Nat} {n : Nd} : ∀ {X : List (Int × Int)} {a b : Int}, Tiles a X b → (∀ r ∈ X, ∀ p, r.1 ≤ p → p ≤ r.2 → st n.1 p = st n.1 r.1) → ∀ T : List Nd,
    rowN st n (X.filterMap fpt) T = rowN st n ((pts a (b + 1 - a).toNat).filter vpt) T
  | _, a, _, .nil _, _, T => by rw [show a - 1 + 1 - a = 0 by omega]; rfl
  | _, lo, b, .cons (lo := _) (hi := hi) (r := X) h1 h2, hc, T => by
    obtain ⟨k, rfl⟩ : ∃ k : Nat, hi = lo + k := ⟨(hi - lo).toNat, by omega⟩
    have hb : lo + k ≤ b := by have := tiles_le h2; omega
    have e : (b + 1 - lo).toNat = (k + 1) + (b + 1 - (lo + k + 1)).toNat := by omega
    rw [e, pts_app, List.filter_append, rowN_app, show lo + ((k + 1 : Nat) : Int) = lo + k + 1 by omega, ← rowN_tiles h2 (fun r hr => hc r (List.mem_cons_of_mem _ hr))]
    rcases tile_pts (lo := lo) k with ⟨q1, q2⟩ | ⟨p, t, q1, q2, q3⟩
    · rw [List.filterMap_cons_none q1, q2]; rfl
    · rw [List.filterMap_cons_some q1, q2]
      show rowN st n (X.filterMap fpt) (addN st n T p) = rowN st n (X.filterMap fpt) (rowN st n t (addN st n T p))
      rw [rowN_idle (ps := t) (T := addN st n T p) fun q hq => ?_]
      have c1 := hc (lo, lo + k) List.mem_cons_self q (q3 q (List.mem_cons_of_mem _ hq)).1 (q3 q (List.mem_cons_of_mem _ hq)).2
      have c2 := hc (lo, lo + k) List.mem_cons_self p (q3 p List.mem_cons_self).1 (q3 p List.mem_cons_self).2
      rw [c1, ← c2]
      exact addN_mem
/-- What is come to behind i pairs. -/
def stN (st : Nat × Nat → Int → Nat × Nat) (ps : List Int) : Nat → List Nd
  | 0 => [((0, 0), [])]
  | i + 1 => match (stN st ps i)[i]? with
    | some n => rowN st n ps (stN st ps i)
    | none => stN st ps i
theorem stN_succ {st : Nat × Nat → Int → Nat × Nat} {ps : List Int} {i : Nat} {n : Nd} (h : (stN st ps i)[i]? = some n) : stN st ps (i + 1) = rowN st n ps (stN st ps i) := by
  rw [stN, h]
theorem stN_tiles {st : Nat × Nat → Int → Nat × Nat} {X : List (Int × Int)} (h : Tiles 0 X 1114111) (hc : ∀ s, ∀ r ∈ X, ∀ p, r.1 ≤ p → p ≤ r.2 → st s p = st s r.1) : ∀ i, stN st (X.filterMap fpt) i = stN st ((pts 0 1114112).filter vpt) i
  | 0 => rfl
  | i + 1 => by
    rw [stN, stN, stN_tiles h hc i]
    split
    · rename_i n hn
      have := rowN_tiles (n := n) h (hc n.1) (stN st ((pts 0 1114112).filter vpt) i)
      simpa using this
    · rfl
/-- The answer of a search. -/
inductive AnsN (st : Nat × Nat → Int → Nat × Nat) (ps : List Int) (hit : Nat × Nat → Bool) : Option (List Int) → Prop
  | yes (i : Nat) (n : Nd) : (stN st ps i)[i]? = some n → hit n.1 = true → (∀ j, j < i → ∀ m, (stN st ps j)[j]? = some m → hit m.1 = false) → AnsN st ps hit (some n.2)
  | no (i : Nat) : (stN st ps i).length ≤ i → (∀ j, j < i → ∀ m, (stN st ps j)[j]? = some m → hit m.1 = false) → AnsN st ps hit none
theorem stN_stop {st : Nat × Nat → Int → Nat × Nat} {ps : List Int} {i : Nat} (h : (stN st ps i).length ≤ i) : ∀ k, stN st ps (i + k) = stN st ps i
  | 0 => rfl
  | k + 1 => by
    rw [← Nat.add_assoc, stN, stN_stop h k, List.getElem?_eq_none (by omega)]
theorem AnsN.uniq {st : Nat × Nat → Int → Nat × Nat} {ps : List Int} {hit : Nat × Nat → Bool} {r r' : Option (List Int)} (h : AnsN st ps hit r) (h' : AnsN st ps hit r') : r = r' := by
  have key : ∀ {i j n}, (stN st ps i).length ≤ i → (∀ k, k < i → ∀ m, (stN st ps k)[k]? = some m → hit m.1 = false) → (stN st ps j)[j]? = some n → hit n.1 = true → False := by
    intro i j n h1 h2 h3 h4
    rcases Nat.lt_or_ge j i with q | q
    · rw [h2 j q n h3] at h4; cases h4
    · obtain ⟨k, rfl⟩ := Nat.exists_eq_add_of_le q
      rw [stN_stop h1, List.getElem?_eq_none (by omega)] at h3
      cases h3
  cases h with
  | yes i n a1 a2 a3 =>
    cases h' with
    | yes j m b1 b2 b3 =>
      rcases Nat.lt_trichotomy i j with q | q | q
      · rw [b3 i q n a1] at a2; cases a2
      · subst q
        rw [a1] at b1; cases b1; rfl
      · rw [a3 j q m b1] at b2; cases b2
    | no j b1 b2 => exact (key b1 b2 a1 a2).elim
  | no i a1 a2 =>
    cases h' with
    | yes j m b1 b2 b3 => exact (key a1 a2 b1 b2).elim
    | no j b1 b2 => rfl
theorem AnsN.tiles {st : Nat × Nat → Int → Nat × Nat} {X : List (Int × Int)} {hit : Nat × Nat → Bool} {r : Option (List Int)} (h : Tiles 0 X 1114111) (hc : ∀ s, ∀ r ∈ X, ∀ p, r.1 ≤ p → p ≤ r.2 → st s p = st s r.1) (ha : AnsN st (X.filterMap fpt) hit r) : AnsN st ((pts 0 1114112).filter vpt) hit r := by
  have e := stN_tiles h hc
  cases ha with
  | yes i n a1 a2 a3 => exact .yes i n (by rw [← e]; exact a1) a2 fun j hj m hm => a3 j hj m (by rw [e]; exact hm)
  | no i a1 a2 => exact .no i (by rw [← e]; exact a1) fun j hj m hm => a2 j hj m (by rw [e]; exact hm)
/-- Pairs come to: each but once, all within bounds. -/
structure OkN (N M : Nat) (T : List Nd) : Prop where
  nd : (T.map (·.1)).Nodup
  bd : ∀ n ∈ T, n.1.1 ≤ N ∧ n.1.2 ≤ M
theorem OkN.len {N M : Nat} {T : List Nd} (h : OkN N M T) : T.length ≤ (N + 1) * (M + 1) := by
  have h1 : (T.map fun n => n.1.1 * (M + 1) + n.1.2).Nodup := by
    have := h.nd
    unfold List.Nodup at this ⊢
    rw [List.pairwise_map] at this ⊢
    refine (List.Pairwise.imp_of_mem ?_) this
    intro a b ha hb hne e
    have b1 := h.bd a ha
    have b2 := h.bd b hb
    have e1 : a.1.1 = b.1.1 := by
      have q1 : (a.1.1 * (M + 1) + a.1.2) / (M + 1) = a.1.1 := by rw [Nat.mul_comm, Nat.mul_add_div (by omega), Nat.div_eq_of_lt (by omega)]; omega
      have q2 : (b.1.1 * (M + 1) + b.1.2) / (M + 1) = b.1.1 := by rw [Nat.mul_comm, Nat.mul_add_div (by omega), Nat.div_eq_of_lt (by omega)]; omega
      rw [← q1, ← q2, e]
    refine hne (Prod.ext e1 ?_)
    rw [e1] at e
    omega
  have h2 : (T.map fun n => n.1.1 * (M + 1) + n.1.2) ⊆ List.range ((N + 1) * (M + 1)) := fun x hx => by
    obtain ⟨n, hn, rfl⟩ := List.mem_map.1 hx
    have b := h.bd n hn
    rw [List.mem_range]
    have := Nat.mul_le_mul_right (M + 1) b.1
    rw [Nat.add_mul]
    omega
  have := len_le_of_sub h1 (fun x hx => h2 hx)
  simpa using this
theorem OkN.start (N M : Nat) : OkN N M [((0, 0), [])] := ⟨by simp, fun n hn => by rw [List.mem_singleton] at hn; rw [hn]; exact ⟨Nat.zero_le _, Nat.zero_le _⟩⟩
theorem OkN.add {st : Nat × Nat → Int → Nat × Nat} {N M : Nat} {T : List Nd} (h : OkN N M T) (hs : ∀ s p, (st s p).1 ≤ N ∧ (st s p).2 ≤ M) (n : Nd) (p : Int) : OkN N M (addN st n T p) := by
  unfold addN
  split
  · exact h
  · rename_i q
    refine ⟨?_, fun m hm => ?_⟩
    · rw [List.map_append, List.nodup_append]
      refine ⟨h.nd, by simp, fun a ha b hb => ?_⟩
      simp only [List.map_cons, List.map_nil, List.mem_singleton] at hb
      rw [hb]
      rintro rfl
      exact q ha
    · rcases List.mem_append.1 hm with hm | hm
      · exact h.bd m hm
      · rw [List.mem_singleton] at hm
        rw [hm]
        exact hs _ _
theorem OkN.row {st : Nat × Nat → Int → Nat × Nat} {N M : Nat} (hs : ∀ s p, (st s p).1 ≤ N ∧ (st s p).2 ≤ M) (n : Nd) : ∀ {ps : List Int} {T : List Nd}, OkN N M T → OkN N M (rowN st n ps T)
  | [], T, h => h
  | p :: ps, T, h => OkN.row hs n (ps := ps) (h.add hs n p)
/-- The program's map: by which pair and point a pair was come to first. -/
structure TrI (T : List Nd) (sn : Nat × Nat → Option ((Nat × Nat) × Int)) : Prop where
  r : T[0]? = some ((0, 0), [])
  k : ∀ x, (sn x).isSome = true ↔ x ∈ T.map (·.1)
  b : ∀ i n, 0 < i → T[i]? = some n → ∃ (j : Nat) (m : Nd) (p : Int), j < i ∧ T[j]? = some m ∧ sn n.1 = some (m.1, p) ∧ n.2 = m.2 ++ [p]
theorem TrI.start : TrI [((0, 0), [])] (fun x => if x = (0, 0) then some ((0, 0), 0) else none) := by
  refine ⟨rfl, fun x => ?_, fun i n h0 hi => ?_⟩
  · by_cases q : x = (0, 0)
    · simp [q]
    · simp [q]
  · rw [List.getElem?_eq_none (by simp; omega)] at hi
    cases hi
theorem TrI.add {T : List Nd} {sn : Nat × Nat → Option ((Nat × Nat) × Int)} (h : TrI T sn) {i : Nat} {n : Nd} (hi : T[i]? = some n) {x : Nat × Nat} (hx : sn x = none) (p : Int) :
    TrI (T ++ [(x, n.2 ++ [p])]) (fun y => if y = x then some (n.1, p) else sn y) := by
  have hxn : x ∉ T.map (·.1) := fun q => by rw [← h.k x, hx] at q; cases q
  have hil := (List.getElem?_eq_some_iff.1 hi).1
  refine ⟨by rw [List.getElem?_append_left (by omega)]; exact h.r, fun y => ?_, fun a m h0 ha => ?_⟩
  · rw [List.map_append, List.mem_append]
    by_cases q : y = x
    · simp [q]
    · simp only [q, if_false, List.map_cons, List.map_nil, List.mem_singleton, or_false]
      exact h.k y
  · by_cases q : a < T.length
    · rw [List.getElem?_append_left q] at ha
      obtain ⟨j, m', p', j1, j2, j3, j4⟩ := h.b a m h0 ha
      refine ⟨j, m', p', j1, by rw [List.getElem?_append_left (by omega)]; exact j2, ?_, j4⟩
      have hne : m.1 ≠ x := fun e => hxn (by rw [← e]; exact List.mem_map_of_mem (List.mem_of_getElem? ha))
      simp only [hne, if_false]
      exact j3
    · rw [List.getElem?_append_right (by omega)] at ha
      obtain ⟨e1, e2⟩ := List.getElem?_eq_some_iff.1 ha
      have e3 : a - T.length = 0 := by simpa using e1
      simp only [e3, List.getElem_cons_zero] at e2
      rw [← e2]
      refine ⟨i, n, p, by omega, by rw [List.getElem?_append_left hil]; exact hi, by simp, rfl⟩
/-- The way back, under way: at one pair, with the points so far. -/
def WayI (T : List Nd) (n : Nd) (j : Nat) (t : Nat × Nat) (l : List Int) : Prop := ∃ m : Nd, T[j]? = some m ∧ t = m.1 ∧ m.2 ++ l.reverse = n.2
theorem WayI.start {T : List Nd} {n : Nd} {i : Nat} (h : T[i]? = some n) : WayI T n i n.1 [] := ⟨n, h, rfl, by simp⟩
theorem WayI.step {T : List Nd} {sn : Nat × Nat → Option ((Nat × Nat) × Int)} {n : Nd} {j : Nat} {t : Nat × Nat} {l : List Int} (h : WayI T n j t l) (hT : TrI T sn) (ht : t ≠ (0, 0)) :
    ∃ j' t' p, j' < j ∧ sn t = some (t', p) ∧ WayI T n j' t' (l ++ [p]) := by
  obtain ⟨m, h1, rfl, h3⟩ := h
  have hj : 0 < j := by
    rcases Nat.eq_zero_or_pos j with q | q
    · rw [q, hT.r] at h1; cases h1; exact absurd rfl ht
    · exact q
  obtain ⟨j', m', p, q1, q2, q3, q4⟩ := hT.b j m hj h1
  exact ⟨j', m'.1, p, q1, q3, m', q2, rfl, by rw [List.reverse_append, ← h3, q4, List.append_assoc]; rfl⟩
theorem WayI.done {T : List Nd} {n : Nd} {j : Nat} {l : List Int} {sn : Nat × Nat → Option ((Nat × Nat) × Int)} (h : WayI T n j (0, 0) l) (hT : TrI T sn) (hd : (T.map (·.1)).Nodup) : l.reverse = n.2 := by
  obtain ⟨m, h1, h2, h3⟩ := h
  have e : j = 0 := by
    have hj := (List.getElem?_eq_some_iff.1 h1).1
    have h0 := (List.getElem?_eq_some_iff.1 hT.r).1
    have := (List.nodup_iff_pairwise_ne.1 hd)
    rcases Nat.eq_zero_or_pos j with q | q
    · exact q
    · have hp := List.pairwise_iff_getElem.1 this 0 j (by simpa using h0) (by simpa using hj) q
      rw [List.getElem_map, List.getElem_map, (List.getElem?_eq_some_iff.1 hT.r).2, (List.getElem?_eq_some_iff.1 h1).2, ← h2] at hp
      exact absurd rfl hp
  rw [e, hT.r] at h1
  cases h1
  simpa using h3
end Go.Proofs.YtkcpfpofimkkiaaGreatDoor
namespace Go.Proofs.YtkcpfpofimkkiaaGreatDoor
open Go.RowKit
set_option linter.unusedVariables false
set_option linter.unusedSimpArgs false
set_option maxRecDepth 100000

theorem Blk.type_eq {w : World} {g : Nat} {e e' : TypeId} {vs vs' : List Value} (h : Blk w g e vs) (h' : Blk w g e' vs') : e = e' := by
  unfold Blk at h h'
  rw [h] at h'
  simp at h'
  exact h'.2

/-- Row k of rows. -/
def rowB (M : List (List Bool)) (k : Nat) : List Bool := M.getD k []
theorem rowB_get {M : List (List Bool)} {k : Nat} (h : k < M.length) : rowB M k = M[k] := by simp [rowB, h]
theorem rowB_set {M : List (List Bool)} {k j : Nat} {r : List Bool} (hk : k < M.length) : rowB (M.set k r) j = if k = j then r else rowB M j := by
  unfold rowB
  by_cases h : k = j
  · subst h; simp [List.getD, hk]
  · simp [List.getD, h]
def nthN (l : List Nat) (k : Nat) : Nat := l.getD k 0
theorem nthN_get {l : List Nat} {k : Nat} (h : k < l.length) : nthN l k = l[k] := by simp [nthN, h]

/-- The rows M: the block D has their slices, row k lies in block number k of ρ. -/
structure MtSt (w : World) (D N T : Nat) (ρ : List Nat) (M : List (List Bool)) : Prop where
  dl : D < w.heap.size
  d : ∀ k, k < N → w.cell? ⟨D, k, none⟩ = some (.slice (some ⟨nthN ρ k, 0, none⟩) T T)
  rl : ρ.length = N
  ml : M.length = N
  nd : ∀ i j, i < N → j < N → nthN ρ i = nthN ρ j → i = j
  ne : ∀ i, i < N → nthN ρ i ≠ D
  rows : ∀ k, k < N → Blk w (nthN ρ k) 4 (bv (rowB M k)) ∧ (rowB M k).length = T
section
variable {w w' : World} {D N T : Nat} {ρ : List Nat} {M : List (List Bool)}
theorem MtSt.cell (h : MtSt w D N T ρ M) {k : Nat} (hk : k < N) : w.cell? ⟨D, k, none⟩ = some (.slice (some ⟨nthN ρ k, 0, none⟩) T T) := h.d k hk
theorem MtSt.keep {S : Nat → Prop} (h : MtSt w D N T ρ M) (hk : Kp S w w') (hD : ¬ S D) (hr : ∀ k, k < N → ¬ S (nthN ρ k)) : MtSt w' D N T ρ M :=
  ⟨Nat.lt_of_lt_of_le h.dl hk.size, fun k hkn => (hk.cell (p := ⟨D, k, none⟩) h.dl hD).trans (h.d k hkn), h.rl, h.ml, h.nd, h.ne, fun k hkn => ⟨(hk.block _ (h.rows k hkn).1.lt (hr k hkn)).trans (h.rows k hkn).1, (h.rows k hkn).2⟩⟩
theorem MtSt.below (h : MtSt w D N T ρ M) (hb : Below w.heap.size w w') : MtSt w' D N T ρ M := h.keep (S := fun _ => False) (Kp.of hb) (fun e => e) (fun _ _ e => e)
/-- One row turned: only its block has changed. -/
theorem MtSt.set_ (h : MtSt w D N T ρ M) {k : Nat} (hk : k < N) {r : List Bool} (hr : r.length = T) (hkp : Kp (fun j => j = nthN ρ k) w w') (hb : Blk w' (nthN ρ k) 4 (bv r)) : MtSt w' D N T ρ (M.set k r) := by
  refine ⟨Nat.lt_of_lt_of_le h.dl hkp.size, fun j hj => (hkp.cell (p := ⟨D, j, none⟩) h.dl (fun e => h.ne k hk e.symm)).trans (h.d j hj), h.rl, by rw [List.length_set]; exact h.ml, h.nd, h.ne, fun j hj => ?_⟩
  rw [rowB_set (by rw [h.ml]; exact hk)]
  by_cases e : k = j
  · subst e; rw [if_pos rfl]; exact ⟨hb, hr⟩
  · rw [if_neg e]
    exact ⟨(hkp.block _ (h.rows j hj).1.lt (fun q => e (h.nd j k hj hk q).symm)).trans (h.rows j hj).1, (h.rows j hj).2⟩
end

theorem nthN_snoc {l : List Nat} {b k : Nat} : nthN (l ++ [b]) k = if k < l.length then nthN l k else if k = l.length then b else 0 := by
  unfold nthN
  rw [List.getD_eq_getElem?_getD]
  by_cases h : k < l.length
  · rw [if_pos h, List.getElem?_append_left h]; simp [List.getD]
  · rw [if_neg h, List.getElem?_append_right (by omega)]
    by_cases e : k = l.length
    · rw [if_pos e, e]; simp
    · rw [if_neg e, List.getElem?_eq_none (by simp; omega)]; rfl
/-- n rows of T times false. -/
def m0 (N T : Nat) : List (List Bool) := List.replicate N (List.replicate T false)
theorem rowB_m0 {N T k : Nat} (hk : k < N) : rowB (m0 N T) k = List.replicate T false := by
  unfold rowB m0
  rw [List.getD_eq_getElem?_getD, List.getElem?_replicate, if_pos hk]; rfl

end Go.Proofs.YtkcpfpofimkkiaaGreatDoor
namespace Go.Proofs.YtkcpfpofimkkiaaGreatDoor
open Go.RowKit BigFrame
set_option linter.unusedVariables false
set_option linter.unusedSimpArgs false
set_option maxRecDepth 100000

def nthL (L : List (List Int)) (k : Nat) : List Int := L.getD k []
theorem nthL_get {L : List (List Int)} {k : Nat} (h : k < L.length) : nthL L k = L[k] := by simp [nthL, h]
theorem nthL_append {L : List (List Int)} {c : List Int} {k : Nat} : nthL (L ++ [c]) k = if k < L.length then nthL L k else if k = L.length then c else [] := by
  unfold nthL
  rw [List.getD_eq_getElem?_getD, List.getD_eq_getElem?_getD]
  by_cases h : k < L.length
  · rw [if_pos h, List.getElem?_append_left h]
  · rw [if_neg h, List.getElem?_append_right (by omega)]
    by_cases h2 : k = L.length
    · subst h2; simp
    · rw [if_neg h2, List.getElem?_eq_none (by simp; omega)]; rfl
/-- A slice of slices of integers. -/
def RdM (w : World) (B : Nat) (A : Option Addr) (L : List (List Int)) : Prop :=
  0 < L.length → ∃ b off, A = some ⟨b, off, none⟩ ∧ b < B ∧ ∀ k, k < L.length → ∃ A' c', w.cell? ⟨b, off + k, none⟩ = some (.slice A' (nthL L k).length c') ∧ (nthL L k).length ≤ c' ∧ c' ≤ maxLen ∧ RdI w B A' (nthL L k)
theorem RdM.below {w w' : World} {B : Nat} {A : Option Addr} {L : List (List Int)} (h : RdM w B A L) (hb : Below B w w') : RdM w' B A L := fun h0 => by
  obtain ⟨b, off, e, hlt, hc⟩ := h h0
  refine ⟨b, off, e, hlt, fun k hk => ?_⟩
  obtain ⟨A', c', z, q1, q2, r⟩ := hc k hk
  exact ⟨A', c', (hb.cell (p := ⟨b, off + k, none⟩) hlt).trans z, q1, q2, r.below hb⟩
theorem RdM.more {w : World} {B B' : Nat} {A : Option Addr} {L : List (List Int)} (h : RdM w B A L) (hB : B ≤ B') : RdM w B' A L := fun h0 => by
  obtain ⟨b, off, e, hlt, hc⟩ := h h0
  refine ⟨b, off, e, by omega, fun k hk => ?_⟩
  obtain ⟨A', c', z, q1, q2, r⟩ := hc k hk
  exact ⟨A', c', z, q1, q2, r.more hB⟩
/-- Element c of row k. -/
theorem RdM.at_ {w : World} {B : Nat} {A : Option Addr} {L : List (List Int)} (h : RdM w B A L) {k c : Nat} (hk : k < L.length) (hc : c < (nthL L k).length) :
    ∃ b off b' off' c', A = some ⟨b, off, none⟩ ∧ b < B ∧ b' < B ∧ w.cell? ⟨b, off + k, none⟩ = some (.slice (some ⟨b', off', none⟩) (nthL L k).length c') ∧ (nthL L k).length ≤ c' ∧ c' ≤ maxLen ∧ w.cell? ⟨b', off' + c, none⟩ = some (.int .i64 (nth (nthL L k) c)) := by
  obtain ⟨b, off, e, hlt, hr⟩ := h (by omega)
  obtain ⟨A', c', z, q1, q2, r⟩ := hr k hk
  obtain ⟨b', off', rfl, hb', hcs⟩ := r.at_ (by omega)
  exact ⟨b, off, b', off', c', e, hlt, hb', z, q1, q2, hcs c hc⟩

/-- An own row is of its elements' type. -/
theorem own_ty {w : World} {base : Nat} {e : TypeId} {sz : Nat} {v : Value} {n : Nat} {xs : List Value} (h : w.ownsRow base e sz v n xs) {g : Nat} (hg : v.ownBlock = some g) : ∃ vs, Blk w g e vs := by
  rcases h.2 with ⟨rfl, _⟩ | ⟨g', cap, cur, rfl, _, hh, _⟩
  · simp [Value.ownBlock] at hg
  · simp [Value.ownBlock] at hg
    subst hg
    exact ⟨cur.toList, by unfold Blk; rw [hh]⟩
theorem own_ne {w : World} {base base' : Nat} {e e' : TypeId} {sz sz' : Nat} {v v' : Value} {n n' : Nat} {xs xs' : List Value} (h : w.ownsRow base e sz v n xs) (h' : w.ownsRow base' e' sz' v' n' xs') (hne : e ≠ e') : v.ownBlock = none ∨ v.ownBlock ≠ v'.ownBlock := by
  cases hv : v.ownBlock with
  | none => exact .inl rfl
  | some g =>
    refine .inr fun q => ?_
    obtain ⟨a, ha⟩ := own_ty h hv
    obtain ⟨b, hb⟩ := own_ty h' q.symm
    exact hne (Blk.type_eq ha hb)
theorem own1 {w : World} {base : Nat} {e : TypeId} {sz : Nat} {v : Value} {n : Nat} {xs : List Value} (h : w.ownsRow base e sz v n xs) : v.oneCell' = true := by
  rcases h.2 with ⟨rfl, _⟩ | ⟨g', cap, cur, rfl, _⟩ <;> rfl
theorem own_len {w : World} {base : Nat} {e : TypeId} {sz : Nat} {v : Value} {n : Nat} {xs : List Value} (h : w.ownsRow base e sz v n xs) : ∃ A c, v = .slice A n c ∧ n ≤ c ∧ c ≤ maxLen := by
  rcases h.2 with ⟨rfl, rfl⟩ | ⟨g', cap, cur, rfl, _, _, h1, h2, _⟩
  · exact ⟨none, 0, rfl, Nat.le_refl _, Nat.zero_le _⟩
  · exact ⟨_, _, rfl, h1, h2⟩
theorem own_rd {w : World} {base : Nat} {v : Value} {l : List Int} (h : w.ownsRow base 3 1 v l.length (iv l)) : ∃ A c, v = .slice A l.length c ∧ l.length ≤ c ∧ c ≤ maxLen ∧ RdI w w.heap.size A l := own_form h
theorem elInts : ElTy Tryz.prog 37 3 1 8 (.int .i64 0) := ⟨Tryz.underlying37, by kernel_rfl, rfl, by decide⟩
theorem elRows : ElTy Tryz.prog 44 37 1 24 (.slice none 0 0) := ⟨Tryz.underlying44, by kernel_rfl, rfl, by decide⟩

/-- A block ahead of its base set. -/
theorem own_set {w : World} {base : Nat} {e : TypeId} {sz : Nat} {v : Value} {n : Nat} {xs : List Value} {p : Addr} {x : Value} (h : w.ownsRow base e sz v n xs) (hp : p.block < base) : (w.setCell p x).ownsRow base e sz v n xs :=
  World.ownsRow.kept h (row := some p.block) ⟨rfl, rfl, rfl, by simp [World.setCell], fun k hk hne => Below.heap_setCell w _ x k (fun e => hne (by rw [e]))⟩ (by
    cases hob : v.ownBlock with
    | none => exact .inl rfl
    | some g => exact .inr fun e => by have := (h.lt g hob).1; cases e; omega)
theorem all_snoc {P : Value → Prop} {vs : List Value} {x : Value} (h : ∀ (j : Nat) (u : Value), vs[j]? = some u → P u) (hx : P x) : ∀ (j : Nat) (u : Value), (vs ++ [x])[j]? = some u → P u := fun j u hu => by
  by_cases q : j < vs.length
  · rw [List.getElem?_append_left q] at hu; exact h j u hu
  · rw [List.getElem?_append_right (by omega)] at hu
    by_cases q2 : j = vs.length
    · subst q2; simp at hu; rw [← hu]; exact hx
    · rw [List.getElem?_eq_none (by simp; omega)] at hu; cases hu
theorem ap_next {s : Nat} {v v' : Value} {vs : List Value} (h : ∀ (j : Nat) (u : Value), vs[j]? = some u → u.ownBlock = none ∨ u.ownBlock ≠ v.ownBlock) (hlt : ∀ (j : Nat) (u : Value) (g : Nat), vs[j]? = some u → u.ownBlock = some g → g < s) (hat : v'.ownBlock = v.ownBlock ∨ v'.ownBlock = some (s + 1)) :
    ∀ (j : Nat) (u : Value), vs[j]? = some u → u.ownBlock = none ∨ u.ownBlock ≠ v'.ownBlock := fun j u hu => by
  cases hob : u.ownBlock with
  | none => exact .inl rfl
  | some q =>
    refine .inr fun e => ?_
    rcases hat with e2 | e2
    · rcases h j u hu with z | z
      · rw [hob] at z; cases z
      · exact z (by rw [hob, e, e2])
    · have := hlt j u q hu hob
      rw [e2] at e; cases e; omega
/-- An own row of own rows of integers. -/
structure OwM (w : World) (base : Nat) (v : Value) (vs : List Value) (L : List (List Int)) : Prop where
  l : vs.length = L.length
  row : w.ownsRow base 37 1 v L.length vs
  cl : ∀ (k : Nat) (u : Value), vs[k]? = some u → w.ownsRow base 3 1 u (nthL L k).length (iv (nthL L k))
theorem OwM.nil (w : World) (base : Nat) : OwM w base (.slice none 0 0) [] [] := ⟨rfl, World.ownsRow_nil _ _ _ _, fun k u h => (by simp at h)⟩
theorem OwM.ext {w w' : World} {base : Nat} {v : Value} {vs : List Value} {L : List (List Int)} (h : OwM w base v vs L) (hb : Below w.heap.size w w') : OwM w' base v vs L :=
  ⟨h.l, own_ext h.row hb, fun k u hk => own_ext (h.cl k u hk) hb⟩
/-- Another row grown. -/
theorem OwM.grown {w w' : World} {base : Nat} {v : Value} {vs : List Value} {L : List (List Int)} {b : Option Nat} (h : OwM w base v vs L) (hg : w.grownBy w' b) (hv : v.ownBlock = none ∨ v.ownBlock ≠ b) (hr : ∀ (k : Nat) (u : Value), vs[k]? = some u → u.ownBlock = none ∨ u.ownBlock ≠ b) : OwM w' base v vs L :=
  ⟨h.l, h.row.kept hg hv, fun k u hk => (h.cl k u hk).kept hg (hr k u hk)⟩
/-- A block set that is none of them. -/
theorem OwM.set_ {w : World} {base : Nat} {v : Value} {vs : List Value} {L : List (List Int)} {p : Addr} {x : Value} (h : OwM w base v vs L) (hp : p.block < base) : OwM (w.setCell p x) base v vs L := by
  have hb : ∀ {e : TypeId} {n : Nat} {u : Value} {xs : List Value}, w.ownsRow base e 1 u n xs → (w.setCell p x).ownsRow base e 1 u n xs := fun {e n u xs} hu => by
    cases p with
    | mk b o r =>
      have hp : b < base := hp
      cases r with
      | none => exact ownsRow_setCell_other hu (fun e => by have := (hu.lt _ e).1; omega) x
      | some r => exact World.ownsRow.kept hu (row := some b) ⟨rfl, rfl, rfl, by simp [World.setCell], fun k hk hne => Below.heap_setCell w _ x k (fun e => hne (by rw [e]))⟩ (by
          cases hob : u.ownBlock with
          | none => exact .inl rfl
          | some g => exact .inr fun e => by have := (hu.lt g hob).1; cases e; omega)
  exact ⟨h.l, hb h.row, fun k u hk => hb (h.cl k u hk)⟩
theorem OwM.push {w w' : World} {base : Nat} {v v' u : Value} {vs : List Value} {L : List (List Int)} {c : List Int} (h : OwM w base v vs L) (hg : w.grownBy w' v.ownBlock) (hu : w.ownsRow base 3 1 u c.length (iv c))
    (hr : w'.ownsRow base 37 1 v' (L.length + 1) (vs ++ [u])) : OwM w' base v' (vs ++ [u]) (L ++ [c]) := by
  have hk : ∀ {n : Nat} {t : Value} {xs : List Value}, w.ownsRow base 3 1 t n xs → w'.ownsRow base 3 1 t n xs := fun {n t xs} ht => ht.kept hg (own_ne ht h.row (by decide))
  refine ⟨by simp [h.l], by rw [List.length_append]; exact hr, fun k t hk2 => ?_⟩
  rw [nthL_append]
  by_cases q : k < vs.length
  · rw [List.getElem?_append_left q] at hk2
    rw [if_pos (by rw [← h.l]; exact q)]
    exact hk (h.cl k t hk2)
  · rw [List.getElem?_append_right (by omega)] at hk2
    by_cases q2 : k = vs.length
    · subst q2
      simp at hk2
      subst hk2
      rw [if_neg (by rw [h.l]; omega), if_pos h.l]
      exact hk hu
    · rw [List.getElem?_eq_none (by simp; omega)] at hk2; cases hk2
theorem OwM.rd {w : World} {base : Nat} {v : Value} {vs : List Value} {L : List (List Int)} (h : OwM w base v vs L) : ∃ A c, v = .slice A L.length c ∧ L.length ≤ c ∧ c ≤ maxLen ∧ RdM w w.heap.size A L := by
  rcases h.row.2 with ⟨rfl, q⟩ | ⟨g, cap, cur, rfl, hb, hg, hn, hc, hs, ht⟩
  · exact ⟨none, 0, by rw [q], by omega, Nat.zero_le _, fun h0 => by omega⟩
  · refine ⟨_, cap, rfl, hn, hc, fun h0 => ⟨g, 0, rfl, (Array.getElem?_eq_some_iff.1 hg).1, fun k hk => ?_⟩⟩
    have hkv : k < vs.length := by rw [h.l]; exact hk
    have hu : vs[k]? = some vs[k] := List.getElem?_eq_getElem hkv
    obtain ⟨A, c, e, q1, q2, q3⟩ := own_rd (h.cl k _ hu)
    rw [e] at hu
    refine ⟨A, c, ?_, q1, q2, q3⟩
    rw [Nat.zero_add, cell_of_row w g k cur 37 (0, 0) hg, ← Array.getElem?_toList]
    have h2 := hu
    rw [← ht, List.getElem?_take] at h2
    split at h2
    · exact h2
    · cases h2
theorem OwM.base {w : World} {base base' : Nat} {v : Value} {vs : List Value} {L : List (List Int)} (h : OwM w base v vs L) (hb : base' ≤ base) : OwM w base' v vs L :=
  ⟨h.l, ownsRow_base h.row hb, fun k u hk => ownsRow_base (h.cl k u hk) hb⟩
theorem ClV.rds {w : World} {base : Nat} {v : Value} {vs : List Value} {R : List (List Rg)} (h : ClV w base v vs R) : ∃ A c, v = .slice A R.length c ∧ R.length ≤ c ∧ c ≤ maxLen ∧ RdS w w.heap.size A R := by
  by_cases h0 : 0 < R.length
  · obtain ⟨g, cap, rfl, e2, h1, h2, h3, h4, h5, h6⟩ := h.at_ h0
    refine ⟨_, _, rfl, h3, h4, fun _ => ⟨g, 0, rfl, h2, fun k hk => ?_⟩⟩
    obtain ⟨A, c, z1, z2, z3, z4, z5, z6⟩ := h6 k hk
    exact ⟨A, c, by rw [Nat.zero_add]; exact z2, z4, z5, z6⟩
  · obtain ⟨A, c, e, h1, h2⟩ := own_len h.row
    exact ⟨A, c, e, h1, h2, fun q => absurd q h0⟩

theorem own_rdS {w : World} {base : Nat} {A : Option Addr} {n c : Nat} {l : List Int} (h : w.ownsRow base 3 1 (.slice A n c) l.length (iv l)) : RdI w w.heap.size A l := by
  obtain ⟨A', c', e, _, _, h2⟩ := own_rd h
  cases e
  exact h2
theorem OwM.rdS {w : World} {base : Nat} {A : Option Addr} {n c : Nat} {vs : List Value} {L : List (List Int)} (h : OwM w base (.slice A n c) vs L) : RdM w w.heap.size A L := by
  obtain ⟨A', c', e, _, _, h2⟩ := h.rd
  cases e
  exact h2
/-- The document's full automaton in memory: classes, rules, moves. -/
structure FuR (w : World) (B : Nat) (C : List (List Rg)) (R : List Int) (M : List (List Int)) (Ac Ar Am : Option Addr) (cc cr cm : Nat) : Prop where
  c : RdS w B Ac C
  r : RdI w B Ar R
  m : RdM w B Am M
  c1 : C.length ≤ cc ∧ cc ≤ maxLen
  r1 : R.length ≤ cr ∧ cr ≤ maxLen
  m1 : M.length ≤ cm ∧ cm ≤ maxLen
theorem FuR.below {w w' : World} {B : Nat} {C : List (List Rg)} {R : List Int} {M : List (List Int)} {Ac Ar Am : Option Addr} {cc cr cm : Nat} (h : FuR w B C R M Ac Ar Am cc cr cm) (hb : Below B w w') : FuR w' B C R M Ac Ar Am cc cr cm :=
  ⟨h.c.below hb, h.r.below hb, h.m.below hb, h.c1, h.r1, h.m1⟩
theorem FuR.more {w : World} {B B' : Nat} {C : List (List Rg)} {R : List Int} {M : List (List Int)} {Ac Ar Am : Option Addr} {cc cr cm : Nat} (h : FuR w B C R M Ac Ar Am cc cr cm) (hB : B ≤ B') : FuR w B' C R M Ac Ar Am cc cr cm :=
  ⟨h.c.more hB, h.r.more hB, h.m.more hB, h.c1, h.r1, h.m1⟩
/-- What the document's automaton of states is: sizes, rules, moves. -/
structure FuP (K n : Nat) (ru : Nat → Int) (mv : Nat → Nat → Nat) (R : List Int) (M : List (List Int)) : Prop where
  rl : R.length = n
  ml : M.length = n
  r : ∀ s, s < n → nth R s = ru s
  m : ∀ s, s < n → (nthL M s).length = K ∧ ∀ c, c < K → nth (nthL M s) c = (mv s c : Int)
  lt : ∀ s c, s < n → c < K → mv s c < n
end Go.Proofs.YtkcpfpofimkkiaaGreatDoor
