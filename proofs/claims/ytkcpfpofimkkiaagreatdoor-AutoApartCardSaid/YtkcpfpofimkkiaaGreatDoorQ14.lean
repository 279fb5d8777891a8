/- Memory: the document's twins: pairs of states and the points by which they are come to; sets of ranges joined. · The document's sets of moves. · The contract of ref1.Step. -/
import Derived.Test.YtkcpfpofimkkiaaGreatDoorQ13
import Derived.Test.YtkcpfpofimkkiaaGreatDoorQ10
import Derived.Test.YtkcpfpofimkkiaaGreatDoorQ12
import Derived.Test.YtkcpfpofimkkiaaGreatDoorQ4
namespace Go.Proofs.YtkcpfpofimkkiaaGreatDoor
open Go.RowKit BigFrame
set_option linter.unusedVariables false
set_option linter.unusedSimpArgs false
set_option maxRecDepth 100000

theorem elT : ElTy Tryz.prog 94 93 3 40 (.agg #[.int .i64 0, .int .i64 0, .slice none 0 0]) := ⟨Tryz.underlying94, by kernel_rfl, rfl, by decide⟩
def nthT (T : List Nd) (k : Nat) : Nd := T.getD k ((0, 0), [])
theorem nthT_get {T : List Nd} {k : Nat} (h : k < T.length) : nthT T k = T[k] := by simp [nthT, h]
theorem nthT_some {T : List Nd} {k : Nat} (h : k < T.length) : T[k]? = some (nthT T k) := by rw [nthT_get h, List.getElem?_eq_getElem h]
/-- The cells of twins; us: their ways. -/
def twc : List Nd → List Value → List Value
  | n :: T, u :: us => .int .i64 (n.1.1 : Int) :: .int .i64 (n.1.2 : Int) :: u :: twc T us
  | _, _ => []
theorem twc_len : ∀ (T : List Nd) (us : List Value), us.length = T.length → (twc T us).length = T.length * 3
  | [], us, h => by cases us <;> simp [twc]
  | n :: T, [], h => by simp at h
  | n :: T, u :: us, h => by
    have := twc_len T us (by simpa using h)
    simp only [twc, List.length_cons, this]; omega
theorem twc_snoc : ∀ (T : List Nd) (us : List Value) (n : Nd) (u : Value), us.length = T.length → twc (T ++ [n]) (us ++ [u]) = twc T us ++ [.int .i64 (n.1.1 : Int), .int .i64 (n.1.2 : Int), u]
  | [], us, n, u, h => by
    obtain rfl : us = [] := List.eq_nil_of_length_eq_zero (by simpa using h)
    rfl
  | m :: T, [], n, u, h => by simp at h
  | m :: T, v :: us, n, u, h => by
    simp only [List.cons_append, twc]
    rw [twc_snoc T us n u (by simpa using h)]
theorem twc_get : ∀ {T : List Nd} {us : List Value} {k : Nat} {u : Value}, us.length = T.length → us[k]? = some u → (twc T us)[k * 3]? = some (.int .i64 ((nthT T k).1.1 : Int)) ∧ (twc T us)[k * 3 + 1]? = some (.int .i64 ((nthT T k).1.2 : Int)) ∧ (twc T us)[k * 3 + 2]? = some u
  | [], us, k, u, h, hu => by
    obtain rfl : us = [] := List.eq_nil_of_length_eq_zero (by simpa using h)
    simp at hu
  | n :: T, [], k, u, h, hu => by simp at h
  | n :: T, v :: us, 0, u, h, hu => by
    simp at hu; subst hu
    exact ⟨rfl, rfl, rfl⟩
  | n :: T, v :: us, k + 1, u, h, hu => by
    obtain ⟨a, b, c⟩ := twc_get (T := T) (us := us) (k := k) (u := u) (by simpa using h) (by simpa using hu)
    simp only [twc]
    rw [show (k + 1) * 3 = k * 3 + 1 + 1 + 1 by omega, show k * 3 + 1 + 1 + 1 + 1 = (k * 3 + 1) + 1 + 1 + 1 from rfl, show k * 3 + 1 + 1 + 1 + 2 = (k * 3 + 2) + 1 + 1 + 1 from rfl]
    simp only [List.getElem?_cons_succ]
    exact ⟨by rw [a]; rfl, by rw [b]; rfl, c⟩
/-- An own row of twins, their ways own rows too. -/
structure OwT (w : World) (base : Nat) (v : Value) (us : List Value) (T : List Nd) : Prop where
  l : us.length = T.length
  row : w.ownsRow base 93 3 v T.length (twc T us)
  wy : ∀ (k : Nat) (u : Value), us[k]? = some u → w.ownsRow base 3 1 u (nthT T k).2.length (iv (nthT T k).2)
theorem OwT.ext {w w' : World} {base : Nat} {v : Value} {us : List Value} {T : List Nd} (h : OwT w base v us T) (hb : Below w.heap.size w w') : OwT w' base v us T :=
  ⟨h.l, own_ext h.row hb, fun k u hk => own_ext (h.wy k u hk) hb⟩
theorem nthT_append {T : List Nd} {c : Nd} {k : Nat} : nthT (T ++ [c]) k = if k < T.length then nthT T k else if k = T.length then c else ((0, 0), []) := by
  unfold nthT
  rw [List.getD_eq_getElem?_getD, List.getD_eq_getElem?_getD]
  by_cases h : k < T.length
  · rw [if_pos h, List.getElem?_append_left h]
  · rw [if_neg h, List.getElem?_append_right (by omega)]
    by_cases h2 : k = T.length
    · subst h2; simp
    · rw [if_neg h2, List.getElem?_eq_none (by simp; omega)]; rfl
theorem OwT.push {w w' : World} {base : Nat} {v v' u : Value} {us : List Value} {T : List Nd} {n : Nd} (h : OwT w base v us T) (hg : w.grownBy w' v.ownBlock) (hu : w.ownsRow base 3 1 u n.2.length (iv n.2))
    (hr : w'.ownsRow base 93 3 v' (T.length + 1) (twc T us ++ [.int .i64 (n.1.1 : Int), .int .i64 (n.1.2 : Int), u])) : OwT w' base v' (us ++ [u]) (T ++ [n]) := by
  have hk : ∀ {n : Nat} {t : Value} {xs : List Value}, w.ownsRow base 3 1 t n xs → w'.ownsRow base 3 1 t n xs := fun {n t xs} ht => ht.kept hg (own_ne ht h.row (by decide))
  refine ⟨by simp [h.l], by rw [List.length_append, twc_snoc _ _ _ _ h.l]; exact hr, fun k t hk2 => ?_⟩
  rw [nthT_append]
  by_cases q : k < us.length
  · rw [List.getElem?_append_left q] at hk2
    rw [if_pos (by rw [← h.l]; exact q)]
    exact hk (h.wy k t hk2)
  · rw [List.getElem?_append_right (by omega)] at hk2
    by_cases q2 : k = us.length
    · subst q2
      simp at hk2
      subst hk2
      rw [if_neg (by rw [h.l]; omega), if_pos h.l]
      exact hk hu
    · rw [List.getElem?_eq_none (by simp; omega)] at hk2; cases hk2
/-- Twin k. -/
theorem OwT.at_ {w : World} {base : Nat} {v : Value} {us : List Value} {T : List Nd} (h : OwT w base v us T) (h0 : 0 < T.length) :
    ∃ g cap, v = .slice (some ⟨g, 0, none⟩) T.length cap ∧ base ≤ g ∧ g < w.heap.size ∧ T.length ≤ cap ∧ cap ≤ maxLen ∧ ∀ k, k < T.length → ∃ A c, w.cell? ⟨g, k * 3, none⟩ = some (.int .i64 ((nthT T k).1.1 : Int)) ∧ w.cell? ⟨g, k * 3 + 1, none⟩ = some (.int .i64 ((nthT T k).1.2 : Int)) ∧
      w.cell? ⟨g, k * 3 + 2, none⟩ = some (.slice A (nthT T k).2.length c) ∧ (nthT T k).2.length ≤ c ∧ c ≤ maxLen ∧ RdI w w.heap.size A (nthT T k).2 := by
  rcases h.row.2 with ⟨rfl, q⟩ | ⟨g, cap, cur, rfl, hb, hg, hn, hc, hs, ht⟩
  · omega
  · refine ⟨g, cap, rfl, hb, (Array.getElem?_eq_some_iff.1 hg).1, hn, hc, fun k hk => ?_⟩
    have hkv : k < us.length := by rw [h.l]; exact hk
    have hu : us[k]? = some us[k] := List.getElem?_eq_getElem hkv
    obtain ⟨A, c, e, q1, q2, q3⟩ := own_rd (h.wy k _ hu)
    rw [e] at hu
    have hcell : ∀ {j : Nat} {x : Value}, (twc T us)[j]? = some x → w.cell? ⟨g, j, none⟩ = some x := fun {j x} hx => by
      rw [← ht, List.getElem?_take] at hx
      split at hx
      · rw [cell_of_row w g j cur 93 (0, 0) hg, ← Array.getElem?_toList]; exact hx
      · cases hx
    obtain ⟨r1, r2, r3⟩ := twc_get h.l hu
    exact ⟨A, c, hcell r1, hcell r2, hcell r3, q1, q2, q3⟩
/-- The first twin, as it is built. -/
theorem OwT.first {w : World} {g base : Nat} (h : Blk w g 93 [.int .i64 0, .int .i64 0, .slice none 0 0]) (hb : base ≤ g) : OwT w base (.slice (some ⟨g, 0, none⟩) 1 1) [.slice none 0 0] [((0, 0), [])] := by
  refine ⟨rfl, ⟨rfl, .inr ⟨g, 1, #[.int .i64 0, .int .i64 0, .slice none 0 0], rfl, hb, h, Nat.le_refl _, by unfold maxLen; decide, rfl, rfl⟩⟩, fun k u hu => ?_⟩
  by_cases q : k = 0
  · subst q
    simp at hu
    subst hu
    exact World.ownsRow_nil _ _ _ _
  · rw [List.getElem?_eq_none (by simp; omega)] at hu; cases hu

/-- Sets joined: an own row of own rows of ranges. -/
structure SsV (w : World) (base : Nat) (v : Value) (vs : List Value) (S : List (List Rg)) : Prop where
  l : vs.length = S.length
  row : w.ownsRow base 36 1 v S.length vs
  cl : ∀ (k : Nat) (u : Value), vs[k]? = some u → OwG w base u (nthS S k)
theorem ClV.ss {w : World} {base : Nat} {v : Value} {vs : List Value} {S : List (List Rg)} (h : ClV w base v vs S) : SsV w base v vs S := ⟨h.l, h.row, h.cl⟩
theorem SsV.ext {w w' : World} {base : Nat} {v : Value} {vs : List Value} {S : List (List Rg)} (h : SsV w base v vs S) (hb : Below w.heap.size w w') : SsV w' base v vs S :=
  ⟨h.l, own_ext h.row hb, fun k u hk => (h.cl k u hk).ext hb⟩
theorem SsV.base {w : World} {base base' : Nat} {v : Value} {vs : List Value} {S : List (List Rg)} (h : SsV w base v vs S) (hb : base' ≤ base) : SsV w base' v vs S :=
  ⟨h.l, ownsRow_base h.row hb, fun k u hk => ownsRow_base (h.cl k u hk) hb⟩
theorem nthS_app {R Q : List (List Rg)} {k : Nat} : nthS (R ++ Q) k = if k < R.length then nthS R k else nthS Q (k - R.length) := by
  unfold nthS
  rw [List.getD_eq_getElem?_getD, List.getD_eq_getElem?_getD, List.getD_eq_getElem?_getD]
  by_cases h : k < R.length
  · rw [if_pos h, List.getElem?_append_left h]
  · rw [if_neg h, List.getElem?_append_right (by omega)]
/-- Others appended. -/
theorem SsV.app {w w' : World} {base : Nat} {v v' : Value} {vs us : List Value} {S Q : List (List Rg)} (h : SsV w base v vs S) (hg : w.grownBy w' v.ownBlock) (hl : us.length = Q.length) (hu : ∀ (k : Nat) (u : Value), us[k]? = some u → OwG w base u (nthS Q k))
    (hr : w'.ownsRow base 36 1 v' (S.length + Q.length) (vs ++ us)) : SsV w' base v' (vs ++ us) (S ++ Q) := by
  have hk : ∀ {n : Nat} {t : Value} {xs : List Value}, w.ownsRow base 62 2 t n xs → w'.ownsRow base 62 2 t n xs := fun {n t xs} ht => ht.kept hg (own_ne ht h.row (by decide))
  refine ⟨by simp [h.l, hl], by rw [List.length_append]; exact hr, fun k t hk2 => ?_⟩
  rw [nthS_app]
  by_cases q : k < vs.length
  · rw [List.getElem?_append_left q] at hk2
    rw [if_pos (by rw [← h.l]; exact q)]
    exact hk (h.cl k t hk2)
  · rw [List.getElem?_append_right (by omega), h.l] at hk2
    rw [if_neg (by rw [← h.l]; exact q)]
    exact hk (hu _ t hk2)
theorem SsV.rds {w : World} {base : Nat} {v : Value} {vs : List Value} {S : List (List Rg)} (h : SsV w base v vs S) : ∃ A c, v = .slice A S.length c ∧ S.length ≤ c ∧ c ≤ maxLen ∧ RdS w w.heap.size A S := by
  rcases h.row.2 with ⟨rfl, q⟩ | ⟨g, cap, cur, rfl, hb, hg, hn, hc, hs, ht⟩
  · exact ⟨none, 0, by rw [q], by omega, Nat.zero_le _, fun h0 => by omega⟩
  · refine ⟨_, cap, rfl, hn, hc, fun h0 => ⟨g, 0, rfl, (Array.getElem?_eq_some_iff.1 hg).1, fun k hk => ?_⟩⟩
    have hkv : k < vs.length := by rw [h.l]; exact hk
    have hu : vs[k]? = some vs[k] := List.getElem?_eq_getElem hkv
    obtain ⟨A, c, e, q1, q2, q3⟩ := (h.cl k _ hu).form
    rw [e] at hu
    refine ⟨A, c, ?_, q1, q2, q3⟩
    rw [Nat.zero_add, cell_of_row w g k cur 36 (0, 0) hg, ← Array.getElem?_toList]
    have h2 := hu
    rw [← ht, List.getElem?_take] at h2
    split at h2
    · exact h2
    · cases h2
theorem SsV.at_ {w : World} {base : Nat} {v : Value} {vs : List Value} {S : List (List Rg)} (h : SsV w base v vs S) {k : Nat} (hk : k < S.length) :
    ∃ g cap A c, v = .slice (some ⟨g, 0, none⟩) S.length cap ∧ g < w.heap.size ∧ vs[k]? = some (.slice A (nthS S k).length c) ∧ w.cell? ⟨g, k, none⟩ = some (.slice A (nthS S k).length c) ∧ OwG w base (.slice A (nthS S k).length c) (nthS S k) := by
  rcases h.row.2 with ⟨rfl, q⟩ | ⟨g, cap, cur, rfl, hb, hg, hn, hc, hs, ht⟩
  · omega
  · have hkv : k < vs.length := by rw [h.l]; exact hk
    have hu : vs[k]? = some vs[k] := List.getElem?_eq_getElem hkv
    have ho := h.cl k _ hu
    obtain ⟨A, c, e, -, -, -⟩ := ho.form
    rw [e] at hu ho
    refine ⟨g, cap, A, c, rfl, (Array.getElem?_eq_some_iff.1 hg).1, hu, ?_, ho⟩
    rw [cell_of_row w g k cur 36 (0, 0) hg, ← Array.getElem?_toList]
    have h2 := hu
    rw [← ht, List.getElem?_take] at h2
    split at h2
    · exact h2
    · cases h2
/-- Another such row grown. -/
theorem SsV.grownR {w w' : World} {base base' n : Nat} {v vb : Value} {vs xs : List Value} {S : List (List Rg)} (h : SsV w base v vs S) (hr : w.ownsRow base' 36 1 vb n xs) (hg : w.grownBy w' vb.ownBlock) (hne : v.ownBlock = none ∨ v.ownBlock ≠ vb.ownBlock) : SsV w' base v vs S :=
  ⟨h.l, h.row.kept hg hne, fun k u hk => World.ownsRow.kept (h.cl k u hk) hg (own_ne (h.cl k u hk) hr (by decide))⟩
theorem setsTake {S : List (List Rg)} {k : Nat} (hk : k < S.length) : S.take (k + 1) = S.take k ++ [nthS S k] := by
  rw [List.take_succ_eq_append_getElem hk]
  congr 2
  unfold nthS
  rw [List.getD_eq_getElem?_getD, List.getElem?_eq_getElem hk]; rfl
end Go.Proofs.YtkcpfpofimkkiaaGreatDoor
namespace Go.Proofs.YtkcpfpofimkkiaaGreatDoor
open Go.RowKit BigFrame
set_option linter.unusedVariables false
set_option linter.unusedSimpArgs false
set_option maxRecDepth 100000

def mvSet (m : Mv) : List Rg := [(m.1, m.2.1)]
theorem setsR_take {l : List St} {k : Nat} {s : St} (h : l[k]? = some s) : setsR (l.take (k + 1)) = setsR (l.take k) ++ s.2.map mvSet := by
  obtain ⟨hk, rfl⟩ := List.getElem?_eq_some_iff.1 h
  rw [List.take_succ_eq_append_getElem hk]; unfold setsR; rw [List.flatMap_append]; simp [mvSet]
theorem setsR_len (l : List St) : (setsR l).length = totM l := by
  unfold setsR totM
  rw [List.length_flatMap]; congr 1
  exact List.map_congr_left fun s _ => by simp
/-- One more, a block laid just ahead. -/
theorem ClV.push1 {w0 w' : World} {base bk : Nat} {v v' : Value} {vs : List Value} {R : List (List Rg)} {lo hi : Int} (h : ClV w0 base v vs R) (hb : base ≤ w0.heap.size) (hk : bk = w0.heap.size) (hg : (w0.alloc (.cells #[.int .i64 lo, .int .i64 hi] 62)).grownBy w' v.ownBlock)
    (hr : w'.ownsRow base 36 1 v' (R.length + 1) (vs ++ [.slice (some ⟨bk, 0, none⟩) 1 1])) (ha : v'.ownBlock = v.ownBlock ∨ v'.ownBlock = some ((w0.alloc (.cells #[.int .i64 lo, .int .i64 hi] 62)).heap.size + 1)) :
    ClV w' base v' (vs ++ [.slice (some ⟨bk, 0, none⟩) 1 1]) (R ++ [[(lo, hi)]]) := by
  subst hk
  refine (h.ext ((Below.refl _ _).alloc (Nat.le_refl _) _)).push (u := .slice (some ⟨w0.heap.size, 0, none⟩) 1 1) (c := [(lo, hi)]) hg ⟨rfl, .inr ⟨w0.heap.size, 1, #[.int .i64 lo, .int .i64 hi], rfl, hb, heap_alloc_new _ _, Nat.le_refl _, by decide, rfl, rfl⟩⟩ (fun g e => ?_) hr ha
  have e2 : g = w0.heap.size := by simpa [Value.ownBlock] using e.symm
  subst e2
  exact ⟨fun q => by have := (h.row.lt _ q).2; omega, fun k t hk q => by have := ((h.cl k t hk).lt _ q).2; omega⟩

set_option maxHeartbeats 4000000 in
theorem rMoveSets_any (A : Option Addr) (n c : Nat) (l : List St) (w : World) (B : Nat) (hB : B ≤ w.heap.size) (h : (shL shState).rd w (Lo B) l [.slice A n c]) (hl : l.length = n) (hn : n ≤ 1000) (hm : totM l ≤ 60) :
    Calls Tryz.prog 38 #[.agg #[.slice A n c]] w fun e w' => ∃ v vs, e = .returned v ∧ ClV w' w.heap.size v vs (setsR l) ∧ Below w.heap.size w w' := by
  have Hl := Lib.hid hl; have H := Lib.hid h; have HM := Lib.hid hm
  clear hl h hm
  have hb0 : Below w.heap.size w (w.alloc (.cells #[.slice A n c] 24)) := (Below.refl _ _).alloc (Nat.le_refl _) _
  have hc0 : (w.alloc (.cells #[.slice A n c] 24)).cell? ⟨w.heap.size, 0, none⟩ = some (.slice A n c) := by simp
  have hs0 : (w.alloc (.cells #[.slice A n c] 24)).heap.size = w.heap.size + 1 := by simp
  go_enter Tryz.func38, Tryz.ntmps38
  go_wp2_with fail
  generalize w.alloc (.cells #[.slice A n c] 24) = W0 at *
  have hW : w.heap.size < W0.heap.size := by omega
  have HB0 := Lib.hid hb0
  clear hb0 hs0
  go_loopw [3, 4] (fun v i wr => ∃ (k : Nat) (vs : List Value), k ≤ n ∧ i = .int .i64 (k : Int) ∧ Hid (ClV wr W0.heap.size v vs (setsR (l.take k))) ∧ Hid (Below W0.heap.size W0 wr)) (fun _ i _ => n - (intOf i).toNat)
  case atStart => exact ⟨0, [], Nat.zero_le _, rfl, ClV.nil _ _, Below.refl _ _⟩
  case round =>
    as_aux_lemma =>
      obtain ⟨k, vs, hk, rfl, HV, HB⟩ := hrel
      have hzr := HB.out.size
      have hc1 := (HB.out.cell (p := ⟨w.heap.size, 0, none⟩) hW).trans hc0
      by_cases hlt : k < n
      · as_aux_lemma =>
          have d1 : decide ((k : Int) < (n : Int)) = true := decide_eq_true (by omega)
          have hkl : k < l.length := by rw [Hl.out]; exact hlt
          obtain ⟨b, off, rfl, hb, hst⟩ := states_at (Sh.below H.out (HB0.out.mono hB)) (by omega)
          obtain ⟨g1, A', c', g2, g3, g4, g5⟩ := hst k _ (List.getElem?_eq_getElem hkl)
          have hst := setsR_take (List.getElem?_eq_getElem hkl)
          have htk := totM_take (List.getElem?_eq_getElem hkl)
          have hle := totM_le l (k + 1)
          have hln := setsR_len (l.take k)
          generalize l[k] = s at *
          obtain ⟨r, ms⟩ := s
          simp only at g2 g3 g5 hst htk
          obtain ⟨m, hm⟩ : ∃ m, m = ms.length := ⟨_, rfl⟩
          rw [← hm] at g2 g3 htk
          have hR : (setsR (l.take k)).length + m ≤ 60 := by have := HM.out; omega
          have HSM := Lib.hid hm; have HST := Lib.hid hst; have HMS := Lib.hid g5
          have hbW : b < W0.heap.size := Nat.lt_of_lt_of_le hb (by omega)
          have y2 := (HB.out.cell (p := ⟨b, off + k * 2 + 1, none⟩) hbW).trans g2
          unfold maxLen at g4
          clear hm hst g5 htk hle hln g1
          go_wp2_with fail
          obtain ⟨wo, rfl⟩ : ∃ wo : World, wo = wr := ⟨_, rfl⟩
          go_loopw [3, 5] (fun v i wr => ∃ (j : Nat) (vs : List Value), j ≤ m ∧ i = .int .i64 (j : Int) ∧ Hid (ClV wr W0.heap.size v vs (setsR (l.take k) ++ (ms.take j).map mvSet)) ∧ Hid (Below W0.heap.size W0 wr)) (fun _ i _ => m - (intOf i).toNat)
          case atStart => exact ⟨0, vs, Nat.zero_le _, rfl, Lib.hid (by simpa using HV.out), HB.out⟩
          case round =>
            as_aux_lemma =>
              clear y2 hc1
              obtain ⟨j, vs, hj, rfl, HV, HB⟩ := hrel
              have hzr := HB.out.size
              have hc1 := (HB.out.cell (p := ⟨w.heap.size, 0, none⟩) hW).trans hc0
              have y2 := (HB.out.cell (p := ⟨b, off + k * 2 + 1, none⟩) hbW).trans g2
              clear g2 hc0
              by_cases hjm : j < m
              · as_aux_lemma =>
                  have d1 : decide ((j : Int) < (m : Int)) = true := decide_eq_true (by omega)
                  have hjl : j < ms.length := by rw [← HSM.out]; exact hjm
                  obtain ⟨b2, o2, rfl, hb2, hc2⟩ := moves_at HMS.out (by omega)
                  obtain ⟨u1, u2, u3⟩ := hc2 j _ (List.getElem?_eq_getElem hjl)
                  have hbW2 : b2 < W0.heap.size := Nat.lt_of_lt_of_le hb2 (by omega)
                  have u1 := (HB.out.cell (p := ⟨b2, o2 + j * 3, none⟩) hbW2).trans u1
                  have u2 := (HB.out.cell (p := ⟨b2, o2 + j * 3 + 1, none⟩) hbW2).trans u2
                  have u3 := (HB.out.cell (p := ⟨b2, o2 + j * 3 + 2, none⟩) hbW2).trans u3
                  have htj : ms.take (j + 1) = ms.take j ++ [ms[j]] := List.take_succ_eq_append_getElem hjl
                  generalize ms[j] = mv at *
                  obtain ⟨x, y, z⟩ := mv
                  simp only at u1 u2 u3
                  obtain ⟨R, hR2⟩ : ∃ R, R = setsR (l.take k) ++ (ms.take j).map mvSet := ⟨_, rfl⟩
                  have hRl : R.length ≤ 60 := by rw [hR2, List.length_append, List.length_map, List.length_take]; omega
                  have HRN : Hid (setsR (l.take k) ++ (ms.take (j + 1)).map mvSet = R ++ [[(x, y)]]) := Lib.hid (by rw [htj, List.map_append, ← List.append_assoc, ← hR2]; rfl)
                  rw [← hR2] at HV
                  clear htj hR2 hc2
                  have hb1 : Below wr.heap.size wr (wr.alloc (.cells #[.int .i64 x, .int .i64 y, .int .i64 z] 35)) := (Below.refl _ _).alloc (Nat.le_refl _) _
                  have hs1 : (wr.alloc (.cells #[.int .i64 x, .int .i64 y, .int .i64 z] 35)).heap.size = wr.heap.size + 1 := by simp
                  have HV1 := Lib.hid (HV.out.ext hb1)
                  have HBW1 := Lib.hid (HB.out.trans (hb1.mono hzr))
                  have HS1 := Lib.hid hs1
                  have HVW := Lib.hid (HV1.out.ext ((Below.refl _ _).alloc (Nat.le_refl _) (.cells #[.int .i64 x, .int .i64 y] 62)))
                  have HBW := Lib.hid (HBW1.out.alloc HBW1.out.size (.cells #[.int .i64 x, .int .i64 y] 62))
                  have HS2 : Hid (((wr.alloc (.cells #[.int .i64 x, .int .i64 y, .int .i64 z] 35)).alloc (.cells #[.int .i64 x, .int .i64 y] 62)).heap.size = wr.heap.size + 1 + 1) := Lib.hid (by simp)
                  clear hb1 hs1
                  go_wp2_with (at_builtin; refine wpList_app elRow rfl (.tmp 34) (.tmp 41) rfl W0.heap.size _ R.length 1 vs [.slice (some ⟨wr.heap.size + 1, 0, none⟩) 1 1] rfl HVW.out.row (by rw [HS2.out]; rfl) rfl (by simp [Value.oneCell']) (by omega) (by omega) HBW.out.size ?_; intro v5 w5 hown5 hg5 hat5; have HV5 := Lib.hid (HV1.out.push1 HBW1.out.size HS1.out.symm hg5 hown5 hat5); have HB5 := Lib.hid (HBW.out.grown hg5 HBW.out.size (fun k e => own_base HVW.out.row k e)); clear hown5 hg5 hat5)
                  go_roundw
                  case rel => exact ⟨j + 1, _, by omega, by go_num, Lib.hid (by rw [HRN.out]; exact HV5.out), HB5⟩
                  case measure => simp [intOf]; omega
              · as_aux_lemma =>
                  have d1 : decide ((j : Int) < (m : Int)) = false := decide_eq_false (by omega)
                  have hv := HV.out
                  rw [List.take_of_length_le (l := ms) (by rw [← HSM.out]; omega), ← HST.out] at hv
                  have HV2 := Lib.hid hv
                  clear hv
                  go_wp2_with fail
                  go_roundw
                  case rel => exact ⟨k + 1, vs, by omega, by go_num, HV2, HB⟩
                  case measure => simp [intOf]; omega
      · as_aux_lemma =>
          have d1 : decide ((k : Int) < (n : Int)) = false := decide_eq_false (by omega)
          have e3 : l.take k = l := List.take_of_length_le (by rw [Hl.out]; omega)
          rw [e3] at HV
          have HV2 := Lib.hid (HV.out.base (Nat.le_of_lt hW))
          have HB2 := Lib.hid (HB0.out.trans (HB.out.mono (Nat.le_of_lt hW)))
          clear e3
          go_wp2_with fail
          go_ret
          exact ⟨_, _, rfl, HV2.out, HB2.out⟩
end Go.Proofs.YtkcpfpofimkkiaaGreatDoor
namespace Go.Proofs.YtkcpfpofimkkiaaGreatDoor
open Go.RowKit
set_option linter.unusedVariables false
set_option linter.unusedSimpArgs false
set_option maxRecDepth 100000

theorem stp_at {ms : List Mv} {j : Nat} {m : Mv} {p : Int} (h : ms[j]? = some m) : stp (ms.drop j) p = if m.1 ≤ p ∧ p ≤ m.2.1 then m.2.2 else stp (ms.drop (j + 1)) p := by
  obtain ⟨hj, rfl⟩ := List.getElem?_eq_some_iff.1 h
  rw [List.drop_eq_getElem_cons hj, stp]

set_option maxHeartbeats 1000000 in
theorem r1Step_any (A : Option Addr) (n c k : Nat) (l : List St) (s : St) (p : Int) (w : World) (B : Nat) (h : (shL shState).rd w (Lo B) l [.slice A n c]) (hB : B ≤ w.heap.size) (hl : l.length = n) (hn : n ≤ 1000000000) (hs : l[k]? = some s) :
    Calls Tryz.prog 65 #[.agg #[.slice A n c], .int .i64 k, .int .i64 p] w fun e w' => e = .returned (.int .i64 (stp s.2 p)) ∧ Below w.heap.size w w' := by
  have hk : k < l.length := (List.getElem?_eq_some_iff.1 hs).1
  obtain ⟨b, off, rfl, hb, hst⟩ := states_at h (by omega)
  obtain ⟨g1, A', c', g2, g3, g4, g5⟩ := hst k s hs
  clear hst g1
  rw [hl] at hk
  obtain ⟨ms, hms⟩ : ∃ ms, ms = s.2 := ⟨_, rfl⟩
  obtain ⟨m, hmm⟩ : ∃ m, m = ms.length := ⟨_, rfl⟩
  rw [← hms] at g2 g3 g5
  rw [← hms]
  rw [← hmm] at g2 g3 g5
  have HM := Lib.hid hmm; clear hmm
  have HS := Lib.hid hs; clear hs
  have HMS := Lib.hid hms; clear hms
  have Hl := Lib.hid hl; clear hl
  unfold maxLen at g4
  have hb0 : Below w.heap.size w (w.alloc (.cells #[.slice (some ⟨b, off, none⟩) n c] 24)) := (Below.refl _ _).alloc (Nat.le_refl _) _
  have hW0 : (w.alloc (.cells #[.slice (some ⟨b, off, none⟩) n c] 24)).heap.size = w.heap.size + 1 := by simp
  have hc0 : (w.alloc (.cells #[.slice (some ⟨b, off, none⟩) n c] 24)).cell? ⟨w.heap.size, 0, none⟩ = some (.slice (some ⟨b, off, none⟩) n c) := by simp
  have hbB : b < w.heap.size := Nat.lt_of_lt_of_le hb hB
  go_enter Tryz.func65, Tryz.ntmps65
  go_wp2
  generalize w.alloc (.cells #[.slice (some ⟨b, off, none⟩) n c] 24) = W0 at *
  go_loopw [7] (fun i wr => ∃ j : Nat, j ≤ m ∧ i = .int .i64 j ∧ Hid (stp (ms.drop j) p = stp ms p) ∧ Below (w.heap.size + 1) W0 wr) (fun i _ => m - (intOf i).toNat)
  case atStart => exact ⟨0, Nat.zero_le _, rfl, rfl, Below.refl _ _⟩
  case round =>
    obtain ⟨j, hj, rfl, HO, hbr⟩ := hrel
    have hbn := hb0.trans (hbr.mono (Nat.le_succ _))
    have hcr := (hbr.cell (p := ⟨w.heap.size, 0, none⟩) (by simp)).trans hc0
    have q2 := (hbn.cell (p := ⟨b, off + k * 2 + 1, none⟩) hbB).trans g2
    have hzr := hbr.size
    have hz3 : w.heap.size < wr.heap.size := by omega
    clear hc0
    by_cases hjm : j < m
    · obtain ⟨mv, hmv⟩ : ∃ mv, ms[j]? = some mv := ⟨_, List.getElem?_eq_getElem (by rw [← HM.out]; exact hjm)⟩
      obtain ⟨b2, off2, rfl, hb2, hmt⟩ := moves_at (Sh.below g5 (hbn.mono hB)) (by rw [← HM.out]; omega)
      obtain ⟨m1, m2, m3⟩ := hmt j mv hmv
      have hstep := stp_at (p := p) hmv
      rw [HO.out] at hstep
      obtain ⟨x, y, z⟩ := mv
      clear hmt HO hmv
      dsimp only at m1 m2 m3 hstep
      have HST := Lib.hid hstep; clear hstep
      by_cases c1 : x ≤ p
      · have d1 : decide (x ≤ p) = true := decide_eq_true c1
        by_cases c2 : p ≤ y
        · have d2 : decide (p ≤ y) = true := decide_eq_true c2
          go_wp2
          go_ret
          exact ⟨ret_eq (by rw [HST.out, if_pos ⟨c1, c2⟩]; rfl), hbn.alloc (by omega) _⟩
        · have d2 : decide (p ≤ y) = false := decide_eq_false c2
          go_wp2
          go_roundw
          case rel => exact ⟨j + 1, by omega, by go_num, by show _ = _; rw [HST.out, if_neg (fun hh => c2 hh.2)], hbr.alloc (by omega) _⟩
          case measure => simp [intOf]; omega
      · have d1 : decide (x ≤ p) = false := decide_eq_false c1
        go_wp2
        go_roundw
        case rel => exact ⟨j + 1, by omega, by go_num, by show _ = _; rw [HST.out, if_neg (fun hh => c1 hh.1)], hbr.alloc (by omega) _⟩
        case measure => simp [intOf]; omega
    · have hx : stp ms p = -1 := by rw [← HO.out, List.drop_eq_nil_of_le (by rw [← HM.out]; omega)]; rfl
      have HX := Lib.hid hx; clear hx
      go_wp2
      go_ret
      exact ⟨ret_eq (by rw [HX.out]; rfl), hbn⟩

end Go.Proofs.YtkcpfpofimkkiaaGreatDoor
