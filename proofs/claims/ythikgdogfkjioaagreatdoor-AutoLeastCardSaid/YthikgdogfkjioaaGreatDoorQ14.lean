/- Memory: rows of integers read, and made by append. · The contracts of auto.step and what it calls: the state behind a point. -/
import Derived.Test.YthikgdogfkjioaaGreatDoorQ3
import Derived.Test.YthikgdogfkjioaaGreatDoorQ13
import Derived.Test.YthikgdogfkjioaaGreatDoorQ11
namespace Go.Proofs.YthikgdogfkjioaaGreatDoor
open Go.RowKit BigFrame
set_option linter.unusedVariables false
set_option linter.unusedSimpArgs false
set_option maxRecDepth 100000

def nthL (L : List (List Int)) (k : Nat) : List Int := L.getD k []
theorem nthL_get {L : List (List Int)} {k : Nat} (h : k < L.length) : nthL L k = L[k] := by simp [nthL, h]
theorem nthL_append {L : List (List Int)} {c : List Int} {k : Nat} : nthL (L ++ [c]) k = if k < L.length then nthL L k else if k = L.length then c else [] := by
  unfold nthL
  rw [List.getD_eq_getElem?_getD, List.getD_eq_getElem?_getD]
  by_cases h : k < L.length
  · rw [if_pos h, List.getElem?_append_left h]
  · rw [if_neg h, List.getElem?_append_right (by omega)]
    by_cases h2 : k = L.length
    · subst h2; simp
    · rw [if_neg h2, List.getElem?_eq_none (by simp; omega)]; rfl
/-- A slice of slices of integers. -/
def RdM (w : World) (B : Nat) (A : Option Addr) (L : List (List Int)) : Prop :=
  0 < L.length → ∃ b off, A = some ⟨b, off, none⟩ ∧ b < B ∧ ∀ k, k < L.length → ∃ A' c', w.cell? ⟨b, off + k, none⟩ = some (.slice A' (nthL L k).length c') ∧ (nthL L k).length ≤ c' ∧ c' ≤ maxLen ∧ RdI w B A' (nthL L k)
theorem RdM.below {w w' : World} {B : Nat} {A : Option Addr} {L : List (List Int)} (h : RdM w B A L) (hb : Below B w w') : RdM w' B A L := fun h0 => by
  obtain ⟨b, off, e, hlt, hc⟩ := h h0
  refine ⟨b, off, e, hlt, fun k hk => ?_⟩
  obtain ⟨A', c', z, q1, q2, r⟩ := hc k hk
  exact ⟨A', c', (hb.cell (p := ⟨b, off + k, none⟩) hlt).trans z, q1, q2, r.below hb⟩
theorem RdM.more {w : World} {B B' : Nat} {A : Option Addr} {L : List (List Int)} (h : RdM w B A L) (hB : B ≤ B') : RdM w B' A L := fun h0 => by
  obtain ⟨b, off, e, hlt, hc⟩ := h h0
  refine ⟨b, off, e, by omega, fun k hk => ?_⟩
  obtain ⟨A', c', z, q1, q2, r⟩ := hc k hk
  exact ⟨A', c', z, q1, q2, r.more hB⟩
/-- Element c of row k. -/
theorem RdM.at_ {w : World} {B : Nat} {A : Option Addr} {L : List (List Int)} (h : RdM w B A L) {k c : Nat} (hk : k < L.length) (hc : c < (nthL L k).length) :
    ∃ b off b' off' c', A = some ⟨b, off, none⟩ ∧ b < B ∧ b' < B ∧ w.cell? ⟨b, off + k, none⟩ = some (.slice (some ⟨b', off', none⟩) (nthL L k).length c') ∧ (nthL L k).length ≤ c' ∧ c' ≤ maxLen ∧ w.cell? ⟨b', off' + c, none⟩ = some (.int .i64 (nth (nthL L k) c)) := by
  obtain ⟨b, off, e, hlt, hr⟩ := h (by omega)
  obtain ⟨A', c', z, q1, q2, r⟩ := hr k hk
  obtain ⟨b', off', rfl, hb', hcs⟩ := r.at_ (by omega)
  exact ⟨b, off, b', off', c', e, hlt, hb', z, q1, q2, hcs c hc⟩

/-- An own row is of its elements' type. -/
theorem own_ty {w : World} {base : Nat} {e : TypeId} {sz : Nat} {v : Value} {n : Nat} {xs : List Value} (h : w.ownsRow base e sz v n xs) {g : Nat} (hg : v.ownBlock = some g) : ∃ vs, Blk w g e vs := by
  rcases h.2 with ⟨rfl, _⟩ | ⟨g', cap, cur, rfl, _, hh, _⟩
  · simp [Value.ownBlock] at hg
  · simp [Value.ownBlock] at hg
    subst hg
    exact ⟨cur.toList, by unfold Blk; rw [hh]⟩
theorem own_ne {w : World} {base base' : Nat} {e e' : TypeId} {sz sz' : Nat} {v v' : Value} {n n' : Nat} {xs xs' : List Value} (h : w.ownsRow base e sz v n xs) (h' : w.ownsRow base' e' sz' v' n' xs') (hne : e ≠ e') : v.ownBlock = none ∨ v.ownBlock ≠ v'.ownBlock := by
  cases hv : v.ownBlock with
  | none => exact .inl rfl
  | some g =>
    refine .inr fun q => ?_
    obtain ⟨a, ha⟩ := own_ty h hv
    obtain ⟨b, hb⟩ := own_ty h' q.symm
    exact hne (Blk.type_eq ha hb)
theorem own1 {w : World} {base : Nat} {e : TypeId} {sz : Nat} {v : Value} {n : Nat} {xs : List Value} (h : w.ownsRow base e sz v n xs) : v.oneCell' = true := by
  rcases h.2 with ⟨rfl, _⟩ | ⟨g', cap, cur, rfl, _⟩ <;> rfl
theorem own_len {w : World} {base : Nat} {e : TypeId} {sz : Nat} {v : Value} {n : Nat} {xs : List Value} (h : w.ownsRow base e sz v n xs) : ∃ A c, v = .slice A n c ∧ n ≤ c ∧ c ≤ maxLen := by
  rcases h.2 with ⟨rfl, rfl⟩ | ⟨g', cap, cur, rfl, _, _, h1, h2, _⟩
  · exact ⟨none, 0, rfl, Nat.le_refl _, Nat.zero_le _⟩
  · exact ⟨_, _, rfl, h1, h2⟩
theorem own_rd {w : World} {base : Nat} {v : Value} {l : List Int} (h : w.ownsRow base 3 1 v l.length (iv l)) : ∃ A c, v = .slice A l.length c ∧ l.length ≤ c ∧ c ≤ maxLen ∧ RdI w w.heap.size A l := own_form h
theorem elInts : ElTy Tryz.prog 34 3 1 8 (.int .i64 0) := ⟨Tryz.underlying34, by kernel_rfl, rfl, by decide⟩
theorem elRows : ElTy Tryz.prog 41 34 1 24 (.slice none 0 0) := ⟨Tryz.underlying41, by kernel_rfl, rfl, by decide⟩

/-- A block ahead of its base set. -/
theorem own_set {w : World} {base : Nat} {e : TypeId} {sz : Nat} {v : Value} {n : Nat} {xs : List Value} {p : Addr} {x : Value} (h : w.ownsRow base e sz v n xs) (hp : p.block < base) : (w.setCell p x).ownsRow base e sz v n xs :=
  World.ownsRow.kept h (row := some p.block) ⟨rfl, rfl, rfl, by simp [World.setCell], fun k hk hne => Below.heap_setCell w _ x k (fun e => hne (by rw [e]))⟩ (by
    cases hob : v.ownBlock with
    | none => exact .inl rfl
    | some g => exact .inr fun e => by have := (h.lt g hob).1; cases e; omega)
theorem all_snoc {P : Value → Prop} {vs : List Value} {x : Value} (h : ∀ (j : Nat) (u : Value), vs[j]? = some u → P u) (hx : P x) : ∀ (j : Nat) (u : Value), (vs ++ [x])[j]? = some u → P u := fun j u hu => by
  by_cases q : j < vs.length
  · rw [List.getElem?_append_left q] at hu; exact h j u hu
  · rw [List.getElem?_append_right (by omega)] at hu
    by_cases q2 : j = vs.length
    · subst q2; simp at hu; rw [← hu]; exact hx
    · rw [List.getElem?_eq_none (by simp; omega)] at hu; cases hu
theorem ap_next {s : Nat} {v v' : Value} {vs : List Value} (h : ∀ (j : Nat) (u : Value), vs[j]? = some u → u.ownBlock = none ∨ u.ownBlock ≠ v.ownBlock) (hlt : ∀ (j : Nat) (u : Value) (g : Nat), vs[j]? = some u → u.ownBlock = some g → g < s) (hat : v'.ownBlock = v.ownBlock ∨ v'.ownBlock = some (s + 1)) :
    ∀ (j : Nat) (u : Value), vs[j]? = some u → u.ownBlock = none ∨ u.ownBlock ≠ v'.ownBlock := fun j u hu => by
  cases hob : u.ownBlock with
  | none => exact .inl rfl
  | some q =>
    refine .inr fun e => ?_
    rcases hat with e2 | e2
    · rcases h j u hu with z | z
      · rw [hob] at z; cases z
      · exact z (by rw [hob, e, e2])
    · have := hlt j u q hu hob
      rw [e2] at e; cases e; omega
/-- An own row of own rows of integers. -/
structure OwM (w : World) (base : Nat) (v : Value) (vs : List Value) (L : List (List Int)) : Prop where
  l : vs.length = L.length
  row : w.ownsRow base 34 1 v L.length vs
  cl : ∀ (k : Nat) (u : Value), vs[k]? = some u → w.ownsRow base 3 1 u (nthL L k).length (iv (nthL L k))
theorem OwM.nil (w : World) (base : Nat) : OwM w base (.slice none 0 0) [] [] := ⟨rfl, World.ownsRow_nil _ _ _ _, fun k u h => (by simp at h)⟩
theorem OwM.ext {w w' : World} {base : Nat} {v : Value} {vs : List Value} {L : List (List Int)} (h : OwM w base v vs L) (hb : Below w.heap.size w w') : OwM w' base v vs L :=
  ⟨h.l, own_ext h.row hb, fun k u hk => own_ext (h.cl k u hk) hb⟩
/-- Another row grown. -/
theorem OwM.grown {w w' : World} {base : Nat} {v : Value} {vs : List Value} {L : List (List Int)} {b : Option Nat} (h : OwM w base v vs L) (hg : w.grownBy w' b) (hv : v.ownBlock = none ∨ v.ownBlock ≠ b) (hr : ∀ (k : Nat) (u : Value), vs[k]? = some u → u.ownBlock = none ∨ u.ownBlock ≠ b) : OwM w' base v vs L :=
  ⟨h.l, h.row.kept hg hv, fun k u hk => (h.cl k u hk).kept hg (hr k u hk)⟩
/-- A block set that is none of them. -/
theorem OwM.set_ {w : World} {base : Nat} {v : Value} {vs : List Value} {L : List (List Int)} {p : Addr} {x : Value} (h : OwM w base v vs L) (hp : p.block < base) : OwM (w.setCell p x) base v vs L := by
  have hb : ∀ {e : TypeId} {n : Nat} {u : Value} {xs : List Value}, w.ownsRow base e 1 u n xs → (w.setCell p x).ownsRow base e 1 u n xs := fun {e n u xs} hu => by
    cases p with
    | mk b o r =>
      have hp : b < base := hp
      cases r with
      | none => exact ownsRow_setCell_other hu (fun e => by have := (hu.lt _ e).1; omega) x
      | some r => exact World.ownsRow.kept hu (row := some b) ⟨rfl, rfl, rfl, by simp [World.setCell], fun k hk hne => Below.heap_setCell w _ x k (fun e => hne (by rw [e]))⟩ (by
          cases hob : u.ownBlock with
          | none => exact .inl rfl
          | some g => exact .inr fun e => by have := (hu.lt g hob).1; cases e; omega)
  exact ⟨h.l, hb h.row, fun k u hk => hb (h.cl k u hk)⟩
theorem OwM.push {w w' : World} {base : Nat} {v v' u : Value} {vs : List Value} {L : List (List Int)} {c : List Int} (h : OwM w base v vs L) (hg : w.grownBy w' v.ownBlock) (hu : w.ownsRow base 3 1 u c.length (iv c))
    (hr : w'.ownsRow base 34 1 v' (L.length + 1) (vs ++ [u])) : OwM w' base v' (vs ++ [u]) (L ++ [c]) := by
  have hk : ∀ {n : Nat} {t : Value} {xs : List Value}, w.ownsRow base 3 1 t n xs → w'.ownsRow base 3 1 t n xs := fun {n t xs} ht => ht.kept hg (own_ne ht h.row (by decide))
  refine ⟨by simp [h.l], by rw [List.length_append]; exact hr, fun k t hk2 => ?_⟩
  rw [nthL_append]
  by_cases q : k < vs.length
  · rw [List.getElem?_append_left q] at hk2
    rw [if_pos (by rw [← h.l]; exact q)]
    exact hk (h.cl k t hk2)
  · rw [List.getElem?_append_right (by omega)] at hk2
    by_cases q2 : k = vs.length
    · subst q2
      simp at hk2
      subst hk2
      rw [if_neg (by rw [h.l]; omega), if_pos h.l]
      exact hk hu
    · rw [List.getElem?_eq_none (by simp; omega)] at hk2; cases hk2
theorem OwM.rd {w : World} {base : Nat} {v : Value} {vs : List Value} {L : List (List Int)} (h : OwM w base v vs L) : ∃ A c, v = .slice A L.length c ∧ L.length ≤ c ∧ c ≤ maxLen ∧ RdM w w.heap.size A L := by
  rcases h.row.2 with ⟨rfl, q⟩ | ⟨g, cap, cur, rfl, hb, hg, hn, hc, hs, ht⟩
  · exact ⟨none, 0, by rw [q], by omega, Nat.zero_le _, fun h0 => by omega⟩
  · refine ⟨_, cap, rfl, hn, hc, fun h0 => ⟨g, 0, rfl, (Array.getElem?_eq_some_iff.1 hg).1, fun k hk => ?_⟩⟩
    have hkv : k < vs.length := by rw [h.l]; exact hk
    have hu : vs[k]? = some vs[k] := List.getElem?_eq_getElem hkv
    obtain ⟨A, c, e, q1, q2, q3⟩ := own_rd (h.cl k _ hu)
    rw [e] at hu
    refine ⟨A, c, ?_, q1, q2, q3⟩
    rw [Nat.zero_add, cell_of_row w g k cur 34 (0, 0) hg, ← Array.getElem?_toList]
    have h2 := hu
    rw [← ht, List.getElem?_take] at h2
    split at h2
    · exact h2
    · cases h2
theorem OwM.base {w : World} {base base' : Nat} {v : Value} {vs : List Value} {L : List (List Int)} (h : OwM w base v vs L) (hb : base' ≤ base) : OwM w base' v vs L :=
  ⟨h.l, ownsRow_base h.row hb, fun k u hk => ownsRow_base (h.cl k u hk) hb⟩
theorem ClV.rds {w : World} {base : Nat} {v : Value} {vs : List Value} {R : List (List Rg)} (h : ClV w base v vs R) : ∃ A c, v = .slice A R.length c ∧ R.length ≤ c ∧ c ≤ maxLen ∧ RdS w w.heap.size A R := by
  by_cases h0 : 0 < R.length
  · obtain ⟨g, cap, rfl, e2, h1, h2, h3, h4, h5, h6⟩ := h.at_ h0
    refine ⟨_, _, rfl, h3, h4, fun _ => ⟨g, 0, rfl, h2, fun k hk => ?_⟩⟩
    obtain ⟨A, c, z1, z2, z3, z4, z5, z6⟩ := h6 k hk
    exact ⟨A, c, by rw [Nat.zero_add]; exact z2, z4, z5, z6⟩
  · obtain ⟨A, c, e, h1, h2⟩ := own_len h.row
    exact ⟨A, c, e, h1, h2, fun q => absurd q h0⟩

theorem own_rdS {w : World} {base : Nat} {A : Option Addr} {n c : Nat} {l : List Int} (h : w.ownsRow base 3 1 (.slice A n c) l.length (iv l)) : RdI w w.heap.size A l := by
  obtain ⟨A', c', e, _, _, h2⟩ := own_rd h
  cases e
  exact h2
theorem OwM.rdS {w : World} {base : Nat} {A : Option Addr} {n c : Nat} {vs : List Value} {L : List (List Int)} (h : OwM w base (.slice A n c) vs L) : RdM w w.heap.size A L := by
  obtain ⟨A', c', e, _, _, h2⟩ := h.rd
  cases e
  exact h2
/-- The document's full automaton in memory: classes, rules, moves. -/
structure FuR (w : World) (B : Nat) (C : List (List Rg)) (R : List Int) (M : List (List Int)) (Ac Ar Am : Option Addr) (cc cr cm : Nat) : Prop where
  c : RdS w B Ac C
  r : RdI w B Ar R
  m : RdM w B Am M
  c1 : C.length ≤ cc ∧ cc ≤ maxLen
  r1 : R.length ≤ cr ∧ cr ≤ maxLen
  m1 : M.length ≤ cm ∧ cm ≤ maxLen
theorem FuR.below {w w' : World} {B : Nat} {C : List (List Rg)} {R : List Int} {M : List (List Int)} {Ac Ar Am : Option Addr} {cc cr cm : Nat} (h : FuR w B C R M Ac Ar Am cc cr cm) (hb : Below B w w') : FuR w' B C R M Ac Ar Am cc cr cm :=
  ⟨h.c.below hb, h.r.below hb, h.m.below hb, h.c1, h.r1, h.m1⟩
theorem FuR.more {w : World} {B B' : Nat} {C : List (List Rg)} {R : List Int} {M : List (List Int)} {Ac Ar Am : Option Addr} {cc cr cm : Nat} (h : FuR w B C R M Ac Ar Am cc cr cm) (hB : B ≤ B') : FuR w B' C R M Ac Ar Am cc cr cm :=
  ⟨h.c.more hB, h.r.more hB, h.m.more hB, h.c1, h.r1, h.m1⟩
/-- What the document's automaton of states is: sizes, rules, moves. -/
structure FuP (K n : Nat) (ru : Nat → Int) (mv : Nat → Nat → Nat) (R : List Int) (M : List (List Int)) : Prop where
  rl : R.length = n
  ml : M.length = n
  r : ∀ s, s < n → nth R s = ru s
  m : ∀ s, s < n → (nthL M s).length = K ∧ ∀ c, c < K → nth (nthL M s) c = (mv s c : Int)
  lt : ∀ s c, s < n → c < K → mv s c < n
end Go.Proofs.YthikgdogfkjioaaGreatDoor
namespace Go.Proofs.YthikgdogfkjioaaGreatDoor
open Go.RowKit
set_option linter.unusedVariables false
set_option linter.unusedSimpArgs false
set_option maxRecDepth 100000

theorem stepCmp_any (x y z p : Int) (w : World) (h0 : 0 ≤ y) (h1 : y ≤ 1114111) (h2 : 0 ≤ p) (h3 : p ≤ 1114111) :
    Calls Tryz.prog 42 #[.agg #[.int .i64 x, .int .i64 y, .int .i64 z], .int .i64 p] w fun e w' => e = .returned (.int .i64 (y - p)) ∧ Below w.heap.size w w' := by
  go_enter Tryz.func42, Tryz.ntmps42
  go_wp2
  go_ret
  exact ⟨rfl, (Below.refl _ _).alloc (Nat.le_refl _) _⟩

def hiAt (l : List Mv) (k : Nat) : Int := ((l[k]?).map (·.2.1)).getD 0
theorem hiAt_of {l : List Mv} {k : Nat} {m : Mv} (h : l[k]? = some m) : hiAt l k = m.2.1 := by simp [hiAt, h]

/-- Where a point belongs among moves in order. -/
def Found (l : List Mv) (p : Int) (i : Nat) : Prop := i ≤ l.length ∧ (∀ k, k < i → hiAt l k < p) ∧ (i < l.length → p ≤ hiAt l i)

theorem bsf_any (A : Option Addr) (n c : Nat) (l : List Mv) (p : Int) (w : World) (B : Nat) (h : (shL shMove).rd w (Lo B) l [.slice A n c]) (hB : B ≤ w.heap.size) (hl : l.length = n) (hn : n ≤ 140737488355328)
    (hr : ∀ m ∈ l, 0 ≤ m.2.1 ∧ m.2.1 ≤ 1114111) (hs : ∀ a b, a < b → b < n → hiAt l a < hiAt l b) (hp0 : 0 ≤ p) (hp1 : p ≤ 1114111) :
    Calls Tryz.prog 41 #[.slice A n c, .int .i64 p, .func (.func 42) #[] #[]] w fun e w' => ∃ (i : Nat) (b : Bool), e = .returned (.tuple #[.int .i64 i, .bool b]) ∧ Found l p i ∧ Below w.heap.size w w' := by
  have Hl := Lib.hid hl; clear hl
  have Hr := Lib.hid hr; clear hr
  have Hs := Lib.hid hs; clear hs
  go_enter Tryz.func41, Tryz.ntmps41
  go_wp2
  go_loopw [9, 10] (fun a b wr => ∃ (i j : Nat), i ≤ j ∧ j ≤ n ∧ a = .int .i64 i ∧ b = .int .i64 j ∧ Hid (∀ k, k < i → hiAt l k < p) ∧ Hid (∀ k, j ≤ k → k < n → p ≤ hiAt l k) ∧ Below w.heap.size w wr) (fun a b _ => (intOf b - intOf a).toNat)
  case atStart => exact ⟨0, n, Nat.zero_le _, Nat.le_refl _, rfl, rfl, fun k hk => by omega, fun k hk hk' => by omega, Below.refl _ _⟩
  case round =>
    obtain ⟨i, j, hij, hjn, rfl, rfl, H1, H2, hb⟩ := hrel
    have hbs := hb.size
    by_cases hlt : i < j
    · obtain ⟨m, hm⟩ : ∃ m, l[(i + j) / 2]? = some m := ⟨_, List.getElem?_eq_getElem (by rw [Hl.out]; omega)⟩
      obtain ⟨b2, off2, rfl, hb2, hmt⟩ := moves_at (Sh.below h (hb.mono hB)) (by rw [Hl.out]; omega)
      obtain ⟨m1, m2, m3⟩ := hmt _ m hm
      obtain ⟨r1, r2⟩ := Hr.out m (List.mem_of_getElem? hm)
      have hhi := hiAt_of hm
      obtain ⟨x, y, z⟩ := m
      clear hmt hm
      dsimp only at m1 m2 m3 r1 r2 hhi
      have HH := Lib.hid hhi; clear hhi
      by_cases hc : y < p
      · have hneg : y - p < 0 := by omega
        go_wp2_with (go_at_call 42; refine (stepCmp_any x y z p _ r1 r2 hp0 hp1).mono ?_; rintro e w1 ⟨rfl, hb1⟩)
        go_roundw
        case rel =>
          refine ⟨(i + j) / 2 + 1, j, by omega, hjn, by go_num, rfl, fun k hk => ?_, H2, hb.trans (hb1.mono hbs)⟩
          by_cases hk2 : k = (i + j) / 2
          · rw [hk2, HH.out]; exact hc
          · have := Hs.out k ((i + j) / 2) (by omega) (by omega)
            rw [HH.out] at this; omega
        case measure => simp [intOf]; omega
      · have hneg : 0 ≤ y - p := by omega
        go_wp2_with (go_at_call 42; refine (stepCmp_any x y z p _ r1 r2 hp0 hp1).mono ?_; rintro e w1 ⟨rfl, hb1⟩)
        go_roundw
        case rel =>
          refine ⟨i, (i + j) / 2, by omega, by omega, rfl, by go_num, H1, fun k hk hk' => ?_, hb.trans (hb1.mono hbs)⟩
          by_cases hk2 : k = (i + j) / 2
          · rw [hk2, HH.out]; omega
          · have := Hs.out ((i + j) / 2) k (by omega) (by omega)
            rw [HH.out] at this; omega
        case measure => simp [intOf]; omega
    · have hij2 : i = j := by omega
      have hF : Found l p i := ⟨by rw [Hl.out]; omega, H1.out, fun hh => H2.out i (by omega) (by rw [← Hl.out]; exact hh)⟩
      by_cases hin : i < n
      · obtain ⟨m, hm⟩ : ∃ m, l[i]? = some m := ⟨_, List.getElem?_eq_getElem (by rw [Hl.out]; exact hin)⟩
        obtain ⟨b2, off2, rfl, hb2, hmt⟩ := moves_at (Sh.below h (hb.mono hB)) (by rw [Hl.out]; omega)
        obtain ⟨m1, m2, m3⟩ := hmt _ m hm
        obtain ⟨r1, r2⟩ := Hr.out m (List.mem_of_getElem? hm)
        obtain ⟨x, y, z⟩ := m
        clear hmt hm
        dsimp only at m1 m2 m3 r1 r2
        have HF := Lib.hid hF; clear hF
        have HIJ := Lib.hid hij2; clear hij2
        go_wp2_with (go_at_call 42; refine (stepCmp_any x y z p _ r1 r2 hp0 hp1).mono ?_; rintro e w1 ⟨rfl, hb1⟩)
        go_ret2
        exact ⟨i, _, rfl, HF.out, hb.trans (hb1.mono hbs)⟩
      · have HF := Lib.hid hF; clear hF
        have HIJ := Lib.hid hij2; clear hij2
        go_wp2
        go_ret2
        exact ⟨i, _, rfl, HF.out, hb⟩

/-! ### plain: the state behind a point -/
def stp : List Mv → Int → Int
  | [], _ => -1
  | m :: r, p => if m.1 ≤ p ∧ p ≤ m.2.1 then m.2.2 else stp r p

theorem okM_cons {n : Nat} {last : Int} {m : Mv} {r : List Mv} (h : okM n last (m :: r) = true) : (last < m.1 ∧ m.1 ≤ m.2.1 ∧ m.2.1 ≤ 1114111 ∧ 0 ≤ m.2.2 ∧ m.2.2 < n) ∧ okM n m.2.1 r = true := by
  rw [okM] at h
  simpa using h
theorem okM_mem {n : Nat} : ∀ {ms : List Mv} {last : Int}, okM n last ms = true → ∀ m ∈ ms, last < m.1 ∧ m.1 ≤ m.2.1 ∧ m.2.1 ≤ 1114111 ∧ 0 ≤ m.2.2 ∧ m.2.2 < n
  | [], _, _, m, hm => by cases hm
  | m0 :: r, last, h, m, hm => by
    obtain ⟨h1, h2⟩ := okM_cons h
    rcases List.mem_cons.1 hm with rfl | hm
    · exact h1
    · have := okM_mem h2 m hm
      exact ⟨by omega, this.2⟩
theorem okM_sorted {n : Nat} : ∀ {ms : List Mv} {last : Int}, okM n last ms = true → ∀ a b, a < b → b < ms.length → hiAt ms a < hiAt ms b
  | [], _, _, a, b, _, hb => by simp at hb
  | m0 :: r, last, h, 0, b + 1, _, hb => by
    obtain ⟨h1, h2⟩ := okM_cons h
    have hb' : b < r.length := by simpa using hb
    have hm := okM_mem h2 r[b] (List.getElem_mem hb')
    have e1 : hiAt (m0 :: r) 0 = m0.2.1 := rfl
    have e2 : hiAt (m0 :: r) (b + 1) = r[b].2.1 := by simp [hiAt, hb']
    omega
  | m0 :: r, last, h, a + 1, b + 1, hab, hb => by
    obtain ⟨h1, h2⟩ := okM_cons h
    have e1 : ∀ k, hiAt (m0 :: r) (k + 1) = hiAt r k := fun k => by simp [hiAt]
    rw [e1, e1]
    exact okM_sorted h2 a b (by omega) (by simpa using hb)
  | _ :: _, _, _, a, 0, hab, _ => by omega

theorem stp_low {p : Int} : ∀ {r : List Mv}, (∀ m ∈ r, p < m.1) → stp r p = -1
  | [], _ => rfl
  | m :: r, h => by
    rw [stp, if_neg (fun hh => by have := h m (List.mem_cons_self ..); omega)]
    exact stp_low fun m' hm' => h m' (List.mem_cons_of_mem _ hm')
theorem stp_drop {p : Int} : ∀ (i : Nat) (ms : List Mv), i ≤ ms.length → (∀ k, k < i → hiAt ms k < p) → stp ms p = stp (ms.drop i) p
  | 0, ms, _, _ => rfl
  | i + 1, [], h, _ => by simp at h
  | i + 1, m :: r, h, hk => by
    have h0 : m.2.1 < p := hk 0 (by omega)
    rw [stp, if_neg (fun hh => by omega), List.drop_succ_cons]
    exact stp_drop i r (by simpa using h) fun k hk' => by have := hk (k + 1) (by omega); simpa [hiAt] using this
theorem stp_found {n : Nat} {ms : List Mv} {p : Int} {i : Nat} (h : okM n (-1) ms = true) (hf : Found ms p i) :
    (∀ m, ms[i]? = some m → m.1 ≤ p → stp ms p = m.2.2) ∧ (∀ m, ms[i]? = some m → p < m.1 → stp ms p = -1) ∧ (¬ i < ms.length → stp ms p = -1) := by
  obtain ⟨h1, h2, h3⟩ := hf
  have hd := stp_drop i ms h1 h2
  refine ⟨fun m hm hl => ?_, fun m hm hl => ?_, fun hl => ?_⟩
  · obtain ⟨hi, rfl⟩ := List.getElem?_eq_some_iff.1 hm
    have := h3 hi
    rw [hiAt_of hm] at this
    rw [hd, List.drop_eq_getElem_cons hi, stp, if_pos ⟨hl, this⟩]
  · obtain ⟨hi, rfl⟩ := List.getElem?_eq_some_iff.1 hm
    rw [hd, List.drop_eq_getElem_cons hi, stp, if_neg (fun hh => by omega)]
    refine stp_low fun m' hm' => ?_
    obtain ⟨j, hj, rfl⟩ := List.getElem_of_mem hm'
    rw [List.getElem_drop]
    rw [List.length_drop] at hj
    have hs := okM_sorted h i (i + 1 + j) (by omega) (by omega)
    have hm1 := okM_mem h ms[i] (List.getElem_mem hi)
    have key : ∀ (ms : List Mv) (last : Int) (a b : Nat) (ha : a < ms.length) (hb : b < ms.length), okM n last ms = true → a < b → ms[a].2.1 < ms[b].1 := by
      intro ms
      induction ms with
      | nil => intro last a b ha; simp at ha
      | cons m0 r ih =>
        intro last a b ha hb hok hab
        obtain ⟨g1, g2⟩ := okM_cons hok
        cases b with
        | zero => omega
        | succ b =>
          cases a with
          | zero =>
            have := okM_mem g2 (r[b]'(by simpa using hb)) (List.getElem_mem _)
            simpa using this.1
          | succ a => simpa using ih _ a b (by simpa using ha) (by simpa using hb) g2 (by omega)
    have := key ms (-1) i (i + 1 + j) hi (by omega) h (by omega)
    omega
  · rw [hd, List.drop_eq_nil_of_le (by omega)]; rfl

theorem okA_len {l : List St} (h : okA l = true) : l.length ≤ 500 := by
  unfold okA at h
  rw [Bool.and_eq_true] at h
  exact of_decide_eq_true h.1
theorem okA_state {l : List St} (h : okA l = true) {k : Nat} {s : St} (hs : l[k]? = some s) : -1 ≤ s.1 ∧ okM l.length (-1) s.2 = true := by
  unfold okA at h
  rw [Bool.and_eq_true] at h
  have := List.all_eq_true.1 h.2 s (List.mem_of_getElem? hs)
  unfold okS at this
  rw [Bool.and_eq_true] at this
  exact ⟨of_decide_eq_true this.1, this.2⟩
theorem stp_range {n : Nat} : ∀ {ms : List Mv} {last p : Int}, okM n last ms = true → -1 ≤ stp ms p ∧ stp ms p < n
  | [], _, _, _ => by simp [stp]; omega
  | m :: r, last, p, h => by
    obtain ⟨h1, h2⟩ := okM_cons h
    rw [stp]
    split
    · omega
    · exact stp_range h2

theorem okM_len {n : Nat} : ∀ {ms : List Mv} {last : Int}, okM n last ms = true → last ≤ 1114111 → (ms.length : Int) ≤ 1114111 - last
  | [], last, _, hl => by simp; omega
  | m :: r, last, h, _ => by
    obtain ⟨h1, h2⟩ := okM_cons h
    have := okM_len h2 (by omega)
    rw [List.length_cons]; omega

theorem step_any (A : Option Addr) (n c k : Nat) (l : List St) (s : St) (p : Int) (w : World) (B : Nat) (h : (shL shState).rd w (Lo B) l [.slice A n c]) (hB : B ≤ w.heap.size) (hl : l.length = n) (hok : okA l = true) (hs : l[k]? = some s)
    (hp0 : 0 ≤ p) (hp1 : p ≤ 1114111) :
    Calls Tryz.prog 24 #[.agg #[.slice A n c], .int .i64 k, .int .i64 p] w fun e w' => e = .returned (.int .i64 (stp s.2 p)) ∧ Below w.heap.size w w' := by
  have hlen := okA_len hok
  obtain ⟨_, hm⟩ := okA_state hok hs
  have hk : k < l.length := (List.getElem?_eq_some_iff.1 hs).1
  obtain ⟨b, off, rfl, hb, hst⟩ := states_at h (by omega)
  obtain ⟨g1, A', c', g2, g3, g4, g5⟩ := hst k s hs
  clear hst g1
  rw [hl] at hlen hk hm
  obtain ⟨ms, hms⟩ : ∃ ms, ms = s.2 := ⟨_, rfl⟩
  obtain ⟨m, hmm⟩ : ∃ m, m = ms.length := ⟨_, rfl⟩
  rw [← hms] at hm g2 g3 g5
  rw [← hms]
  rw [← hmm] at g2 g3 g5
  have hsort := okM_sorted hm
  have hmem := okM_mem hm
  have hmlen := okM_len hm (by omega)
  rw [← hmm] at hmlen
  have HM := Lib.hid hmm; clear hmm
  have HS := Lib.hid hs; clear hs
  have HMS := Lib.hid hms; clear hms
  have HO := Lib.hid hm; clear hm
  have Hl := Lib.hid hl; clear hl
  have Hok := Lib.hid hok; clear hok
  rw [← HM.out] at hsort
  have HSO := Lib.hid hsort; clear hsort
  have HME := Lib.hid hmem; clear hmem
  unfold maxLen at g4
  have hb0 : Below w.heap.size w (w.alloc (.cells #[.slice (some ⟨b, off, none⟩) n c] 24)) := (Below.refl _ _).alloc (Nat.le_refl _) _
  have hW0 : (w.alloc (.cells #[.slice (some ⟨b, off, none⟩) n c] 24)).heap.size = w.heap.size + 1 := by simp
  have hbB : b < w.heap.size := Nat.lt_of_lt_of_le hb hB
  have g2' := (hb0.cell (p := ⟨b, off + k * 2 + 1, none⟩) hbB).trans g2
  have g5' := Sh.below g5 (hb0.mono hB)
  go_enter Tryz.func24, Tryz.ntmps24
  go_wp2_with fail
  generalize w.alloc (.cells #[.slice (some ⟨b, off, none⟩) n c] 24) = W0 at *
  refine (bsf_any A' m c' ms p W0 B g5' (by omega) HM.out.symm (by omega) (fun mv hmv => by have := HME.out mv hmv; omega) HSO.out hp0 hp1).mono ?_
  rintro e w1 ⟨i, bb, rfl, hF, hb1⟩
  have hbn := hb0.trans (hb1.mono (by omega))
  obtain ⟨s1, s2, s3⟩ := stp_found HO.out hF
  have hil : i ≤ m := by rw [HM.out]; exact hF.1
  have HF := Lib.hid hF; clear hF
  have S3 := Lib.hid s3; clear s3
  by_cases him : i < m
  · obtain ⟨mv, hmv⟩ : ∃ mv, ms[i]? = some mv := ⟨_, List.getElem?_eq_getElem (by rw [← HM.out]; exact him)⟩
    obtain ⟨b2, off2, rfl, hb2, hmt⟩ := moves_at (Sh.below g5 (hbn.mono hB)) (by rw [← HM.out]; omega)
    obtain ⟨m1, m2, m3⟩ := hmt i mv hmv
    have s1 := s1 mv hmv
    have s2 := s2 mv hmv
    obtain ⟨x, y, z⟩ := mv
    clear hmt hmv
    dsimp only at m1 m2 m3 s1 s2
    have S1 := Lib.hid s1; clear s1
    have S2 := Lib.hid s2; clear s2
    by_cases hx : x ≤ p
    · have d1 : decide (x ≤ p) = true := decide_eq_true hx
      go_wp2
      go_ret
      exact ⟨ret_eq (by rw [S1.out hx]; rfl), hbn⟩
    · have d1 : decide (x ≤ p) = false := decide_eq_false hx
      go_wp2
      go_ret
      exact ⟨ret_eq (by rw [S2.out (by omega)]; rfl), hbn⟩
  · have S1 := Lib.hid s1; clear s1
    have S2 := Lib.hid s2; clear s2
    go_wp2
    go_ret
    exact ⟨ret_eq (by rw [S3.out (by rw [← HM.out]; exact him)]; rfl), hbn⟩
end Go.Proofs.YthikgdogfkjioaaGreatDoor
