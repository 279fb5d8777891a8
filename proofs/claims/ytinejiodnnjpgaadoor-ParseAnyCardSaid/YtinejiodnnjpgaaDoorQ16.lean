/- The machine's accept. · slices.Clone at []int and at []*Tree: laid by the kit's laying tool (lay-plain) for this seat, names turned; the second by the first one's words. -/
import Derived.Test.YtinejiodnnjpgaaDoorQ15
import Derived.Shelf.SlicesE.Clone
import Derived.Test.YtinejiodnnjpgaaDoorProg
import Derived.Test.YtinejiodnnjpgaaDoorQ1
namespace Go.Proofs.YtinejiodnnjpgaaDoor
open Go.RowKit BigFrame
set_option linter.unusedVariables false
set_option linter.unusedSimpArgs false
set_option maxRecDepth 100000

/-- The one tree of a row. -/
theorem one_tree {w : World} {base : Nat} {G : Gr} {T : Tb} {tv : Value} {ss : List Int} {ts : List Tr} {vs : List Value} {U : Nat → Prop} (ht : w.ownsRow base 38 1 tv ts.length vs) (htr : ∀ (i : Nat) (t : Tr), ts[i]? = some t → ∃ u, vs[i]? = some u ∧ TrIn w U u t) (hU : ∀ b, U b → b < w.heap.size) (hs : StOk G T (ss, ts)) (h1 : ts.length = 1) :
    ∃ (tb ct nb : Nat) (p tok : Int) (ks : List Tr), ts = [.node p tok ks] ∧ p < G.prods.length ∧ tv = .slice (some ⟨tb, 0, none⟩) 1 ct ∧ 1 ≤ ct ∧ ct ≤ maxLen ∧ tb < w.heap.size ∧ w.cell? ⟨tb, 0, none⟩ = some (.pointer (some ⟨nb, 0, none⟩)) ∧ nb < w.heap.size ∧ w.cell? ⟨nb, 0, none⟩ = some (.int .i64 p) := by
  obtain ⟨x, rfl⟩ : ∃ x, ts = [x] := List.length_eq_one_iff.1 h1
  obtain ⟨p, tok, ks, rfl, hp⟩ := hs.t x (by simp)
  obtain ⟨tb, ct, e, g1, g2, g3, _, g4⟩ := own_at ht (by simp)
  obtain ⟨u, h2, h3⟩ := htr 0 _ rfl
  obtain ⟨nb, A, c, rfl, hb, c0, _⟩ := h3.node_inv
  exact ⟨tb, ct, nb, p, tok, ks, rfl, hp, e, g1, g2, g3, g4 0 _ h2, hU _ hb, c0⟩
theorem accP_one {G : Gr} {ss : List Int} {p tok : Int} {ks : List Tr} : accP G (ss, [.node p tok ks]) ↔ 0 ≤ p ∧ (prodAt G p).1 = G.start := by
  unfold accP
  refine ⟨fun ⟨_, p', tok', ks', e, h1, h2⟩ => ?_, fun ⟨h1, h2⟩ => ⟨rfl, p, tok, ks, rfl, h1, h2⟩⟩
  simp at e
  obtain ⟨rfl, rfl, rfl⟩ := e
  exact ⟨h1, h2⟩

/-- What accept answers. -/
def AccEnd (w : World) (G : Gr) (E : Nat → Addr) (st : St) (e : Ending) (w' : World) : Prop :=
  ((accP G st ∧ e = .returned (.tuple #[.bool true, .nilIface])) ∨ (¬ accP G st ∧ e = .returned (.tuple #[.bool true, ew (E 2)]))) ∧ Below w.heap.size w w'
set_option maxHeartbeats 4000000 in
theorem accept_any (G : Gr) (Ap Al As : Option Addr) (np cp nl cl ns cs : Nat) (T : Tb) (ta tg tc : Value) (w : World) (B base m : Nat) (sv tv : Value) (ss : List Int) (ts : List Tr) (vs : List Value) (U : Nat → Prop)
    (hM : MachV w base m (hdM G Ap Al As np cp nl cl ns cs ta tg tc) sv tv ss ts vs U) (hB : B ≤ w.heap.size) (hG : GrIn w B G Ap Al As np cp nl cl ns cs) (hs : StOk G T (ss, ts)) (E : Nat → Addr) (hE : ErW w B E) (k to : Int) :
    Calls Tryd.prog 57 #[.pointer (some ⟨m, 0, none⟩), .agg #[.int .i64 k, .int .i64 to]] w (AccEnd w G E (ss, ts)) := by
  have hb := abox w k to
  have hmlt := hM.lt
  have tr := fun (q : Addr) (z : q.block < w.heap.size) => hb.cell (p := q) z
  have z10 := (tr ⟨m, 10, none⟩ hmlt).trans hM.c10
  have z3 : (w.alloc (.cells #[.int .i64 k, .int .i64 to] 82)).cell? ⟨m, 3, none⟩ = some (.slice Ap np cp) := (tr ⟨m, 3, none⟩ hmlt).trans (hM.b.cell rfl)
  have z2 : (w.alloc (.cells #[.int .i64 k, .int .i64 to] 82)).cell? ⟨m, 2, none⟩ = some (.int .i64 G.start) := (tr ⟨m, 2, none⟩ hmlt).trans (hM.b.cell rfl)
  have zE := (hE.below (hb.mono hB)).g 2 (by omega)
  unfold evar at zE
  have HB := Lib.hid hb
  obtain ⟨At, ct0, htv, ht1, ht2, -⟩ := own_form hM.t
  by_cases h1 : ts.length = 1
  rotate_left
  · as_aux_lemma =>
      have d1 : ((ts.length : Int) != (1 : Int)) = true := by simp; omega
      have HN := Lib.hid (show ¬ accP G (ss, ts) from fun h => h1 h.1)
      subst htv
      unfold maxLen at ht2
      clear hM hs hG hE hb tr h1
      generalize ts.length = n at *
      go_enter Tryd.func57, Tryd.ntmps57
      go_wp2_with fail
      go_quiet (fail)
      go_wp2_with fail
      go_quiet (fail)
      go_wp2_with fail
      go_ret2
      exact ⟨.inr ⟨HN.out, rfl⟩, HB.out.trans ⟨rfl, rfl, rfl, Nat.le_refl _, fun _ _ => rfl⟩⟩
  obtain ⟨tb, ct, nb, p, tok, ks, rfl, hp, e, g1, g2, g3, y1, g4, y2⟩ := one_tree hM.t hM.tr (fun b q => (hM.u b q).1) hs h1
  subst e
  have x1 := (tr ⟨tb, 0, none⟩ g3).trans y1
  have x2 := (tr ⟨nb, 0, none⟩ g4).trans y2
  unfold maxLen at g2
  have d1 : ((1 : Int) != (1 : Int)) = false := by decide
  by_cases h2 : p < 0
  · as_aux_lemma =>
      have HN := Lib.hid (show ¬ accP G (ss, [.node p tok ks]) from fun h => by have := (accP_one.1 h).1; omega)
      clear hM hs hG hE hb tr h1 y1 y2 htv
      simp only [List.length_singleton] at *
      go_enter Tryd.func57, Tryd.ntmps57
      go_wp2_with fail
      go_quiet (fail)
      go_wp2_with fail
      go_quiet (fail)
      go_wp2_with fail
      go_ret2
      exact ⟨.inr ⟨HN.out, rfl⟩, HB.out.trans ⟨rfl, rfl, rfl, Nat.le_refl _, fun _ _ => rfl⟩⟩
  obtain ⟨pn, rfl⟩ := Int.eq_ofNat_of_zero_le (show 0 ≤ p by omega)
  obtain ⟨hpl, hpm⟩ := hG.p.len
  obtain ⟨pb, po, rfl, hpb, hpc⟩ := hG.p.at_ (by omega)
  obtain ⟨x, r, y, A', n', c', q0, q1, q2, q3, q4, q5, q6, q7⟩ := hpc pn (by omega)
  have x3 := (tr ⟨pb, po + pn * 3, none⟩ (Nat.lt_of_lt_of_le hpb hB)).trans q1
  have hx := prodAt_of q0
  unfold maxLen at hpm
  have d2 : decide ((pn : Int) < 0) = false := by simp
  by_cases h3 : x = G.start
  · as_aux_lemma =>
      have HN := Lib.hid (show accP G (ss, [.node (pn : Int) tok ks]) from accP_one.2 ⟨by omega, by rw [hx]; exact h3⟩)
      have d3 : (x != G.start) = false := by simpa using h3
      have hpn : pn < np := by omega
      clear hM hs hG hE hb tr h1 y1 y2 htv hpc q0 q1 q2 q3 q4 q7 hx h3 h2 hpl hp
      simp only [List.length_singleton] at *
      go_enter Tryd.func57, Tryd.ntmps57
      go_wp2_with fail
      go_quiet (fail)
      go_wp2_with fail
      go_ret2
      exact ⟨.inl ⟨HN.out, rfl⟩, HB.out.trans ⟨rfl, rfl, rfl, Nat.le_refl _, fun _ _ => rfl⟩⟩
  · as_aux_lemma =>
      have HN := Lib.hid (show ¬ accP G (ss, [.node (pn : Int) tok ks]) from fun h => h3 (by have := (accP_one.1 h).2; rw [hx] at this; exact this))
      have d3 : (x != G.start) = true := by simpa using h3
      have hpn : pn < np := by omega
      clear hM hs hG hE hb tr h1 y1 y2 htv hpc q0 q1 q2 q3 q4 q7 hx h3 h2 hpl hp
      simp only [List.length_singleton] at *
      go_enter Tryd.func57, Tryd.ntmps57
      go_wp2_with fail
      go_quiet (fail)
      go_wp2_with fail
      go_quiet (fail)
      go_wp2_with fail
      go_ret2
      exact ⟨.inr ⟨HN.out, rfl⟩, HB.out.trans ⟨rfl, rfl, rfl, Nat.le_refl _, fun _ _ => rfl⟩⟩
end Go.Proofs.YtinejiodnnjpgaaDoor
namespace Go.Proofs.YtinejiodnnjpgaaDoor
open Go.Shelf Go.RowKit
def cl_I_ren : Go.Shelf.Ren := ⟨fun | 41 => 38 | n => n, fun | 22 => 32 | 23 => 3 | 4 => 4 | n => n, fun | n => n⟩
theorem cl_I : Go.Proofs.SlLaysE0.n41 Tryd.prog cl_I_ren := {
  mixed := by kernel_rfl
  f41 := ⟨Tryd.f38.name, by decide, Tryd.func38.trans (congrArg some (by kernel_rfl))⟩
  t4 := Tryd.underlying4
  a4 := Tryd.isAgg4
  z4 := Tryd.sizeOf4
  v4 := Tryd.zeroValue4
  t22 := Tryd.underlying32
  a22 := Tryd.isAgg32
  z22 := Tryd.sizeOf32
  v22 := Tryd.zeroValue32 }
def cl_T_ren : Go.Shelf.Ren := ⟨fun | 41 => 39 | n => n, fun | 22 => 66 | 23 => 38 | 4 => 4 | n => n, fun | n => n⟩
theorem cl_T : Go.Proofs.SlLaysE0.n41 Tryd.prog cl_T_ren := {
  mixed := by kernel_rfl
  f41 := ⟨Tryd.f39.name, by decide, Tryd.func39.trans (congrArg some (by kernel_rfl))⟩
  t4 := Tryd.underlying4
  a4 := Tryd.isAgg4
  z4 := Tryd.sizeOf4
  v4 := Tryd.zeroValue4
  t22 := Tryd.underlying66
  a22 := Tryd.isAgg66
  z22 := Tryd.sizeOf66
  v22 := Tryd.zeroValue66 }
theorem elI : ElTy Tryd.prog 32 3 1 8 (.int .i64 0) := ⟨Tryd.underlying32, by kernel_rfl, rfl, by decide⟩
theorem elTp : ElTy Tryd.prog 66 38 1 8 (.pointer none) := ⟨Tryd.underlying66, by kernel_rfl, rfl, by decide⟩
theorem clone_I (A : Option Addr) (n c D : Nat) (xs : List Value) (w : World) (hA : A = none ∨ ∃ b off, A = some ⟨b, off, none⟩) (hl : xs.length = n) (hn : n ≤ 1000000000) (hr : Rd w D A xs) (h1 : ∀ u ∈ xs, u.oneCell' = true) :
    Calls Tryd.prog 38 #[.slice A n c] w fun e w' => ∃ v, e = .returned v ∧ w'.ownsRow w.heap.size 3 1 v n xs ∧ Below w.heap.size w w' := by
  have hi := elI.hi
  rcases hA with rfl | ⟨b, off, rfl⟩
  · have hx : xs = [] := by
      apply Classical.byContradiction
      intro hne
      obtain ⟨_, _, e, _⟩ := hr hne
      cases e
    subst hx
    simp only [List.length_nil] at hl
    subst hl
    refine (AnyE.slices_Clone_nil cl_I 0 c w).mono ?_
    rintro e w' ⟨rfl, rfl⟩
    exact ⟨_, rfl, World.ownsRow_nil _ _ _ _, Below.refl _ _⟩
  · obtain ⟨i0, h2, h3⟩ := Option.map_eq_some_iff.1 hi
    simp only [Prod.mk.injEq] at h3
    obtain ⟨e1, e2, e3⟩ := h3
    refine (AnyE.slices_Clone cl_I i0 (.int .i64 0) 1 8 h2 e1 e2 e3 rfl (by decide) Tryd.sizeOf3 b off n c xs w (by omega) (by unfold maxLen; omega) (by omega) (fun j u hj => ?_) h1).mono ?_
    · obtain ⟨b', off', e, _, hc⟩ := hr (by intro e; subst e; simp at hj)
      cases e
      exact hc j u hj
    · rintro e w' ⟨v, rfl, ho, _, hb⟩
      exact ⟨v, rfl, ho, hb⟩
theorem clone_T (A : Option Addr) (n c D : Nat) (xs : List Value) (w : World) (hA : A = none ∨ ∃ b off, A = some ⟨b, off, none⟩) (hl : xs.length = n) (hn : n ≤ 1000000000) (hr : Rd w D A xs) (h1 : ∀ u ∈ xs, u.oneCell' = true) :
    Calls Tryd.prog 39 #[.slice A n c] w fun e w' => ∃ v, e = .returned v ∧ w'.ownsRow w.heap.size 38 1 v n xs ∧ Below w.heap.size w w' := by
  have hi := elTp.hi
  rcases hA with rfl | ⟨b, off, rfl⟩
  · have hx : xs = [] := by
      apply Classical.byContradiction
      intro hne
      obtain ⟨_, _, e, _⟩ := hr hne
      cases e
    subst hx
    simp only [List.length_nil] at hl
    subst hl
    refine (AnyE.slices_Clone_nil cl_T 0 c w).mono ?_
    rintro e w' ⟨rfl, rfl⟩
    exact ⟨_, rfl, World.ownsRow_nil _ _ _ _, Below.refl _ _⟩
  · obtain ⟨i0, h2, h3⟩ := Option.map_eq_some_iff.1 hi
    simp only [Prod.mk.injEq] at h3
    obtain ⟨e1, e2, e3⟩ := h3
    refine (AnyE.slices_Clone cl_T i0 (.pointer none) 1 8 h2 e1 e2 e3 rfl (by decide) Tryd.sizeOf38 b off n c xs w (by omega) (by unfold maxLen; omega) (by omega) (fun j u hj => ?_) h1).mono ?_
    · obtain ⟨b', off', e, _, hc⟩ := hr (by intro e; subst e; simp at hj)
      cases e
      exact hc j u hj
    · rintro e w' ⟨v, rfl, ho, _, hb⟩
      exact ⟨v, rfl, ho, hb⟩
end Go.Proofs.YtinejiodnnjpgaaDoor
