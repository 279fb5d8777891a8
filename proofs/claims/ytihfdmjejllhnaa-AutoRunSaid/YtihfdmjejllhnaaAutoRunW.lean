/- The law AutoRun walked: it returns true. -/
import Derived.Test.YtihfdmjejllhnaaAuE
import Derived.Test.YtihfdmjejllhnaaOpen
namespace Go.Proofs.Ytihfdmjejllhnaa
open Go.RowKit
set_option linter.unusedVariables false
set_option linter.unusedSimpArgs false
set_option maxRecDepth 100000

theorem opens_Move : Opens Try.prog 55 shMove :=
  opens_struct Try.underlying55 (by kernel_rfl) (opF_cons rfl (opens_int Try.underlying3 (by kernel_rfl)) (opF_cons rfl (opens_int Try.underlying3 (by kernel_rfl)) (opF_one rfl (opens_int Try.underlying3 (by kernel_rfl)))))
theorem opens_Moves : Opens Try.prog 51 (shL shMove) := opens_slice Try.underlying51 (by kernel_rfl) (by decide) opens_Move
theorem opens_State : Opens Try.prog 53 shState :=
  opens_struct Try.underlying53 (by kernel_rfl) (opF_cons rfl (opens_int Try.underlying3 (by kernel_rfl)) (opF_one rfl opens_Moves))
theorem opens_States : Opens Try.prog 28 (shL shState) := opens_slice Try.underlying28 (by kernel_rfl) (by decide) opens_State
theorem opens_Auto : Opens Try.prog 30 (shL shState) :=
  opens_struct Try.underlying30 (by kernel_rfl) (opF_one rfl opens_States)

/-- An automaton that came in. -/
def IsAuto (W : World) (v : Value) : Prop := ∃ A c l, v = .agg #[.slice A (List.length l) c] ∧ l.length ≤ c ∧ c ≤ maxLen ∧ (shL shState).rd W (Lo W.heap.size) l [.slice A l.length c]
theorem open_IsAuto {H : Type} {enc : TypeId × Value → H} {W : World} {base : Nat} {r : Reach} {b0 : Nat} {v : Value} {d : DataW H} {p : List MemPlace} {held : Bool}
    (hv : Value.okWide Try.prog W r b0 30 v) (h : DataW.Trod enc Try.prog W base (fun _ => true) held 30 v d p) : IsAuto W v := by
  obtain ⟨cs, rfl, hsz⟩ := Go.WideShapes.okWide_struct Try.underlying30 hv
  obtain ⟨l, hl⟩ := isIn_of opens_Auto h
  obtain ⟨A, c, e, h1, h2⟩ := shL_form hl
  have e' : cs = #[.slice A l.length c] := by
    apply Array.ext'
    simpa [Value.cells] using e
  subst e'
  exact ⟨A, c, l, rfl, h1, h2, hl⟩

set_option maxHeartbeats 1000000 in
theorem walk_AutoRun (w : World) (v : Value) (hv : IsAuto w v) (s : ByteArray) (hs : s.size ≤ maxLen) :
    Calls Try.prog 5 #[v, .string s] w fun e w' => e = .returned (.bool true) ∧ Below w.heap.size w w' := by
  obtain ⟨A, c, l, rfl, hlc, hc, h⟩ := hv
  obtain ⟨n, hn⟩ : ∃ n, n = l.length := ⟨_, rfl⟩
  rw [← hn] at hlc h
  rw [← hn]
  have Hl := Lib.hid hn.symm; clear hn
  unfold maxLen at hs hc
  have hb0 : Below w.heap.size w (w.alloc (.cells #[.slice A n c] 30)) := (Below.refl _ _).alloc (Nat.le_refl _) _
  by_cases h1 : 2000 < n
  · go_enter Try.func5, Try.ntmps5
    go_wp2
    go_ret
    exact ⟨rfl, hb0⟩
  by_cases h2 : 2000 < s.size
  · go_enter Try.func5, Try.ntmps5
    go_wp2
    go_ret
    exact ⟨rfl, hb0⟩
  have hW0 : (w.alloc (.cells #[.slice A n c] 30)).heap.size = w.heap.size + 1 := by simp
  have hc0 : (w.alloc (.cells #[.slice A n c] 30)).cell? ⟨w.heap.size, 0, none⟩ = some (.slice A n c) := by simp
  have hg : ∀ W0 : World, Below w.heap.size w W0 → W0.heap.size = w.heap.size + 1 → W0.cell? ⟨w.heap.size, 0, none⟩ = some (.slice A n c) → ∀ W, Below (w.heap.size + 1) W0 W →
      (shL shState).rd W (Lo w.heap.size) l [.slice A n c] ∧ w.heap.size ≤ W.heap.size ∧ ∀ W', Below W.heap.size W W' → Below (w.heap.size + 1) W0 W' ∧ W'.cell? ⟨w.heap.size, 0, none⟩ = some (.slice A n c) := by
    intro W0 hb0 hW0 hc0 W hb
    have hz := hb.size
    refine ⟨Sh.below h (hb0.trans (hb.mono (Nat.le_succ _))), by omega, fun W' hb' => ?_⟩
    have hb2 := hb.trans (hb'.mono (by omega))
    exact ⟨hb2, (hb2.cell (p := ⟨w.heap.size, 0, none⟩) (by simp)).trans hc0⟩
  have HG := Lib.hid hg; clear hg
  go_enter Try.func5, Try.ntmps5
  go_wp2_with fail
  generalize w.alloc (.cells #[.slice A n c] 30) = W0 at *
  have g1 := HG.out W0 hb0 hW0 hc0 W0 (Below.refl _ _)
  refine (r1AutoOk_any A n c l W0 (Sh.up g1.1 g1.2.1) Hl.out (by omega)).mono ?_
  rintro e w1 ⟨rfl, hb1⟩
  obtain ⟨hb1, hc1⟩ := g1.2.2 w1 hb1
  have g2 := HG.out W0 hb0 hW0 hc0 w1 hb1
  have hz1 := hb1.size
  clear g1
  go_wp2_with fail
  refine (autoOk_any A n c l w1 (Sh.up g2.1 g2.2.1) Hl.out (by omega)).mono ?_
  rintro e w2 ⟨rfl, hb2⟩
  obtain ⟨hb2, hc2⟩ := g2.2.2 w2 hb2
  have g3 := HG.out W0 hb0 hW0 hc0 w2 hb2
  have hz2 := hb2.size
  clear g2 hc1 hb1
  have hrun := autoRun_any A n c l s w2 w.heap.size g3.1 g3.2.1 Hl.out (by omega) (by omega)
  cases hok : okA l
  · rw [hok] at hrun
    simp only [Bool.false_eq_true, if_false] at hrun
    have HR := Lib.hid hrun; clear hrun
    have HK := Lib.hid hok; clear hok
    go_wp2_with fail
    refine HR.out.mono ?_
    rintro e w3 ⟨rfl, hb3⟩
    obtain ⟨hb3, hc3⟩ := g3.2.2 w3 hb3
    go_wp2
    go_ret
    exact ⟨rfl, hb0.trans (hb3.mono (Nat.le_succ _))⟩
  · obtain ⟨r, hr⟩ : ∃ r, r = runA l (pts s 0) := ⟨_, rfl⟩
    have k1 : ∀ W, Below (w.heap.size + 1) W0 W → Calls Try.prog 16 #[.agg #[.slice A n c], .string s] W fun e w' => e = .returned (.int .i64 r) ∧ Below (w.heap.size + 1) W0 w' ∧ w'.cell? ⟨w.heap.size, 0, none⟩ = some (.slice A n c) := by
      intro W hb
      have g := HG.out W0 hb0 hW0 hc0 W hb
      refine (autoRun_any A n c l s W w.heap.size g.1 g.2.1 Hl.out (by omega) (by omega)).mono ?_
      rintro e w' ⟨rfl, hb'⟩
      exact ⟨by rw [if_pos hok, hr], g.2.2 w' hb'⟩
    have k2 : ∀ W, Below (w.heap.size + 1) W0 W → Calls Try.prog 17 #[.agg #[.slice A n c], .string s] W fun e w' => e = .returned (.int .i64 r) ∧ Below (w.heap.size + 1) W0 w' ∧ w'.cell? ⟨w.heap.size, 0, none⟩ = some (.slice A n c) := by
      intro W hb
      have g := HG.out W0 hb0 hW0 hc0 W hb
      refine (r1Run_any A n c l s W w.heap.size g.1 g.2.1 Hl.out hok (by omega)).mono ?_
      rintro e w' ⟨rfl, hb'⟩
      exact ⟨by rw [hr], g.2.2 w' hb'⟩
    have K1 := Lib.hid k1; clear k1
    have K2 := Lib.hid k2; clear k2
    have HR := Lib.hid hr; clear hr
    have HK := Lib.hid hok; clear hok hrun g3
    have hbd := hb2.drew
    go_wp2_with fail
    go_region_held3 (fun w' => w'.cell? ⟨w.heap.size, 0, none⟩ = some (.slice A n c)) (go_keep)
      (first | (go_at_call 16; refine (K1.out _ (by assumption)).mono ?_; rintro e w4 ⟨rfl, hb4, hc4⟩) | (go_at_call 17; refine (K2.out _ (by assumption)).mono ?_; rintro e w5 ⟨rfl, hb5, hc5⟩))
    all_goals (go_wp2; go_ret)
    all_goals exact ⟨ret_eq (by simp), hb0.trans (Below.mono (by assumption) (Nat.le_succ _))⟩
end Go.Proofs.Ytihfdmjejllhnaa
