/- The law's grammar of one sentence, and that it is told. -/
import Derived.Test.YtgfchgnebpogjaaHsQ
import Derived.Test.YtgfchgnebpogjaaSnT
import Derived.Test.YtgfchgnebpogjaaGrP
namespace Go.Proofs.Ytgfchgnebpogjaa
open Go.RowKit BigFrame
set_option linter.unusedVariables false
set_option linter.unusedSimpArgs false
set_option maxRecDepth 100000

def G1 : Gr := ⟨1, 1, 0, [(0, [0], 0)], [], []⟩

theorem g1_in (w : World) (a b : Nat) (ha : a < w.heap.size) (hb : b < w.heap.size) (z0 : w.cell? ⟨a, 0, none⟩ = some (.int .i64 0)) (z1 : w.cell? ⟨a, 1, none⟩ = some (.slice (some ⟨b, 0, none⟩) 1 1)) (z2 : w.cell? ⟨a, 2, none⟩ = some (.int .i64 0)) (y0 : w.cell? ⟨b, 0, none⟩ = some (.int .i64 0)) :
    GrIn w w.heap.size G1 (some ⟨a, 0, none⟩) none none 1 1 0 0 0 0 := by
  have h0 : (Lit.int .i64 0).wf = true := by decide
  have hr : (shL shInt).rd w (Lo w.heap.size) [0] [.slice (some ⟨b, 0, none⟩) 1 1] := ⟨some ⟨b, 0, none⟩, 1, [[.int .i64 0]], rfl, Nat.le_refl _, by decide, rfl, fun i x d hx hd => by
    cases i with
    | zero => simp at hx hd; subst hx hd; exact ⟨rfl, h0⟩
    | succ i => simp at hx, fun _ => ⟨b, 0, rfl, hb, fun j u hu => by
    cases j with
    | zero => simp at hu; subst hu; exact y0
    | succ j => simp at hu⟩⟩
  refine ⟨⟨some ⟨a, 0, none⟩, 1, [[.int .i64 0, .slice (some ⟨b, 0, none⟩) 1 1, .int .i64 0]], rfl, Nat.le_refl _, by decide, rfl, fun i x d hx hd => ?_, fun _ => ⟨a, 0, rfl, ha, fun j u hu => ?_⟩⟩, Rd.nil _ _ _, rfl, Nat.zero_le _, Rd.nil _ _ _, rfl, Nat.zero_le _⟩
  · cases i with
    | zero =>
      simp [G1] at hx hd
      subst hx hd
      exact ⟨[.int .i64 0], [.slice (some ⟨b, 0, none⟩) 1 1, .int .i64 0], rfl, ⟨rfl, h0⟩, [.slice (some ⟨b, 0, none⟩) 1 1], [.int .i64 0], rfl, hr, rfl, h0⟩
    | succ i => simp [G1] at hx
  · match j with
    | 0 => simp at hu; subst hu; exact z0
    | 1 => simp at hu; subst hu; exact z1
    | 2 => simp at hu; subst hu; exact z2
    | j + 3 => simp at hu
theorem one_any (w : World) : Calls Try.prog 45 #[] w fun e w' => ∃ a, e = .returned (.agg #[.int .i64 1, .int .i64 1, .int .i64 0, .slice (some ⟨a, 0, none⟩) 1 1, .slice none 0 0, .slice none 0 0]) ∧ GrIn w' w'.heap.size G1 (some ⟨a, 0, none⟩) none none 1 1 0 0 0 0 ∧ Below w.heap.size w w' := by
  go_enter Try.func45, Try.ntmps45
  go_wp2_with fail
  refine bodyPost_ret (v := .agg #[.int .i64 1, .int .i64 1, .int .i64 0, .slice (some ⟨w.heap.size + 1 + 1, 0, none⟩) 1 1, .slice none 0 0, .slice none 0 0]) (by simp [results, Try.results45, go_sem]) rfl ⟨w.heap.size + 1 + 1, rfl, ?_, (((Below.refl _ _).alloc (Nat.le_refl _) _).alloc (by simp) _).alloc (by simp; omega) _⟩
  refine g1_in _ (w.heap.size + 1 + 1) (w.heap.size + 1) (by simp) (by simp; try omega) ?_ ?_ ?_ ?_
  all_goals
    have h3 := Blk.new ((w.alloc (.cells #[.int .i64 1, .int .i64 1, .int .i64 0, .slice (some ⟨w.heap.size + 1 + 1, 0, none⟩) 1 1, .slice none 0 0, .slice none 0 0] 30)).alloc (.cells #[.int .i64 0] 3)) 50 [.int .i64 0, .slice (some ⟨w.heap.size + 1, 0, none⟩) 1 1, .int .i64 0]
    have h2 := (Blk.new (w.alloc (.cells #[.int .i64 1, .int .i64 1, .int .i64 0, .slice (some ⟨w.heap.size + 1 + 1, 0, none⟩) 1 1, .slice none 0 0, .slice none 0 0] 30)) 3 [.int .i64 0]).alloc (.cells #[.int .i64 0, .slice (some ⟨w.heap.size + 1, 0, none⟩) 1 1, .int .i64 0] 50)
    have e3 : ((w.alloc (.cells #[.int .i64 1, .int .i64 1, .int .i64 0, .slice (some ⟨w.heap.size + 1 + 1, 0, none⟩) 1 1, .slice none 0 0, .slice none 0 0] 30)).alloc (.cells #[.int .i64 0] 3)).heap.size = w.heap.size + 1 + 1 := by simp
    have e2 : (w.alloc (.cells #[.int .i64 1, .int .i64 1, .int .i64 0, .slice (some ⟨w.heap.size + 1 + 1, 0, none⟩) 1 1, .slice none 0 0, .slice none 0 0] 30)).heap.size = w.heap.size + 1 := by simp
    rw [e3] at h3
    rw [e2] at h2
    first | exact h3.cell rfl | exact h2.cell rfl

theorem g1_ok : GOk G1 := by
  refine ⟨by decide, by decide, by decide, by decide, by decide, by decide, by decide, .inl rfl, by decide, fun x h => by simp [G1] at h, fun x h => by simp [G1] at h, fun p hp => ?_⟩
  simp [G1] at hp
  subst hp
  refine ⟨by decide, by decide, by decide, by decide, by decide, fun s hs => ?_⟩
  simp at hs
  subst hs
  exact ⟨by decide, by decide⟩
theorem g1_der {h X : Nat} {l : List Int} (hd : DerH G1.prods h X l) : l = [0] := by
  cases h with
  | zero => exact hd.elim
  | succ h =>
    obtain ⟨p, hp, e, hc⟩ := hd
    simp [G1] at hp
    subst hp
    obtain ⟨a, b, e1, h1, h2⟩ := hc
    rw [if_neg (by decide)] at h1
    subst e1 h1
    rw [show b = [] from h2]; rfl
theorem g1_told {e : Ending} {w' : World} (h : ShPost G1.prods 1 0 e w') : ∃ A c, e = .returned (.tuple #[.slice A 1 c, .bool true]) ∧ 1 ≤ c ∧ c ≤ maxLen ∧ RdF w' (fun _ => True) A [0] := by
  obtain ⟨x, hx, hl, h⟩ := h
  have hf := hx.fix (0, [0], 0) (by simp [G1])
  have hlen : lenF x 0 [0] = 1 := by
    have := lenF_sum (x := x) [0] 0 (by omega) (by omega) (fun s hs => by simp at hs; subst hs; simp [symL])
    rw [this]; simp [sumS, symL]; omega
  simp only at hf
  rw [hlen] at hf
  have h0 : 0 ≤ nth x 0 ∧ nth x 0 ≤ 1 := by rcases hf with q | q; omega; exact q
  rcases h with ⟨h1, _⟩ | ⟨_, _, sp, l, A, c, hg, hs, rfl, h2, h3, h4⟩
  · omega
  · obtain ⟨b, hb, ⟨hh, hd⟩, _⟩ := hg 0 (by omega) h0.1 (Int.le_refl _)
    rw [hs] at hb
    cases hb
    have := g1_der hd
    subst this
    exact ⟨A, c, rfl, h2, h3, h4⟩

theorem speaks_any (w : World) : Calls Try.prog 17 #[] w fun e w' => e = .returned (.bool true) ∧ Below w.heap.size w w' := by
  have HO := one_any w
  go_enter Try.func17, Try.ntmps17
  go_wp2_with fail
  refine HO.mono ?_
  rintro e w1 ⟨a, rfl, hg, hb1⟩
  have HG := Lib.hid hg; have HB := Lib.hid hb1
  clear hg hb1 HO
  have HC := Lib.hid (shortest_yes G1 (some ⟨a, 0, none⟩) none none 1 1 0 0 0 0 0 w1 w1.heap.size 1 1 (Nat.le_refl _) HG.out g1_ok rfl rfl (by omega))
  go_wp2_with fail
  refine HC.out.mono ?_
  rintro e w2 ⟨hp, hb2⟩
  obtain ⟨A, c, rfl, hc1, hc2, hr⟩ := g1_told hp
  obtain ⟨b, off, rfl, _, _, z0⟩ := hr (by simp)
  have z0 : w2.cell? ⟨b, off, none⟩ = some (.int .i64 0) := z0 0 (by decide)
  have HB2 := Lib.hid (HB.out.trans (hb2.mono HB.out.size))
  have HO := Lib.hid (one_any w2)
  unfold maxLen at hc2
  clear hp hr hb2
  go_wp2_with fail
  refine HO.out.mono ?_
  rintro e w3 ⟨a3, rfl, hg3, hb3⟩
  have HB3 := Lib.hid (HB2.out.trans (hb3.mono HB2.out.size))
  have HC3 := Lib.hid (ok_any G1 (some ⟨a3, 0, none⟩) none none 1 1 0 0 0 0 w3 w3.heap.size (Nat.le_refl _) hg3)
  clear hg3 hb3 z0
  go_wp2_with fail
  refine HC3.out.mono ?_
  rintro e w4 ⟨rfl, hb4⟩
  have HB4 := Lib.hid (HB3.out.trans (hb4.mono HB3.out.size))
  have hok : okB G1 = true := okB_t g1_ok
  clear hb4
  go_wp2
  go_ret
  exact ⟨rfl, HB4.out⟩
end Go.Proofs.Ytgfchgnebpogjaa
