/- grammar.whole. -/
import Derived.Test.YtgfchgnebpogjaaLv
namespace Go.Proofs.Ytgfchgnebpogjaa
open Go.RowKit BigFrame
set_option linter.unusedVariables false
set_option linter.unusedSimpArgs false
set_option maxRecDepth 100000

theorem whole1_any (x : Int) (v g N : Nat) (l : List Bool) (w : World) (hN : N ≤ 300) (h : BlSt w v g N l) (hx : x < 0 → (-1 - x).toNat < N) :
    Calls Try.prog 75 #[.int .i64 x, .pointer (some ⟨v, 0, none⟩)] w fun e w' => e = .returned (.bool (!livS l x)) ∧ w = w' := by
  have zv := h.c
  by_cases h1 : x < 0
  · have d1 : decide (x < 0) = true := decide_eq_true h1
    have ht := hx (by omega)
    obtain ⟨t, ht1⟩ : ∃ t : Nat, t = (-1 - x).toNat := ⟨_, rfl⟩
    rw [← ht1] at ht
    have hts : -1 - x = (t : Int) := by omega
    have z := h.b.bcell (k := t) (by rw [h.l]; exact ht)
    have HF : Hid (livS l x = bth l t) := Lib.hid (by
      have h3 : ¬ 0 ≤ x := by omega
      unfold livS; rw [← ht1]; simp [h3])
    generalize bth l t = q at z HF
    clear h hx ht1
    go_enter Try.func75, Try.ntmps75
    go_wp2
    go_ret
    exact ⟨ret_eq (by rw [HF.out]; rfl), rfl⟩
  · have d1 : decide (x < 0) = false := decide_eq_false h1
    have HF : Hid (livS l x = true) := Lib.hid (by unfold livS; simp; omega)
    clear h hx
    go_enter Try.func75, Try.ntmps75
    go_wp2
    go_ret
    exact ⟨ret_eq (by rw [HF.out]; rfl), rfl⟩

theorem whole_any (px : Int) (r : List Int) (py : Int) (A' : Option Addr) (n' c' g N : Nat) (l : List Bool) (w : World) (B : Nat) (hB : B ≤ w.heap.size) (hN : N ≤ 300) (hr : RdI w B A' r) (hl : r.length = n') (hm : n' ≤ maxLen) (hb : Blk w g 4 (bv l)) (hbl : l.length = N) (h2 : ∀ s ∈ r, s < 0 → (-1 - s).toNat < N) :
    Calls Try.prog 53 #[.agg #[.int .i64 px, .slice A' n' c', .int .i64 py], .slice (some ⟨g, 0, none⟩) N N] w fun e w' => e = .returned (.bool (r.all (livS l))) ∧ Below w.heap.size w w' := by
  have hs2 : ((w.alloc (.cells #[.int .i64 px, .slice A' n' c', .int .i64 py] 50)).alloc (.cells #[.slice (some ⟨g, 0, none⟩) N N] 38)).heap.size = w.heap.size + 2 := by simp
  have hb2 : Below w.heap.size w ((w.alloc (.cells #[.int .i64 px, .slice A' n' c', .int .i64 py] 50)).alloc (.cells #[.slice (some ⟨g, 0, none⟩) N N] 38)) := ((Below.refl _ _).alloc (Nat.le_refl _) _).alloc (by simp) _
  have hcv := new_cell (w.alloc (.cells #[.int .i64 px, .slice A' n' c', .int .i64 py] 50)) (w.heap.size + 1) (by simp) (.slice (some ⟨g, 0, none⟩) N N) 38
  have hgs := hb.lt
  have hcon := contains1 75 (w.heap.size + 1) (fun s => !livS l s) A' n' c' r ((w.alloc (.cells #[.int .i64 px, .slice A' n' c', .int .i64 py] 50)).alloc (.cells #[.slice (some ⟨g, 0, none⟩) N N] 38)) w.heap.size (fun _ _ => rfl) ((hr.more hB).below hb2) hl hm (fun x hx =>
    whole1_any x (w.heap.size + 1) g N l _ hN ⟨hcv, hb.below hb2 hgs, hbl⟩ (h2 x hx))
  have hall : r.any (fun s => !livS l s) = !(r.all (livS l)) := by rw [List.not_all_eq_any_not]
  rw [hall] at hcon
  generalize r.all (livS l) = q at hcon
  have HC := Lib.hid hcon; have HB2 := Lib.hid hb2
  unfold maxLen at hm
  clear hcon hb2 hs2 hall hcv hr hl hb hbl h2
  go_enter Try.func53, Try.ntmps53
  go_wp2_with fail
  refine HC.out.mono ?_
  rintro e w' ⟨rfl, rfl⟩
  go_wp2
  go_ret
  exact ⟨ret_eq (by simp), HB2.out⟩
end Go.Proofs.Ytgfchgnebpogjaa
