/- Arguments opened: a slice of integers that came in. -/
import Derived.Test.YtinejiodnnjpgaaDoorProg
import Derived.Test.YtinejiodnnjpgaaDoorMem
import Derived.ProofKit
import Derived.OpenShut
namespace Go.Proofs.YtinejiodnnjpgaaDoor
open Go.ChangeShapes Go.WideShapes Go.ChangeAt Go.RowKit
set_option linter.unusedVariables false
set_option linter.unusedSimpArgs false
set_option maxRecDepth 100000

/-- The value is a slice of integers in memory below the heap's end. -/
def IsInts (W : World) (v : Value) : Prop := ∃ A n c l, v = .slice A n c ∧ List.length l = n ∧ n ≤ c ∧ c ≤ maxLen ∧ RdI W W.heap.size A l ∧ ∀ x ∈ l, (Lit.int .i64 x).wf = true

theorem take_nth (zs : List Int) (n j : Nat) (h : j < n) : nth (zs.take n) j = zs.getD j 0 := by
  unfold nth
  simp [List.getD, h]

theorem open_IsInts {H : Type} {enc : TypeId × Value → H} {W : World} {base : Nat} {r : Reach} {b0 : Nat} {v : Value} {d : DataW H} {p : List MemPlace} {held : Bool}
    (hv : Value.okWide Tryd.prog W r b0 32 v) (h : DataW.Trod enc Tryd.prog W base (fun _ => true) held 32 v d p) : IsInts W v := by
  obtain ⟨a, len, cap, rfl⟩ := okWide_slice Tryd.underlying32 hv
  obtain ⟨fuel, hf⟩ := h
  rcases open_ints Tryd.underlying32 Tryd.underlying3 (by kernel_rfl) hf with ⟨hcs, _⟩ | ⟨x, l, c, zs, hcs, _, hl, hm, hz, _, hcell, hwz⟩
  · simp [Value.cells] at hcs
    obtain ⟨rfl, rfl, rfl⟩ := hcs
    exact ⟨none, 0, 0, [], rfl, rfl, Nat.le_refl _, Nat.zero_le _, Rd.nil _ _ _, fun x hx => by cases hx⟩
  · simp [Value.cells] at hcs
    obtain ⟨rfl, rfl, rfl⟩ := hcs
    have hz : zs.length = cap := by simpa using hz
    refine ⟨some x, len, cap, zs.take len, rfl, by rw [List.length_take]; omega, hl, hm, fun hne => ?_, fun n hn => hwz n (List.mem_of_mem_take hn)⟩
    have hlen : 0 < len := by
      rcases Nat.eq_zero_or_pos len with h0 | h0
      · subst h0; simp at hne
      · exact h0
    obtain ⟨b, off, spot⟩ := x
    have hc0 := hcell 0 (by omega)
    have hspot : spot = none := by simpa [Addr.add] using World.cell?_spot hc0
    subst hspot
    refine ⟨b, off, rfl, World.block_lt_of_cell? W _ hc0, fun j u hu => ?_⟩
    rw [List.getElem?_map] at hu
    have hj : j < len := by
      rcases Nat.lt_or_ge j len with h0 | h0
      · exact h0
      · rw [List.getElem?_eq_none (by rw [List.length_take]; omega)] at hu; cases hu
    rw [nth_some (by rw [List.length_take]; omega), take_nth zs len j hj] at hu
    simp at hu
    subst hu
    have := hcell j (by omega)
    have hadd : (⟨b, off, none⟩ : Addr).add j = ⟨b, off + j, none⟩ := by unfold Addr.add; split <;> simp_all
    rw [hadd] at this
    simpa using this
end Go.Proofs.YtinejiodnnjpgaaDoor
