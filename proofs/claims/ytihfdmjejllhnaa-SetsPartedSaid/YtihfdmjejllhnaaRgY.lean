/- Arguments opened: a slice of slices of ranges. -/
import Derived.Test.YtihfdmjejllhnaaRgX
import Derived.Test.YtihfdmjejllhnaaSetsMadeW
namespace Go.Proofs.Ytihfdmjejllhnaa
open Go.RowKit
set_option linter.unusedVariables false
set_option linter.unusedSimpArgs false
set_option maxRecDepth 100000

theorem opens_Rgss : Opens Try.prog 34 (shL (shL shRg)) := opens_slice Try.underlying34 (by kernel_rfl) (by decide) opens_Rgs
/-- Sets that came in. -/
def IsRgss (W : World) (v : Value) : Prop := ∃ A n c S, v = .slice A n c ∧ List.length S = n ∧ n ≤ c ∧ c ≤ maxLen ∧ RdS W W.heap.size A S
theorem rdG_of {W : World} {l : List Rg} {d : List Value} (h : (shL shRg).rd W (Lo W.heap.size) l d) : ∃ A c, d = [.slice A l.length c] ∧ l.length ≤ c ∧ c ≤ maxLen ∧ RdG W W.heap.size A l := by
  obtain ⟨A, c, css, e, h1, h2, h3, h4, h5⟩ := h
  have hf : css.flatten = rv l := css_rv l css h3 fun i x d hx hd => by
    obtain ⟨c1, c2, e, ⟨q1, _⟩, ⟨q2, _⟩⟩ := h4 i x d hx hd
    rw [e, q1, q2]; rfl
  rw [hf] at h5
  exact ⟨A, c, e, h1, h2, h5⟩
theorem open_IsRgss {H : Type} {enc : TypeId × Value → H} {W : World} {base : Nat} {r : Reach} {b0 : Nat} {v : Value} {d : DataW H} {p : List MemPlace} {held : Bool}
    (hv : Value.okWide Try.prog W r b0 34 v) (h : DataW.Trod enc Try.prog W base (fun _ => true) held 34 v d p) : IsRgss W v := by
  obtain ⟨a, len, cap, rfl⟩ := Go.WideShapes.okWide_slice Try.underlying34 hv
  obtain ⟨S, hS⟩ := isIn_of opens_Rgss h
  have hS0 : (shL (shL shRg)).rd W (Lo W.heap.size) S [.slice a len cap] := by simpa [Value.cells] using hS
  obtain ⟨A, c, e, h1, h2⟩ := shL_form hS0
  simp at e
  obtain ⟨rfl, rfl, rfl⟩ := e
  refine ⟨a, _, cap, S, rfl, rfl, h1, h2, fun h0 => ?_⟩
  obtain ⟨b, off, e, hb, hc⟩ := shL_at hS0 (by decide) h0
  refine ⟨b, off, e, hb, fun k hk => ?_⟩
  obtain ⟨d, hd, hcd⟩ := hc k (nthS S k) (by rw [nthS_get hk, List.getElem?_eq_getElem hk])
  obtain ⟨A', c', rfl, q1, q2, q3⟩ := rdG_of hd
  refine ⟨A', c', ?_, q1, q2, q3⟩
  have := hcd 0 _ rfl
  have e1 : (shL shRg).n = 1 := rfl
  rw [e1, Nat.mul_one, Nat.add_zero] at this
  exact this
end Go.Proofs.Ytihfdmjejllhnaa
