/- The closure that compares two classes. -/
import Derived.Test.YtihfdmjejllhnaaRgV
namespace Go.Proofs.Ytihfdmjejllhnaa
open Go.RowKit BigFrame
set_option linter.unusedVariables false
set_option linter.unusedSimpArgs false
set_option maxRecDepth 100000

theorem classes1_any (A A2 : Option Addr) (n c n2 c2 : Nat) (l l2 : List Rg) (w : World) (B B2 : Nat) (hr : RdG w B A l) (hr2 : RdG w B2 A2 l2) (hl : l.length = n) (hl2 : l2.length = n2) (h0 : 0 < n) (h02 : 0 < n2)
    (hb : 0 ≤ fstR l ∧ fstR l ≤ 1114111) (hb2 : 0 ≤ fstR l2 ∧ fstR l2 ≤ 1114111) :
    Calls Try.prog 39 #[.slice A n c, .slice A2 n2 c2] w fun e w' => e = .returned (.int .i64 (fstR l - fstR l2)) ∧ ∃ q, w' = w.drewN q := by
  obtain ⟨b, off, rfl, _, hc⟩ := hr.at_ (by omega)
  obtain ⟨b2, off2, rfl, _, hc2⟩ := hr2.at_ (by omega)
  have z1 := (hc 0 (by omega)).1
  have z2 := (hc2 0 (by omega)).1
  have e1 : (nthR l 0).1 = fstR l := by cases l <;> rfl
  have e2 : (nthR l2 0).1 = fstR l2 := by cases l2 <;> rfl
  rw [e1] at z1
  rw [e2] at z2
  simp only [Nat.zero_mul, Nat.add_zero] at z1 z2
  clear hc hc2 e1 e2 hr hr2 hl hl2
  generalize fstR l = x at *
  generalize fstR l2 = y at *
  obtain ⟨p1, p2⟩ := hb
  obtain ⟨p3, p4⟩ := hb2
  go_enter Try.func39, Try.ntmps39
  go_wp2_with fail
  go_quiet (fail)
  go_wp2_with fail
  go_ret
  exact ⟨rfl, _, rfl⟩
end Go.Proofs.Ytihfdmjejllhnaa
