/- repair.Cost: the whole contract. -/
import Derived.Test.YtgfchgnebpogjaaRepD
namespace Go.Proofs.Ytgfchgnebpogjaa
open Go.RowKit
set_option linter.unusedVariables false
set_option linter.unusedSimpArgs false
set_option maxRecDepth 100000

theorem cost_any (A1 A2 A3 A4 : Option Addr) (n1 c1 n2 c2 n3 c3 n4 c4 : Nat) (P L F T : List Int) (w : World) (B : Nat) (hB : B ≤ w.heap.size)
    (h1 : RdI w B A1 P) (h2 : RdI w B A2 L) (h3 : RdI w B A3 F) (h4 : RdI w B A4 T) (l1 : P.length = n1) (l2 : L.length = n2) (l3 : F.length = n3) (l4 : T.length = n4)
    (m1 : n1 ≤ maxLen) (m2 : n2 ≤ maxLen) (m3 : n3 ≤ maxLen) (m4 : n4 ≤ maxLen) :
    Calls Try.prog 8 #[.agg #[.slice A1 n1 c1, .slice A2 n2 c2], .slice A3 n3 c3, .slice A4 n4 c4] w fun e w' => e = .returned (.int .i64 (costA P L F T)) ∧ Below w.heap.size w w' := by
  by_cases hg : P.all costB = true ∧ L.all costB = true ∧ n3 ≤ 1000 ∧ n4 ≤ 1000
  · exact cost_good A1 A2 A3 A4 n1 c1 n2 c2 n3 c3 n4 c4 P L F T w B hB h1 h2 h3 h4 l1 l2 l3 l4 m1 m2 hg.2.2.1 hg.2.2.2 hg.1 hg.2.1
  · refine (cost_bad A1 A2 A3 A4 n1 c1 n2 c2 n3 c3 n4 c4 P L F T w B hB h1 h2 h3 h4 l1 l2 l3 l4 m1 m2 m3 m4 hg).mono ?_
    rintro e w' ⟨rfl, hb⟩
    refine ⟨ret_eq ?_, hb⟩
    unfold costA
    rw [if_neg (fun h => hg ⟨h.1, h.2.1, by omega, by omega⟩)]
end Go.Proofs.Ytgfchgnebpogjaa
