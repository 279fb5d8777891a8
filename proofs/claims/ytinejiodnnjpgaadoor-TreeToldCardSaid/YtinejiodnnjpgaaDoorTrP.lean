/- Plain: trees; whether one is a tree of a symbol with these leaves; how many it has; its text. No program here. -/
import Derived.Lib.ItoaNum
import Derived.Lib.Hide
namespace Go.Proofs.YtinejiodnnjpgaaDoor
set_option linter.unusedVariables false
set_option linter.unusedSimpArgs false

inductive Tr where
  | nil : Tr
  | node : Int → Int → List Tr → Tr
instance : Inhabited Tr := ⟨.nil⟩
mutual
/-- How many trees, each as often as it stands there. -/
def szT : Tr → Nat
  | .nil => 1
  | .node _ _ ks => 1 + szL ks
def szL : List Tr → Nat
  | [] => 0
  | k :: ks => szT k + szL ks
end
theorem szT_pos : ∀ t : Tr, 1 ≤ szT t
  | .nil => by rw [szT]; exact Nat.le_refl _
  | .node _ _ ks => by rw [szT]; omega
theorem szL_mem : ∀ {ks : List Tr} {k : Tr}, k ∈ ks → szT k ≤ szL ks
  | [], k, h => by cases h
  | x :: ks, k, h => by
    rw [szL]
    rcases List.mem_cons.1 h with rfl | q
    · omega
    · have := szL_mem q; omega
theorem szL_len : ∀ ks : List Tr, ks.length ≤ szL ks
  | [] => Nat.le_refl _
  | k :: ks => by have h1 := szL_len ks; have h2 := szT_pos k; rw [szL, List.length_cons]; omega
theorem szL_append : ∀ (a b : List Tr), szL (a ++ b) = szL a + szL b
  | [], b => by rw [List.nil_append, szL]; omega
  | k :: a, b => by rw [List.cons_append, szL, szL, szL_append a b]; omega

mutual
def showT : Tr → List UInt8
  | .nil => [40, 41]
  | .node p tok ks => if p < 0 then Lib.itoa tok else [40] ++ Lib.itoa p ++ showL ks ++ [41]
def showL : List Tr → List UInt8
  | [] => []
  | k :: ks => [32] ++ showT k ++ showL ks
end
theorem showL_append : ∀ (a b : List Tr), showL (a ++ b) = showL a ++ showL b
  | [], b => by rw [List.nil_append, showL]; rfl
  | k :: a, b => by rw [List.cons_append, showL, showL, showL_append a b]; simp
theorem decDigits_len : ∀ (n u : Nat), u < 10 ^ (n + 1) → (Lib.decDigits u).length ≤ n + 1
  | 0, u, h => by rw [Lib.decDigits, dif_pos (by omega)]; simp
  | n + 1, u, h => by
    rw [Lib.decDigits]
    split
    · simp
    · have := decDigits_len n (u / 10) (by rw [Nat.pow_succ] at h; omega)
      simp; omega
theorem itoa_len {n : Int} (h0 : -9223372036854775808 ≤ n) (h1 : n ≤ 9223372036854775807) : (Lib.itoa n).length ≤ 20 := by
  unfold Lib.itoa
  split
  · have := decDigits_len 18 n.natAbs (by omega)
    simp; omega
  · have := decDigits_len 18 n.toNat (by omega)
    omega
/-- All its numbers are ints. -/
inductive IntT : Tr → Prop where
  | nil : IntT .nil
  | node {p tok : Int} {ks : List Tr} : -9223372036854775808 ≤ p → p ≤ 9223372036854775807 → -9223372036854775808 ≤ tok → tok ≤ 9223372036854775807 → (∀ k ∈ ks, IntT k) → IntT (.node p tok ks)
mutual
theorem showT_len : ∀ (t : Tr), IntT t → (showT t).length + 1 ≤ 25 * szT t
  | .nil, _ => by rw [showT, szT]; decide
  | .node p tok ks, h => by
    cases h with
    | node h1 h2 h3 h4 h5 =>
      have a1 := itoa_len h1 h2; have a2 := itoa_len h3 h4; have a3 := showL_len ks h5
      rw [showT, szT]
      split
      · omega
      · simp only [List.length_append, List.length_cons, List.length_nil]; omega
theorem showL_len : ∀ (ks : List Tr), (∀ k ∈ ks, IntT k) → (showL ks).length ≤ 25 * szL ks
  | [], _ => by rw [showL, szL]; decide
  | k :: ks, h => by
    have a1 := showT_len k (h k (List.mem_cons_self ..)); have a2 := showL_len ks (fun x hx => h x (List.mem_cons_of_mem _ hx)); have a3 := szT_pos k
    rw [showL, szL]
    simp only [List.length_append, List.length_cons, List.length_nil]; omega
end
end Go.Proofs.YtinejiodnnjpgaaDoor
