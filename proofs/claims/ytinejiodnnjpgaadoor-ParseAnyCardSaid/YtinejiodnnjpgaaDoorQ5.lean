/- Plain: trees; whether one is a tree of a symbol with these leaves; how many it has; its text. No program here. · Trees in memory. -/
import Derived.Lib.ItoaNum
import Derived.Lib.Hide
import Derived.Test.YtinejiodnnjpgaaDoorQ3
import Derived.Test.YtinejiodnnjpgaaDoorQ4
namespace Go.Proofs.YtinejiodnnjpgaaDoor
set_option linter.unusedVariables false
set_option linter.unusedSimpArgs false

inductive Tr where
  | nil : Tr
  | node : Int → Int → List Tr → Tr
instance : Inhabited Tr := ⟨.nil⟩
mutual
/-- How many trees, each as often as it stands there. -/
def szT : Tr → Nat
  | .nil => 1
  | .node _ _ ks => 1 + szL ks
def szL : List Tr → Nat
  | [] => 0
  | k :: ks => szT k + szL ks
end
theorem szT_pos : ∀ t : Tr, 1 ≤ szT t
  | .nil => by rw [szT]; exact Nat.le_refl _
  | .node _ _ ks => by rw [szT]; omega
theorem szL_mem : ∀ {ks : List Tr} {k : Tr}, k ∈ ks → szT k ≤ szL ks
  | [], k, h => by cases h
  | x :: ks, k, h => by
    rw [szL]
    rcases List.mem_cons.1 h with rfl | q
    · omega
    · have := szL_mem q; omega
theorem szL_len : ∀ ks : List Tr, ks.length ≤ szL ks
  | [] => Nat.le_refl _
  | k :: ks => by have h1 := szL_len ks; have h2 := szT_pos k; rw [szL, List.length_cons]; omega
theorem szL_append : ∀ (a b : List Tr), szL (a ++ b) = szL a + szL b
  | [], b => by rw [List.nil_append, szL]; omega
  | k :: a, b => by rw [List.cons_append, szL, szL, szL_append a b]; omega

mutual
def showT : Tr → List UInt8
  | .nil => [40, 41]
  | .node p tok ks => if p < 0 then Lib.itoa tok else [40] ++ Lib.itoa p ++ showL ks ++ [41]
def showL : List Tr → List UInt8
  | [] => []
  | k :: ks => [32] ++ showT k ++ showL ks
end
theorem showL_append : ∀ (a b : List Tr), showL (a ++ b) = showL a ++ showL b
  | [], b => by rw [List.nil_append, showL]; rfl
  | k :: a, b => by rw [List.cons_append, showL, showL, showL_append a b]; simp
theorem decDigits_len : ∀ (n u : Nat), u < 10 ^ (n + 1) → (Lib.decDigits u).length ≤ n + 1
  | 0, u, h => by rw [Lib.decDigits, dif_pos (by omega)]; simp
  | n + 1, u, h => by
    rw [Lib.decDigits]
    split
    · simp
    · have := decDigits_len n (u / 10) (by rw [Nat.pow_succ] at h; omega)
      simp; omega
theorem itoa_len {n : Int} (h0 : -9223372036854775808 ≤ n) (h1 : n ≤ 9223372036854775807) : (Lib.itoa n).length ≤ 20 := by
  unfold Lib.itoa
  split
  · have := decDigits_len 18 n.natAbs (by omega)
    simp; omega
  · have := decDigits_len 18 n.toNat (by omega)
    omega
/-- All its numbers are ints. -/
inductive IntT : Tr → Prop where
  | nil : IntT .nil
  | node {p tok : Int} {ks : List Tr} : -9223372036854775808 ≤ p → p ≤ 9223372036854775807 → -9223372036854775808 ≤ tok → tok ≤ 9223372036854775807 → (∀ k ∈ ks, IntT k) → IntT (.node p tok ks)
mutual
theorem showT_len : ∀ (t : Tr), IntT t → (showT t).length + 1 ≤ 25 * szT t
  | .nil, _ => by rw [showT, szT]; decide
  | .node p tok ks, h => by
    cases h with
    | node h1 h2 h3 h4 h5 =>
      have a1 := itoa_len h1 h2; have a2 := itoa_len h3 h4; have a3 := showL_len ks h5
      rw [showT, szT]
      split
      · omega
      · simp only [List.length_append, List.length_cons, List.length_nil]; omega
theorem showL_len : ∀ (ks : List Tr), (∀ k ∈ ks, IntT k) → (showL ks).length ≤ 25 * szL ks
  | [], _ => by rw [showL, szL]; decide
  | k :: ks, h => by
    have a1 := showT_len k (h k (List.mem_cons_self ..)); have a2 := showL_len ks (fun x hx => h x (List.mem_cons_of_mem _ hx)); have a3 := szT_pos k
    rw [showL, szL]
    simp only [List.length_append, List.length_cons, List.length_nil]; omega
end
end Go.Proofs.YtinejiodnnjpgaaDoor
namespace Go.Proofs.YtinejiodnnjpgaaDoor
open Go.RowKit BigFrame
set_option linter.unusedVariables false
set_option linter.unusedSimpArgs false
set_option maxRecDepth 100000

mutual
/-- A pointer that reads as a tree, all of it in blocks of S. -/
def TrIn (w : World) (S : Nat → Prop) : Value → Tr → Prop
  | v, .nil => v = .pointer none
  | v, .node p tok ks => ∃ b A c, v = .pointer (some ⟨b, 0, none⟩) ∧ S b ∧ w.cell? ⟨b, 0, none⟩ = some (.int .i64 p) ∧ w.cell? ⟨b, 1, none⟩ = some (.int .i64 tok) ∧ w.cell? ⟨b, 2, none⟩ = some (.slice A ks.length c) ∧ ks.length ≤ c ∧ c ≤ maxLen ∧
      (0 < ks.length → ∃ kb off, A = some ⟨kb, off, none⟩ ∧ S kb ∧ TrsIn w S kb off ks)
def TrsIn (w : World) (S : Nat → Prop) (kb : Nat) : Nat → List Tr → Prop
  | _, [] => True
  | off, k :: ks => (∃ v, w.cell? ⟨kb, off, none⟩ = some v ∧ TrIn w S v k) ∧ TrsIn w S kb (off + 1) ks
end
theorem TrsIn.at_ {w : World} {S : Nat → Prop} {kb : Nat} : ∀ {ks : List Tr} {off : Nat}, TrsIn w S kb off ks → ∀ (i : Nat) (k : Tr), ks[i]? = some k → ∃ v, w.cell? ⟨kb, off + i, none⟩ = some v ∧ TrIn w S v k
  | [], off, _, i, k, h => by simp at h
  | x :: ks, off, h, 0, k, hk => by
    rw [TrsIn] at h
    simp at hk
    subst hk
    exact h.1
  | x :: ks, off, h, i + 1, k, hk => by
    rw [TrsIn] at h
    obtain ⟨v, h1, h2⟩ := h.2.at_ i k (by simpa using hk)
    exact ⟨v, by rw [← h1]; congr 2; omega, h2⟩
theorem TrsIn.mk_ {w : World} {S : Nat → Prop} {kb : Nat} : ∀ {ks : List Tr} {off : Nat}, (∀ (i : Nat) (k : Tr), ks[i]? = some k → ∃ v, w.cell? ⟨kb, off + i, none⟩ = some v ∧ TrIn w S v k) → TrsIn w S kb off ks
  | [], off, _ => by rw [TrsIn]; trivial
  | x :: ks, off, h => by
    rw [TrsIn]
    refine ⟨h 0 x rfl, TrsIn.mk_ fun i k hk => ?_⟩
    obtain ⟨v, h1, h2⟩ := h (i + 1) k (by simpa using hk)
    exact ⟨v, by rw [← h1]; congr 2; omega, h2⟩
mutual
theorem TrIn.keep {w w' : World} {S S' : Nat → Prop} (hk : ∀ b, S b → w'.heap[b]? = w.heap[b]?) (hs : ∀ b, S b → S' b) : ∀ {t : Tr} {v : Value}, TrIn w S v t → TrIn w' S' v t
  | .nil, v, h => by rw [TrIn] at h ⊢; exact h
  | .node p tok ks, v, h => by
    rw [TrIn] at h ⊢
    obtain ⟨b, A, c, e, hb, c0, c1, c2, h1, h2, h3⟩ := h
    have kc : ∀ (a : Addr), S a.block → w'.cell? a = w.cell? a := fun a q => World.cell?_of_block (hk a.block q)
    refine ⟨b, A, c, e, hs b hb, (kc ⟨b, 0, none⟩ hb).trans c0, (kc ⟨b, 1, none⟩ hb).trans c1, (kc ⟨b, 2, none⟩ hb).trans c2, h1, h2, fun h0 => ?_⟩
    obtain ⟨kb, off, e2, hkb, h4⟩ := h3 h0
    exact ⟨kb, off, e2, hs kb hkb, TrsIn.keep hk hs hkb h4⟩
theorem TrsIn.keep {w w' : World} {S S' : Nat → Prop} (hk : ∀ b, S b → w'.heap[b]? = w.heap[b]?) (hs : ∀ b, S b → S' b) {kb : Nat} (hkb : S kb) : ∀ {ks : List Tr} {off : Nat}, TrsIn w S kb off ks → TrsIn w' S' kb off ks
  | [], off, _ => by rw [TrsIn]; trivial
  | k :: ks, off, h => by
    rw [TrsIn] at h ⊢
    obtain ⟨⟨v, h1, h2⟩, h3⟩ := h
    exact ⟨⟨v, (World.cell?_of_block (a := ⟨kb, off, none⟩) (hk kb hkb)).trans h1, TrIn.keep hk hs h2⟩, TrsIn.keep hk hs hkb h3⟩
end
theorem TrIn.nil_inv {w : World} {S : Nat → Prop} {v : Value} (h : TrIn w S v .nil) : v = .pointer none := by rw [TrIn] at h; exact h
theorem TrIn.node_inv {w : World} {S : Nat → Prop} {v : Value} {p tok : Int} {ks : List Tr} (h : TrIn w S v (.node p tok ks)) : ∃ b A c, v = .pointer (some ⟨b, 0, none⟩) ∧ S b ∧ w.cell? ⟨b, 0, none⟩ = some (.int .i64 p) ∧ w.cell? ⟨b, 1, none⟩ = some (.int .i64 tok) ∧ w.cell? ⟨b, 2, none⟩ = some (.slice A ks.length c) ∧ ks.length ≤ c ∧ c ≤ maxLen ∧
    (0 < ks.length → ∃ kb off, A = some ⟨kb, off, none⟩ ∧ S kb ∧ ∀ (i : Nat) (k : Tr), ks[i]? = some k → ∃ u, w.cell? ⟨kb, off + i, none⟩ = some u ∧ TrIn w S u k) := by
  rw [TrIn] at h
  obtain ⟨b, A, c, e, hb, c0, c1, c2, h1, h2, h3⟩ := h
  refine ⟨b, A, c, e, hb, c0, c1, c2, h1, h2, fun h0 => ?_⟩
  obtain ⟨kb, off, e2, hkb, h4⟩ := h3 h0
  exact ⟨kb, off, e2, hkb, h4.at_⟩
/-- All of it below a block. -/
abbrev TrB (w : World) (B : Nat) (v : Value) (t : Tr) : Prop := TrIn w (fun b => b < B) v t
theorem TrB.below {w w' : World} {B : Nat} {v : Value} {t : Tr} (h : TrB w B v t) (hb : Below B w w') : TrB w' B v t := TrIn.keep (fun b q => hb.block b q) (fun _ q => q) h
theorem TrB.more {w : World} {B B' : Nat} {v : Value} {t : Tr} (h : TrB w B v t) (hB : B ≤ B') : TrB w B' v t := TrIn.keep (fun _ _ => rfl) (fun _ q => Nat.lt_of_lt_of_le q hB) h
theorem TrIn.ptr {w : World} {S : Nat → Prop} : ∀ {t : Tr} {v : Value}, TrIn w S v t → ∃ p, v = .pointer p
  | .nil, v, h => by rw [TrIn] at h; exact ⟨_, h⟩
  | .node p tok ks, v, h => by rw [TrIn] at h; obtain ⟨b, A, c, rfl, _⟩ := h; exact ⟨_, rfl⟩
theorem TrIn.one {w : World} {S : Nat → Prop} : ∀ {t : Tr} {v : Value}, TrIn w S v t → v.oneCell' = true
  | .nil, v, h => by rw [TrIn] at h; subst h; rfl
  | .node p tok ks, v, h => by rw [TrIn] at h; obtain ⟨b, A, c, rfl, _⟩ := h; rfl
end Go.Proofs.YtinejiodnnjpgaaDoor
