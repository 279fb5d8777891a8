/- Plain facts on UTF-8: bytes of a string as numbers; the code point at a byte by the document's own road; that it is the model's. No program here. -/
import Derived.Lib.DecodeN
namespace Go.Proofs.Ytihfdmjejllhnaa
set_option linter.unusedVariables false

/-- Byte k of a string as a number; 0 behind its end. -/
def byt (s : ByteArray) (k : Nat) : Int := if h : k < s.size then ((s[k]'h).toNat : Int) else 0
theorem byt_get (s : ByteArray) (k : Nat) (h : k < s.size) : ((s[k]'h).toNat : Int) = byt s k := by unfold byt; rw [dif_pos h]
theorem byt_lo (s : ByteArray) (k : Nat) : 0 ≤ byt s k := by unfold byt; split <;> omega
theorem byt_hi (s : ByteArray) (k : Nat) : byt s k ≤ 255 := by
  unfold byt; split
  · have := (s[k]).toNat_lt; omega
  · omega
theorem byt_get! (s : ByteArray) (k : Nat) (h : k < s.size) : ((s.get! k).toNat : Int) = byt s k := by
  rw [← byt_get s k h]
  show ((s.data[k]!).toNat : Int) = _
  rw [getElem!_pos s.data k h]
  rfl

/-- Does byte k go on a code point, from lo to hi? -/
def folB (s : ByteArray) (k : Nat) (lo hi : Int) : Bool := decide (k < s.size) && (decide (lo ≤ byt s k) && decide (byt s k ≤ hi))
theorem folB_iff {s : ByteArray} {k : Nat} {lo hi : Int} : folB s k lo hi = true ↔ k < s.size ∧ lo ≤ byt s k ∧ byt s k ≤ hi := by
  simp [folB]
theorem folB_no {s : ByteArray} {k : Nat} {lo hi : Int} (h : folB s k lo hi = false) : ¬ (k < s.size ∧ lo ≤ byt s k ∧ byt s k ≤ hi) := by
  intro h'; rw [← folB_iff] at h'; rw [h] at h'; cases h'

/-- Code points of two, three, four bytes: the point, how many bytes, whether they belong to one. -/
def pt2 (s : ByteArray) (k : Nat) : Int × Nat × Bool :=
  if folB s (k + 1) 128 191 = true then ((byt s k - 192) * 64 + byt s (k + 1) - 128, 2, true) else (65533, 1, false)
def pt3 (s : ByteArray) (k : Nat) (lo hi : Int) : Int × Nat × Bool :=
  if folB s (k + 1) lo hi = true ∧ folB s (k + 2) 128 191 = true then (((byt s k - 224) * 64 + byt s (k + 1) - 128) * 64 + byt s (k + 2) - 128, 3, true) else (65533, 1, false)
def pt4 (s : ByteArray) (k : Nat) (lo hi : Int) : Int × Nat × Bool :=
  if folB s (k + 1) lo hi = true ∧ folB s (k + 2) 128 191 = true ∧ folB s (k + 3) 128 191 = true then
    ((((byt s k - 240) * 64 + byt s (k + 1) - 128) * 64 + byt s (k + 2) - 128) * 64 + byt s (k + 3) - 128, 4, true) else (65533, 1, false)

/-- The code point at byte k. -/
def ptS (s : ByteArray) (k : Nat) : Int × Nat × Bool :=
  if byt s k < 128 then (byt s k, 1, true)
  else if byt s k < 194 then (65533, 1, false)
  else if byt s k < 224 then pt2 s k
  else if byt s k = 224 then pt3 s k 160 191
  else if byt s k = 237 then pt3 s k 128 159
  else if byt s k < 240 then pt3 s k 128 191
  else if byt s k = 240 then pt4 s k 144 191
  else if byt s k < 244 then pt4 s k 128 191
  else if byt s k = 244 then pt4 s k 128 143
  else (65533, 1, false)

theorem ite_ok {α : Type} {P : α → Prop} {c : Prop} [Decidable c] {a b : α} (ha : c → P a) (hb : ¬ c → P b) : P (if c then a else b) := by
  by_cases h : c
  · rw [if_pos h]; exact ha h
  · rw [if_neg h]; exact hb h

def PtOk (s : ByteArray) (k : Nat) (r : Int × Nat × Bool) : Prop := (1 ≤ r.2.1 ∧ r.2.1 ≤ 4 ∧ k + r.2.1 ≤ s.size) ∧ (0 ≤ r.1 ∧ r.1 ≤ 1114111)

theorem ptS_facts (s : ByteArray) (k : Nat) (h : k < s.size) : PtOk s k (ptS s k) := by
  have h0 := byt_lo s k; have h1 := byt_hi s k
  have b1 := byt_lo s (k + 1); have c1 := byt_hi s (k + 1)
  have b2 := byt_lo s (k + 2); have c2 := byt_hi s (k + 2)
  have b3 := byt_lo s (k + 3); have c3 := byt_hi s (k + 3)
  unfold ptS pt2 pt3 pt4
  simp only [folB_iff]
  repeat' (refine ite_ok (fun _ => ?_) (fun _ => ?_))
  all_goals (unfold PtOk; dsimp only; omega)

/-- It is the model's. -/
theorem ptS_decode (s : ByteArray) (k : Nat) (h : k < s.size) : ((Utf8.decode s k).1 : Int) = (ptS s k).1 ∧ (Utf8.decode s k).2 = (ptS s k).2.1 := by
  rw [Lib.decode_at]
  have e0 := byt_get! s k h
  have b0 := byt_lo s k; have c0 := byt_hi s k
  generalize (s.get! k).toNat = n0 at *
  have H : ∀ j, k + j < s.size → ((s.get! (k + j)).toNat : Int) = byt s (k + j) := fun j hj => byt_get! s (k + j) hj
  have b1 := byt_lo s (k + 1); have c1 := byt_hi s (k + 1)
  have b2 := byt_lo s (k + 2); have c2 := byt_hi s (k + 2)
  have b3 := byt_lo s (k + 3); have c3 := byt_hi s (k + 3)
  have H1 := H 1; have H2 := H 2; have H3 := H 3
  clear H
  generalize (s.get! (k + 1)).toNat = n1 at *
  generalize (s.get! (k + 2)).toNat = n2 at *
  generalize (s.get! (k + 3)).toNat = n3 at *
  unfold ptS pt2 pt3 pt4 Lib.decodeN
  simp only [folB_iff]
  generalize byt s k = x0 at *
  generalize byt s (k + 1) = x1 at *
  generalize byt s (k + 2) = x2 at *
  generalize byt s (k + 3) = x3 at *
  by_cases p1 : x0 < 128
  · rw [if_pos p1, if_pos (by omega)]; exact ⟨e0, rfl⟩
  rw [if_neg p1, if_neg (by omega)]
  by_cases p2 : x0 < 194
  · rw [if_pos p2]
    by_cases f : n0 / 32 = 6 ∧ 1 < s.size - k ∧ n1 / 64 = 2
    · rw [if_pos f, if_neg (fun h => by omega)]
      exact ⟨rfl, rfl⟩
    · rw [if_neg f, if_neg (fun h => by omega), if_neg (fun h => by omega)]
      exact ⟨rfl, rfl⟩
  rw [if_neg p2]
  by_cases p3 : x0 < 224
  · rw [if_pos p3]
    by_cases f : k + 1 < s.size ∧ 128 ≤ x1 ∧ x1 ≤ 191
    · have g1 := H1 f.1
      rw [if_pos f, if_pos (by omega), if_pos (by omega)]
      exact ⟨by dsimp only; omega, rfl⟩
    · rw [if_neg f, if_neg (fun h => f (by omega)), if_neg (fun h => by omega), if_neg (fun h => by omega)]
      exact ⟨rfl, rfl⟩
  rw [if_neg p3, if_neg (fun h => by omega)]
  by_cases p4 : x0 < 240
  · rw [if_neg (show ¬ (n0 / 8 = 30 ∧ _) from fun h => by omega)]
    have K : ∀ lo hi : Int, 128 ≤ lo → hi ≤ 191 → ((x0 = 224 ∧ lo = 160 ∧ hi = 191) ∨ (x0 = 237 ∧ lo = 128 ∧ hi = 159) ∨ (x0 ≠ 224 ∧ x0 ≠ 237 ∧ lo = 128 ∧ hi = 191)) → ∀ r : Int × Nat × Bool,
        r = (if (k + 1 < s.size ∧ lo ≤ x1 ∧ x1 ≤ hi) ∧ (k + 2 < s.size ∧ 128 ≤ x2 ∧ x2 ≤ 191) then (((x0 - 224) * 64 + x1 - 128) * 64 + x2 - 128, 3, true) else (65533, 1, false)) →
        (((if n0 / 16 = 14 ∧ (1 < s.size - k ∧ n1 / 64 = 2) ∧ (2 < s.size - k ∧ n2 / 64 = 2) then
          (if n0 % 16 * 4096 + n1 % 64 * 64 + n2 % 64 ≥ 2048 ∧ (n0 % 16 * 4096 + n1 % 64 * 64 + n2 % 64 < 55296 ∨ (57344 ≤ n0 % 16 * 4096 + n1 % 64 * 64 + n2 % 64 ∧ n0 % 16 * 4096 + n1 % 64 * 64 + n2 % 64 ≤ 1114111))
           then (n0 % 16 * 4096 + n1 % 64 * 64 + n2 % 64, 3) else (65533, 1)) else (65533, 1)) : Nat × Nat).1 : Int) = r.1 ∧
        ((if n0 / 16 = 14 ∧ (1 < s.size - k ∧ n1 / 64 = 2) ∧ (2 < s.size - k ∧ n2 / 64 = 2) then
          (if n0 % 16 * 4096 + n1 % 64 * 64 + n2 % 64 ≥ 2048 ∧ (n0 % 16 * 4096 + n1 % 64 * 64 + n2 % 64 < 55296 ∨ (57344 ≤ n0 % 16 * 4096 + n1 % 64 * 64 + n2 % 64 ∧ n0 % 16 * 4096 + n1 % 64 * 64 + n2 % 64 ≤ 1114111))
           then (n0 % 16 * 4096 + n1 % 64 * 64 + n2 % 64, 3) else (65533, 1)) else (65533, 1)) : Nat × Nat).2 = r.2.1 := by
      intro lo hi hlo hhi hc r hr
      subst hr
      by_cases f1 : k + 1 < s.size ∧ 128 ≤ x1 ∧ x1 ≤ 191
      · have g1 := H1 f1.1
        by_cases f2 : k + 2 < s.size ∧ 128 ≤ x2 ∧ x2 ≤ 191
        · have g2 := H2 f2.1
          rw [if_pos (show n0 / 16 = 14 ∧ (1 < s.size - k ∧ n1 / 64 = 2) ∧ (2 < s.size - k ∧ n2 / 64 = 2) by omega)]
          by_cases f3 : lo ≤ x1 ∧ x1 ≤ hi
          · rw [if_pos (by omega), if_pos (by omega)]
            exact ⟨by dsimp only; omega, rfl⟩
          · rw [if_neg (by omega), if_neg (fun h => f3 h.1.2)]
            exact ⟨rfl, rfl⟩
        · rw [if_neg (fun h => f2 (by have := H2 (by omega); omega)), if_neg (fun h => f2 h.2)]
          exact ⟨rfl, rfl⟩
      · rw [if_neg (fun h => f1 (by have := H1 (by omega); omega)), if_neg (fun h => f1 (by omega))]
        exact ⟨rfl, rfl⟩
    by_cases q1 : x0 = 224
    · rw [if_pos q1]
      exact K 160 191 (by omega) (by omega) (.inl ⟨q1, rfl, rfl⟩) _ rfl
    rw [if_neg q1]
    by_cases q2 : x0 = 237
    · rw [if_pos q2]
      exact K 128 159 (by omega) (by omega) (.inr (.inl ⟨q2, rfl, rfl⟩)) _ rfl
    rw [if_neg q2, if_pos p4]
    exact K 128 191 (by omega) (by omega) (.inr (.inr ⟨q1, q2, rfl, rfl⟩)) _ rfl
  rw [if_neg (show ¬ (n0 / 16 = 14 ∧ _) from fun h => by omega), if_neg (show ¬ x0 = 224 by omega), if_neg (show ¬ x0 = 237 by omega), if_neg p4]
  have K : ∀ lo hi : Int, 128 ≤ lo → hi ≤ 191 → ((x0 = 240 ∧ lo = 144 ∧ hi = 191) ∨ (x0 = 244 ∧ lo = 128 ∧ hi = 143) ∨ (240 < x0 ∧ x0 < 244 ∧ lo = 128 ∧ hi = 191)) → ∀ r : Int × Nat × Bool,
      r = (if (k + 1 < s.size ∧ lo ≤ x1 ∧ x1 ≤ hi) ∧ (k + 2 < s.size ∧ 128 ≤ x2 ∧ x2 ≤ 191) ∧ (k + 3 < s.size ∧ 128 ≤ x3 ∧ x3 ≤ 191) then ((((x0 - 240) * 64 + x1 - 128) * 64 + x2 - 128) * 64 + x3 - 128, 4, true) else (65533, 1, false)) →
      (((if n0 / 8 = 30 ∧ (1 < s.size - k ∧ n1 / 64 = 2) ∧ (2 < s.size - k ∧ n2 / 64 = 2) ∧ (3 < s.size - k ∧ n3 / 64 = 2) then
        (if n0 % 8 * 262144 + n1 % 64 * 4096 + n2 % 64 * 64 + n3 % 64 ≥ 65536 ∧ (n0 % 8 * 262144 + n1 % 64 * 4096 + n2 % 64 * 64 + n3 % 64 < 55296 ∨ (57344 ≤ n0 % 8 * 262144 + n1 % 64 * 4096 + n2 % 64 * 64 + n3 % 64 ∧ n0 % 8 * 262144 + n1 % 64 * 4096 + n2 % 64 * 64 + n3 % 64 ≤ 1114111))
         then (n0 % 8 * 262144 + n1 % 64 * 4096 + n2 % 64 * 64 + n3 % 64, 4) else (65533, 1)) else (65533, 1)) : Nat × Nat).1 : Int) = r.1 ∧
      ((if n0 / 8 = 30 ∧ (1 < s.size - k ∧ n1 / 64 = 2) ∧ (2 < s.size - k ∧ n2 / 64 = 2) ∧ (3 < s.size - k ∧ n3 / 64 = 2) then
        (if n0 % 8 * 262144 + n1 % 64 * 4096 + n2 % 64 * 64 + n3 % 64 ≥ 65536 ∧ (n0 % 8 * 262144 + n1 % 64 * 4096 + n2 % 64 * 64 + n3 % 64 < 55296 ∨ (57344 ≤ n0 % 8 * 262144 + n1 % 64 * 4096 + n2 % 64 * 64 + n3 % 64 ∧ n0 % 8 * 262144 + n1 % 64 * 4096 + n2 % 64 * 64 + n3 % 64 ≤ 1114111))
         then (n0 % 8 * 262144 + n1 % 64 * 4096 + n2 % 64 * 64 + n3 % 64, 4) else (65533, 1)) else (65533, 1)) : Nat × Nat).2 = r.2.1 := by
    intro lo hi hlo hhi hc r hr
    subst hr
    by_cases f1 : k + 1 < s.size ∧ 128 ≤ x1 ∧ x1 ≤ 191
    · have g1 := H1 f1.1
      by_cases f2 : k + 2 < s.size ∧ 128 ≤ x2 ∧ x2 ≤ 191
      · have g2 := H2 f2.1
        by_cases f3 : k + 3 < s.size ∧ 128 ≤ x3 ∧ x3 ≤ 191
        · have g3 := H3 f3.1
          rw [if_pos (show n0 / 8 = 30 ∧ (1 < s.size - k ∧ n1 / 64 = 2) ∧ (2 < s.size - k ∧ n2 / 64 = 2) ∧ (3 < s.size - k ∧ n3 / 64 = 2) by omega)]
          by_cases f4 : lo ≤ x1 ∧ x1 ≤ hi
          · rw [if_pos (by omega), if_pos (by omega)]
            exact ⟨by dsimp only; omega, rfl⟩
          · rw [if_neg (by omega), if_neg (fun h => f4 h.1.2)]
            exact ⟨rfl, rfl⟩
        · rw [if_neg (fun h => f3 (by have := H3 (by omega); omega)), if_neg (fun h => f3 h.2.2)]
          exact ⟨rfl, rfl⟩
      · rw [if_neg (fun h => f2 (by have := H2 (by omega); omega)), if_neg (fun h => f2 h.2.1)]
        exact ⟨rfl, rfl⟩
    · rw [if_neg (fun h => f1 (by have := H1 (by omega); omega)), if_neg (fun h => f1 (by omega))]
      exact ⟨rfl, rfl⟩
  by_cases p5 : x0 < 245
  · by_cases q1 : x0 = 240
    · rw [if_pos q1]
      exact K 144 191 (by omega) (by omega) (.inl ⟨q1, rfl, rfl⟩) _ rfl
    rw [if_neg q1]
    by_cases q2 : x0 < 244
    · rw [if_pos q2]
      exact K 128 191 (by omega) (by omega) (.inr (.inr ⟨by omega, q2, rfl, rfl⟩)) _ rfl
    · rw [if_neg q2, if_pos (show x0 = 244 by omega)]
      exact K 128 143 (by omega) (by omega) (.inr (.inl ⟨by omega, rfl, rfl⟩)) _ rfl
  · rw [if_neg (show ¬ x0 = 240 by omega), if_neg (show ¬ x0 < 244 by omega), if_neg (show ¬ x0 = 244 by omega)]
    by_cases f : n0 / 8 = 30 ∧ (1 < s.size - k ∧ n1 / 64 = 2) ∧ (2 < s.size - k ∧ n2 / 64 = 2) ∧ (3 < s.size - k ∧ n3 / 64 = 2)
    · rw [if_pos f, if_neg (by omega)]
      exact ⟨rfl, rfl⟩
    · rw [if_neg f]
      exact ⟨rfl, rfl⟩
end Go.Proofs.Ytihfdmjejllhnaa
