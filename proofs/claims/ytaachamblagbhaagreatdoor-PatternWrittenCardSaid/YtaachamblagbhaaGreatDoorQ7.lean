/- strconv's helpers for base 16: isPowerOfTwo, TrailingZeros at 16. · Plain facts on UTF-8: bytes of a string as numbers; the code point at a byte by the document's own road; that it is the model's. No program here. · Plain: what reads points, sets, brackets and rows reads the text of each valid pattern. -/
import Derived.Test.YtaachamblagbhaaGreatDoorProg
import Derived.Test.YtaachamblagbhaaGreatDoorQ3
import Derived.Handy
import Derived.WalkKit
import Derived.WalkSpells
import Derived.WalkLawsBesides
import Derived.Lib.Hide
import Derived.Deep.QuietTactic
import Derived.BigQuiet
import Derived.Lib.DecodeN
import Derived.Test.YtaachamblagbhaaGreatDoorQ1
namespace Go.Proofs.YtaachamblagbhaaGreatDoor
open Go.RowKit BigFrame
set_option linter.unusedVariables false
set_option linter.unusedSimpArgs false
set_option maxRecDepth 100000

theorem pow2_16 (w : World) : Calls Tryz.prog 97 #[.int .i64 16] w fun e w' => e = .returned (.bool true) ∧ w' = w := by
  go_enter Tryz.func97, Tryz.ntmps97
  go_wp2_with fail
  go_ret
  exact ⟨rfl, rfl⟩
theorem tz64_16 (w : World) (h : w.cell? ⟨11, 15, none⟩ = some (.int .u8 4)) : Calls Tryz.prog 105 #[.int .u64 16] w fun e w' => e = .returned (.int .i64 4) ∧ w' = w := by
  have e : (IntKind.u64.wrap (bits BinOp.and IntKind.u64 16 (IntKind.u64.wrap (-16)) * 285870213051353865) / 288230376151711744).toNat = 15 := by decide
  have h' : w.cell? ⟨11, (IntKind.u64.wrap (bits BinOp.and IntKind.u64 16 (IntKind.u64.wrap (-16)) * 285870213051353865) / 288230376151711744).toNat, none⟩ = some (.int .u8 4) := by rw [e]; exact h
  clear e h
  go_enter Tryz.func105, Tryz.ntmps105
  go_wp2_with fail
  go_ret
  exact ⟨rfl, rfl⟩
theorem tz_16 (w : World) (h : w.cell? ⟨11, 15, none⟩ = some (.int .u8 4)) : Calls Tryz.prog 98 #[.int .u64 16] w fun e w' => e = .returned (.int .i64 4) ∧ w' = w := by
  have HZ := Lib.hid (tz64_16 w h)
  clear h
  go_enter Tryz.func98, Tryz.ntmps98
  go_wp2_with fail
  refine HZ.out.mono ?_
  rintro e w' ⟨rfl, rfl⟩
  go_wp2_with fail
  go_ret
  exact ⟨rfl, rfl⟩
end Go.Proofs.YtaachamblagbhaaGreatDoor
namespace Go.Proofs.YtaachamblagbhaaGreatDoor
set_option linter.unusedVariables false

/-- Byte k of a string as a number; 0 behind its end. -/
def byt (s : ByteArray) (k : Nat) : Int := if h : k < s.size then ((s[k]'h).toNat : Int) else 0
theorem byt_get (s : ByteArray) (k : Nat) (h : k < s.size) : ((s[k]'h).toNat : Int) = byt s k := by unfold byt; rw [dif_pos h]
theorem byt_lo (s : ByteArray) (k : Nat) : 0 ≤ byt s k := by unfold byt; split <;> omega
theorem byt_hi (s : ByteArray) (k : Nat) : byt s k ≤ 255 := by
  unfold byt; split
  · have := (s[k]).toNat_lt; omega
  · omega
theorem byt_get! (s : ByteArray) (k : Nat) (h : k < s.size) : ((s.get! k).toNat : Int) = byt s k := by
  rw [← byt_get s k h]
  show ((s.data[k]!).toNat : Int) = _
  rw [getElem!_pos s.data k h]
  rfl

/-- Does byte k go on a code point, from lo to hi? -/
def folB (s : ByteArray) (k : Nat) (lo hi : Int) : Bool := decide (k < s.size) && (decide (lo ≤ byt s k) && decide (byt s k ≤ hi))
theorem folB_iff {s : ByteArray} {k : Nat} {lo hi : Int} : folB s k lo hi = true ↔ k < s.size ∧ lo ≤ byt s k ∧ byt s k ≤ hi := by
  simp [folB]
theorem folB_no {s : ByteArray} {k : Nat} {lo hi : Int} (h : folB s k lo hi = false) : ¬ (k < s.size ∧ lo ≤ byt s k ∧ byt s k ≤ hi) := by
  intro h'; rw [← folB_iff] at h'; rw [h] at h'; cases h'

/-- Code points of two, three, four bytes: the point, how many bytes, whether they belong to one. -/
def pt2 (s : ByteArray) (k : Nat) : Int × Nat × Bool :=
  if folB s (k + 1) 128 191 = true then ((byt s k - 192) * 64 + byt s (k + 1) - 128, 2, true) else (65533, 1, false)
def pt3 (s : ByteArray) (k : Nat) (lo hi : Int) : Int × Nat × Bool :=
  if folB s (k + 1) lo hi = true ∧ folB s (k + 2) 128 191 = true then (((byt s k - 224) * 64 + byt s (k + 1) - 128) * 64 + byt s (k + 2) - 128, 3, true) else (65533, 1, false)
def pt4 (s : ByteArray) (k : Nat) (lo hi : Int) : Int × Nat × Bool :=
  if folB s (k + 1) lo hi = true ∧ folB s (k + 2) 128 191 = true ∧ folB s (k + 3) 128 191 = true then
    ((((byt s k - 240) * 64 + byt s (k + 1) - 128) * 64 + byt s (k + 2) - 128) * 64 + byt s (k + 3) - 128, 4, true) else (65533, 1, false)

/-- The code point at byte k. -/
def ptS (s : ByteArray) (k : Nat) : Int × Nat × Bool :=
  if byt s k < 128 then (byt s k, 1, true)
  else if byt s k < 194 then (65533, 1, false)
  else if byt s k < 224 then pt2 s k
  else if byt s k = 224 then pt3 s k 160 191
  else if byt s k = 237 then pt3 s k 128 159
  else if byt s k < 240 then pt3 s k 128 191
  else if byt s k = 240 then pt4 s k 144 191
  else if byt s k < 244 then pt4 s k 128 191
  else if byt s k = 244 then pt4 s k 128 143
  else (65533, 1, false)

theorem ite_ok {α : Type} {P : α → Prop} {c : Prop} [Decidable c] {a b : α} (ha : c → P a) (hb : ¬ c → P b) : P (if c then a else b) := by
  by_cases h : c
  · rw [if_pos h]; exact ha h
  · rw [if_neg h]; exact hb h

def PtOk (s : ByteArray) (k : Nat) (r : Int × Nat × Bool) : Prop := (1 ≤ r.2.1 ∧ r.2.1 ≤ 4 ∧ k + r.2.1 ≤ s.size) ∧ (0 ≤ r.1 ∧ r.1 ≤ 1114111)

theorem ptS_facts (s : ByteArray) (k : Nat) (h : k < s.size) : PtOk s k (ptS s k) := by
  have h0 := byt_lo s k; have h1 := byt_hi s k
  have b1 := byt_lo s (k + 1); have c1 := byt_hi s (k + 1)
  have b2 := byt_lo s (k + 2); have c2 := byt_hi s (k + 2)
  have b3 := byt_lo s (k + 3); have c3 := byt_hi s (k + 3)
  unfold ptS pt2 pt3 pt4
  simp only [folB_iff]
  repeat' (refine ite_ok (fun _ => ?_) (fun _ => ?_))
  all_goals (unfold PtOk; dsimp only; omega)

/-- It is the model's. -/
theorem ptS_decode (s : ByteArray) (k : Nat) (h : k < s.size) : ((Utf8.decode s k).1 : Int) = (ptS s k).1 ∧ (Utf8.decode s k).2 = (ptS s k).2.1 := by
  rw [Lib.decode_at]
  have e0 := byt_get! s k h
  have b0 := byt_lo s k; have c0 := byt_hi s k
  generalize (s.get! k).toNat = n0 at *
  have H : ∀ j, k + j < s.size → ((s.get! (k + j)).toNat : Int) = byt s (k + j) := fun j hj => byt_get! s (k + j) hj
  have b1 := byt_lo s (k + 1); have c1 := byt_hi s (k + 1)
  have b2 := byt_lo s (k + 2); have c2 := byt_hi s (k + 2)
  have b3 := byt_lo s (k + 3); have c3 := byt_hi s (k + 3)
  have H1 := H 1; have H2 := H 2; have H3 := H 3
  clear H
  generalize (s.get! (k + 1)).toNat = n1 at *
  generalize (s.get! (k + 2)).toNat = n2 at *
  generalize (s.get! (k + 3)).toNat = n3 at *
  unfold ptS pt2 pt3 pt4 Lib.decodeN
  simp only [folB_iff]
  generalize byt s k = x0 at *
  generalize byt s (k + 1) = x1 at *
  generalize byt s (k + 2) = x2 at *
  generalize byt s (k + 3) = x3 at *
  by_cases p1 : x0 < 128
  · rw [if_pos p1, if_pos (by omega)]; exact ⟨e0, rfl⟩
  rw [if_neg p1, if_neg (by omega)]
  by_cases p2 : x0 < 194
  · rw [if_pos p2]
    by_cases f : n0 / 32 = 6 ∧ 1 < s.size - k ∧ n1 / 64 = 2
    · rw [if_pos f, if_neg (fun h => by omega)]
      exact ⟨rfl, rfl⟩
    · rw [if_neg f, if_neg (fun h => by omega), if_neg (fun h => by omega)]
      exact ⟨rfl, rfl⟩
  rw [if_neg p2]
  by_cases p3 : x0 < 224
  · rw [if_pos p3]
    by_cases f : k + 1 < s.size ∧ 128 ≤ x1 ∧ x1 ≤ 191
    · have g1 := H1 f.1
      rw [if_pos f, if_pos (by omega), if_pos (by omega)]
      exact ⟨by dsimp only; omega, rfl⟩
    · rw [if_neg f, if_neg (fun h => f (by omega)), if_neg (fun h => by omega), if_neg (fun h => by omega)]
      exact ⟨rfl, rfl⟩
  rw [if_neg p3, if_neg (fun h => by omega)]
  by_cases p4 : x0 < 240
  · rw [if_neg (show ¬ (n0 / 8 = 30 ∧ _) from fun h => by omega)]
    have K : ∀ lo hi : Int, 128 ≤ lo → hi ≤ 191 → ((x0 = 224 ∧ lo = 160 ∧ hi = 191) ∨ (x0 = 237 ∧ lo = 128 ∧ hi = 159) ∨ (x0 ≠ 224 ∧ x0 ≠ 237 ∧ lo = 128 ∧ hi = 191)) → ∀ r : Int × Nat × Bool,
        r = (if (k + 1 < s.size ∧ lo ≤ x1 ∧ x1 ≤ hi) ∧ (k + 2 < s.size ∧ 128 ≤ x2 ∧ x2 ≤ 191) then (((x0 - 224) * 64 + x1 - 128) * 64 + x2 - 128, 3, true) else (65533, 1, false)) →
        (((if n0 / 16 = 14 ∧ (1 < s.size - k ∧ n1 / 64 = 2) ∧ (2 < s.size - k ∧ n2 / 64 = 2) then
          (if n0 % 16 * 4096 + n1 % 64 * 64 + n2 % 64 ≥ 2048 ∧ (n0 % 16 * 4096 + n1 % 64 * 64 + n2 % 64 < 55296 ∨ (57344 ≤ n0 % 16 * 4096 + n1 % 64 * 64 + n2 % 64 ∧ n0 % 16 * 4096 + n1 % 64 * 64 + n2 % 64 ≤ 1114111))
           then (n0 % 16 * 4096 + n1 % 64 * 64 + n2 % 64, 3) else (65533, 1)) else (65533, 1)) : Nat × Nat).1 : Int) = r.1 ∧
        ((if n0 / 16 = 14 ∧ (1 < s.size - k ∧ n1 / 64 = 2) ∧ (2 < s.size - k ∧ n2 / 64 = 2) then
          (if n0 % 16 * 4096 + n1 % 64 * 64 + n2 % 64 ≥ 2048 ∧ (n0 % 16 * 4096 + n1 % 64 * 64 + n2 % 64 < 55296 ∨ (57344 ≤ n0 % 16 * 4096 + n1 % 64 * 64 + n2 % 64 ∧ n0 % 16 * 4096 + n1 % 64 * 64 + n2 % 64 ≤ 1114111))
           then (n0 % 16 * 4096 + n1 % 64 * 64 + n2 % 64, 3) else (65533, 1)) else (65533, 1)) : Nat × Nat).2 = r.2.1 := by
      intro lo hi hlo hhi hc r hr
      subst hr
      by_cases f1 : k + 1 < s.size ∧ 128 ≤ x1 ∧ x1 ≤ 191
      · have g1 := H1 f1.1
        by_cases f2 : k + 2 < s.size ∧ 128 ≤ x2 ∧ x2 ≤ 191
        · have g2 := H2 f2.1
          rw [if_pos (show n0 / 16 = 14 ∧ (1 < s.size - k ∧ n1 / 64 = 2) ∧ (2 < s.size - k ∧ n2 / 64 = 2) by omega)]
          by_cases f3 : lo ≤ x1 ∧ x1 ≤ hi
          · rw [if_pos (by omega), if_pos (by omega)]
            exact ⟨by dsimp only; omega, rfl⟩
          · rw [if_neg (by omega), if_neg (fun h => f3 h.1.2)]
            exact ⟨rfl, rfl⟩
        · rw [if_neg (fun h => f2 (by have := H2 (by omega); omega)), if_neg (fun h => f2 h.2)]
          exact ⟨rfl, rfl⟩
      · rw [if_neg (fun h => f1 (by have := H1 (by omega); omega)), if_neg (fun h => f1 (by omega))]
        exact ⟨rfl, rfl⟩
    by_cases q1 : x0 = 224
    · rw [if_pos q1]
      exact K 160 191 (by omega) (by omega) (.inl ⟨q1, rfl, rfl⟩) _ rfl
    rw [if_neg q1]
    by_cases q2 : x0 = 237
    · rw [if_pos q2]
      exact K 128 159 (by omega) (by omega) (.inr (.inl ⟨q2, rfl, rfl⟩)) _ rfl
    rw [if_neg q2, if_pos p4]
    exact K 128 191 (by omega) (by omega) (.inr (.inr ⟨q1, q2, rfl, rfl⟩)) _ rfl
  rw [if_neg (show ¬ (n0 / 16 = 14 ∧ _) from fun h => by omega), if_neg (show ¬ x0 = 224 by omega), if_neg (show ¬ x0 = 237 by omega), if_neg p4]
  have K : ∀ lo hi : Int, 128 ≤ lo → hi ≤ 191 → ((x0 = 240 ∧ lo = 144 ∧ hi = 191) ∨ (x0 = 244 ∧ lo = 128 ∧ hi = 143) ∨ (240 < x0 ∧ x0 < 244 ∧ lo = 128 ∧ hi = 191)) → ∀ r : Int × Nat × Bool,
      r = (if (k + 1 < s.size ∧ lo ≤ x1 ∧ x1 ≤ hi) ∧ (k + 2 < s.size ∧ 128 ≤ x2 ∧ x2 ≤ 191) ∧ (k + 3 < s.size ∧ 128 ≤ x3 ∧ x3 ≤ 191) then ((((x0 - 240) * 64 + x1 - 128) * 64 + x2 - 128) * 64 + x3 - 128, 4, true) else (65533, 1, false)) →
      (((if n0 / 8 = 30 ∧ (1 < s.size - k ∧ n1 / 64 = 2) ∧ (2 < s.size - k ∧ n2 / 64 = 2) ∧ (3 < s.size - k ∧ n3 / 64 = 2) then
        (if n0 % 8 * 262144 + n1 % 64 * 4096 + n2 % 64 * 64 + n3 % 64 ≥ 65536 ∧ (n0 % 8 * 262144 + n1 % 64 * 4096 + n2 % 64 * 64 + n3 % 64 < 55296 ∨ (57344 ≤ n0 % 8 * 262144 + n1 % 64 * 4096 + n2 % 64 * 64 + n3 % 64 ∧ n0 % 8 * 262144 + n1 % 64 * 4096 + n2 % 64 * 64 + n3 % 64 ≤ 1114111))
         then (n0 % 8 * 262144 + n1 % 64 * 4096 + n2 % 64 * 64 + n3 % 64, 4) else (65533, 1)) else (65533, 1)) : Nat × Nat).1 : Int) = r.1 ∧
      ((if n0 / 8 = 30 ∧ (1 < s.size - k ∧ n1 / 64 = 2) ∧ (2 < s.size - k ∧ n2 / 64 = 2) ∧ (3 < s.size - k ∧ n3 / 64 = 2) then
        (if n0 % 8 * 262144 + n1 % 64 * 4096 + n2 % 64 * 64 + n3 % 64 ≥ 65536 ∧ (n0 % 8 * 262144 + n1 % 64 * 4096 + n2 % 64 * 64 + n3 % 64 < 55296 ∨ (57344 ≤ n0 % 8 * 262144 + n1 % 64 * 4096 + n2 % 64 * 64 + n3 % 64 ∧ n0 % 8 * 262144 + n1 % 64 * 4096 + n2 % 64 * 64 + n3 % 64 ≤ 1114111))
         then (n0 % 8 * 262144 + n1 % 64 * 4096 + n2 % 64 * 64 + n3 % 64, 4) else (65533, 1)) else (65533, 1)) : Nat × Nat).2 = r.2.1 := by
    intro lo hi hlo hhi hc r hr
    subst hr
    by_cases f1 : k + 1 < s.size ∧ 128 ≤ x1 ∧ x1 ≤ 191
    · have g1 := H1 f1.1
      by_cases f2 : k + 2 < s.size ∧ 128 ≤ x2 ∧ x2 ≤ 191
      · have g2 := H2 f2.1
        by_cases f3 : k + 3 < s.size ∧ 128 ≤ x3 ∧ x3 ≤ 191
        · have g3 := H3 f3.1
          rw [if_pos (show n0 / 8 = 30 ∧ (1 < s.size - k ∧ n1 / 64 = 2) ∧ (2 < s.size - k ∧ n2 / 64 = 2) ∧ (3 < s.size - k ∧ n3 / 64 = 2) by omega)]
          by_cases f4 : lo ≤ x1 ∧ x1 ≤ hi
          · rw [if_pos (by omega), if_pos (by omega)]
            exact ⟨by dsimp only; omega, rfl⟩
          · rw [if_neg (by omega), if_neg (fun h => f4 h.1.2)]
            exact ⟨rfl, rfl⟩
        · rw [if_neg (fun h => f3 (by have := H3 (by omega); omega)), if_neg (fun h => f3 h.2.2)]
          exact ⟨rfl, rfl⟩
      · rw [if_neg (fun h => f2 (by have := H2 (by omega); omega)), if_neg (fun h => f2 h.2.1)]
        exact ⟨rfl, rfl⟩
    · rw [if_neg (fun h => f1 (by have := H1 (by omega); omega)), if_neg (fun h => f1 (by omega))]
      exact ⟨rfl, rfl⟩
  by_cases p5 : x0 < 245
  · by_cases q1 : x0 = 240
    · rw [if_pos q1]
      exact K 144 191 (by omega) (by omega) (.inl ⟨q1, rfl, rfl⟩) _ rfl
    rw [if_neg q1]
    by_cases q2 : x0 < 244
    · rw [if_pos q2]
      exact K 128 191 (by omega) (by omega) (.inr (.inr ⟨by omega, q2, rfl, rfl⟩)) _ rfl
    · rw [if_neg q2, if_pos (show x0 = 244 by omega)]
      exact K 128 143 (by omega) (by omega) (.inr (.inl ⟨by omega, rfl, rfl⟩)) _ rfl
  · rw [if_neg (show ¬ x0 = 240 by omega), if_neg (show ¬ x0 < 244 by omega), if_neg (show ¬ x0 = 244 by omega)]
    by_cases f : n0 / 8 = 30 ∧ (1 < s.size - k ∧ n1 / 64 = 2) ∧ (2 < s.size - k ∧ n2 / 64 = 2) ∧ (3 < s.size - k ∧ n3 / 64 = 2)
    · rw [if_pos f, if_neg (by omega)]
      exact ⟨rfl, rfl⟩
    · rw [if_neg f]
      exact ⟨rfl, rfl⟩
end Go.Proofs.YtaachamblagbhaaGreatDoor
namespace Go.Proofs.YtaachamblagbhaaGreatDoor
set_option linter.unusedVariables false
set_option linter.unusedSimpArgs false

/-- May a unit's text begin so? -/
def fstB (c : UInt8) : Bool := (decide (48 ≤ c) && decide (c ≤ 57)) || (decide (65 ≤ c) && decide (c ≤ 90)) || (decide (97 ≤ c) && decide (c ≤ 122)) || decide (c = 92) || decide (c = 91) || decide (c = 126) || decide (c = 40)
def Fst (t : List UInt8) : Prop := ∃ c r, t = c :: r ∧ fstB c = true
theorem Fst.app {t : List UInt8} (h : Fst t) (u : List UInt8) : Fst (t ++ u) := by
  obtain ⟨c, r, rfl, h⟩ := h
  exact ⟨c, r ++ u, rfl, h⟩
theorem fst_brk (t : List UInt8) : Fst (brk t) := ⟨40, t ++ [41], rfl, by decide⟩
theorem fst_ptx {a : Int} (h : 0 ≤ a) : Fst (ptx a) := by
  unfold ptx
  split
  · rename_i q
    refine ⟨_, [], rfl, ?_⟩
    have : ∀ n : Nat, n < 123 → ((48 ≤ n ∧ n ≤ 57) ∨ (65 ≤ n ∧ n ≤ 90) ∨ (97 ≤ n ∧ n ≤ 122)) → fstB n.toUInt8 = true := by decide
    exact this a.toNat (by omega) (by omega)
  · exact ⟨92, _, rfl, by decide⟩
/-- A pattern repeated, and again. -/
def reps (b : Rx) (l : List (Int × Int)) : Rx := l.foldl (fun p x => .node 6 [] x.1 x.2 [p]) b
theorem reps_snoc (b : Rx) (l : List (Int × Int)) (x : Int × Int) : reps b (l ++ [x]) = .node 6 [] x.1 x.2 [reps b l] := by unfold reps; rw [List.foldl_append]; rfl
def psts (l : List (Int × Int)) : List UInt8 := l.flatMap fun x => pst x.1 x.2
/-- What reads texts of patterns, by level: 0 alternatives, 1 all of, 2 rows, 3 repeated, 4 units; a bound for what is open. -/
structure Reader (R : Nat → List UInt8 → Rx → Nat → Prop) : Prop where
  mono : ∀ {n t p d d'}, R n t p d → d ≤ d' → R n t p d'
  pt : ∀ a, 0 ≤ a → a ≤ MP → R 4 (ptx a) (.node 1 [(a, a)] 0 0 []) 0
  set : ∀ s, Can s → oneP s = false → s.length ≤ 12 → R 4 ([91] ++ rgsx s ++ [93]) (.node 1 s 0 0 []) 1
  not : ∀ {t k d}, R 4 t k d → R 4 ([126] ++ t) (.node 5 [] 0 0 [k]) (d + 1)
  brk : ∀ {t p d}, R 0 t p d → R 4 (brk t) p (d + 1)
  part : ∀ {t b d}, R 4 t b d → ∀ l : List (Int × Int), (∀ x ∈ l, tmsOk 6 x.1 x.2 = true) → R 3 (t ++ psts l) (reps b l) d
  row1 : ∀ {t p d}, R 3 t p d → Fst t → R 2 t p d
  row : ∀ {d} (l : List (List UInt8 × Rx)), l.length ≠ 1 → l.length ≤ 60 → (∀ x ∈ l, R 3 x.1 x.2 d ∧ Fst x.1) → R 2 (joinB [] (l.map Prod.fst)) (.node 2 [] 0 0 (l.map Prod.snd)) d
  both1 : ∀ {t p d}, R 2 t p d → R 1 t p d
  both : ∀ {d} (l : List (List UInt8 × Rx)), 2 ≤ l.length → l.length ≤ 60 → (∀ x ∈ l, R 2 x.1 x.2 d) → R 1 (joinB [38] (l.map Prod.fst)) (.node 4 [] 0 0 (l.map Prod.snd)) d
  any1 : ∀ {t p d}, R 1 t p d → R 0 t p d
  any : ∀ {d} (l : List (List UInt8 × Rx)), 2 ≤ l.length → l.length ≤ 60 → (∀ x ∈ l, R 1 x.1 x.2 d) → R 0 (joinB [124] (l.map Prod.fst)) (.node 3 [] 0 0 (l.map Prod.snd)) d

/-- Sets are short. -/
inductive SetS : Rx → Prop where
  | nil : SetS .nil
  | node {k mn mx : Int} {s : List Rg} {ks : List Rx} : s.length ≤ 12 → (∀ k ∈ ks, SetS k) → SetS (.node k s mn mx ks)
/-- A valid pattern's text as a unit, repeated. -/
def Spn (R : Nat → List UInt8 → Rx → Nat → Prop) (p : Rx) (d : Nat) : Prop :=
  ∃ b l t, R 4 t b d ∧ Fst t ∧ witX 3 p = t ++ psts l ∧ p = reps b l ∧ ∀ x ∈ l, tmsOk 6 x.1 x.2 = true
theorem shp_node {d : Nat} {k : Int} {s : List Rg} {mn mx : Int} {ks : List Rx} (h : shp d (.node k s mn mx ks) = true) : d ≤ 30 ∧ cntOk k ks.length = true ∧ tmsOk k mn mx = true ∧ setOk k s = true ∧ ∀ x ∈ ks, shp (d + 1) x = true := by
  rw [shp] at h
  simp only [Bool.and_eq_true, decide_eq_true_eq] at h
  obtain ⟨⟨⟨⟨h1, h2⟩, h3⟩, h4⟩, h5⟩ := h
  exact ⟨h1, h2, h3, h4, shpL_mem h5⟩
theorem wei_kid {k : Int} {s : List Rg} {mn mx : Int} {ks : List Rx} (hk : k ≠ 1) : weiL ks ≤ wei (.node k s mn mx ks) := by
  rw [wei, if_neg hk]
  have := Nat.le_mul_of_pos_right (weiL ks) (tmW_pos k mn mx)
  omega
theorem weiL_len : ∀ {ks : List Rx} {d : Nat}, (∀ x ∈ ks, shp d x = true) → ks.length ≤ weiL ks
  | [], d, _ => Nat.le_refl _
  | .nil :: ks, d, h => by have := h .nil (by simp); rw [shp] at this; cases this
  | .node k s mn mx xs :: ks, d, h => by
    have h1 : ks.length ≤ weiL ks := weiL_len (d := d) fun x hx => h x (List.mem_cons_of_mem _ hx)
    have h2 : 1 ≤ wei (.node k s mn mx xs) := by rw [wei]; split <;> omega
    rw [weiL, List.length_cons]; omega
theorem wit_lo {n : Nat} {p : Rx} (h : n ≤ rank p) : witX n p = txX p := if_neg (by omega)
theorem wit_hi {n : Nat} {p : Rx} (h : rank p < n) : witX n p = brk (txX p) := if_pos h
theorem txX_one {k : Int} {s : List Rg} {mn mx : Int} {ks : List Rx} (h : k = 1) : txX (.node k s mn mx ks) = setx s := by rw [txX, if_pos h]

theorem txX_or {s : List Rg} {mn mx : Int} {ks : List Rx} : txX (.node 3 s mn mx ks) = joinB [124] (ks.map (witX 1)) := by rw [txX, if_neg (by omega), if_pos rfl, txL_map]
theorem txX_and {s : List Rg} {mn mx : Int} {ks : List Rx} : txX (.node 4 s mn mx ks) = joinB [38] (ks.map (witX 2)) := by rw [txX, if_neg (by omega), if_neg (by omega), if_pos rfl, txL_map]
theorem txX_cat {s : List Rg} {mn mx : Int} {ks : List Rx} : txX (.node 2 s mn mx ks) = joinB [] (ks.map (witX 3)) := by rw [txX, if_neg (by omega), if_neg (by omega), if_neg (by omega), if_pos rfl, txL_map]
theorem txX_not {s : List Rg} {mn mx : Int} {x : Rx} : txX (.node 5 s mn mx [x]) = [126] ++ witX 4 x := by rw [txX, if_neg (by omega), if_neg (by omega), if_neg (by omega), if_neg (by omega), if_pos rfl, txL_map]; rfl
theorem txX_rep {s : List Rg} {mn mx : Int} {x : Rx} : txX (.node 6 s mn mx [x]) = witX 3 x ++ pst mn mx := by rw [txX, if_neg (by omega), if_neg (by omega), if_neg (by omega), if_neg (by omega), if_neg (by omega), txL_map]; rfl
/-- All that is to show of a pattern. -/
structure Got (R : Nat → List UInt8 → Rx → Nat → Prop) (p : Rx) (d : Nat) : Prop where
  all : ∀ n, n ≤ 4 → R n (witX n p) p d
  spn : Spn R p d
theorem Spn.fst {R : Nat → List UInt8 → Rx → Nat → Prop} {p : Rx} {d : Nat} (h : Spn R p d) : Fst (witX 3 p) := by
  obtain ⟨b, l, t, _, h2, h3, _⟩ := h
  rw [h3]; exact h2.app _
theorem Spn.three {R : Nat → List UInt8 → Rx → Nat → Prop} (H : Reader R) {p : Rx} {d : Nat} (h : Spn R p d) : R 3 (witX 3 p) p d := by
  obtain ⟨b, l, t, h1, _, h3, h4, h5⟩ := h
  have := H.part h1 l h5
  rw [h3]
  rw [← h4] at this
  exact this
theorem spn_flat {R : Nat → List UInt8 → Rx → Nat → Prop} {p : Rx} {d : Nat} (hr : rank p ≠ 3) (h4 : R 4 (witX 4 p) p d) (hf : Fst (witX 4 p)) (hr4 : rank p ≤ 4) : Spn R p d :=
  ⟨p, [], witX 4 p, h4, hf, by
    by_cases q : rank p < 3
    · rw [wit_hi q, wit_hi (by omega)]; simp [psts]
    · rw [wit_lo (by omega), wit_lo (by omega)]; simp [psts], rfl, fun x hx => by cases hx⟩
/-- From the level at which a pattern stands without brackets. -/
theorem got_down {R : Nat → List UInt8 → Rx → Nat → Prop} (H : Reader R) {p : Rx} {d : Nat} (m : Nat) (hm : m ≤ 2) (hr : rank p = m) (h : R m (txX p) p d) : Got R p (d + 1) := by
  have h0 : R 0 (txX p) p d := by
    match m, hm, h with
    | 0, _, h => exact h
    | 1, _, h => exact H.any1 h
    | 2, _, h => exact H.any1 (H.both1 h)
  have h4 : R 4 (witX 4 p) p (d + 1) := by rw [wit_hi (by omega)]; exact H.brk h0
  have hs : Spn R p (d + 1) := spn_flat (by omega) h4 (by rw [wit_hi (by omega)]; exact fst_brk _) (by omega)
  have b3 : ∀ n, n ≤ 3 → m < n → R 3 (witX n p) p (d + 1) := fun n h1 h2 => by rw [wit_hi (by omega), ← wit_hi (n := 3) (by omega)]; exact hs.three H
  have f3 : ∀ n, m < n → Fst (witX n p) := fun n h2 => by rw [wit_hi (by omega)]; exact fst_brk _
  refine ⟨fun n hn => ?_, hs⟩
  by_cases q : n ≤ m
  · rw [wit_lo (by omega)]
    refine H.mono (d := d) ?_ (Nat.le_succ _)
    match n, m, hm, q, h with
    | 0, _, _, _, _ => exact h0
    | 1, 1, _, _, h => exact h
    | 1, 2, _, _, h => exact H.both1 h
    | 2, 2, _, _, h => exact h
    | 1, 0, _, q, _ => omega
    | 2, 0, _, q, _ => omega
    | 2, 1, _, q, _ => omega
    | n + 3, m, hm, q, _ => omega
  · match n, hn, q with
    | 0, _, q => omega
    | 1, _, q => exact H.both1 (H.row1 (b3 1 (by omega) (by omega)) (f3 1 (by omega)))
    | 2, _, q => exact H.row1 (b3 2 (by omega) (by omega)) (f3 2 (by omega))
    | 3, _, q => exact hs.three H
    | 4, _, q => exact h4
    | n + 5, hn, q => omega
/-- From a spine: a unit, or a unit repeated. -/
theorem got_up {R : Nat → List UInt8 → Rx → Nat → Prop} (H : Reader R) {p : Rx} {d : Nat} (hr : 3 ≤ rank p) (hs : Spn R p d) (h4 : rank p = 4 → R 4 (txX p) p d) : Got R p (d + 1) := by
  have h3 : R 3 (txX p) p d := by have := hs.three H; rwa [wit_lo hr] at this
  have hf : Fst (txX p) := by have := hs.fst; rwa [wit_lo hr] at this
  have h2 := H.row1 h3 hf
  have h1 := H.both1 h2
  have h0 := H.any1 h1
  refine ⟨fun n hn => ?_, ?_⟩
  · match n, hn with
    | 0, _ => rw [wit_lo (by omega)]; exact H.mono h0 (Nat.le_succ _)
    | 1, _ => rw [wit_lo (by omega)]; exact H.mono h1 (Nat.le_succ _)
    | 2, _ => rw [wit_lo (by omega)]; exact H.mono h2 (Nat.le_succ _)
    | 3, _ => rw [wit_lo hr]; exact H.mono h3 (Nat.le_succ _)
    | 4, _ =>
      by_cases q : rank p < 4
      · rw [wit_hi q]; exact H.brk h0
      · have e : rank p = 4 := by have : rank p ≤ 4 := by { cases p <;> unfold rank <;> (try omega); repeat (first | omega | split) }
                                  omega
        rw [wit_lo (by omega)]; exact H.mono (h4 e) (Nat.le_succ _)
    | n + 5, hn => omega
  · obtain ⟨b, l, t, g1, g2, g3, g4, g5⟩ := hs
    exact ⟨b, l, t, H.mono g1 (Nat.le_succ _), g2, g3, g4, g5⟩
theorem oneP_form {s : List Rg} (h : oneP s = true) : ∃ a, s = [(a, a)] := by
  unfold oneP at h
  split at h
  · rename_i a b
    simp at h
    subst h
    exact ⟨_, rfl⟩
  · cases h
theorem got_all {R : Nat → List UInt8 → Rx → Nat → Prop} (H : Reader R) : ∀ (m : Nat) (p : Rx) (d : Nat), d + m = 31 → shp d p = true → SetS p → wei p ≤ 60 → Got R p (2 * m)
  | m, .nil, d, _, h, _, _ => by rw [shp] at h; cases h
  | 0, .node k s mn mx ks, d, hd, h, _, _ => by have := (shp_node h).1; omega
  | m + 1, .node k s mn mx ks, d, hd, h, hS, hw => by
    obtain ⟨h1, h2, h3, h4, h5⟩ := shp_node h
    obtain ⟨hs12, hsk⟩ : s.length ≤ 12 ∧ ∀ x ∈ ks, SetS x := by cases hS with | node a b => exact ⟨a, b⟩
    by_cases hk1 : k = 1
    · subst hk1
      have hks : ks = [] := by
        unfold cntOk at h2
        rw [if_pos rfl] at h2
        exact List.eq_nil_of_length_eq_zero (by simpa using h2)
      have hm : mn = 0 ∧ mx = 0 := by
        unfold tmsOk at h3
        rw [if_neg (by omega)] at h3
        simpa using h3
      have hc : Can s := by
        unfold setOk at h4
        rw [Bool.and_eq_true] at h4
        exact canB_iff.1 h4.1
      obtain ⟨rfl, rfl⟩ := hm
      subst hks
      have hrk : rank (.node 1 s 0 0 []) = 4 := rfl
      have hu : R 4 (setx s) (.node 1 s 0 0 []) 1 ∧ Fst (setx s) := by
        unfold setx
        by_cases q : oneP s = true
        · obtain ⟨a, rfl⟩ := oneP_form q
          rw [if_pos q]
          have ha : 0 ≤ a ∧ a ≤ MP := by
            have h1 := hc.1; have h2 := hc.2.2.1; exact ⟨h1, h2⟩
          exact ⟨H.mono (H.pt a ha.1 ha.2) (by omega), fst_ptx ha.1⟩
        · rw [if_neg q]
          exact ⟨H.set s hc (by simpa using q) hs12, ⟨91, _, rfl, by decide⟩⟩
      have ht : txX (.node 1 s 0 0 []) = setx s := txX_one rfl
      have := got_up H (p := .node 1 s 0 0 []) (d := 1) (by omega) (spn_flat (by omega) (by rw [wit_lo (by omega), ht]; exact hu.1) (by rw [wit_lo (by omega), ht]; exact hu.2) (by omega)) (fun _ => by rw [ht]; exact hu.1)
      exact ⟨fun n hn => H.mono (this.all n hn) (by omega), by
        obtain ⟨b, l, t, g1, g2, g3, g4, g5⟩ := this.spn
        exact ⟨b, l, t, H.mono g1 (by omega), g2, g3, g4, g5⟩⟩
    · have hwl : weiL ks ≤ 60 := Nat.le_trans (wei_kid hk1) hw
      have IH : ∀ x ∈ ks, Got R x (2 * m) := fun x hx => got_all H m x (d + 1) (by omega) (h5 x hx) (hsk x hx) (Nat.le_trans (weiL_mem hx) hwl)
      have hkl : ks.length ≤ 60 := Nat.le_trans (weiL_len h5) hwl
      have hs0 : s = [] := by
        unfold setOk at h4
        simp [hk1] at h4
        exact h4.2
      subst hs0
      have lift : ∀ {p : Rx} {e : Nat}, e ≤ 2 * (m + 1) → Got R p e → Got R p (2 * (m + 1)) := fun {p e} he g => ⟨fun n hn => H.mono (g.all n hn) he, by
        obtain ⟨b, l, t, g1, g2, g3, g4, g5⟩ := g.spn
        exact ⟨b, l, t, H.mono g1 he, g2, g3, g4, g5⟩⟩
      have hfst : ∀ f : Rx → List UInt8, (ks.map fun x => (f x, x)).map Prod.fst = ks.map f := fun f => by rw [List.map_map]; rfl
      have hsnd : ∀ f : Rx → List UInt8, (ks.map fun x => (f x, x)).map Prod.snd = ks := fun f => by rw [List.map_map]; exact List.map_id ks
      by_cases hk6 : k = 6
      · subst hk6
        obtain ⟨x, rfl⟩ : ∃ x, ks = [x] := by
          unfold cntOk at h2
          simp at h2
          exact List.length_eq_one_iff.1 h2
        obtain ⟨b, l, t, g1, g2, g3, g4, g5⟩ := (IH x (by simp)).spn
        have hs : Spn R (.node 6 [] mn mx [x]) (2 * m) := ⟨b, l ++ [(mn, mx)], t, g1, g2, by
          rw [wit_lo (show 3 ≤ 3 by omega), txX_rep, g3]
          unfold psts
          rw [List.flatMap_append, List.append_assoc]; simp, by rw [reps_snoc, g4], fun y hy => by
          rcases List.mem_append.1 hy with q | q
          · exact g5 y q
          · rw [List.mem_singleton] at q
            subst q
            exact h3⟩
        exact lift (by omega) (got_up H (by show 3 ≤ 3; omega) hs (fun e => by cases e))
      · have hm : mn = 0 ∧ mx = 0 := by
          unfold tmsOk at h3
          rw [if_neg hk6] at h3
          simpa using h3
        obtain ⟨rfl, rfl⟩ := hm
        by_cases hk5 : k = 5
        · subst hk5
          obtain ⟨x, rfl⟩ : ∃ x, ks = [x] := by
            unfold cntOk at h2
            simp at h2
            exact List.length_eq_one_iff.1 h2
          have hu : R 4 (txX (.node 5 [] 0 0 [x])) (.node 5 [] 0 0 [x]) (2 * m + 1) := by
            rw [txX_not]
            exact H.not ((IH x (by simp)).all 4 (Nat.le_refl _))
          have hf : Fst (txX (.node 5 [] 0 0 [x])) := by rw [txX_not]; exact ⟨126, _, rfl, by decide⟩
          have hrk : rank (.node 5 [] 0 0 [x]) = 4 := rfl
          exact lift (by omega) (got_up H (d := 2 * m + 1) (by omega) (spn_flat (by omega) (by rw [wit_lo (by omega)]; exact hu) (by rw [wit_lo (by omega)]; exact hf) (by omega)) (fun _ => hu))
        · by_cases hk2 : k = 2
          · subst hk2
            have hn : ks.length ≠ 1 := by unfold cntOk at h2; simpa using h2
            have hu : R 2 (txX (.node 2 [] 0 0 ks)) (.node 2 [] 0 0 ks) (2 * m) := by
              have := H.row (d := 2 * m) (ks.map fun x => (witX 3 x, x)) (by simpa using hn) (by simpa using hkl) (fun y hy => by
                obtain ⟨x, hx, rfl⟩ := List.mem_map.1 hy
                exact ⟨(IH x hx).all 3 (by omega), (IH x hx).spn.fst⟩)
              rw [hfst, hsnd] at this
              rw [txX_cat]; exact this
            exact lift (by omega) (got_down H 2 (by omega) rfl hu)
          · by_cases hk4 : k = 4
            · subst hk4
              have hn : 2 ≤ ks.length := by unfold cntOk at h2; simpa using h2
              have hu : R 1 (txX (.node 4 [] 0 0 ks)) (.node 4 [] 0 0 ks) (2 * m) := by
                have := H.both (d := 2 * m) (ks.map fun x => (witX 2 x, x)) (by simpa using hn) (by simpa using hkl) (fun y hy => by
                  obtain ⟨x, hx, rfl⟩ := List.mem_map.1 hy
                  exact (IH x hx).all 2 (by omega))
                rw [hfst, hsnd] at this
                rw [txX_and]; exact this
              exact lift (by omega) (got_down H 1 (by omega) rfl hu)
            · have hk3 : k = 3 := by
                unfold cntOk at h2
                rw [if_neg hk1, if_neg hk2] at h2
                split at h2
                · omega
                · rw [if_neg (by omega)] at h2; cases h2
              subst hk3
              have hn : 2 ≤ ks.length := by unfold cntOk at h2; simpa using h2
              have hu : R 0 (txX (.node 3 [] 0 0 ks)) (.node 3 [] 0 0 ks) (2 * m) := by
                have := H.any (d := 2 * m) (ks.map fun x => (witX 1 x, x)) (by simpa using hn) (by simpa using hkl) (fun y hy => by
                  obtain ⟨x, hx, rfl⟩ := List.mem_map.1 hy
                  exact (IH x hx).all 1 (by omega))
                rw [hfst, hsnd] at this
                rw [txX_or]; exact this
              exact lift (by omega) (got_down H 0 (by omega) rfl hu)
/-- What reads, reads a valid pattern's text. -/
theorem reads_valid {R : Nat → List UInt8 → Rx → Nat → Prop} (H : Reader R) {p : Rx} (h : okX p = true) (hS : SetS p) : R 0 (txX p) p 62 := by
  unfold okX at h
  rw [Bool.and_eq_true, decide_eq_true_eq] at h
  have := (got_all H 31 p 0 (by omega) h.1 hS h.2).all 0 (by omega)
  rwa [wit_lo (by omega)] at this
end Go.Proofs.YtaachamblagbhaaGreatDoor
