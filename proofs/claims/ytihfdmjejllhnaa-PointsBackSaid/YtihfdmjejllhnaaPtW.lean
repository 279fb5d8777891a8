/- The contract of ref1.Whole, and what it means: a text of which each byte belongs to a code point is the text of its points. -/
import Derived.Test.YtihfdmjejllhnaaPtB
import Derived.Test.YtihfdmjejllhnaaTxC
namespace Go.Proofs.Ytihfdmjejllhnaa
open Go.RowKit
set_option linter.unusedVariables false
set_option linter.unusedSimpArgs false
set_option maxRecDepth 100000

def whN (s : ByteArray) : Nat → Nat → Bool
  | 0, _ => true
  | f + 1, k => if k < s.size then (ptS s k).2.2 && whN s f (k + (ptS s k).2.1) else true
theorem whN_fuel (s : ByteArray) : ∀ (f g k : Nat), s.size - k ≤ f → s.size - k ≤ g → whN s f k = whN s g k := by
  intro f
  induction f with
  | zero =>
    intro g k hf hg
    cases g with
    | zero => rfl
    | succ g => rw [whN, whN, if_neg (by omega)]
  | succ f ih =>
    intro g k hf hg
    cases g with
    | zero => rw [whN, whN, if_neg (by omega)]
    | succ g =>
      rw [whN, whN]
      by_cases h : k < s.size
      · have := (ptS_facts s k h).1
        rw [if_pos h, if_pos h, ih g _ (by omega) (by omega)]
      · rw [if_neg h, if_neg h]
def wh (s : ByteArray) (k : Nat) : Bool := whN s (s.size - k) k
theorem wh_end (s : ByteArray) (k : Nat) (h : ¬ k < s.size) : wh s k = true := by
  unfold wh; rw [show s.size - k = 0 from by omega]; rfl
theorem wh_step (s : ByteArray) (k : Nat) (h : k < s.size) : wh s k = ((ptS s k).2.2 && wh s (k + (ptS s k).2.1)) := by
  have hf := (ptS_facts s k h).1
  obtain ⟨f, hf'⟩ : ∃ f, s.size - k = f + 1 := ⟨s.size - k - 1, by omega⟩
  unfold wh
  rw [hf', whN, if_pos h]
  congr 1
  exact whN_fuel s _ _ _ (by omega) (by omega)

theorem whole_any (s : ByteArray) (w : World) (hs : s.size ≤ maxLen) :
    Calls Try.prog 13 #[.string s] w fun e w' => e = .returned (.bool (wh s 0)) ∧ w = w' := by
  have hm := hs
  unfold maxLen at hm
  go_enter Try.func13, Try.ntmps13
  go_wp2
  go_loop [3] (fun i => ∃ k : Nat, k ≤ s.size ∧ i = .int .i64 k ∧ Hid (wh s k = wh s 0)) (fun i => s.size - (intOf i).toNat)
  case atStart => exact ⟨0, Nat.zero_le _, rfl, rfl⟩
  case round =>
    obtain ⟨k, hk, rfl, HE⟩ := hrel
    by_cases hlt : k < s.size
    · have hst := wh_step s k hlt
      have hpt := fun W => point_any s k W hs hlt
      obtain ⟨⟨f1, f2, f3⟩, f4, f5⟩ := ptS_facts s k hlt
      generalize (ptS s k).1 = p at *
      generalize (ptS s k).2.1 = n at *
      generalize (ptS s k).2.2 = b at *
      have HP := Lib.hid hpt; clear hpt
      have HS := Lib.hid hst; clear hst
      cases b
      · go_wp2_with (go_at_call 33; refine (HP.out _).mono ?_; rintro e w' ⟨rfl, rfl⟩)
        go_ret
        refine ⟨ret_eq ?_, rfl⟩
        rw [← HE.out, HS.out]; rfl
      · go_wp2_with (go_at_call 33; refine (HP.out _).mono ?_; rintro e w' ⟨rfl, rfl⟩)
        go_round
        case rel => exact ⟨k + n, by omega, by go_num, by show _ = _; rw [← HE.out, HS.out]; rfl⟩
        case measure => simp [intOf]; omega
    · have hx := wh_end s k hlt
      rw [HE.out] at hx
      have HX := Lib.hid hx; clear hx
      go_wp2
      go_ret
      exact ⟨by rw [HX.out]; rfl, rfl⟩

/-! ### what it means -/
def bytesFrom (s : ByteArray) : Nat → Nat → List Int
  | 0, _ => []
  | m + 1, k => byt s k :: bytesFrom s m (k + 1)
theorem bytesFrom_add (s : ByteArray) : ∀ (m j k : Nat), bytesFrom s (m + j) k = bytesFrom s m k ++ bytesFrom s j (k + m)
  | 0, j, k => by simp [bytesFrom]
  | m + 1, j, k => by
    rw [show m + 1 + j = (m + j) + 1 from by omega, bytesFrom, bytesFrom, bytesFrom_add s m j (k + 1), show k + 1 + m = k + (m + 1) from by omega]
    rfl
theorem bytesFrom_len (s : ByteArray) : ∀ (m k : Nat), (bytesFrom s m k).length = m
  | 0, _ => rfl
  | m + 1, k => by simp [bytesFrom, bytesFrom_len s m]
theorem bytesFrom_get (s : ByteArray) : ∀ (m k j : Nat), j < m → (bytesFrom s m k)[j]? = some (byt s (k + j))
  | 0, _, _, h => by omega
  | m + 1, k, 0, h => by simp [bytesFrom]
  | m + 1, k, j + 1, h => by
    rw [bytesFrom, List.getElem?_cons_succ, bytesFrom_get s m (k + 1) j (by omega), show k + 1 + j = k + (j + 1) from by omega]
theorem bytesFrom_all (s : ByteArray) : strOfNums (bytesFrom s s.size 0) = s := by
  apply ByteArray.ext
  apply Array.ext'
  rw [strOfNums_data]
  apply List.ext_getElem?
  intro j
  rw [List.getElem?_map]
  by_cases h : j < s.size
  · rw [bytesFrom_get s s.size 0 j h, Nat.zero_add]
    have hb := byt_get s j h
    rw [List.getElem?_eq_getElem (by simpa using h)]
    simp only [Option.map_some, Option.some.injEq]
    rw [← hb]
    show UInt8.ofNat ((s[j]'h).toNat : Int).toNat = _
    rw [Int.toNat_natCast, UInt8.ofNat_toNat]
    rfl
  · rw [List.getElem?_eq_none (by rw [bytesFrom_len]; omega), List.getElem?_eq_none (by simp; exact Nat.le_of_not_lt h)]
    rfl

/-- What belongs to a code point is its form. -/
theorem pt_enc (s : ByteArray) (k : Nat) (h : (ptS s k).2.2 = true) : Lib.encodeRuneZ (ptS s k).1 = bytesFrom s (ptS s k).2.1 k := by
  have h0 := byt_lo s k; have h1 := byt_hi s k
  have key : ∀ r, r = ptS s k → r.2.2 = true → Lib.encodeRuneZ r.1 = bytesFrom s r.2.1 k := by
    intro r hr hb
    unfold ptS at hr
    by_cases c1 : byt s k < 128
    · rw [if_pos c1] at hr; subst hr
      exact Lib.encodeRuneZ_one h0 (by show byt s k ≤ 127; omega)
    rw [if_neg c1] at hr
    by_cases c2 : byt s k < 194
    · rw [if_pos c2] at hr; subst hr; cases hb
    rw [if_neg c2] at hr
    have no : ∀ {α : Type} {c : Prop} [Decidable c] {a : Int × Nat × Bool} , r = (if c then a else (65533, 1, false)) → c ∧ r = a := by
      intro α c _ a hh
      by_cases hc : c
      · rw [if_pos hc] at hh; exact ⟨hc, hh⟩
      · rw [if_neg hc] at hh; subst hh; cases hb
    have three : ∀ lo hi : Int, 128 ≤ lo → hi ≤ 191 → (byt s k = 224 → 160 ≤ lo) → (byt s k = 237 → hi ≤ 159) → 224 ≤ byt s k → byt s k < 240 → r = pt3 s k lo hi → Lib.encodeRuneZ r.1 = bytesFrom s r.2.1 k := by
      intro lo hi l1 l2 l3 l4 l5 l6 hh
      unfold pt3 at hh
      obtain ⟨⟨f1, f2⟩, rfl⟩ := no (α := Unit) hh
      rw [folB_iff] at f1 f2
      obtain ⟨_, g1, g2⟩ := f1
      obtain ⟨_, g3, g4⟩ := f2
      dsimp only
      rw [Lib.encodeRuneZ_three (by omega)]
      simp only [bytesFrom, show k + 1 + 1 = k + 2 from rfl]
      refine List.cons_eq_cons.2 ⟨by omega, List.cons_eq_cons.2 ⟨by omega, List.cons_eq_cons.2 ⟨by omega, rfl⟩⟩⟩
    have four : ∀ lo hi : Int, 128 ≤ lo → hi ≤ 191 → (byt s k = 240 → 144 ≤ lo) → (byt s k = 244 → hi ≤ 143) → 240 ≤ byt s k → byt s k < 245 → r = pt4 s k lo hi → Lib.encodeRuneZ r.1 = bytesFrom s r.2.1 k := by
      intro lo hi l1 l2 l3 l4 l5 l6 hh
      unfold pt4 at hh
      obtain ⟨⟨f1, f2, f3⟩, rfl⟩ := no (α := Unit) hh
      rw [folB_iff] at f1 f2 f3
      obtain ⟨_, g1, g2⟩ := f1
      obtain ⟨_, g3, g4⟩ := f2
      obtain ⟨_, g5, g6⟩ := f3
      dsimp only
      rw [Lib.encodeRuneZ_four (by omega) (by omega)]
      simp only [bytesFrom, show k + 1 + 1 = k + 2 from rfl, show k + 2 + 1 = k + 3 from rfl]
      refine List.cons_eq_cons.2 ⟨by omega, List.cons_eq_cons.2 ⟨by omega, List.cons_eq_cons.2 ⟨by omega, List.cons_eq_cons.2 ⟨by omega, rfl⟩⟩⟩⟩
    by_cases c3 : byt s k < 224
    · rw [if_pos c3] at hr
      unfold pt2 at hr
      obtain ⟨f1, rfl⟩ := no (α := Unit) hr
      rw [folB_iff] at f1
      obtain ⟨_, g1, g2⟩ := f1
      dsimp only
      rw [Lib.encodeRuneZ_two (by omega) (by omega)]
      simp only [bytesFrom]
      refine List.cons_eq_cons.2 ⟨by omega, List.cons_eq_cons.2 ⟨by omega, rfl⟩⟩
    rw [if_neg c3] at hr
    by_cases c4 : byt s k = 224
    · rw [if_pos c4] at hr; exact three 160 191 (by omega) (by omega) (by omega) (by omega) (by omega) (by omega) hr
    rw [if_neg c4] at hr
    by_cases c5 : byt s k = 237
    · rw [if_pos c5] at hr; exact three 128 159 (by omega) (by omega) (by omega) (by omega) (by omega) (by omega) hr
    rw [if_neg c5] at hr
    by_cases c6 : byt s k < 240
    · rw [if_pos c6] at hr; exact three 128 191 (by omega) (by omega) (by omega) (by omega) (by omega) (by omega) hr
    rw [if_neg c6] at hr
    by_cases d1 : byt s k = 240
    · rw [if_pos d1] at hr; exact four 144 191 (by omega) (by omega) (by omega) (by omega) (by omega) (by omega) hr
    rw [if_neg d1] at hr
    by_cases d2 : byt s k < 244
    · rw [if_pos d2] at hr; exact four 128 191 (by omega) (by omega) (by omega) (by omega) (by omega) (by omega) hr
    rw [if_neg d2] at hr
    by_cases d3 : byt s k = 244
    · rw [if_pos d3] at hr; exact four 128 143 (by omega) (by omega) (by omega) (by omega) (by omega) (by omega) hr
    rw [if_neg d3] at hr; subst hr; cases hb
  exact key _ rfl h

theorem pts_back (s : ByteArray) : ∀ (f k : Nat), s.size - k ≤ f → wh s k = true → txtZ (pts s k) = bytesFrom s (s.size - k) k := by
  intro f
  induction f with
  | zero =>
    intro k hf _
    rw [pts_end s k (by omega), show s.size - k = 0 from by omega]; rfl
  | succ f ih =>
    intro k hf hw
    by_cases h : k < s.size
    · have hfa := (ptS_facts s k h).1
      rw [wh_step s k h, Bool.and_eq_true] at hw
      rw [pts_step s k h]
      show Lib.encodeRuneZ _ ++ txtZ _ = _
      rw [ih _ (by omega) hw.2, pt_enc s k hw.1, ← bytesFrom_add]
      congr 1
      omega
    · rw [pts_end s k h, show s.size - k = 0 from by omega]; rfl
theorem pts_len (s : ByteArray) : ∀ (f k : Nat), s.size - k ≤ f → (pts s k).length ≤ s.size - k ∧ s.size - k ≤ 4 * (pts s k).length := by
  intro f
  induction f with
  | zero => intro k hf; rw [pts_end s k (by omega)]; simp; omega
  | succ f ih =>
    intro k hf
    by_cases h : k < s.size
    · have hfa := (ptS_facts s k h).1
      rw [pts_step s k h, List.length_cons]
      have := ih (k + (ptS s k).2.1) (by omega)
      omega
    · rw [pts_end s k h]; simp; omega
end Go.Proofs.Ytihfdmjejllhnaa
