/- The contracts of ref1.Points and ref1.Whole. -/
import Derived.Test.YtihfdmjejllhnaaPtA
import Derived.Test.YtihfdmjejllhnaaMem
namespace Go.Proofs.Ytihfdmjejllhnaa
open Go.RowKit
set_option linter.unusedVariables false
set_option linter.unusedSimpArgs false

/-- The points of a text from byte k on. -/
def ptsN (s : ByteArray) : Nat → Nat → List Int
  | 0, _ => []
  | f + 1, k => if k < s.size then (ptS s k).1 :: ptsN s f (k + (ptS s k).2.1) else []
theorem ptsN_fuel (s : ByteArray) : ∀ (f g k : Nat), s.size - k ≤ f → s.size - k ≤ g → ptsN s f k = ptsN s g k := by
  intro f
  induction f with
  | zero =>
    intro g k hf hg
    cases g with
    | zero => rfl
    | succ g => rw [ptsN, ptsN, if_neg (by omega)]
  | succ f ih =>
    intro g k hf hg
    cases g with
    | zero => rw [ptsN, ptsN, if_neg (by omega)]
    | succ g =>
      rw [ptsN, ptsN]
      by_cases h : k < s.size
      · have := (ptS_facts s k h).1
        rw [if_pos h, if_pos h, ih g _ (by omega) (by omega)]
      · rw [if_neg h, if_neg h]
def pts (s : ByteArray) (k : Nat) : List Int := ptsN s (s.size - k) k
theorem pts_end (s : ByteArray) (k : Nat) (h : ¬ k < s.size) : pts s k = [] := by
  unfold pts; rw [show s.size - k = 0 from by omega]; rfl
theorem pts_step (s : ByteArray) (k : Nat) (h : k < s.size) : pts s k = (ptS s k).1 :: pts s (k + (ptS s k).2.1) := by
  have hf := (ptS_facts s k h).1
  obtain ⟨f, hf'⟩ : ∃ f, s.size - k = f + 1 := ⟨s.size - k - 1, by omega⟩
  unfold pts
  rw [hf', ptsN, if_pos h]
  congr 1
  exact ptsN_fuel s _ _ _ (by omega) (by omega)

theorem elI : ElTy Try.prog 22 3 1 8 (.int .i64 0) := ⟨Try.underlying22, by kernel_rfl, rfl, by decide⟩

theorem ints_snoc (l : List Int) (x : Int) : (l ++ [x]).map (Value.int .i64) = l.map (Value.int .i64) ++ [.int .i64 x] := by simp

theorem r1Points_any (s : ByteArray) (w : World) (hs : s.size ≤ 140737488351232) (h8 : s.size * 8 ≤ 140737488355328) :
    Calls Try.prog 9 #[.string s] w fun e w' => ∃ v, e = .returned v ∧ w'.ownsRow w.heap.size 3 1 v (pts s 0).length ((pts s 0).map (Value.int .i64)) ∧ Below w.heap.size w w' := by
  have hm : s.size ≤ maxLen := by unfold maxLen; omega
  go_enter Try.func9, Try.ntmps9
  go_wp2
  go_loopw [3, 4] (fun v i wr => ∃ (k : Nat) (acc : List Int), k ≤ s.size ∧ acc.length ≤ k ∧ i = .int .i64 k ∧ wr.ownsRow w.heap.size 3 1 v acc.length (acc.map (Value.int .i64)) ∧ Hid (acc ++ pts s k = pts s 0) ∧ Below w.heap.size w wr)
    (fun _ i _ => s.size - (intOf i).toNat)
  case atStart => exact ⟨0, [], Nat.zero_le _, Nat.zero_le _, rfl, World.ownsRow_nil _ _ _ _, rfl, Below.refl _ _⟩
  case round =>
    obtain ⟨k, acc, hk, hak, rfl, hown, HE, hb⟩ := hrel
    by_cases hlt : k < s.size
    · have hst := pts_step s k hlt
      have hpt := fun W => point_any s k W hm hlt
      obtain ⟨⟨f1, f2, f3⟩, f4, f5⟩ := ptS_facts s k hlt
      generalize (ptS s k).1 = p at *
      generalize (ptS s k).2.1 = n at *
      generalize (ptS s k).2.2 = b at *
      have HP := Lib.hid hpt; clear hpt
      have HS := Lib.hid hst; clear hst
      have hbs := hb.size
      go_wp2_with (first
        | (go_at_call 33; refine (HP.out _).mono ?_; rintro e w' ⟨rfl, rfl⟩)
        | (at_builtin; refine wpList_app elI rfl (.tmp 19) (.tmp 21) rfl w.heap.size _ acc.length 1 _ [.int .i64 p] rfl hown rfl rfl (by simp [Value.oneCell']) (by omega) (by omega) hbs ?_; intro v' w1 hown' hg hat))
      go_roundw
      case rel =>
        refine ⟨k + n, acc ++ [p], by omega, by simp; omega, by go_num, ?_, ?_, hb.grown hg hbs (own_base hown)⟩
        · rw [ints_snoc]; simpa using hown'
        · show _ = _
          rw [← HE.out, HS.out]; simp
      case measure => simp [intOf]; omega
    · have hx : acc = pts s 0 := by rw [← HE.out, pts_end s k hlt]; simp
      go_wp2
      go_ret
      exact ⟨_, rfl, by rw [← hx]; exact hown, hb⟩
end Go.Proofs.Ytihfdmjejllhnaa
