/- The contract of points.Points: the same list. -/
import Derived.Test.YtihfdmjejllhnaaPtB
import Derived.Lib.OthersKept
import Derived.WalkSmall
namespace Go.Proofs.Ytihfdmjejllhnaa
open Go.RowKit
set_option linter.unusedVariables false
set_option linter.unusedSimpArgs false

theorem own_iterAt {w : World} {base : Nat} {e : TypeId} {size n : Nat} {v : Value} {xs : List Value} (h : w.ownsRow base e size v n xs) {k : Nat} (hk : k < base) (s : ByteArray) (pos : Nat) : (w.iterAt k s pos).ownsRow base e size v n xs := by
  refine ⟨h.1, ?_⟩
  rcases h.2 with hn | ⟨g, cap, cur, rfl, hb, hg, rest⟩
  · exact .inl hn
  · exact .inr ⟨g, cap, cur, rfl, hb, by rw [Lib.iterAt_other _ _ _ _ _ (by omega)]; exact hg, rest⟩

set_option maxRecDepth 100000 in
theorem points_any (s : ByteArray) (w : World) (hs : s.size ≤ 140737488351232) (h8 : s.size * 8 ≤ 140737488355328) :
    Calls Try.prog 8 #[.string s] w fun e w' => ∃ v, e = .returned v ∧ w'.ownsRow (w.heap.size + 1) 3 1 v (pts s 0).length ((pts s 0).map (Value.int .i64)) ∧ Below w.heap.size w w' := by
  have hm : s.size ≤ maxLen := by unfold maxLen; omega
  go_enter Try.func8, Try.ntmps8
  go_wp2
  go_loopw [3] (fun v wr => ∃ (k : Nat) (acc : List Int), k ≤ s.size ∧ acc.length ≤ k ∧ wr.heap[w.heap.size]? = some (.stringIter s k) ∧ wr.ownsRow (w.heap.size + 1) 3 1 v acc.length (acc.map (Value.int .i64)) ∧ Hid (acc ++ pts s k = pts s 0) ∧ Below w.heap.size w wr ∧ w.heap.size + 1 ≤ wr.heap.size)
    (fun _ wr => s.size - wr.iterPos w.heap.size)
  case atStart => exact ⟨0, [], Nat.zero_le _, Nat.zero_le _, World.iter_heap _ _ _, World.ownsRow_nil _ _ _ _, rfl, (Below.refl _ _).alloc (Nat.le_refl _) _, by simp [World.iter]⟩
  case round =>
    obtain ⟨k, acc, hk, hak, hit, hown, HE, hb, hz⟩ := hrel
    have hmu := iterPos_of hit
    by_cases hlt : k < s.size
    · have hst := pts_step s k hlt
      obtain ⟨hd1, hd2⟩ := ptS_decode s k hlt
      obtain ⟨⟨f1, f2, f3⟩, f4, f5⟩ := ptS_facts s k hlt
      have hnx := fun ty => Lib.run_next_any_at (P := Try.prog) wr w.heap.size s k ty hit hlt
      have hit' := Lib.iterAt_heap wr w.heap.size s k (k + (Utf8.decode s k).2) hit
      have hb' := Lib.below_iterAt hb (Nat.le_refl w.heap.size) s (k + (Utf8.decode s k).2)
      have hsz' := Lib.iterAt_size wr w.heap.size s (k + (Utf8.decode s k).2)
      have hown' : (wr.iterAt w.heap.size s (k + (Utf8.decode s k).2)).ownsRow (w.heap.size + 1) 3 1 u3 acc.length (acc.map (Value.int .i64)) := own_iterAt hown (Nat.lt_succ_self _) s _
      rw [hd1, hd2] at hnx
      rw [hd2] at hit' hb' hsz' hown'
      generalize (ptS s k).1 = p at *
      generalize (ptS s k).2.1 = n at *
      clear hd1 hd2
      have HS := Lib.hid hst; clear hst
      have HI := Lib.hid hit'; clear hit'
      have HM := Lib.hid hmu
      have hsz2 : w.heap.size + 1 ≤ (wr.iterAt w.heap.size s (k + n)).heap.size := by rw [hsz']; exact hz
      clear hsz' hit
      generalize wr.iterAt w.heap.size s (k + n) = W at *
      clear hown hb hz hmu
      go_wp2_with (at_builtin; refine wpList_app elI rfl (.tmp 11) (.tmp 14) rfl (w.heap.size + 1) _ acc.length 1 _ [.int .i64 p] rfl hown' rfl rfl (by simp [Value.oneCell']) (by omega) (by omega) hsz2 ?_; intro v' w1 hown2 hg hat)
      have hI2 : w1.heap[w.heap.size]? = some (.stringIter s (k + n)) := by
        rw [hg.block w.heap.size (by omega) (fun e => by have := own_base hown' _ e.symm; omega)]; exact HI.out
      have hz2 := hg.size
      go_roundw
      case rel =>
        refine ⟨k + n, acc ++ [p], by omega, by simp; omega, hI2, ?_, ?_, hb'.grown hg (by omega) (fun j hj => by have := own_base hown' j hj; omega), by omega⟩
        · rw [ints_snoc]; simpa using hown2
        · show _ = _
          rw [← HE.out, HS.out]; simp
      case measure => rw [iterPos_of hI2, HM.out]; omega
    · have hx : acc = pts s 0 := by rw [← HE.out, pts_end s k hlt]; simp
      have hnx := fun ty => Lib.run_next_end_at (P := Try.prog) wr w.heap.size s k ty hit hlt
      clear hmu hit
      go_wp2
      go_ret
      exact ⟨_, rfl, by rw [← hx]; exact hown, hb⟩
end Go.Proofs.Ytihfdmjejllhnaa
