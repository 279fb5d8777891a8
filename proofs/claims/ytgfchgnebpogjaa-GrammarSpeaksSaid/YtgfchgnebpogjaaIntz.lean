/- The contract of grammarsmithlaw1.sameInts. -/
import Derived.Test.YtgfchgnebpogjaaProg
import Derived.Test.YtgfchgnebpogjaaMem
import Derived.WalkSpells
import Derived.WalkLawsBesides
import Derived.Handy
import Derived.Deep.QuietTactic
import Derived.BigQuiet
namespace Go.Proofs.Ytgfchgnebpogjaa
open Go.RowKit
set_option linter.unusedVariables false
set_option linter.unusedSimpArgs false

theorem take_more {l l' : List Int} {k : Nat} (h : l.take k = l'.take k) (hk : k < l.length) (hk' : k < l'.length) (he : nth l k = nth l' k) : l.take (k + 1) = l'.take (k + 1) := by
  rw [List.take_succ_eq_append_getElem hk, List.take_succ_eq_append_getElem hk', h, ← nth_get hk, ← nth_get hk', he]

theorem sameInts_len (A A' : Option Addr) (c c' n : Nat) (l l' : List Int) (w : World) (B : Nat) (h : RdI w B A l) (h' : RdI w B A' l') (hl : l.length = n) (hl' : l'.length = n) (hm : n ≤ maxLen) :
    Calls Try.prog 15 #[.slice A n c, .slice A' n c'] w fun e w' => e = .returned (.bool (decide (l = l'))) ∧ ∃ n, w' = w.drewN n := by
  unfold maxLen at hm
  have Hl := Lib.hid hl; clear hl
  have Hl' := Lib.hid hl'; clear hl'
  have e' : ((n : Int) != (n : Int)) = false := by simp
  go_enter Try.func15, Try.ntmps15
  go_wp2
  go_loopw [5] (fun i wr => ∃ k : Nat, k ≤ n ∧ i = .int .i64 k ∧ Hid (l.take k = l'.take k) ∧ ∃ d, wr = w.drewN d) (fun i _ => n - (intOf i).toNat)
  case atStart => exact ⟨0, Nat.zero_le _, rfl, rfl, 0, rfl⟩
  case round =>
    obtain ⟨k, hk, rfl, HE, d, rfl⟩ := hrel
    by_cases hlt : k < n
    · obtain ⟨b, off, rfl, hb, hc⟩ := h.at_ (by rw [Hl.out]; omega)
      obtain ⟨b', off', rfl, hb', hc'⟩ := h'.at_ (by rw [Hl'.out]; omega)
      have c1 := hc k (by rw [Hl.out]; omega)
      have c2 := hc' k (by rw [Hl'.out]; omega)
      clear hc hc'
      by_cases hd : nth l k = nth l' k
      · have hB : (nth l k != nth l' k) = false := by simp [hd]
        have Hd := Lib.hid hd; clear hd
        go_wp2
        go_quiet (fail)
        go_wp2
        go_roundw
        case rel => exact ⟨k + 1, by omega, by go_num, take_more HE.out (by rw [Hl.out]; omega) (by rw [Hl'.out]; omega) Hd.out, _, rfl⟩
        case measure => simp [intOf]; omega
      · have hB : (nth l k != nth l' k) = true := by simp [hd]
        have Hd := Lib.hid hd; clear hd
        go_wp2
        go_quiet (fail)
        go_wp2
        go_ret
        exact ⟨ret_eq (by simp; intro h; exact Hd.out (by rw [h])), _, World.drewN_drewN _ _ _⟩
    · go_wp2
      go_ret
      refine ⟨ret_eq ?_, _, rfl⟩
      have := HE.out
      rw [List.take_of_length_le (by rw [Hl.out]; omega), List.take_of_length_le (by rw [Hl'.out]; omega)] at this
      simp [this]

theorem sameInts_any (A A' : Option Addr) (c c' n n' : Nat) (l l' : List Int) (w : World) (B : Nat) (h : RdI w B A l) (h' : RdI w B A' l') (hl : l.length = n) (hl' : l'.length = n') (hm : n ≤ maxLen) :
    Calls Try.prog 15 #[.slice A n c, .slice A' n' c'] w fun e w' => e = .returned (.bool (decide (l = l'))) ∧ ∃ n, w' = w.drewN n := by
  by_cases e : n = n'
  · subst e
    exact sameInts_len A A' c c' n l l' w B h h' hl hl' hm
  · have e' : ((n : Int) != (n' : Int)) = true := by simp; omega
    have hne : decide (l = l') = false := by simp; intro h; subst h; omega
    have Hn := Lib.hid hne; clear hne
    have Hl := Lib.hid hl; clear hl
    have Hl' := Lib.hid hl'; clear hl'
    go_enter Try.func15, Try.ntmps15
    go_wp2
    go_ret
    exact ⟨by rw [Hn.out]; rfl, 0, rfl⟩
end Go.Proofs.Ytgfchgnebpogjaa
