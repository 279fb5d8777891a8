/- slices.Grow from nil and slices.Concat of two lists of integers. -/
import Derived.Test.YtgfchgnebpogjaaProg
import Derived.Test.YtgfchgnebpogjaaApp
import Derived.WalkSpells
import Derived.WalkLawsBesides
import Derived.Handy
namespace Go.Proofs.Ytgfchgnebpogjaa
open Go.RowKit
set_option linter.unusedVariables false
set_option linter.unusedSimpArgs false
set_option maxRecDepth 100000

theorem elI : ElTy Try.prog 22 3 1 8 (.int .i64 0) := ⟨Try.underlying22, by kernel_rfl, rfl, by decide⟩

theorem grow_any (n : Nat) (w : World) (hn : n ≤ 1000000000) :
    Calls Try.prog 69 #[.slice none 0 0, .int .i64 n] w fun e w' => ∃ v', e = .returned v' ∧ w'.ownsRow w.heap.size 3 1 v' 0 [] ∧ Below w.heap.size w w' := by
  by_cases h0 : n = 0
  · subst h0
    go_enter Try.func69, Try.ntmps69
    go_wp2
    go_ret
    exact ⟨_, rfl, World.ownsRow_nil _ _ _ _, Below.refl _ _⟩
  · obtain ⟨i, hi, hz, hsz, hby⟩ := info_parts elI.hi
    go_enter Try.func69, Try.ntmps69
    go_wp2_with (at_builtin; (refine Lib.wpList_append_run _ rfl (.tmp 20) (.tmp 21) 22 3 rfl _ _ rfl rfl _ _ (Lib.run_append_nil_zeros _ 22 3 _ 3 i _ .i64 .i64 elI.ht (by kernel_rfl) hi hz n (by omega) (by omega) (by omega) (by rw [hby]; omega)) ?_))
    go_ret
    refine ⟨_, rfl, ⟨rfl, .inr ⟨w.heap.size, grownCap w n 0 3, _, rfl, Nat.le_refl _, heap_alloc_new w.drew _, by omega, grownCap_le_maxLen w n 0 3 (by unfold maxLen; omega), ?_, rfl⟩⟩, ?_⟩
    · have hge := grownCap_ge w n 0 3
      have e1 : (Value.int IntKind.i64 0).cells.size = 1 := rfl
      have e2 : (#[Value.int IntKind.i64 0] : Array Value).size = 1 := rfl
      simp only [Array.size_append, size_zeroCells, e1, e2, Nat.mul_one]
      omega
    · exact (Below.refl _ w).drew.alloc (Nat.le_refl _) _

theorem concat_any (A A' : Option Addr) (n c n' c' : Nat) (l l' : List Int) (g off cc : Nat) (w : World) (B : Nat) (hg : g < w.heap.size) (hc0 : w.cell? ⟨g, off, none⟩ = some (.slice A n c)) (hc1 : w.cell? ⟨g, off + 1, none⟩ = some (.slice A' n' c'))
    (h : RdI w B A l) (hl : l.length = n) (hm : n ≤ 100000000) (h' : RdI w B A' l') (hl' : l'.length = n') (hm' : n' ≤ 100000000) (hB : B ≤ w.heap.size) :
    Calls Try.prog 35 #[.slice (some ⟨g, off, none⟩) 2 cc] w fun e w' => ∃ v', e = .returned v' ∧ w'.ownsRow w.heap.size 3 1 v' (n + n') (iv (l ++ l')) ∧ Below w.heap.size w w' := by
  have hcall := grow_any (n + n') w (by omega)
  have HC := Lib.hid hcall; clear hcall
  go_enter Try.func35, Try.ntmps35
  go_wp2_with fail
  refine wp_loop_rounds 3 ?_
  rw [rounds_succ]
  go_wp2
  rw [rounds_succ]
  go_wp2
  rw [rounds_succ]
  go_wp2_with (go_at_call 69; refine HC.out.mono ?_; rintro e w' ⟨v', rfl, hown, hb⟩)
  have z0 : w'.cell? ⟨g, off, none⟩ = some (.slice A n c) := (hb.cell (p := ⟨g, off, none⟩) hg).trans hc0
  have z1 : w'.cell? ⟨g, off + 1, none⟩ = some (.slice A' n' c') := (hb.cell (p := ⟨g, off + 1, none⟩) hg).trans hc1
  have r1 : RdI w' B A l := h.below (hb.mono hB)
  have r2 : RdI w' B A' l' := h'.below (hb.mono hB)
  have O := Lib.hid hown; have R1 := Lib.hid r1; have R2 := Lib.hid r2; clear hown r1 r2 h h' hc0 hc1
  have ll := Lib.hid hl; have ll' := Lib.hid hl'; clear hl hl'
  refine wp_loop_rounds 3 ?_
  rw [rounds_succ]
  go_wp2_with (at_builtin; refine wpList_app_rd elI rfl (.tmp 31) (.tmp 32) rfl w.heap.size _ 0 n c B A [] (iv l) rfl O.out rfl (by rw [iv_len, ll.out]; omega) R1.out (iv_one l) (by omega) (by omega) hb.size ?_; intro v1 w1 hown1 hg1 hat1)
  have hb1 : Below w.heap.size w w1 := hb.grown hg1 hb.size (fun k hk => own_base O.out k hk)
  have r2 : RdI w1 B A' l' := (RdI.below R2.out ((Below.refl _ w').grown hg1 (Nat.le_trans hB hb.size) (fun k hk => Nat.le_trans hB (own_base O.out k hk))))
  have z1 : w1.cell? ⟨g, off + 1, none⟩ = some (.slice A' n' c') := by
    have q : Below w.heap.size w' w1 := (Below.refl _ w').grown hg1 hb.size (fun k hk => own_base O.out k hk)
    exact (q.cell (p := ⟨g, off + 1, none⟩) hg).trans z1
  have R2' := Lib.hid r2; have O1 := Lib.hid hown1; clear r2 hown1
  rw [rounds_succ]
  go_wp2_with (at_builtin; refine wpList_app_rd elI rfl (.tmp 31) (.tmp 32) rfl w.heap.size _ (0 + n) n' c' B A' _ (iv l') rfl O1.out rfl (by rw [iv_len, ll'.out]; omega) R2'.out (iv_one l') (by omega) (by omega) hb1.size ?_; intro v2 w2 hown2 hg2 hat2)
  have hb2 : Below w.heap.size w w2 := hb1.grown hg2 hb1.size (fun k hk => own_base O1.out k hk)
  have O2 := Lib.hid hown2; clear hown2
  rw [rounds_succ]
  go_wp2
  go_ret
  refine ⟨_, rfl, ?_, hb2⟩
  have := O2.out
  rw [Nat.zero_add, List.nil_append] at this
  have e : iv (l ++ l') = iv l ++ iv l' := List.map_append
  rw [e]; exact this
end Go.Proofs.Ytgfchgnebpogjaa
