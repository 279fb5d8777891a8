/- The document's leaves of any tree; its Sound. -/
import Derived.Test.YtinejiodnnjpgaaDoorTrK
namespace Go.Proofs.YtinejiodnnjpgaaDoor
open Go.RowKit BigFrame
set_option linter.unusedVariables false
set_option linter.unusedSimpArgs false
set_option maxRecDepth 100000

theorem leaves_nil (G : Gr) (Ap Al As : Option Addr) (np cp nl cl ns cs : Nat) (l : List Int) (A : Option Addr) (n c : Nat) (s : Int) (at_ : Nat) (w : World) :
    Calls Tryd.prog 27 #[.agg #[.int .i64 G.terms, .int .i64 G.names, .int .i64 G.start, .slice Ap np cp, .slice Al nl cl, .slice As ns cs], .pointer none, .int .i64 s, .slice A n c, .int .i64 at_] w fun e w' => e = .returned (.int .i64 (optI (lvT G l .nil s at_))) ∧ Below w.heap.size w w' := by
  obtain ⟨hb0, hs0, gb⟩ := gbox w G Ap Al As np cp nl cl ns cs
  have HB0 := Lib.hid hb0
  have HN := Lib.hid (show optI (lvT G l .nil s at_) = -1 by rw [lvT]; rfl)
  clear hb0 gb hs0
  go_enter Tryd.func27, Tryd.ntmps27
  go_wp2_with fail
  go_ret
  exact ⟨ret_eq (by rw [HN.out]; rfl), HB0.out⟩
theorem leaves_any (G : Gr) (Ap Al As : Option Addr) (np cp nl cl ns cs : Nat) (hk : GOk G) (B : Nat) (A : Option Addr) (n c : Nat) (l : List Int) (hl : l.length = n) (hn : n ≤ 100) : ∀ (N : Nat), N ≤ 100000 → ∀ (t : Tr), szT t ≤ N → ∀ (v : Value) (s : Int) (at_ : Nat) (w : World), B ≤ w.heap.size → GrIn w B G Ap Al As np cp nl cl ns cs → TrB w B v t → RdI w B A l → at_ ≤ n → -1000 ≤ s → s ≤ 1000 →
    Calls Tryd.prog 27 #[.agg #[.int .i64 G.terms, .int .i64 G.names, .int .i64 G.start, .slice Ap np cp, .slice Al nl cl, .slice As ns cs], v, .int .i64 s, .slice A n c, .int .i64 at_] w fun e w' => e = .returned (.int .i64 (optI (lvT G l t s at_))) ∧ Below w.heap.size w w' := by
  intro N
  induction N with
  | zero => intro _ t h; have := szT_pos t; omega
  | succ N ih =>
    intro hN t h v s at_ w hB hG hT hI hat hs1 hs2
    cases t with
    | nil =>
      obtain rfl := hT.nil_inv
      exact leaves_nil G Ap Al As np cp nl cl ns cs l A n c s at_ w
    | node p tok ks =>
      rw [szT] at h
      by_cases hs : 0 ≤ s
      · exact leaves_leaf G Ap Al As np cp nl cl ns cs hk B A n c l hl hn p tok ks v s at_ w hB hG hT hI hat hs1 hs2 (by have := szL_len ks; omega) hs
      · exact leaves_node G Ap Al As np cp nl cl ns cs hk B A n c l hl hn N (ih (by omega)) p tok ks (by omega) v s at_ w hB hG hT hI hat hs1 hs2 hs

def soundB (G : Gr) (t : Tr) (l : List Int) : Bool := decide (lvT G l t (-1 - G.start) 0 = some l.length)
set_option maxHeartbeats 4000000 in
theorem rsound_any (G : Gr) (Ap Al As : Option Addr) (np cp nl cl ns cs : Nat) (hk : GOk G) (B : Nat) (A : Option Addr) (n c : Nat) (l : List Int) (hl : l.length = n) (hn : n ≤ 100) (t : Tr) (ht : szT t ≤ 100000) (v : Value) (w : World) (hB : B ≤ w.heap.size) (hG : GrIn w B G Ap Al As np cp nl cl ns cs) (hT : TrB w B v t) (hI : RdI w B A l) :
    Calls Tryd.prog 11 #[.agg #[.int .i64 G.terms, .int .i64 G.names, .int .i64 G.start, .slice Ap np cp, .slice Al nl cl, .slice As ns cs], v, .slice A n c] w fun e w' => e = .returned (.bool (soundB G t l)) ∧ Below w.heap.size w w' := by
  have h1 := hk.s0; have h2 := hk.s1; have h3 := hk.n1
  have HC := Lib.hid (fun (w : World) (hB : B ≤ w.heap.size) (hG : GrIn w B G Ap Al As np cp nl cl ns cs) (hT : TrB w B v t) (hI : RdI w B A l) => leaves_any G Ap Al As np cp nl cl ns cs hk B A n c l hl hn 100000 (by decide) t ht v (-1 - G.start) 0 w hB hG hT hI (Nat.zero_le _) (by omega) (by omega))
  obtain ⟨hb0, hs0, gb⟩ := gbox w G Ap Al As np cp nl cl ns cs
  have HB0 := Lib.hid hb0; have HGB := Lib.hid gb; have HG := Lib.hid hG; have HT := Lib.hid hT; have HI := Lib.hid hI
  have HS : Hid (soundB G t l = decide (lvT G l t (-1 - G.start) 0 = some n)) := Lib.hid (by unfold soundB; rw [hl])
  clear hG hT hI hb0 gb
  go_enter Tryd.func11, Tryd.ntmps11
  go_wp2_with fail
  refine (HC.out _ (by rw [hs0]; omega) (HG.out.below (HB0.out.mono hB)) (TrB.below HT.out (HB0.out.mono hB)) (HI.out.below (HB0.out.mono hB))).mono ?_
  rintro e w5 ⟨rfl, hb5⟩
  have HB5 := Lib.hid hb5
  clear hb5 HC
  generalize lvT G l t (-1 - G.start) 0 = o at *
  cases o
  · as_aux_lemma =>
      have HN : Hid (soundB G t l = false) := Lib.hid (by rw [HS.out]; rfl)
      simp only [optI]
      have d1 : ((-1 : Int) == (n : Int)) = false := by rw [beq_eq_false_iff_ne]; omega
      go_wp2
      go_ret
      exact ⟨ret_eq (by rw [HN.out]; rfl), HB0.out.trans (HB5.out.mono (by rw [hs0]; omega))⟩
  · rename_i a
    by_cases q : a = n
    · as_aux_lemma =>
        subst q
        have HN : Hid (soundB G t l = true) := Lib.hid (by rw [HS.out]; exact decide_eq_true rfl)
        simp only [optI]
        go_wp2
        go_ret
        exact ⟨ret_eq (by rw [HN.out]; simp), HB0.out.trans (HB5.out.mono (by rw [hs0]; omega))⟩
    · as_aux_lemma =>
        have HN : Hid (soundB G t l = false) := Lib.hid (by rw [HS.out]; exact decide_eq_false (fun e => q (Option.some.inj e)))
        simp only [optI]
        have d1 : ((a : Int) == (n : Int)) = false := by rw [beq_eq_false_iff_ne]; omega
        have d2 : (a == n) = false := by rw [beq_eq_false_iff_ne]; exact q
        go_wp2
        go_ret
        exact ⟨ret_eq (by rw [HN.out]; simp), HB0.out.trans (HB5.out.mono (by rw [hs0]; omega))⟩
end Go.Proofs.YtinejiodnnjpgaaDoor
