/- The program's sound at a leaf. -/
import Derived.Test.YtinejiodnnjpgaaDoorTrI
import Derived.Test.YtinejiodnnjpgaaDoorBlk
namespace Go.Proofs.YtinejiodnnjpgaaDoor
open Go.RowKit BigFrame
set_option linter.unusedVariables false
set_option linter.unusedSimpArgs false
set_option maxRecDepth 100000

/-- The end: whether there is a value, and the cell, which bears it. -/
def SdEnd (q : Nat) (o : Option Nat) (w : World) (e : Ending) (w' : World) : Prop :=
  e = .returned (.bool o.isSome) ∧ (∃ a : Nat, (∀ b, o = some b → a = b) ∧ Blk w' q 3 [.int .i64 (a : Int)]) ∧ Kp (fun j => j = q) w w'
theorem sd_ret {v : Value} {q : Nat} {w w' : World} {o : Option Nat} {b : Bool} (e : o.isSome = b) (h : v = .bool b) (h2 : ∃ a : Nat, (∀ b, o = some b → a = b) ∧ Blk w' q 3 [.int .i64 (a : Int)]) (h3 : Kp (fun j => j = q) w w') : SdEnd q o w (.returned v) w' := ⟨by rw [h, e], h2, h3⟩
set_option maxHeartbeats 4000000 in
theorem sound_leaf (G : Gr) (Ap Al As : Option Addr) (np cp nl cl ns cs : Nat) (hk : GOk G) (B q : Nat) (hq : B ≤ q) (A : Option Addr) (n c : Nat) (l : List Int) (hl : l.length = n) (hn : n ≤ 100) (p tok : Int) (ks : List Tr) (v : Value) (s : Int) (at_ : Nat) (w : World) (hQ : Blk w q 3 [.int .i64 (at_ : Int)]) (hB : B ≤ w.heap.size) (hT : TrB w B v (.node p tok ks)) (hI : RdI w B A l) (hat : at_ ≤ n) (hs1 : -1000 ≤ s) (hs2 : s ≤ 1000) (hkl : ks.length ≤ 100000) (hs : 0 ≤ s) :
    Calls Tryd.prog 29 #[.agg #[.int .i64 G.terms, .int .i64 G.names, .int .i64 G.start, .slice Ap np cp, .slice Al nl cl, .slice As ns cs], v, .int .i64 s, .slice A n c, .pointer (some ⟨q, 0, none⟩)] w (SdEnd q (lvT G l (.node p tok ks) s at_) w) := by
  obtain ⟨hb0, hs0, gb⟩ := gbox w G Ap Al As np cp nl cl ns cs
  obtain ⟨b, A2, c2, rfl, hb, zp, zt, zk, hk1, hk2, hks⟩ := hT.node_inv
  have tr := fun (q : Addr) (z : q.block < B) => hb0.cell (p := q) (Nat.lt_of_lt_of_le z hB)
  have zp1 := (tr ⟨b, 0, none⟩ hb).trans zp
  have zt1 := (tr ⟨b, 1, none⟩ hb).trans zt
  have zk1 := (tr ⟨b, 2, none⟩ hb).trans zk
  have hlt := hQ.lt
  have zq := (hb0.cell (p := ⟨q, 0, none⟩) hlt).trans (hQ.cell (i := 0) rfl)
  have HLL := Lib.hid hl
  have HI := Lib.hid hI; have HB0 := Lib.hid hb0; have HQ := Lib.hid hQ
  unfold maxLen at hk2
  clear hI hks hb0 gb tr hl zp zt zk hT hQ
  have HLV := Lib.hid (show lvT G l (.node p tok ks) s at_ = if leafOk p tok ks.length s l at_ then some (at_ + 1) else none by rw [lvT, if_pos hs])
  have hqf : (w.alloc (.cells #[.int .i64 G.terms, .int .i64 G.names, .int .i64 G.start, .slice Ap np cp, .slice Al nl cl, .slice As ns cs] 34)).frozen? ⟨q, 0, none⟩ = false := ((HQ.out.alloc _).frozen 0)
  have HQ1 := Lib.hid (HQ.out.alloc (.cells #[.int .i64 G.terms, .int .i64 G.names, .int .i64 G.start, .slice Ap np cp, .slice Al nl cl, .slice As ns cs] 34))
  by_cases q1 : p = -1
  rotate_left
  · as_aux_lemma =>
      have d1 : (p == (-1 : Int)) = false := by simpa using q1
      have HN := Lib.hid (show lvT G l (.node p tok ks) s at_ = none by rw [HLV.out, if_neg (fun q => q1 q.1)])
      clear HLV
      rw [HN.out]
      go_enter Tryd.func29, Tryd.ntmps29
      go_wp2_with fail
      go_quiet (fail)
      rename_i nq _ _
      obtain ⟨w1, hw1⟩ : ∃ w1, w1 = (w.alloc (.cells #[.int .i64 G.terms, .int .i64 G.names, .int .i64 G.start, .slice Ap np cp, .slice Al nl cl, .slice As ns cs] 34)).drewN nq := ⟨_, rfl⟩
      have HQ2 : Hid (Blk w1 q 3 [.int .i64 (at_ : Int)]) := Lib.hid (by rw [hw1]; exact HQ1.out)
      have HK2 : Hid (Kp (fun j => j = q) w w1) := Lib.hid (by rw [hw1]; exact (Kp.of HB0.out).draws _)
      have zq2 := HQ2.out.cell (i := 0) rfl
      have zf2 := HQ2.out.frozen 0
      rw [← hw1]
      clear hw1
      go_wp2_with fail
      go_ret
      exact sd_ret rfl rfl ⟨at_ + 1, (fun b e => by cases e), HQ2.out.set_ 0 _⟩ (HK2.out.set_ (.inr rfl) _)
  subst q1
  by_cases q2 : ks.length = 0
  rotate_left
  · as_aux_lemma =>
      have d2 : ((ks.length : Int) == (0 : Int)) = false := by rw [beq_eq_false_iff_ne]; omega
      have HN := Lib.hid (show lvT G l (.node (-1) tok ks) s at_ = none by rw [HLV.out, if_neg (fun q => q2 q.2.1)])
      clear HLV
      rw [HN.out]
      go_enter Tryd.func29, Tryd.ntmps29
      go_wp2_with fail
      go_quiet (fail)
      rename_i nq _ _
      obtain ⟨w1, hw1⟩ : ∃ w1, w1 = (w.alloc (.cells #[.int .i64 G.terms, .int .i64 G.names, .int .i64 G.start, .slice Ap np cp, .slice Al nl cl, .slice As ns cs] 34)).drewN nq := ⟨_, rfl⟩
      have HQ2 : Hid (Blk w1 q 3 [.int .i64 (at_ : Int)]) := Lib.hid (by rw [hw1]; exact HQ1.out)
      have HK2 : Hid (Kp (fun j => j = q) w w1) := Lib.hid (by rw [hw1]; exact (Kp.of HB0.out).draws _)
      have zq2 := HQ2.out.cell (i := 0) rfl
      have zf2 := HQ2.out.frozen 0
      rw [← hw1]
      clear hw1
      go_wp2_with fail
      go_ret
      exact sd_ret rfl rfl ⟨at_ + 1, (fun b e => by cases e), HQ2.out.set_ 0 _⟩ (HK2.out.set_ (.inr rfl) _)
  have d2 : ((ks.length : Int) == (0 : Int)) = true := by rw [beq_iff_eq]; omega
  by_cases q3 : tok = (at_ : Int)
  rotate_left
  · as_aux_lemma =>
      have d3 : (tok == (at_ : Int)) = false := by simpa using q3
      have HN := Lib.hid (show lvT G l (.node (-1) tok ks) s at_ = none by rw [HLV.out, if_neg (fun q => q3 q.2.2.1)])
      clear HLV
      rw [HN.out]
      go_enter Tryd.func29, Tryd.ntmps29
      go_wp2_with fail
      go_quiet (fail)
      rename_i nq _ _
      obtain ⟨w1, hw1⟩ : ∃ w1, w1 = (w.alloc (.cells #[.int .i64 G.terms, .int .i64 G.names, .int .i64 G.start, .slice Ap np cp, .slice Al nl cl, .slice As ns cs] 34)).drewN nq := ⟨_, rfl⟩
      have HQ2 : Hid (Blk w1 q 3 [.int .i64 (at_ : Int)]) := Lib.hid (by rw [hw1]; exact HQ1.out)
      have HK2 : Hid (Kp (fun j => j = q) w w1) := Lib.hid (by rw [hw1]; exact (Kp.of HB0.out).draws _)
      have zq2 := HQ2.out.cell (i := 0) rfl
      have zf2 := HQ2.out.frozen 0
      rw [← hw1]
      clear hw1
      go_wp2_with fail
      go_ret
      exact sd_ret rfl rfl ⟨at_ + 1, (fun b e => by cases e), HQ2.out.set_ 0 _⟩ (HK2.out.set_ (.inr rfl) _)
  subst q3
  by_cases q4 : at_ < n
  rotate_left
  · as_aux_lemma =>
      have d4 : decide (at_ < n) = false := decide_eq_false q4
      have HN := Lib.hid (show lvT G l (.node (-1) (at_ : Int) ks) s at_ = none by rw [HLV.out, if_neg (fun q => q4 (by have := q.2.2.2.1; rw [HLL.out] at this; exact this))])
      clear HLV
      rw [HN.out]
      go_enter Tryd.func29, Tryd.ntmps29
      go_wp2_with fail
      go_quiet (fail)
      rename_i nq _ _
      obtain ⟨w1, hw1⟩ : ∃ w1, w1 = (w.alloc (.cells #[.int .i64 G.terms, .int .i64 G.names, .int .i64 G.start, .slice Ap np cp, .slice Al nl cl, .slice As ns cs] 34)).drewN nq := ⟨_, rfl⟩
      have HQ2 : Hid (Blk w1 q 3 [.int .i64 (at_ : Int)]) := Lib.hid (by rw [hw1]; exact HQ1.out)
      have HK2 : Hid (Kp (fun j => j = q) w w1) := Lib.hid (by rw [hw1]; exact (Kp.of HB0.out).draws _)
      have zq2 := HQ2.out.cell (i := 0) rfl
      have zf2 := HQ2.out.frozen 0
      rw [← hw1]
      clear hw1
      go_wp2_with fail
      go_ret
      exact sd_ret rfl rfl ⟨at_ + 1, (fun b e => by cases e), HQ2.out.set_ 0 _⟩ (HK2.out.set_ (.inr rfl) _)
  have d4 : decide (at_ < n) = true := decide_eq_true q4
  have hI1 := HI.out
  obtain ⟨ib, io, rfl, hib, hic⟩ := hI1.at_ (by rw [HLL.out]; omega)
  have zi := (HB0.out.cell (p := ⟨ib, io + at_, none⟩) (Nat.lt_of_lt_of_le hib hB)).trans (hic at_ (by rw [HLL.out]; exact q4))
  clear hI1 hic
  obtain ⟨x, hx⟩ : ∃ x, x = nth l at_ := ⟨_, rfl⟩
  rw [← hx] at zi
  have HX := Lib.hid hx
  clear hx
  by_cases q5 : x = s
  rotate_left
  · as_aux_lemma =>
      have d5 : (x == s) = false := by simpa using q5
      have HN := Lib.hid (show lvT G l (.node (-1) (at_ : Int) ks) s at_ = none by rw [HLV.out, if_neg (fun q => q5 (by rw [HX.out]; exact q.2.2.2.2))])
      clear HLV
      rw [HN.out]
      go_enter Tryd.func29, Tryd.ntmps29
      go_wp2_with fail
      go_quiet (fail)
      rename_i nq _ _
      obtain ⟨w1, hw1⟩ : ∃ w1, w1 = (w.alloc (.cells #[.int .i64 G.terms, .int .i64 G.names, .int .i64 G.start, .slice Ap np cp, .slice Al nl cl, .slice As ns cs] 34)).drewN nq := ⟨_, rfl⟩
      have HQ2 : Hid (Blk w1 q 3 [.int .i64 (at_ : Int)]) := Lib.hid (by rw [hw1]; exact HQ1.out)
      have HK2 : Hid (Kp (fun j => j = q) w w1) := Lib.hid (by rw [hw1]; exact (Kp.of HB0.out).draws _)
      have zq2 := HQ2.out.cell (i := 0) rfl
      have zf2 := HQ2.out.frozen 0
      rw [← hw1]
      clear hw1
      go_wp2_with fail
      go_ret
      exact sd_ret rfl rfl ⟨at_ + 1, (fun b e => by cases e), HQ2.out.set_ 0 _⟩ (HK2.out.set_ (.inr rfl) _)
  have d5 : (x == s) = true := by simpa using q5
  have HN := Lib.hid (show lvT G l (.node (-1) (at_ : Int) ks) s at_ = some (at_ + 1) by rw [HLV.out, if_pos (⟨rfl, q2, rfl, by rw [HLL.out]; exact q4, by rw [← HX.out]; exact q5⟩)])
  clear HLV
  rw [HN.out]
  go_enter Tryd.func29, Tryd.ntmps29
  go_wp2_with fail
  go_quiet (fail)
  rename_i nq _ _
  obtain ⟨w1, hw1⟩ : ∃ w1, w1 = (w.alloc (.cells #[.int .i64 G.terms, .int .i64 G.names, .int .i64 G.start, .slice Ap np cp, .slice Al nl cl, .slice As ns cs] 34)).drewN nq := ⟨_, rfl⟩
  have HQ2 : Hid (Blk w1 q 3 [.int .i64 (at_ : Int)]) := Lib.hid (by rw [hw1]; exact HQ1.out)
  have HK2 : Hid (Kp (fun j => j = q) w w1) := Lib.hid (by rw [hw1]; exact (Kp.of HB0.out).draws _)
  have zq2 := HQ2.out.cell (i := 0) rfl
  have zf2 := HQ2.out.frozen 0
  rw [← hw1]
  clear hw1
  go_wp2_with fail
  go_ret
  exact sd_ret rfl rfl ⟨at_ + 1, (fun b e => by cases e; rfl), HQ2.out.set_ 0 _⟩ (HK2.out.set_ (.inr rfl) _)
end Go.Proofs.YtinejiodnnjpgaaDoor
