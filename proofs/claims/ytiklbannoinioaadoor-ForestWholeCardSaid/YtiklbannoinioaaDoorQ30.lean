/- Plain: what the law says of the trees and of the count. · The program's sound at a leaf. · The program's sound at a node of a name. -/
import Derived.Test.YtiklbannoinioaaDoorQ29
import Derived.Test.YtiklbannoinioaaDoorQ14
import Derived.Test.YtiklbannoinioaaDoorQ2
namespace Go.Proofs.YtiklbannoinioaaDoor
set_option linter.unusedVariables false
set_option linter.unusedSimpArgs false

mutual
theorem lvT_int {G : Gr} {l : List Int} (hp : G.prods.length ≤ 1000) (hl : l.length ≤ 1000) : ∀ (t : Tr) (s : Int) (at_ a : Nat), lvT G l t s at_ = some a → IntT t
  | .nil, s, at_, a, h => .nil
  | .node p tok ks, s, at_, a, h => by
    rw [lvT] at h
    split at h
    · split at h
      · rename_i q
        obtain ⟨q1, q2, q3, q4, q5⟩ := q
        have e := List.eq_nil_of_length_eq_zero q2
        subst e
        exact .node (by omega) (by omega) (by omega) (by omega) (fun k hk => by cases hk)
      · cases h
    · split at h
      · rename_i q
        obtain ⟨q1, q2, q3, q4, q5⟩ := q
        exact .node (by omega) (by omega) (by omega) (by omega) (lvL_int hp hl ks _ _ _ h)
      · cases h
theorem lvL_int {G : Gr} {l : List Int} (hp : G.prods.length ≤ 1000) (hl : l.length ≤ 1000) : ∀ (ks : List Tr) (r : List Int) (at_ a : Nat), lvL G l ks r at_ = some a → ∀ k ∈ ks, IntT k
  | [], r, at_, a, h => fun k hk => by cases hk
  | k :: ks, r, at_, a, h => by
    rw [lvL] at h
    split at h
    · cases h
    · rename_i b hb
      intro u hu
      rcases List.mem_cons.1 hu with e | hu
      · rw [e]; exact lvT_int hp hl k _ _ _ hb
      · exact lvL_int hp hl ks _ _ _ h u hu
end
section
variable {G : Gr} {inp : List Int} {n : Nat}
theorem sm_r (hs : GSmall G) : ∀ p, p < G.prods.length → (rtN G p).length ≤ 5 := fun p hp => by
  have e : prodAt G (p : Int) = G.prods[p] := by
    unfold prodAt
    rw [List.getD_eq_getElem?_getD, Int.toNat_natCast, List.getElem?_eq_getElem hp]
    rfl
  unfold rtN
  rw [e]
  exact hs.r _ (List.getElem_mem hp)
theorem law_chart (hk : GOk G) (hs : GSmall G) (hl : inp.length ≤ 7) (hf : Filled G inp (chT G inp).I (inp.length + 1) (chT G inp).L) : Chart G inp (inp.length + 1) (chT G inp).I (chT G inp).L ∧ (∀ x ∈ (chT G inp).L, x.2.1 ≤ x.2.2 ∧ x.1 < 8) ∧ (chT G inp).L.length ≤ 512 := by
  have hc := hf.chart hk (by omega)
  refine ⟨hc, fun x hx => ?_, hc.len (by omega) hs.n⟩
  have h := hc.lt x hx
  have hn := hs.n
  exact ⟨h.1, by omega⟩
theorem law_len : (tsT G inp n).length ≤ n := by
  unfold tsT
  split
  · rw [List.length_take]; omega
  · exact Nat.zero_le _
theorem law_has (hc : Chart G inp (inp.length + 1) (chT G inp).I (chT G inp).L) (hn : 1 ≤ n) : hasT G inp = decide (0 < (tsT G inp n).length) := by
  unfold tsT
  cases h : hasT G inp with
  | false => simp
  | true =>
    have hx : wholeX G inp ∈ (chT G inp).L := by unfold hasT at h; exact of_decide_eq_true h
    have ht := hc.tree hx
    have h2 := List.length_pos_iff.2 ht
    rw [if_pos rfl]
    symm
    apply decide_eq_true
    rw [List.length_take]
    have : (⟨(chT G inp).I, (chT G inp).L⟩ : Ct) = chT G inp := rfl
    rw [this] at h2
    omega
theorem law_mem {t : Tr} (ht : t ∈ tsT G inp n) : t ∈ treesT (chT G inp) G inp (chT G inp).L.length [] (wholeX G inp) := by
  unfold tsT at ht
  split at ht
  · exact List.mem_of_mem_take ht
  · cases ht
theorem law_tree (hk : GOk G) (hs : GSmall G) (hl : inp.length ≤ 7) (hf : Filled G inp (chT G inp).I (inp.length + 1) (chT G inp).L) {t : Tr} (ht : t ∈ tsT G inp n) : soundB G t inp = true ∧ szT t ≤ 60000000 ∧ IntT t ∧ PlT t := by
  obtain ⟨hc, hC, _⟩ := law_chart hk hs hl hf
  have hm := law_mem ht
  have hst : ((G.start.toNat : Nat) : Int) = G.start := by have := hk.s0; omega
  have hlv := trees_lv (C := chT G inp) (G := G) (inp := inp) (n := inp.length) (Nat.le_refl _) _ _ _ _ _ (Nat.le_refl _) t hm
  rw [hst] at hlv
  have hsz := trees_sz (C := chT G inp) (G := G) (inp := inp) (sm_r hs) hC _ _ _ _ _ t hm
  have hfr := freeN_le [] 0 inp.length
  refine ⟨decide_eq_true hlv, ?_, lvT_int (by have := hs.p; omega) (by omega) _ _ _ _ hlv, trees_pl _ _ _ t hm⟩
  by_cases q : 0 = inp.length
  · have h1 := hsz.1 q
    have h2 := zN_top hfr
    omega
  · have h1 := hsz.2 (by omega)
    omega
theorem law_nodup : (tsT G inp n).Nodup := by
  unfold tsT
  split
  · exact (trees_nodup (C := chT G inp) (n := inp.length) (Nat.le_refl _) _ _ _ _ _ (Nat.le_refl _)).sublist (List.take_sublist _ _)
  · exact List.nodup_nil
theorem law_count (hc : Chart G inp (inp.length + 1) (chT G inp).I (chT G inp).L) (hh : hasT G inp = true) (hm : (cntW G inp).1.many = false) : (cntW G inp).2 = (treesT (chT G inp) G inp (chT G inp).L.length [] (wholeX G inp)).length := by
  have hx : wholeX G inp ∈ (chT G inp).L := by unfold hasT at hh; exact of_decide_eq_true hh
  have h := cnt_ok hc (chT G inp).L.length [] ⟨[], false⟩ (wholeX G inp) hx (fun p hp => hc.start (Nat.succ_pos _) p hp) (fun y v hy => by cases hy) hm
  exact h.2.2.2
theorem law_zero (hc : Chart G inp (inp.length + 1) (chT G inp).I (chT G inp).L) : (cntS G inp = [48]) ↔ hasT G inp = false := by
  unfold cntS
  cases h : hasT G inp with
  | false => simp
  | true =>
    rw [if_pos rfl]
    cases hm : (cntW G inp).1.many with
    | true => simp
    | false =>
      simp only [Bool.false_eq_true, if_false, reduceCtorEq, iff_false]
      intro e
      have h0 : Lib.decDigits 0 = [48] := by rw [Lib.decDigits]; decide
      rw [← h0] at e
      have e2 := ddg_inj _ _ e
      rw [law_count hc h hm] at e2
      have hx : wholeX G inp ∈ (chT G inp).L := by unfold hasT at h; exact of_decide_eq_true h
      exact hc.tree hx (List.eq_nil_of_length_eq_zero e2)
theorem law_number (hc : Chart G inp (inp.length + 1) (chT G inp).I (chT G inp).L) (hm : cntS G inp ≠ [109, 97, 110, 121]) (hl : (tsT G inp n).length ≠ n) : cntS G inp = Lib.decDigits (tsT G inp n).length := by
  unfold cntS at hm ⊢
  unfold tsT at hl ⊢
  cases h : hasT G inp with
  | false =>
    simp only [Bool.false_eq_true, if_false, List.length_nil]
    rw [Lib.decDigits]; decide
  | true =>
    rw [h] at hm hl
    simp only [if_true] at hm hl ⊢
    cases hma : (cntW G inp).1.many with
    | true => rw [hma] at hm; exact absurd rfl hm
    | false =>
      simp only [Bool.false_eq_true, if_false]
      rw [law_count hc h hma]
      rw [List.length_take] at hl ⊢
      congr 1
      omega
theorem chT_len (hk : GOk G) (hs : GSmall G) (hl : inp.length ≤ 7) : (chT G inp).L.length ≤ 512 := by
  by_cases h : ∃ I L, Filled G inp I (inp.length + 1) L
  · obtain ⟨I, L, h⟩ := h
    exact (law_chart hk hs hl (chT_filled h)).2.2
  · unfold chT chC2
    rw [dif_neg h]
    exact Nat.zero_le _
end
end Go.Proofs.YtiklbannoinioaaDoor
namespace Go.Proofs.YtiklbannoinioaaDoor
open Go.RowKit BigFrame
set_option linter.unusedVariables false
set_option linter.unusedSimpArgs false
set_option maxRecDepth 100000

/-- The end: whether there is a value, and the cell, which bears it. -/
def SdEnd (q : Nat) (o : Option Nat) (w : World) (e : Ending) (w' : World) : Prop :=
  e = .returned (.bool o.isSome) ∧ (∃ a : Nat, (∀ b, o = some b → a = b) ∧ Blk w' q 3 [.int .i64 (a : Int)]) ∧ Kp (fun j => j = q) w w'
theorem sd_ret {v : Value} {q : Nat} {w w' : World} {o : Option Nat} {b : Bool} (e : o.isSome = b) (h : v = .bool b) (h2 : ∃ a : Nat, (∀ b, o = some b → a = b) ∧ Blk w' q 3 [.int .i64 (a : Int)]) (h3 : Kp (fun j => j = q) w w') : SdEnd q o w (.returned v) w' := ⟨by rw [h, e], h2, h3⟩
set_option maxHeartbeats 4000000 in
theorem sound_leaf (G : Gr) (Ap Al As : Option Addr) (np cp nl cl ns cs : Nat) (hk : GOk G) (B q : Nat) (hq : B ≤ q) (A : Option Addr) (n c : Nat) (l : List Int) (hl : l.length = n) (hn : n ≤ 100) (p tok : Int) (ks : List Tr) (v : Value) (s : Int) (at_ : Nat) (w : World) (hQ : Blk w q 3 [.int .i64 (at_ : Int)]) (hB : B ≤ w.heap.size) (hT : TrB w B v (.node p tok ks)) (hI : RdI w B A l) (hat : at_ ≤ n) (hs1 : -1000 ≤ s) (hs2 : s ≤ 1000) (hkl : ks.length ≤ 60000000) (hs : 0 ≤ s) :
    Calls Tryd.prog 21 #[.agg #[.int .i64 G.terms, .int .i64 G.names, .int .i64 G.start, .slice Ap np cp, .slice Al nl cl, .slice As ns cs], v, .int .i64 s, .slice A n c, .pointer (some ⟨q, 0, none⟩)] w (SdEnd q (lvT G l (.node p tok ks) s at_) w) := by
  obtain ⟨hb0, hs0, gb⟩ := gbox w G Ap Al As np cp nl cl ns cs
  obtain ⟨b, A2, c2, rfl, hb, zp, zt, zk, hk1, hk2, hks⟩ := hT.node_inv
  have tr := fun (q : Addr) (z : q.block < B) => hb0.cell (p := q) (Nat.lt_of_lt_of_le z hB)
  have zp1 := (tr ⟨b, 0, none⟩ hb).trans zp
  have zt1 := (tr ⟨b, 1, none⟩ hb).trans zt
  have zk1 := (tr ⟨b, 2, none⟩ hb).trans zk
  have hlt := hQ.lt
  have zq := (hb0.cell (p := ⟨q, 0, none⟩) hlt).trans (hQ.cell (i := 0) rfl)
  have HLL := Lib.hid hl
  have HI := Lib.hid hI; have HB0 := Lib.hid hb0; have HQ := Lib.hid hQ
  unfold maxLen at hk2
  clear hI hks hb0 gb tr hl zp zt zk hT hQ
  have HLV := Lib.hid (show lvT G l (.node p tok ks) s at_ = if leafOk p tok ks.length s l at_ then some (at_ + 1) else none by rw [lvT, if_pos hs])
  have hqf : (w.alloc (.cells #[.int .i64 G.terms, .int .i64 G.names, .int .i64 G.start, .slice Ap np cp, .slice Al nl cl, .slice As ns cs] 25)).frozen? ⟨q, 0, none⟩ = false := ((HQ.out.alloc _).frozen 0)
  have HQ1 := Lib.hid (HQ.out.alloc (.cells #[.int .i64 G.terms, .int .i64 G.names, .int .i64 G.start, .slice Ap np cp, .slice Al nl cl, .slice As ns cs] 25))
  by_cases q1 : p = -1
  rotate_left
  · as_aux_lemma =>
      have d1 : (p == (-1 : Int)) = false := by simpa using q1
      have HN := Lib.hid (show lvT G l (.node p tok ks) s at_ = none by rw [HLV.out, if_neg (fun q => q1 q.1)])
      clear HLV
      rw [HN.out]
      go_enter Tryd.func21, Tryd.ntmps21
      go_wp2_with fail
      go_quiet (fail)
      rename_i nq _ _
      obtain ⟨w1, hw1⟩ : ∃ w1, w1 = (w.alloc (.cells #[.int .i64 G.terms, .int .i64 G.names, .int .i64 G.start, .slice Ap np cp, .slice Al nl cl, .slice As ns cs] 25)).drewN nq := ⟨_, rfl⟩
      have HQ2 : Hid (Blk w1 q 3 [.int .i64 (at_ : Int)]) := Lib.hid (by rw [hw1]; exact HQ1.out)
      have HK2 : Hid (Kp (fun j => j = q) w w1) := Lib.hid (by rw [hw1]; exact (Kp.of HB0.out).draws _)
      have zq2 := HQ2.out.cell (i := 0) rfl
      have zf2 := HQ2.out.frozen 0
      rw [← hw1]
      clear hw1
      go_wp2_with fail
      go_ret
      exact sd_ret rfl rfl ⟨at_ + 1, (fun b e => by cases e), HQ2.out.set_ 0 _⟩ (HK2.out.set_ (.inr rfl) _)
  subst q1
  by_cases q2 : ks.length = 0
  rotate_left
  · as_aux_lemma =>
      have d2 : ((ks.length : Int) == (0 : Int)) = false := by rw [beq_eq_false_iff_ne]; omega
      have HN := Lib.hid (show lvT G l (.node (-1) tok ks) s at_ = none by rw [HLV.out, if_neg (fun q => q2 q.2.1)])
      clear HLV
      rw [HN.out]
      go_enter Tryd.func21, Tryd.ntmps21
      go_wp2_with fail
      go_quiet (fail)
      rename_i nq _ _
      obtain ⟨w1, hw1⟩ : ∃ w1, w1 = (w.alloc (.cells #[.int .i64 G.terms, .int .i64 G.names, .int .i64 G.start, .slice Ap np cp, .slice Al nl cl, .slice As ns cs] 25)).drewN nq := ⟨_, rfl⟩
      have HQ2 : Hid (Blk w1 q 3 [.int .i64 (at_ : Int)]) := Lib.hid (by rw [hw1]; exact HQ1.out)
      have HK2 : Hid (Kp (fun j => j = q) w w1) := Lib.hid (by rw [hw1]; exact (Kp.of HB0.out).draws _)
      have zq2 := HQ2.out.cell (i := 0) rfl
      have zf2 := HQ2.out.frozen 0
      rw [← hw1]
      clear hw1
      go_wp2_with fail
      go_ret
      exact sd_ret rfl rfl ⟨at_ + 1, (fun b e => by cases e), HQ2.out.set_ 0 _⟩ (HK2.out.set_ (.inr rfl) _)
  have d2 : ((ks.length : Int) == (0 : Int)) = true := by rw [beq_iff_eq]; omega
  by_cases q3 : tok = (at_ : Int)
  rotate_left
  · as_aux_lemma =>
      have d3 : (tok == (at_ : Int)) = false := by simpa using q3
      have HN := Lib.hid (show lvT G l (.node (-1) tok ks) s at_ = none by rw [HLV.out, if_neg (fun q => q3 q.2.2.1)])
      clear HLV
      rw [HN.out]
      go_enter Tryd.func21, Tryd.ntmps21
      go_wp2_with fail
      go_quiet (fail)
      rename_i nq _ _
      obtain ⟨w1, hw1⟩ : ∃ w1, w1 = (w.alloc (.cells #[.int .i64 G.terms, .int .i64 G.names, .int .i64 G.start, .slice Ap np cp, .slice Al nl cl, .slice As ns cs] 25)).drewN nq := ⟨_, rfl⟩
      have HQ2 : Hid (Blk w1 q 3 [.int .i64 (at_ : Int)]) := Lib.hid (by rw [hw1]; exact HQ1.out)
      have HK2 : Hid (Kp (fun j => j = q) w w1) := Lib.hid (by rw [hw1]; exact (Kp.of HB0.out).draws _)
      have zq2 := HQ2.out.cell (i := 0) rfl
      have zf2 := HQ2.out.frozen 0
      rw [← hw1]
      clear hw1
      go_wp2_with fail
      go_ret
      exact sd_ret rfl rfl ⟨at_ + 1, (fun b e => by cases e), HQ2.out.set_ 0 _⟩ (HK2.out.set_ (.inr rfl) _)
  subst q3
  by_cases q4 : at_ < n
  rotate_left
  · as_aux_lemma =>
      have d4 : decide (at_ < n) = false := decide_eq_false q4
      have HN := Lib.hid (show lvT G l (.node (-1) (at_ : Int) ks) s at_ = none by rw [HLV.out, if_neg (fun q => q4 (by have := q.2.2.2.1; rw [HLL.out] at this; exact this))])
      clear HLV
      rw [HN.out]
      go_enter Tryd.func21, Tryd.ntmps21
      go_wp2_with fail
      go_quiet (fail)
      rename_i nq _ _
      obtain ⟨w1, hw1⟩ : ∃ w1, w1 = (w.alloc (.cells #[.int .i64 G.terms, .int .i64 G.names, .int .i64 G.start, .slice Ap np cp, .slice Al nl cl, .slice As ns cs] 25)).drewN nq := ⟨_, rfl⟩
      have HQ2 : Hid (Blk w1 q 3 [.int .i64 (at_ : Int)]) := Lib.hid (by rw [hw1]; exact HQ1.out)
      have HK2 : Hid (Kp (fun j => j = q) w w1) := Lib.hid (by rw [hw1]; exact (Kp.of HB0.out).draws _)
      have zq2 := HQ2.out.cell (i := 0) rfl
      have zf2 := HQ2.out.frozen 0
      rw [← hw1]
      clear hw1
      go_wp2_with fail
      go_ret
      exact sd_ret rfl rfl ⟨at_ + 1, (fun b e => by cases e), HQ2.out.set_ 0 _⟩ (HK2.out.set_ (.inr rfl) _)
  have d4 : decide (at_ < n) = true := decide_eq_true q4
  have hI1 := HI.out
  obtain ⟨ib, io, rfl, hib, hic⟩ := hI1.at_ (by rw [HLL.out]; omega)
  have zi := (HB0.out.cell (p := ⟨ib, io + at_, none⟩) (Nat.lt_of_lt_of_le hib hB)).trans (hic at_ (by rw [HLL.out]; exact q4))
  clear hI1 hic
  obtain ⟨x, hx⟩ : ∃ x, x = nth l at_ := ⟨_, rfl⟩
  rw [← hx] at zi
  have HX := Lib.hid hx
  clear hx
  by_cases q5 : x = s
  rotate_left
  · as_aux_lemma =>
      have d5 : (x == s) = false := by simpa using q5
      have HN := Lib.hid (show lvT G l (.node (-1) (at_ : Int) ks) s at_ = none by rw [HLV.out, if_neg (fun q => q5 (by rw [HX.out]; exact q.2.2.2.2))])
      clear HLV
      rw [HN.out]
      go_enter Tryd.func21, Tryd.ntmps21
      go_wp2_with fail
      go_quiet (fail)
      rename_i nq _ _
      obtain ⟨w1, hw1⟩ : ∃ w1, w1 = (w.alloc (.cells #[.int .i64 G.terms, .int .i64 G.names, .int .i64 G.start, .slice Ap np cp, .slice Al nl cl, .slice As ns cs] 25)).drewN nq := ⟨_, rfl⟩
      have HQ2 : Hid (Blk w1 q 3 [.int .i64 (at_ : Int)]) := Lib.hid (by rw [hw1]; exact HQ1.out)
      have HK2 : Hid (Kp (fun j => j = q) w w1) := Lib.hid (by rw [hw1]; exact (Kp.of HB0.out).draws _)
      have zq2 := HQ2.out.cell (i := 0) rfl
      have zf2 := HQ2.out.frozen 0
      rw [← hw1]
      clear hw1
      go_wp2_with fail
      go_ret
      exact sd_ret rfl rfl ⟨at_ + 1, (fun b e => by cases e), HQ2.out.set_ 0 _⟩ (HK2.out.set_ (.inr rfl) _)
  have d5 : (x == s) = true := by simpa using q5
  have HN := Lib.hid (show lvT G l (.node (-1) (at_ : Int) ks) s at_ = some (at_ + 1) by rw [HLV.out, if_pos (⟨rfl, q2, rfl, by rw [HLL.out]; exact q4, by rw [← HX.out]; exact q5⟩)])
  clear HLV
  rw [HN.out]
  go_enter Tryd.func21, Tryd.ntmps21
  go_wp2_with fail
  go_quiet (fail)
  rename_i nq _ _
  obtain ⟨w1, hw1⟩ : ∃ w1, w1 = (w.alloc (.cells #[.int .i64 G.terms, .int .i64 G.names, .int .i64 G.start, .slice Ap np cp, .slice Al nl cl, .slice As ns cs] 25)).drewN nq := ⟨_, rfl⟩
  have HQ2 : Hid (Blk w1 q 3 [.int .i64 (at_ : Int)]) := Lib.hid (by rw [hw1]; exact HQ1.out)
  have HK2 : Hid (Kp (fun j => j = q) w w1) := Lib.hid (by rw [hw1]; exact (Kp.of HB0.out).draws _)
  have zq2 := HQ2.out.cell (i := 0) rfl
  have zf2 := HQ2.out.frozen 0
  rw [← hw1]
  clear hw1
  go_wp2_with fail
  go_ret
  exact sd_ret rfl rfl ⟨at_ + 1, (fun b e => by cases e; rfl), HQ2.out.set_ 0 _⟩ (HK2.out.set_ (.inr rfl) _)
end Go.Proofs.YtiklbannoinioaaDoor
namespace Go.Proofs.YtiklbannoinioaaDoor
open Go.RowKit BigFrame
set_option linter.unusedVariables false
set_option linter.unusedSimpArgs false
set_option maxRecDepth 100000

set_option maxHeartbeats 4000000 in
theorem sound_node (G : Gr) (Ap Al As : Option Addr) (np cp nl cl ns cs : Nat) (hk : GOk G) (B q : Nat) (hq : B ≤ q) (A : Option Addr) (n c : Nat) (l : List Int) (hl : l.length = n) (hn : n ≤ 100) (N : Nat) (ih : ∀ (t : Tr), szT t ≤ N → ∀ (v : Value) (s : Int) (at_ : Nat) (w : World), Blk w q 3 [.int .i64 (at_ : Int)] → B ≤ w.heap.size → GrIn w B G Ap Al As np cp nl cl ns cs → TrB w B v t → RdI w B A l → at_ ≤ n → -1000 ≤ s → s ≤ 1000 →
    Calls Tryd.prog 21 #[.agg #[.int .i64 G.terms, .int .i64 G.names, .int .i64 G.start, .slice Ap np cp, .slice Al nl cl, .slice As ns cs], v, .int .i64 s, .slice A n c, .pointer (some ⟨q, 0, none⟩)] w (SdEnd q (lvT G l t s at_) w))
    (p tok : Int) (ks : List Tr) (h : 1 + szL ks ≤ N + 1) (v : Value) (s : Int) (at_ : Nat) (w : World) (hQ : Blk w q 3 [.int .i64 (at_ : Int)]) (hB : B ≤ w.heap.size) (hG : GrIn w B G Ap Al As np cp nl cl ns cs) (hT : TrB w B v (.node p tok ks)) (hI : RdI w B A l) (hat : at_ ≤ n) (hs1 : -1000 ≤ s) (hs2 : s ≤ 1000) (hs : ¬ 0 ≤ s) :
    Calls Tryd.prog 21 #[.agg #[.int .i64 G.terms, .int .i64 G.names, .int .i64 G.start, .slice Ap np cp, .slice Al nl cl, .slice As ns cs], v, .int .i64 s, .slice A n c, .pointer (some ⟨q, 0, none⟩)] w (SdEnd q (lvT G l (.node p tok ks) s at_) w) := by
  obtain ⟨hb0, hs0, gb⟩ := gbox w G Ap Al As np cp nl cl ns cs
  obtain ⟨hp1, hp2⟩ := hG.p.len
  obtain ⟨b, A2, c2, rfl, hb, zp, zt, zk, hk1, hk2, hks⟩ := hT.node_inv
  have hG1 := hG.below (hb0.mono hB)
  have tr := fun (q : Addr) (z : q.block < B) => hb0.cell (p := q) (Nat.lt_of_lt_of_le z hB)
  have zp1 := (tr ⟨b, 0, none⟩ hb).trans zp
  have zt1 := (tr ⟨b, 1, none⟩ hb).trans zt
  have zk1 := (tr ⟨b, 2, none⟩ hb).trans zk
  have HLL := Lib.hid hl; have HIH := Lib.hid ih; have HSZ := Lib.hid h
  have hqw0 := hQ.lt
  have HGW := Lib.hid hG; have HQ := Lib.hid hQ
  have HI := Lib.hid hI; have HKS := Lib.hid hks; have HG := Lib.hid hG1; have HB0 := Lib.hid hb0; have HGB := Lib.hid gb; have HP1 := Lib.hid hp1
  have hg3 := gb.c3
  have hkl : ks.length ≤ N := by have := szL_len ks; omega
  unfold maxLen at hp2 hk2
  clear ih h hI hks hG hG1 hb0 gb hp1 tr hl zp zt zk hT hQ
  have HLV := Lib.hid (show lvT G l (.node p tok ks) s at_ = if nodeOk G p tok ks.length s then lvL G l ks (prodAt G p).2.1 at_ else none by rw [lvT, if_neg hs])
  by_cases q1 : p < 0
  · as_aux_lemma =>
      have d1 : decide (p < 0) = true := decide_eq_true q1
      have HN := Lib.hid (show lvT G l (.node p tok ks) s at_ = none by rw [HLV.out, if_neg (fun q => by have := q.1; omega)])
      clear HLV
      rw [HN.out]
      go_enter Tryd.func21, Tryd.ntmps21
      go_wp2_with fail
      go_quiet (fail)
      go_wp2_with fail
      go_ret
      exact sd_ret rfl rfl ⟨at_, (fun b e => by cases e), (HQ.out.alloc _).drewN _⟩ ((Kp.of HB0.out).draws _)
  have d1 : decide (p < 0) = false := decide_eq_false q1
  by_cases q2 : (np : Int) ≤ p
  · as_aux_lemma =>
      have d2 : decide ((np : Int) ≤ p) = true := decide_eq_true q2
      have HN := Lib.hid (show lvT G l (.node p tok ks) s at_ = none by rw [HLV.out, if_neg (fun q => by have := q.2.1; have := HP1.out; omega)])
      clear HLV
      rw [HN.out]
      go_enter Tryd.func21, Tryd.ntmps21
      go_wp2_with fail
      go_quiet (fail)
      go_wp2_with fail
      go_ret
      exact sd_ret rfl rfl ⟨at_, (fun b e => by cases e), (HQ.out.alloc _).drewN _⟩ ((Kp.of HB0.out).draws _)
  have d2 : decide ((np : Int) ≤ p) = false := decide_eq_false q2
  by_cases q3 : tok = 0
  rotate_left
  · as_aux_lemma =>
      have d3 : (tok != (0 : Int)) = true := by simpa using q3
      have HN := Lib.hid (show lvT G l (.node p tok ks) s at_ = none by rw [HLV.out, if_neg (fun q => q3 q.2.2.1)])
      clear HLV
      rw [HN.out]
      go_enter Tryd.func21, Tryd.ntmps21
      go_wp2_with fail
      go_quiet (fail)
      go_wp2_with fail
      go_ret
      exact sd_ret rfl rfl ⟨at_, (fun b e => by cases e), (HQ.out.alloc _).drewN _⟩ ((Kp.of HB0.out).draws _)
  subst q3
  obtain ⟨pn, rfl⟩ := Int.eq_ofNat_of_zero_le (show 0 ≤ p by omega)
  have hpn : pn < np := by omega
  have d2n : decide (np ≤ pn) = false := decide_eq_false (by omega)
  have hwr : IntKind.i64.wrap (-1 - s) = -1 - s := by simp [IntKind.wrap, IntKind.bits, IntKind.signed]; omega
  obtain ⟨pb, po, rfl, hpb, hpc⟩ := HG.out.p.at_ (by omega)
  obtain ⟨x, r, y, A3, n3, c3, e0, e1, e2, e3, e4, e5, e6, e7⟩ := hpc pn hpn
  have hpa := prodAt_of e0
  have HPR := Lib.hid (hk.pr _ (List.mem_of_getElem? e0))
  have HPA := Lib.hid hpa; have HR7 := Lib.hid e7; have HE4 := Lib.hid e4
  unfold maxLen at e6
  clear hpc hpa e0 e3 e7 e4 q1 q2
  by_cases q4 : x = -1 - s
  rotate_left
  · as_aux_lemma =>
      have d4 : (x != -1 - s) = true := by simpa using q4
      have HN := Lib.hid (show lvT G l (.node (pn : Int) 0 ks) s at_ = none by rw [HLV.out, if_neg (fun q => q4 (by have := q.2.2.2.1; rw [HPA.out] at this; exact this))])
      clear HLV
      rw [HN.out]
      go_enter Tryd.func21, Tryd.ntmps21
      go_wp2_with fail
      go_quiet (fail)
      go_wp2_with fail
      go_ret
      exact sd_ret rfl rfl ⟨at_, (fun b e => by cases e), (HQ.out.alloc _).drewN _⟩ ((Kp.of HB0.out).draws _)
  by_cases q5 : n3 = ks.length
  rotate_left
  · as_aux_lemma =>
      have d4 : (x != -1 - s) = false := by simpa using q4
      have d5 : ((ks.length : Int) != (n3 : Int)) = true := by simp; omega
      clear q4
      have HN := Lib.hid (show lvT G l (.node (pn : Int) 0 ks) s at_ = none by rw [HLV.out, if_neg (fun q => q5 (by have := q.2.2.2.2; rw [HPA.out, HE4.out] at this; exact this))])
      clear HLV
      rw [HN.out]
      go_enter Tryd.func21, Tryd.ntmps21
      go_wp2_with fail
      go_quiet (fail)
      go_wp2_with fail
      go_ret
      exact sd_ret rfl rfl ⟨at_, (fun b e => by cases e), (HQ.out.alloc _).drewN _⟩ ((Kp.of HB0.out).draws _)
  have HN := Lib.hid (show lvT G l (.node (pn : Int) 0 ks) s at_ = lvL G l ks r at_ by rw [HLV.out, if_pos ⟨Int.natCast_nonneg _, by rw [HP1.out]; omega, rfl, by rw [HPA.out]; exact q4, by rw [HPA.out, HE4.out]; exact q5⟩, HPA.out])
  have d4 : (x != -1 - s) = false := by simpa using q4
  have d5 : ((ks.length : Int) != (n3 : Int)) = false := by simp; omega
  have HQ5 := Lib.hid q5
  clear HLV q4 q5
  rw [HN.out]
  go_enter Tryd.func21, Tryd.ntmps21
  go_wp2_with fail
  go_quiet (fail)
  rename_i nq _ _
  obtain ⟨w1, hw1⟩ : ∃ w1, w1 = (w.alloc (.cells #[.int .i64 G.terms, .int .i64 G.names, .int .i64 G.start, .slice (some ⟨pb, po, none⟩) np cp, .slice Al nl cl, .slice As ns cs] 25)).drewN nq := ⟨_, rfl⟩
  have HB1 : Hid (Below w.heap.size w w1) := Lib.hid (by rw [hw1]; exact HB0.out.trans (bel_dn _ _ _))
  have HS1 : Hid (w1.heap.size = w.heap.size + 1) := Lib.hid (by rw [hw1]; exact hs0)
  have HGX : Hid (GrBox w1 w.heap.size G (some ⟨pb, po, none⟩) Al As np cp nl cl ns cs) := Lib.hid (by rw [hw1]; exact HGB.out.below (bel_dn _ _ (w.heap.size + 1)) (Nat.lt_succ_self _))
  have HQ1 : Hid (Blk w1 q 3 [.int .i64 (at_ : Int)]) := Lib.hid (by rw [hw1]; exact (HQ.out.alloc _).drewN _)
  have y2 : w1.cell? ⟨b, 2, none⟩ = some (.slice A2 ks.length c2) := by rw [hw1]; exact zk1
  have y0 : w1.cell? ⟨b, 0, none⟩ = some (.int .i64 (pn : Int)) := by rw [hw1]; exact zp1
  have y3 : w1.cell? ⟨pb, po + pn * 3 + 1, none⟩ = some (.slice A3 n3 c3) := by rw [hw1]; exact e2
  have HR8 : Hid (RdI w1 B A3 r) := Lib.hid (by rw [hw1]; exact HR7.out.below (bel_dn _ _ B))
  rw [← hw1]
  have HY2 := Lib.hid y2; have HY0 := Lib.hid y0; have HY3 := Lib.hid y3
  clear hw1 hs0 zk1 zp1 e2 HR7 HGB HB0 hg3 zt1 e1 HG y0 y3 HQ
  go_wp2_with fail
  have HQL := Lib.hid (HQ1.out.lt)
  have hqw : q < w.heap.size := hqw0
  have HK1 : Hid (Kp (fun j => j = q) w w1) := Lib.hid (Kp.of HB1.out)
  go_loopw [124] (fun i wr => ∃ (j a : Nat), j ≤ ks.length ∧ i = .int .i64 (j : Int) ∧ a ≤ n ∧ Hid (Blk wr q 3 [.int .i64 (a : Int)]) ∧ Hid (lvL G l (ks.drop j) (r.drop j) a = lvL G l ks r at_) ∧ Hid (Kp (fun j => j = q) w1 wr)) (fun i _ => ks.length - (intOf i).toNat)
  case atStart => exact ⟨0, at_, Nat.zero_le _, rfl, hat, HQ1, rfl, Kp.refl _ _⟩
  case round =>
    as_aux_lemma =>
      obtain ⟨j, at', hj, rfl, hat', HQr, HE, HK⟩ := hrel
      by_cases hlt : j < ks.length
      · as_aux_lemma =>
          obtain ⟨k, hkk⟩ : ∃ k, ks[j]? = some k := ⟨ks[j], List.getElem?_eq_getElem hlt⟩
          obtain ⟨kb, ko, rfl, hkb, hkc⟩ := HKS.out (by omega)
          obtain ⟨u, zu, hu⟩ := hkc j k hkk
          have HR9 := HR8.out
          obtain ⟨rb, ro, rfl, hrb, hrc⟩ := HR9.at_ (by rw [HE4.out, HQ5.out]; omega)
          have zr := hrc j (by rw [HE4.out, HQ5.out]; exact hlt)
          have hsz : szT k ≤ N := by
            have h1 := szL_mem (List.mem_of_getElem? hkk)
            have h2 := HSZ.out
            omega
          have hsb := HPR.out.s (nth r j) (by rw [nth_get (by rw [HE4.out, HQ5.out]; exact hlt)]; exact List.getElem_mem _)
          have hn1 := hk.n1
          have ht1 := hk.t1
          have HST := Lib.hid (HE.out.symm.trans (lvL_step G l ks r j at' k hkk (by rw [HE4.out, HQ5.out])))
          have HLE := Lib.hid (fun a => lvT_le G l k (nth r j) at' a (by rw [HLL.out]; exact hat'))
          obtain ⟨pu, rfl⟩ := hu.ptr
          have hBw : B < w1.heap.size := by rw [HS1.out]; omega
          have hbr : Below B w wr := (HB1.out.mono hB).trans (HK.out.bel (Nat.le_of_lt hBw) (fun k hk e => by omega))
          have hbd : Below B w wr.drew := hbr.trans ⟨rfl, rfl, rfl, Nat.le_refl _, fun _ _ => rfl⟩
          have zur := (hbr.cell (p := ⟨kb, ko + j, none⟩) hkb).trans zu
          obtain ⟨w2, hw2⟩ : ∃ w2, w2 = wr.drew := ⟨_, rfl⟩
          have tr1 : ∀ p : Addr, p.block < w1.heap.size → p.block ≠ q → w2.cell? p = w1.cell? p := fun p z hne => by rw [hw2]; exact HK.out.cell (p := p) z hne
          have hbox : w.heap.size < w1.heap.size := by rw [HS1.out]; exact Nat.lt_succ_self _
          have hbq : w.heap.size ≠ q := by omega
          have zw := (tr1 ⟨w.heap.size, 0, none⟩ hbox hbq).trans HGX.out.c0
          have zw1 := (tr1 ⟨w.heap.size, 1, none⟩ hbox hbq).trans HGX.out.c1
          have zw2 := (tr1 ⟨w.heap.size, 2, none⟩ hbox hbq).trans HGX.out.c2
          have zw3 := (tr1 ⟨w.heap.size, 3, none⟩ hbox hbq).trans HGX.out.c3
          have zw4 := (tr1 ⟨w.heap.size, 4, none⟩ hbox hbq).trans HGX.out.c4
          have zw5 := (tr1 ⟨w.heap.size, 5, none⟩ hbox hbq).trans HGX.out.c5
          have low : ∀ b : Nat, b < B → b < w1.heap.size ∧ b ≠ q := fun b hb => ⟨Nat.lt_trans hb hBw, by omega⟩
          have zb0 := (tr1 ⟨b, 0, none⟩ (low b hb).1 (low b hb).2).trans HY0.out
          have zp1 := (tr1 ⟨pb, po + pn * 3 + 1, none⟩ (low pb hpb).1 (low pb hpb).2).trans HY3.out
          have zrj := (tr1 ⟨rb, ro + j, none⟩ (low rb hrb).1 (low rb hrb).2).trans zr
          have hcall := HIH.out k hsz (.pointer pu) (nth r j) at' w2 (by rw [hw2]; exact HQr.out.drew) (by rw [hw2]; exact Nat.le_trans hB hbd.size) (by rw [hw2]; exact HGW.out.below hbd) (by rw [hw2]; exact TrB.below hu hbd) (by rw [hw2]; exact HI.out.below hbd) hat' (by omega) (by omega)
          have HC := Lib.hid hcall
          have HK2 : Hid (Kp (fun j => j = q) w1 w2) := Lib.hid (by rw [hw2]; exact HK.out.draw)
          have d6 : j < n3 := by rw [HQ5.out]; exact hlt
          generalize nth r j = sj at *
          generalize lvT G l k sj at' = o at *
          clear hkc hu zr hrc hcall zu hsz hsb hn1 ht1 HR9 HR8 HIH HGW HI HKS HSZ HPR hbr hbd tr1 HE HK hkk HGX low HQr HQ1
          go_wp2_with fail
          refine wp_region_still_tail 16 (by kernel_rfl) (by kernel_rfl) ?_
          simp only [List.take_succ_cons, List.take_zero, List.drop_succ_cons, List.drop_zero]
          change wpStill _ _ wr.drew (fun a' => wpList _ _ _ _ a' wr.drew) _ _
          rw [← hw2]
          clear hw2 zur
          refine wpStill_of_quiet _ _ ?_
          repeat (first | go_big_quiet_skip | (go_big_quiet_want; go_big_quiet_op; go_big_quiet_on))
          refine wpQuiet_nil ?_
          go_wp2_with fail
          refine HC.out.mono ?_
          rintro e w5 ⟨rfl, ⟨a5, ha5, hb5⟩, hk5⟩
          have HK5 : Hid (Kp (fun j => j = q) w1 w5) := Lib.hid (HK2.out.trans hk5)
          have HB5 := Lib.hid hb5
          have HA5 := Lib.hid ha5
          clear hb5 hk5 ha5
          cases o
          · as_aux_lemma =>
              have HZ : Hid (lvL G l ks r at_ = none) := Lib.hid HST.out
              simp only [Option.isSome_none]
              go_wp2
              go_ret
              rw [HZ.out]
              exact sd_ret rfl rfl ⟨a5, (fun b e => by cases e), HB5.out⟩ (HK1.out.trans HK5.out)
          · rename_i a
            as_aux_lemma =>
              have HZ : Hid (lvL G l (ks.drop (j + 1)) (r.drop (j + 1)) a = lvL G l ks r at_) := Lib.hid HST.out.symm
              have hal : a ≤ n := by have := HLE.out a rfl; rw [HLL.out] at this; exact this
              have hae : a5 = a := HA5.out a rfl
              subst hae
              simp only [Option.isSome_some]
              go_wp2
              go_roundw
              case rel => exact ⟨j + 1, a5, by omega, by go_num, hal, HB5, HZ, HK5⟩
              case measure => simp [intOf]; omega
      · as_aux_lemma =>
          have hje : j = ks.length := by omega
          have HZ : Hid (lvL G l ks r at_ = some at') := Lib.hid (by rw [← HE.out, hje, List.drop_length, lvL])
          clear hje HE
          go_wp2
          go_ret
          rw [HZ.out]
          exact sd_ret rfl rfl ⟨at', (fun b e => by cases e; rfl), HQr.out⟩ (HK1.out.trans HK.out)
end Go.Proofs.YtiklbannoinioaaDoor
