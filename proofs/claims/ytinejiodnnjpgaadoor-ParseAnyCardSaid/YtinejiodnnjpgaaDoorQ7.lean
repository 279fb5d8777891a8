/- The document's leaves, the program's sound: a tree of a symbol with these leaves. · The document's GrammarOk. -/
import Derived.Test.YtinejiodnnjpgaaDoorQ5
import Derived.Test.YtinejiodnnjpgaaDoorQ6
import Derived.Deep.QuietTactic
import Derived.BigQuiet
namespace Go.Proofs.YtinejiodnnjpgaaDoor
open Go.RowKit BigFrame
set_option linter.unusedVariables false
set_option linter.unusedSimpArgs false
set_option maxRecDepth 100000

/-! ### plain -/
def prodAt (G : Gr) (p : Int) : Prd := G.prods.getD p.toNat (0, [], 0)
def leafOk (p tok : Int) (nk : Nat) (s : Int) (l : List Int) (at_ : Nat) : Prop := p = -1 ∧ nk = 0 ∧ tok = at_ ∧ at_ < l.length ∧ nth l at_ = s
def nodeOk (G : Gr) (p tok : Int) (nk : Nat) (s : Int) : Prop := 0 ≤ p ∧ p < (G.prods.length : Int) ∧ tok = 0 ∧ (prodAt G p).1 = -1 - s ∧ (prodAt G p).2.1.length = nk
instance (p tok : Int) (nk : Nat) (s : Int) (l : List Int) (at_ : Nat) : Decidable (leafOk p tok nk s l at_) := by unfold leafOk; infer_instance
instance (G : Gr) (p tok : Int) (nk : Nat) (s : Int) : Decidable (nodeOk G p tok nk s) := by unfold nodeOk; infer_instance
mutual
def lvT (G : Gr) (l : List Int) : Tr → Int → Nat → Option Nat
  | .nil, _, _ => none
  | .node p tok ks, s, at_ => if 0 ≤ s then (if leafOk p tok ks.length s l at_ then some (at_ + 1) else none) else (if nodeOk G p tok ks.length s then lvL G l ks (prodAt G p).2.1 at_ else none)
def lvL (G : Gr) (l : List Int) : List Tr → List Int → Nat → Option Nat
  | [], _, at_ => some at_
  | k :: ks, r, at_ => match lvT G l k (r.headD 0) at_ with
    | none => none
    | some a => lvL G l ks r.tail a
end
mutual
theorem lvT_le (G : Gr) (l : List Int) : ∀ (t : Tr) (s : Int) (at_ a : Nat), at_ ≤ l.length → lvT G l t s at_ = some a → a ≤ l.length
  | .nil, s, at_, a, h, e => by rw [lvT] at e; cases e
  | .node p tok ks, s, at_, a, h, e => by
    rw [lvT] at e
    split at e
    · split at e
      · rename_i q
        cases e
        exact q.2.2.2.1
      · cases e
    · split at e
      · exact lvL_le G l ks _ at_ a h e
      · cases e
theorem lvL_le (G : Gr) (l : List Int) : ∀ (ks : List Tr) (r : List Int) (at_ a : Nat), at_ ≤ l.length → lvL G l ks r at_ = some a → a ≤ l.length
  | [], r, at_, a, h, e => by rw [lvL] at e; cases e; exact h
  | k :: ks, r, at_, a, h, e => by
    rw [lvL] at e
    split at e
    · cases e
    · rename_i b hb
      exact lvL_le G l ks _ b a (lvT_le G l k _ at_ b h hb) e
end
/-- The kids from the i-th on. -/
theorem lvL_step (G : Gr) (l : List Int) (ks : List Tr) (r : List Int) (i at_ : Nat) (k : Tr) (hk : ks[i]? = some k) (hl : r.length = ks.length) :
    lvL G l (ks.drop i) (r.drop i) at_ = match lvT G l k (nth r i) at_ with | none => none | some a => lvL G l (ks.drop (i + 1)) (r.drop (i + 1)) a := by
  have hi := (List.getElem?_eq_some_iff.1 hk).1
  have e : ks[i] = k := (List.getElem?_eq_some_iff.1 hk).2
  rw [List.drop_eq_getElem_cons hi, e, lvL]
  have hr : i < r.length := by omega
  have h1 : (r.drop i).headD 0 = nth r i := by rw [List.drop_eq_getElem_cons hr, nth_get hr]; rfl
  have h2 : (r.drop i).tail = r.drop (i + 1) := by rw [List.drop_eq_getElem_cons hr]; rfl
  rw [h1, h2]
/-- As an int: -1 where there is none. -/
def optI : Option Nat → Int
  | none => -1
  | some a => (a : Int)
end Go.Proofs.YtinejiodnnjpgaaDoor
namespace Go.Proofs.YtinejiodnnjpgaaDoor
open Go.RowKit
set_option linter.unusedVariables false
set_option linter.unusedSimpArgs false
set_option maxRecDepth 100000

structure PrOk (G : Gr) (p : Prd) : Prop where
  l0 : 0 ≤ p.1
  l1 : p.1 < G.names
  v0 : 0 ≤ p.2.2
  v1 : p.2.2 ≤ G.sides.length
  r : p.2.1.length ≤ 20
  s : ∀ s ∈ p.2.1, -G.names ≤ s ∧ s < G.terms
structure GOk (G : Gr) : Prop where
  t0 : 0 ≤ G.terms
  t1 : G.terms ≤ 300
  n0 : 1 ≤ G.names
  n1 : G.names ≤ 300
  s0 : 0 ≤ G.start
  s1 : G.start < G.names
  p : G.prods.length ≤ 400
  l : G.levels.length = 0 ∨ (G.levels.length : Int) = G.terms
  s : G.sides.length ≤ 50
  sd : ∀ x ∈ G.sides, 1 ≤ x ∧ x ≤ 3
  lv : ∀ x ∈ G.levels, 0 ≤ x ∧ x ≤ G.sides.length
  pr : ∀ p ∈ G.prods, PrOk G p
open Classical in
noncomputable def okB (G : Gr) : Bool := decide (GOk G)
theorem okB_t {G : Gr} (h : GOk G) : okB G = true := by unfold okB; simp [h]
theorem okB_f {G : Gr} (h : ¬ GOk G) : okB G = false := by unfold okB; simp [h]
theorem okB_iff {G : Gr} : okB G = true ↔ GOk G := by unfold okB; simp
theorem getI {l : List Int} {k n : Nat} (hl : l.length = n) (h : k < n) : l[k]? = some (nth l k) := nth_some (by omega)

set_option maxHeartbeats 4000000 in
theorem rok_any (G : Gr) (Ap Al As : Option Addr) (np cp nl cl ns cs : Nat) (w : World) (B : Nat) (hB : B ≤ w.heap.size) (hG : GrIn w B G Ap Al As np cp nl cl ns cs) :
    Calls Tryd.prog 10 #[.agg #[.int .i64 G.terms, .int .i64 G.names, .int .i64 G.start, .slice Ap np cp, .slice Al nl cl, .slice As ns cs]] w fun e w' => e = .returned (.bool (okB G)) ∧ Below w.heap.size w w' := by
  obtain ⟨hb0, hs0, gb⟩ := gbox w G Ap Al As np cp nl cl ns cs
  obtain ⟨hp1, hp2⟩ := hG.p.len
  have hl1 := hG.ll; have hl2 := hG.sl; have hl3 := hG.lm; have hl4 := hG.sm
  have hG0 := hG.below (hb0.mono hB)
  unfold maxLen at hp2 hl3 hl4
  by_cases q1 : G.terms < 0
  · have dq1 : decide (G.terms < 0) = true := decide_eq_true q1
    have HF := Lib.hid (okB_f (G := G) (fun h => by have := h.t0; omega))
    clear hp1 hl1 hl2 hG0 gb hG
    go_enter Tryd.func10, Tryd.ntmps10
    go_wp2
    go_ret
    exact ⟨ret_eq (by rw [HF.out]; rfl), hb0⟩
  have dq1 : decide (G.terms < 0) = false := decide_eq_false q1
  by_cases q2 : 300 < G.terms
  · have dq2 : decide (300 < G.terms) = true := decide_eq_true q2
    have HF := Lib.hid (okB_f (G := G) (fun h => by have := h.t1; omega))
    clear hp1 hl1 hl2 hG0 gb hG
    go_enter Tryd.func10, Tryd.ntmps10
    go_wp2
    go_ret
    exact ⟨ret_eq (by rw [HF.out]; rfl), hb0⟩
  have dq2 : decide (300 < G.terms) = false := decide_eq_false q2
  by_cases q3 : G.names < 1
  · have dq3 : decide (G.names < 1) = true := decide_eq_true q3
    have HF := Lib.hid (okB_f (G := G) (fun h => by have := h.n0; omega))
    clear hp1 hl1 hl2 hG0 gb hG
    go_enter Tryd.func10, Tryd.ntmps10
    go_wp2
    go_ret
    exact ⟨ret_eq (by rw [HF.out]; rfl), hb0⟩
  have dq3 : decide (G.names < 1) = false := decide_eq_false q3
  by_cases q4 : 300 < G.names
  · have dq4 : decide (300 < G.names) = true := decide_eq_true q4
    have HF := Lib.hid (okB_f (G := G) (fun h => by have := h.n1; omega))
    clear hp1 hl1 hl2 hG0 gb hG
    go_enter Tryd.func10, Tryd.ntmps10
    go_wp2
    go_ret
    exact ⟨ret_eq (by rw [HF.out]; rfl), hb0⟩
  have dq4 : decide (300 < G.names) = false := decide_eq_false q4
  by_cases q5 : G.start < 0
  · have dq5 : decide (G.start < 0) = true := decide_eq_true q5
    have HF := Lib.hid (okB_f (G := G) (fun h => by have := h.s0; omega))
    clear hp1 hl1 hl2 hG0 gb hG
    go_enter Tryd.func10, Tryd.ntmps10
    go_wp2
    go_ret
    exact ⟨ret_eq (by rw [HF.out]; rfl), hb0⟩
  have dq5 : decide (G.start < 0) = false := decide_eq_false q5
  by_cases q6 : G.names ≤ G.start
  · have dq6 : decide (G.names ≤ G.start) = true := decide_eq_true q6
    have HF := Lib.hid (okB_f (G := G) (fun h => by have := h.s1; omega))
    clear hp1 hl1 hl2 hG0 gb hG
    go_enter Tryd.func10, Tryd.ntmps10
    go_wp2
    go_ret
    exact ⟨ret_eq (by rw [HF.out]; rfl), hb0⟩
  have dq6 : decide (G.names ≤ G.start) = false := decide_eq_false q6
  by_cases q7 : 400 < (np : Int)
  · have dq7 : decide (400 < (np : Int)) = true := decide_eq_true q7
    have HF := Lib.hid (okB_f (G := G) (fun h => by have := h.p; omega))
    clear hp1 hl1 hl2 hG0 gb hG
    go_enter Tryd.func10, Tryd.ntmps10
    go_wp2
    go_ret
    exact ⟨ret_eq (by rw [HF.out]; rfl), hb0⟩
  have dq7 : decide (400 < (np : Int)) = false := decide_eq_false q7
  by_cases q8 : 50 < (ns : Int)
  · have dq8 : decide (50 < (ns : Int)) = true := decide_eq_true q8
    have HF := Lib.hid (okB_f (G := G) (fun h => by have := h.s; omega))
    clear hp1 hl1 hl2 hG0 gb hG
    go_enter Tryd.func10, Tryd.ntmps10
    go_wp2
    go_ret
    exact ⟨ret_eq (by rw [HF.out]; rfl), hb0⟩
  have dq8 : decide (50 < (ns : Int)) = false := decide_eq_false q8
  by_cases q9 : 0 < (nl : Int)
  · have d9 : decide (0 < (nl : Int)) = true := decide_eq_true q9
    by_cases q10 : (nl : Int) = G.terms
    · have d10 : ((nl : Int) != G.terms) = false := by rw [bne_eq_false_iff_eq]; exact q10
      have HLT := Lib.hid (show G.levels.length = 0 ∨ (G.levels.length : Int) = G.terms from .inr (by omega)); clear q10
      have HP := Lib.hid hp1; have HS := Lib.hid hl2; have HL := Lib.hid hl1; clear hp1 hl1 hl2
      have HG := Lib.hid hG0; clear hG0 hG
      have GB := Lib.hid gb; clear gb
      have HB0 := Lib.hid hb0; clear hb0
      go_enter Tryd.func10, Tryd.ntmps10
      go_wp2_with fail
      generalize w.alloc (.cells #[.int .i64 G.terms, .int .i64 G.names, .int .i64 G.start, .slice Ap np cp, .slice Al nl cl, .slice As ns cs] 34) = W0 at *
      clear dq1 dq2 dq3 dq4 dq5 dq6 dq7 dq8
      go_loop [3] (fun i => ∃ k : Nat, k ≤ ns ∧ i = .int .i64 k ∧ Hid (∀ (j : Nat) (y : Int), j < k → G.sides[j]? = some y → 1 ≤ y ∧ y ≤ 3)) (fun i => ns - (intOf i).toNat)
      case atStart => exact ⟨0, Nat.zero_le _, rfl, fun j y h => absurd h (by omega)⟩
      case round =>
        as_aux_lemma =>
          obtain ⟨k, hk, rfl, HE⟩ := hrel
          have gb5 := GB.out.c5
          by_cases hlt : k < ns
          · obtain ⟨b, off, rfl, hb, hc⟩ := HG.out.s.at_ (by rw [HS.out]; omega)
            have z := hc k (by rw [HS.out]; omega)
            have HQ := Lib.hid (getI HS.out hlt)
            clear hc
            generalize nth G.sides k = x at z HQ
            by_cases a1 : x < 1
            · have d1 : decide (x < 1) = true := decide_eq_true a1
              have HF := Lib.hid (okB_f (G := G) (fun h => by have := h.sd _ (mem_of_get HQ.out); omega))
              go_wp2
              go_ret
              exact ⟨ret_eq (by rw [HF.out]; rfl), HB0.out⟩
            have d1 : decide (x < 1) = false := decide_eq_false a1
            by_cases a2 : 3 < x
            · have d2 : decide (3 < x) = true := decide_eq_true a2
              have HF := Lib.hid (okB_f (G := G) (fun h => by have := h.sd _ (mem_of_get HQ.out); omega))
              go_wp2
              go_ret
              exact ⟨ret_eq (by rw [HF.out]; rfl), HB0.out⟩
            have d2 : decide (3 < x) = false := decide_eq_false a2
            go_wp2
            go_round
            case rel => exact ⟨k + 1, by omega, by go_num, all_step HE.out HQ.out (by omega)⟩
            case measure => simp [intOf]; omega
          · as_aux_lemma =>
              have HSD := Lib.hid (all_done HE.out (by have := HS.out; omega)); clear HE
              go_wp2_with fail
              have gb4 := GB.out.c4
              go_loopw [4] (fun i wr => ∃ k : Nat, k ≤ nl ∧ i = .int .i64 k ∧ Below (w.heap.size + 1) W0 wr ∧ Hid (∀ (j : Nat) (y : Int), j < k → G.levels[j]? = some y → 0 ≤ y ∧ y ≤ G.sides.length)) (fun i _ => nl - (intOf i).toNat)
              case atStart => exact ⟨0, Nat.zero_le _, rfl, Below.refl _ _, fun j y h => absurd h (by omega)⟩
              case round =>
                as_aux_lemma =>
                  clear gb4 gb5 hlt
                  obtain ⟨k, hk, rfl, hbr, HE⟩ := hrel
                  have hfin : Below w.heap.size w wr := HB0.out.trans (hbr.mono (Nat.le_succ _))
                  have GR := GB.out.below hbr (Nat.lt_succ_self _)
                  have gr4 := GR.c4
                  have gr5 := GR.c5
                  have HGr := Lib.hid (HG.out.below (hbr.mono (by omega)))
                  have GRR := Lib.hid GR; clear GR
                  by_cases hlt : k < nl
                  · as_aux_lemma =>
                      obtain ⟨b, off, rfl, hb, hc⟩ := HGr.out.l.at_ (by rw [HL.out]; omega)
                      have z := hc k (by rw [HL.out]; omega)
                      have HQ := Lib.hid (getI HL.out hlt)
                      clear hc
                      generalize nth G.levels k = x at z HQ
                      by_cases a1 : x < 0
                      · have d1 : decide (x < 0) = true := decide_eq_true a1
                        have HF := Lib.hid (okB_f (G := G) (fun h => by have := h.lv _ (mem_of_get HQ.out); omega))
                        go_wp2_with fail
                        go_quiet (fail)
                        go_wp2
                        go_ret
                        exact ⟨ret_eq (by rw [HF.out]; rfl), hfin.trans ⟨rfl, rfl, rfl, Nat.le_refl _, fun _ _ => rfl⟩⟩
                      have d1 : decide (x < 0) = false := decide_eq_false a1
                      by_cases a2 : (ns : Int) < x
                      · have d2 : decide ((ns : Int) < x) = true := decide_eq_true a2
                        have HF := Lib.hid (okB_f (G := G) (fun h => by have := h.lv _ (mem_of_get HQ.out); have := HS.out; omega))
                        go_wp2_with fail
                        go_quiet (fail)
                        go_wp2
                        go_ret
                        exact ⟨ret_eq (by rw [HF.out]; rfl), hfin.trans ⟨rfl, rfl, rfl, Nat.le_refl _, fun _ _ => rfl⟩⟩
                      have d2 : decide ((ns : Int) < x) = false := decide_eq_false a2
                      go_wp2_with fail
                      go_quiet (fail)
                      go_wp2
                      go_roundw
                      case rel => exact ⟨k + 1, by omega, by go_num, hbr.trans ⟨rfl, rfl, rfl, Nat.le_refl _, fun _ _ => rfl⟩, all_step HE.out HQ.out (by have := HS.out; omega)⟩
                      case measure => simp [intOf]; omega
                  · as_aux_lemma =>
                      have HLV := Lib.hid (all_done HE.out (by have := HL.out; omega)); clear HE
                      have gr3 := GRR.out.c3
                      go_wp2_with fail
                      clear gr3 gr4 gr5 hlt GRR HGr
                      go_loopw [5] (fun i wr => ∃ k : Nat, k ≤ np ∧ i = .int .i64 k ∧ Below (w.heap.size + 1) W0 wr ∧ Hid (∀ (j : Nat) (y : Prd), j < k → G.prods[j]? = some y → PrOk G y)) (fun i _ => np - (intOf i).toNat)
                      case atStart => exact ⟨0, Nat.zero_le _, rfl, hbr, fun j y h => absurd h (by omega)⟩
                      case round =>
                        as_aux_lemma =>
                          clear hfin hbr
                          obtain ⟨k, hk, rfl, hbr, HE⟩ := hrel
                          have hfin : Below w.heap.size w wr := HB0.out.trans (hbr.mono (Nat.le_succ _))
                          have GR := GB.out.below hbr (Nat.lt_succ_self _)
                          have gr3 := GR.c3
                          have HGr := Lib.hid (HG.out.below (hbr.mono (by omega)))
                          have GRR := Lib.hid GR; clear GR
                          by_cases hlt : k < np
                          · as_aux_lemma =>
                              obtain ⟨b, off, rfl, hb, hc⟩ := HGr.out.p.at_ (by omega)
                              obtain ⟨x, r, y, A', n', c', hq, z0, z1, z2, g1, g2, g3, g4⟩ := hc k hlt
                              have HQ := Lib.hid hq; have HR := Lib.hid g1; have HRd := Lib.hid g4; clear hc hq g1 g4
                              unfold maxLen at g3
                              have gr1 := GRR.out.c1
                              have gr5 := GRR.out.c5
                              have hsz : w.heap.size < wr.heap.size := by have := hbr.size; omega
                              by_cases a1 : x < 0
                              · have da1 : decide (x < 0) = true := decide_eq_true a1
                                have HF := Lib.hid (okB_f (G := G) (fun h => by have h1 := (h.pr _ (mem_of_get HQ.out)).l0; have h2 := HR.out; have h3 := HS.out; simp only at h1; omega))
                                go_wp2
                                go_ret
                                exact ⟨ret_eq (by rw [HF.out]; rfl), hfin.alloc hfin.size _⟩
                              have da1 : decide (x < 0) = false := decide_eq_false a1
                              by_cases a2 : G.names ≤ x
                              · have da2 : decide (G.names ≤ x) = true := decide_eq_true a2
                                have HF := Lib.hid (okB_f (G := G) (fun h => by have h1 := (h.pr _ (mem_of_get HQ.out)).l1; have h2 := HR.out; have h3 := HS.out; simp only at h1; omega))
                                go_wp2
                                go_ret
                                exact ⟨ret_eq (by rw [HF.out]; rfl), hfin.alloc hfin.size _⟩
                              have da2 : decide (G.names ≤ x) = false := decide_eq_false a2
                              by_cases a3 : y < 0
                              · have da3 : decide (y < 0) = true := decide_eq_true a3
                                have HF := Lib.hid (okB_f (G := G) (fun h => by have h1 := (h.pr _ (mem_of_get HQ.out)).v0; have h2 := HR.out; have h3 := HS.out; simp only at h1; omega))
                                go_wp2
                                go_ret
                                exact ⟨ret_eq (by rw [HF.out]; rfl), hfin.alloc hfin.size _⟩
                              have da3 : decide (y < 0) = false := decide_eq_false a3
                              by_cases a4 : (ns : Int) < y
                              · have da4 : decide ((ns : Int) < y) = true := decide_eq_true a4
                                have HF := Lib.hid (okB_f (G := G) (fun h => by have h1 := (h.pr _ (mem_of_get HQ.out)).v1; have h2 := HR.out; have h3 := HS.out; simp only at h1; omega))
                                go_wp2
                                go_ret
                                exact ⟨ret_eq (by rw [HF.out]; rfl), hfin.alloc hfin.size _⟩
                              have da4 : decide ((ns : Int) < y) = false := decide_eq_false a4
                              by_cases a5 : 20 < (n' : Int)
                              · have da5 : decide (20 < (n' : Int)) = true := decide_eq_true a5
                                have HF := Lib.hid (okB_f (G := G) (fun h => by have h1 := (h.pr _ (mem_of_get HQ.out)).r; have h2 := HR.out; have h3 := HS.out; simp only at h1; omega))
                                go_wp2
                                go_ret
                                exact ⟨ret_eq (by rw [HF.out]; rfl), hfin.alloc hfin.size _⟩
                              have da5 : decide (20 < (n' : Int)) = false := decide_eq_false a5
                              go_wp2_with fail
                              obtain ⟨g6, hg6⟩ : ∃ g6, g6 = wr.heap.size := ⟨_, rfl⟩
                              have hx : Below wr.heap.size wr (wr.alloc (.cells #[.int .i64 x, .slice A' n' c', .int .i64 y] 63)) := (Below.refl _ _).alloc (Nat.le_refl _) _
                              have zz : (wr.alloc (.cells #[.int .i64 x, .slice A' n' c', .int .i64 y] 63)).cell? ⟨wr.heap.size, 1, none⟩ = some (.slice A' n' c') := by simp
                              have hz2 : (wr.alloc (.cells #[.int .i64 x, .slice A' n' c', .int .i64 y] 63)).heap.size = wr.heap.size + 1 := by simp
                              rw [← hg6] at hx zz hz2 hsz ⊢
                              have hw6 : wr.heap.size ≤ g6 := by omega
                              clear hg6
                              generalize wr.alloc (.cells #[.int .i64 x, .slice A' n' c', .int .i64 y] 63) = W2 at *
                              have hb2 : Below (w.heap.size + 1) W0 W2 := hbr.trans (hx.mono (by omega))
                              have hx2 := hx
                              have ZZ := Lib.hid zz; clear zz hx hz2 gr1 gr5 z0 z1 z2 gr3 GRR HGr
                              have HRd2 := Lib.hid (HRd.out.below (hx2.mono (by omega))); clear hx2 HRd
                              go_loopw [7] (fun i wr => ∃ m : Nat, m ≤ n' ∧ i = .int .i64 m ∧ Below (g6 + 1) W2 wr ∧ Hid (∀ (j : Nat) (y : Int), j < m → r[j]? = some y → -G.names ≤ y ∧ y < G.terms)) (fun i _ => n' - (intOf i).toNat)
                              case atStart => exact ⟨0, Nat.zero_le _, rfl, Below.refl _ _, fun j y h => absurd h (by omega)⟩
                              case round =>
                                as_aux_lemma =>
                                  obtain ⟨m, hm, rfl, hbm, HE2⟩ := hrel
                                  have hbm0 := hb2.trans (hbm.mono (by omega))
                                  have gm0 := (GB.out.below hbm0 (Nat.lt_succ_self _)).c0
                                  have gm1 := (GB.out.below hbm0 (Nat.lt_succ_self _)).c1
                                  have zp := (hbm.cell (p := ⟨g6, 1, none⟩) (Nat.lt_succ_self _)).trans ZZ.out
                                  by_cases hlt2 : m < n'
                                  · as_aux_lemma =>
                                      obtain ⟨b', off', rfl, hb', hc'⟩ := (HRd2.out.below (hbm.mono (by omega))).at_ (by rw [HR.out]; omega)
                                      have z := hc' m (by rw [HR.out]; omega)
                                      have HQ2 := Lib.hid (getI HR.out hlt2)
                                      clear hc'
                                      generalize nth r m = v at z HQ2
                                      by_cases a1 : G.terms ≤ v
                                      · have d1 : decide (G.terms ≤ v) = true := decide_eq_true a1
                                        have HF := Lib.hid (okB_f (G := G) (fun h => by have := (h.pr _ (mem_of_get HQ.out)).s _ (mem_of_get HQ2.out); omega))
                                        go_wp2_with fail
                                        go_quiet (fail)
                                        go_wp2
                                        go_ret
                                        exact ⟨ret_eq (by rw [HF.out]; rfl), HB0.out.trans ((hbm0.mono (Nat.le_succ _)).trans ⟨rfl, rfl, rfl, Nat.le_refl _, fun _ _ => rfl⟩)⟩
                                      have d1 : decide (G.terms ≤ v) = false := decide_eq_false a1
                                      by_cases a2 : v < -G.names
                                      · have d2 : decide (v < -G.names) = true := decide_eq_true a2
                                        have HF := Lib.hid (okB_f (G := G) (fun h => by have := (h.pr _ (mem_of_get HQ.out)).s _ (mem_of_get HQ2.out); omega))
                                        go_wp2_with fail
                                        go_quiet (fail)
                                        go_wp2
                                        go_ret
                                        exact ⟨ret_eq (by rw [HF.out]; rfl), HB0.out.trans ((hbm0.mono (Nat.le_succ _)).trans ⟨rfl, rfl, rfl, Nat.le_refl _, fun _ _ => rfl⟩)⟩
                                      have d2 : decide (v < -G.names) = false := decide_eq_false a2
                                      go_wp2_with fail
                                      go_quiet (fail)
                                      go_wp2
                                      go_roundw
                                      case rel => exact ⟨m + 1, by omega, by go_num, hbm.trans ⟨rfl, rfl, rfl, Nat.le_refl _, fun _ _ => rfl⟩, all_step HE2.out HQ2.out (by omega)⟩
                                      case measure => simp [intOf]; omega
                                  · as_aux_lemma =>
                                      have HA := Lib.hid (all_done HE2.out (by have := HR.out; omega)); clear HE2
                                      go_wp2
                                      go_roundw
                                      case rel => exact ⟨k + 1, by omega, by go_num, hbm0, all_step HE.out HQ.out ⟨by simp only; omega, by simp only; omega, by simp only; omega, by have := HS.out; simp only; omega, by have := HR.out; simp only; omega, HA.out⟩⟩
                                      case measure => simp [intOf]; omega
                          · as_aux_lemma =>
                              have HF := Lib.hid (okB_t (G := G) ⟨by omega, by omega, by omega, by omega, by omega, by omega, by have := HP.out; omega, HLT.out, by have := HS.out; omega, HSD.out, HLV.out, all_done HE.out (by have := HP.out; omega)⟩)
                              go_wp2
                              go_ret
                              exact ⟨ret_eq (by rw [HF.out]; rfl), hfin⟩
    · have d10 : ((nl : Int) != G.terms) = true := by rw [bne_iff_ne]; exact q10
      have HF := Lib.hid (okB_f (G := G) (fun h => by have := h.l; omega))
      clear hp1 hl1 hl2 hG0 gb hG q10
      go_enter Tryd.func10, Tryd.ntmps10
      go_wp2
      go_ret
      exact ⟨ret_eq (by rw [HF.out]; rfl), hb0⟩
  · have d9 : decide (0 < (nl : Int)) = false := decide_eq_false q9
    have HLT := Lib.hid (show G.levels.length = 0 ∨ (G.levels.length : Int) = G.terms from .inl (by omega))
    have HP := Lib.hid hp1; have HS := Lib.hid hl2; have HL := Lib.hid hl1; clear hp1 hl1 hl2
    have HG := Lib.hid hG0; clear hG0 hG
    have GB := Lib.hid gb; clear gb
    have HB0 := Lib.hid hb0; clear hb0
    go_enter Tryd.func10, Tryd.ntmps10
    go_wp2_with fail
    generalize w.alloc (.cells #[.int .i64 G.terms, .int .i64 G.names, .int .i64 G.start, .slice Ap np cp, .slice Al nl cl, .slice As ns cs] 34) = W0 at *
    clear dq1 dq2 dq3 dq4 dq5 dq6 dq7 dq8
    go_loop [3] (fun i => ∃ k : Nat, k ≤ ns ∧ i = .int .i64 k ∧ Hid (∀ (j : Nat) (y : Int), j < k → G.sides[j]? = some y → 1 ≤ y ∧ y ≤ 3)) (fun i => ns - (intOf i).toNat)
    case atStart => exact ⟨0, Nat.zero_le _, rfl, fun j y h => absurd h (by omega)⟩
    case round =>
      as_aux_lemma =>
        obtain ⟨k, hk, rfl, HE⟩ := hrel
        have gb5 := GB.out.c5
        by_cases hlt : k < ns
        · obtain ⟨b, off, rfl, hb, hc⟩ := HG.out.s.at_ (by rw [HS.out]; omega)
          have z := hc k (by rw [HS.out]; omega)
          have HQ := Lib.hid (getI HS.out hlt)
          clear hc
          generalize nth G.sides k = x at z HQ
          by_cases a1 : x < 1
          · have d1 : decide (x < 1) = true := decide_eq_true a1
            have HF := Lib.hid (okB_f (G := G) (fun h => by have := h.sd _ (mem_of_get HQ.out); omega))
            go_wp2
            go_ret
            exact ⟨ret_eq (by rw [HF.out]; rfl), HB0.out⟩
          have d1 : decide (x < 1) = false := decide_eq_false a1
          by_cases a2 : 3 < x
          · have d2 : decide (3 < x) = true := decide_eq_true a2
            have HF := Lib.hid (okB_f (G := G) (fun h => by have := h.sd _ (mem_of_get HQ.out); omega))
            go_wp2
            go_ret
            exact ⟨ret_eq (by rw [HF.out]; rfl), HB0.out⟩
          have d2 : decide (3 < x) = false := decide_eq_false a2
          go_wp2
          go_round
          case rel => exact ⟨k + 1, by omega, by go_num, all_step HE.out HQ.out (by omega)⟩
          case measure => simp [intOf]; omega
        · as_aux_lemma =>
            have HSD := Lib.hid (all_done HE.out (by have := HS.out; omega)); clear HE
            go_wp2_with fail
            have gb4 := GB.out.c4
            go_loopw [4] (fun i wr => ∃ k : Nat, k ≤ nl ∧ i = .int .i64 k ∧ Below (w.heap.size + 1) W0 wr ∧ Hid (∀ (j : Nat) (y : Int), j < k → G.levels[j]? = some y → 0 ≤ y ∧ y ≤ G.sides.length)) (fun i _ => nl - (intOf i).toNat)
            case atStart => exact ⟨0, Nat.zero_le _, rfl, Below.refl _ _, fun j y h => absurd h (by omega)⟩
            case round =>
              as_aux_lemma =>
                clear gb4 gb5 hlt
                obtain ⟨k, hk, rfl, hbr, HE⟩ := hrel
                have hfin : Below w.heap.size w wr := HB0.out.trans (hbr.mono (Nat.le_succ _))
                have GR := GB.out.below hbr (Nat.lt_succ_self _)
                have gr4 := GR.c4
                have gr5 := GR.c5
                have HGr := Lib.hid (HG.out.below (hbr.mono (by omega)))
                have GRR := Lib.hid GR; clear GR
                by_cases hlt : k < nl
                · exact absurd hlt (by omega)
                · as_aux_lemma =>
                    have HLV := Lib.hid (all_done HE.out (by have := HL.out; omega)); clear HE
                    have gr3 := GRR.out.c3
                    go_wp2_with fail
                    clear gr3 gr4 gr5 hlt GRR HGr
                    go_loopw [5] (fun i wr => ∃ k : Nat, k ≤ np ∧ i = .int .i64 k ∧ Below (w.heap.size + 1) W0 wr ∧ Hid (∀ (j : Nat) (y : Prd), j < k → G.prods[j]? = some y → PrOk G y)) (fun i _ => np - (intOf i).toNat)
                    case atStart => exact ⟨0, Nat.zero_le _, rfl, hbr, fun j y h => absurd h (by omega)⟩
                    case round =>
                      as_aux_lemma =>
                        clear hfin hbr
                        obtain ⟨k, hk, rfl, hbr, HE⟩ := hrel
                        have hfin : Below w.heap.size w wr := HB0.out.trans (hbr.mono (Nat.le_succ _))
                        have GR := GB.out.below hbr (Nat.lt_succ_self _)
                        have gr3 := GR.c3
                        have HGr := Lib.hid (HG.out.below (hbr.mono (by omega)))
                        have GRR := Lib.hid GR; clear GR
                        by_cases hlt : k < np
                        · as_aux_lemma =>
                            obtain ⟨b, off, rfl, hb, hc⟩ := HGr.out.p.at_ (by omega)
                            obtain ⟨x, r, y, A', n', c', hq, z0, z1, z2, g1, g2, g3, g4⟩ := hc k hlt
                            have HQ := Lib.hid hq; have HR := Lib.hid g1; have HRd := Lib.hid g4; clear hc hq g1 g4
                            unfold maxLen at g3
                            have gr1 := GRR.out.c1
                            have gr5 := GRR.out.c5
                            have hsz : w.heap.size < wr.heap.size := by have := hbr.size; omega
                            by_cases a1 : x < 0
                            · have da1 : decide (x < 0) = true := decide_eq_true a1
                              have HF := Lib.hid (okB_f (G := G) (fun h => by have h1 := (h.pr _ (mem_of_get HQ.out)).l0; have h2 := HR.out; have h3 := HS.out; simp only at h1; omega))
                              go_wp2
                              go_ret
                              exact ⟨ret_eq (by rw [HF.out]; rfl), hfin.alloc hfin.size _⟩
                            have da1 : decide (x < 0) = false := decide_eq_false a1
                            by_cases a2 : G.names ≤ x
                            · have da2 : decide (G.names ≤ x) = true := decide_eq_true a2
                              have HF := Lib.hid (okB_f (G := G) (fun h => by have h1 := (h.pr _ (mem_of_get HQ.out)).l1; have h2 := HR.out; have h3 := HS.out; simp only at h1; omega))
                              go_wp2
                              go_ret
                              exact ⟨ret_eq (by rw [HF.out]; rfl), hfin.alloc hfin.size _⟩
                            have da2 : decide (G.names ≤ x) = false := decide_eq_false a2
                            by_cases a3 : y < 0
                            · have da3 : decide (y < 0) = true := decide_eq_true a3
                              have HF := Lib.hid (okB_f (G := G) (fun h => by have h1 := (h.pr _ (mem_of_get HQ.out)).v0; have h2 := HR.out; have h3 := HS.out; simp only at h1; omega))
                              go_wp2
                              go_ret
                              exact ⟨ret_eq (by rw [HF.out]; rfl), hfin.alloc hfin.size _⟩
                            have da3 : decide (y < 0) = false := decide_eq_false a3
                            by_cases a4 : (ns : Int) < y
                            · have da4 : decide ((ns : Int) < y) = true := decide_eq_true a4
                              have HF := Lib.hid (okB_f (G := G) (fun h => by have h1 := (h.pr _ (mem_of_get HQ.out)).v1; have h2 := HR.out; have h3 := HS.out; simp only at h1; omega))
                              go_wp2
                              go_ret
                              exact ⟨ret_eq (by rw [HF.out]; rfl), hfin.alloc hfin.size _⟩
                            have da4 : decide ((ns : Int) < y) = false := decide_eq_false a4
                            by_cases a5 : 20 < (n' : Int)
                            · have da5 : decide (20 < (n' : Int)) = true := decide_eq_true a5
                              have HF := Lib.hid (okB_f (G := G) (fun h => by have h1 := (h.pr _ (mem_of_get HQ.out)).r; have h2 := HR.out; have h3 := HS.out; simp only at h1; omega))
                              go_wp2
                              go_ret
                              exact ⟨ret_eq (by rw [HF.out]; rfl), hfin.alloc hfin.size _⟩
                            have da5 : decide (20 < (n' : Int)) = false := decide_eq_false a5
                            go_wp2_with fail
                            obtain ⟨g6, hg6⟩ : ∃ g6, g6 = wr.heap.size := ⟨_, rfl⟩
                            have hx : Below wr.heap.size wr (wr.alloc (.cells #[.int .i64 x, .slice A' n' c', .int .i64 y] 63)) := (Below.refl _ _).alloc (Nat.le_refl _) _
                            have zz : (wr.alloc (.cells #[.int .i64 x, .slice A' n' c', .int .i64 y] 63)).cell? ⟨wr.heap.size, 1, none⟩ = some (.slice A' n' c') := by simp
                            have hz2 : (wr.alloc (.cells #[.int .i64 x, .slice A' n' c', .int .i64 y] 63)).heap.size = wr.heap.size + 1 := by simp
                            rw [← hg6] at hx zz hz2 hsz ⊢
                            have hw6 : wr.heap.size ≤ g6 := by omega
                            clear hg6
                            generalize wr.alloc (.cells #[.int .i64 x, .slice A' n' c', .int .i64 y] 63) = W2 at *
                            have hb2 : Below (w.heap.size + 1) W0 W2 := hbr.trans (hx.mono (by omega))
                            have hx2 := hx
                            have ZZ := Lib.hid zz; clear zz hx hz2 gr1 gr5 z0 z1 z2 gr3 GRR HGr
                            have HRd2 := Lib.hid (HRd.out.below (hx2.mono (by omega))); clear hx2 HRd
                            go_loopw [7] (fun i wr => ∃ m : Nat, m ≤ n' ∧ i = .int .i64 m ∧ Below (g6 + 1) W2 wr ∧ Hid (∀ (j : Nat) (y : Int), j < m → r[j]? = some y → -G.names ≤ y ∧ y < G.terms)) (fun i _ => n' - (intOf i).toNat)
                            case atStart => exact ⟨0, Nat.zero_le _, rfl, Below.refl _ _, fun j y h => absurd h (by omega)⟩
                            case round =>
                              as_aux_lemma =>
                                obtain ⟨m, hm, rfl, hbm, HE2⟩ := hrel
                                have hbm0 := hb2.trans (hbm.mono (by omega))
                                have gm0 := (GB.out.below hbm0 (Nat.lt_succ_self _)).c0
                                have gm1 := (GB.out.below hbm0 (Nat.lt_succ_self _)).c1
                                have zp := (hbm.cell (p := ⟨g6, 1, none⟩) (Nat.lt_succ_self _)).trans ZZ.out
                                by_cases hlt2 : m < n'
                                · as_aux_lemma =>
                                    obtain ⟨b', off', rfl, hb', hc'⟩ := (HRd2.out.below (hbm.mono (by omega))).at_ (by rw [HR.out]; omega)
                                    have z := hc' m (by rw [HR.out]; omega)
                                    have HQ2 := Lib.hid (getI HR.out hlt2)
                                    clear hc'
                                    generalize nth r m = v at z HQ2
                                    by_cases a1 : G.terms ≤ v
                                    · have d1 : decide (G.terms ≤ v) = true := decide_eq_true a1
                                      have HF := Lib.hid (okB_f (G := G) (fun h => by have := (h.pr _ (mem_of_get HQ.out)).s _ (mem_of_get HQ2.out); omega))
                                      go_wp2_with fail
                                      go_quiet (fail)
                                      go_wp2
                                      go_ret
                                      exact ⟨ret_eq (by rw [HF.out]; rfl), HB0.out.trans ((hbm0.mono (Nat.le_succ _)).trans ⟨rfl, rfl, rfl, Nat.le_refl _, fun _ _ => rfl⟩)⟩
                                    have d1 : decide (G.terms ≤ v) = false := decide_eq_false a1
                                    by_cases a2 : v < -G.names
                                    · have d2 : decide (v < -G.names) = true := decide_eq_true a2
                                      have HF := Lib.hid (okB_f (G := G) (fun h => by have := (h.pr _ (mem_of_get HQ.out)).s _ (mem_of_get HQ2.out); omega))
                                      go_wp2_with fail
                                      go_quiet (fail)
                                      go_wp2
                                      go_ret
                                      exact ⟨ret_eq (by rw [HF.out]; rfl), HB0.out.trans ((hbm0.mono (Nat.le_succ _)).trans ⟨rfl, rfl, rfl, Nat.le_refl _, fun _ _ => rfl⟩)⟩
                                    have d2 : decide (v < -G.names) = false := decide_eq_false a2
                                    go_wp2_with fail
                                    go_quiet (fail)
                                    go_wp2
                                    go_roundw
                                    case rel => exact ⟨m + 1, by omega, by go_num, hbm.trans ⟨rfl, rfl, rfl, Nat.le_refl _, fun _ _ => rfl⟩, all_step HE2.out HQ2.out (by omega)⟩
                                    case measure => simp [intOf]; omega
                                · as_aux_lemma =>
                                    have HA := Lib.hid (all_done HE2.out (by have := HR.out; omega)); clear HE2
                                    go_wp2
                                    go_roundw
                                    case rel => exact ⟨k + 1, by omega, by go_num, hbm0, all_step HE.out HQ.out ⟨by simp only; omega, by simp only; omega, by simp only; omega, by have := HS.out; simp only; omega, by have := HR.out; simp only; omega, HA.out⟩⟩
                                    case measure => simp [intOf]; omega
                        · as_aux_lemma =>
                            have HF := Lib.hid (okB_t (G := G) ⟨by omega, by omega, by omega, by omega, by omega, by omega, by have := HP.out; omega, HLT.out, by have := HS.out; omega, HSD.out, HLV.out, all_done HE.out (by have := HP.out; omega)⟩)
                            go_wp2
                            go_ret
                            exact ⟨ret_eq (by rw [HF.out]; rfl), hfin⟩
end Go.Proofs.YtinejiodnnjpgaaDoor
