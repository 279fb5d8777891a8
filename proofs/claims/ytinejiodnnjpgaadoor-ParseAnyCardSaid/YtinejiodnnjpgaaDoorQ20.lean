/- A region that draws its order: reads ahead; one operation that all of them stand ahead of; behind it, in any order, what only reads. · The machine's settle: reductions ahead of a terminal; what is done then. -/
import Derived.StillTail
import Derived.Test.YtinejiodnnjpgaaDoorQ11
import Derived.Test.YtinejiodnnjpgaaDoorQ19
namespace Go.Proofs.YtinejiodnnjpgaaDoor
open Go
set_option linter.unusedVariables false
set_option linter.unusedSimpArgs false

section
variable {P : Program} {ops : Array Oper} {md : Region.Mode} {w : World}
def chain2B (md : Region.Mode) (ops : Array Oper) (n : Nat) : Bool :=
  (List.range ops.size).all fun t => decide (t ≤ n) || (List.range t).any fun k => decide (n ≤ k) && Region.waitsFor md ops t k
theorem tail_waits2 {n : Nat} {listed : Array Bool} (hs : Region.sinkB md ops n = true) (hc : chain2B md ops n = true) (hn : n < ops.size) (inv : HeadInv md ops n listed) :
    ∀ (d i : Nat), n - i = d → i < n → listed.getD i true = false → ∀ t, n ≤ t → t ∉ Region.ready md ops listed := by
  intro d
  induction d using Nat.strongRecOn with
  | _ d ih =>
    intro i hd hi hun t ht hr
    obtain ⟨_, ot, hot, hall⟩ := mem_ready.1 hr
    have htlt : t < ops.size := (Array.getElem?_eq_some_iff.1 hot).1
    by_cases htn : t = n
    · subst htn
      have h1 := List.all_eq_true.1 hs i (List.mem_range.2 hi)
      obtain ⟨j, hj, hj2⟩ := List.any_eq_true.1 h1
      simp only [Bool.and_eq_true, decide_eq_true_eq] at hj2
      obtain ⟨oj, hoj, e, he, hb, hon⟩ := Region.waitsFor_spec hj2.2
      have hjle : j ≤ t := by have := List.mem_range.1 hj; omega
      by_cases hjt : j = t
      · subst hjt
        have : oj = ot := Option.some.inj (hoj.symm.trans hot)
        subst this
        have h2 := hall e he hb
        rw [hon, getD_both hun] at h2
        cases h2
      · cases hl : listed.getD j false with
        | true =>
          have h2 := inv.closed j oj hoj hl e he hb
          rw [hon, getD_both hun] at h2
          cases h2
        | false =>
          have hjs : j < listed.size := by rw [inv.size]; omega
          exact ih (t - j) (by omega) j rfl (by omega) (getD_in hjs hl) t (Nat.le_refl _) hr
    · have h1 := List.all_eq_true.1 hc t (List.mem_range.2 htlt)
      simp only [Bool.or_eq_true, decide_eq_true_eq] at h1
      rcases h1 with h1 | h1
      · omega
      · obtain ⟨k, hk, hk2⟩ := List.any_eq_true.1 h1
        simp only [Bool.and_eq_true, decide_eq_true_eq] at hk2
        have hkt := List.mem_range.1 hk
        obtain ⟨o', ho', e, he, hb, hon⟩ := Region.waitsFor_spec hk2.2
        have : o' = ot := Option.some.inj (ho'.symm.trans hot)
        subst this
        have h2 := hall e he hb
        rw [hon, getD_both (inv.tail k hk2.1 (by omega))] at h2
        cases h2
theorem first2 {n i : Nat} {oi : Oper} {v : Value} {L : Array Bool → Act → Prop} (hi : ops[i]? = some oi) (hsel : ∀ (j : Nat) (o : Oper) cs b, ops[j]? = some o → o.op ≠ .select cs b)
    (hs : Region.sinkB md ops n = true) (hc : chain2B md ops n = true) (hn : n < ops.size) (hin : i < n)
    (hdone : ∀ listed a, L listed a → ∀ j ∈ Region.ready md ops listed, n ≤ j) :
    ∀ (f : Nat) (listed : Array Bool) (a : Act), HeadInv md ops n listed →
      (∀ j oj, ops[j]? = some oj → j ≠ i → listed.getD j true = false → (∀ e ∈ oj.after, Region.binds md e = true → e.on ≠ i) → oi.apart ops oj = true) →
      i ∈ Region.ready md ops listed → YieldsAt P ops w oi v a →
      wpAnyL P md ops w n L f (listed.setIfInBounds i true) (a.put oi.dst v) → wpAnyL P md ops w n L (f + 1) listed a := by
  intro f
  induction f with
  | zero =>
    intro listed a inv _ hr hy H
    have hun := (mem_ready.1 hr).1
    refine ⟨fun h => (by rw [h] at hr; cases hr), fun j hj => ?_⟩
    have hjn : j < n := by
      rcases Nat.lt_or_ge j n with h | h
      · exact h
      · exact absurd hj (tail_waits2 hs hc hn inv _ i rfl hin hun j h)
    refine ⟨hjn, ?_⟩
    by_cases hji : j = i
    · subst hji; exact hy.stOp hi H
    · have := hdone _ _ H j (ready_mono hj hji)
      omega
  | succ f ih =>
    intro listed a inv hfree hr hy H
    have hun := (mem_ready.1 hr).1
    refine ⟨fun h => (by rw [h] at hr; cases hr), fun j hj => ?_⟩
    have hjn : j < n := by
      rcases Nat.lt_or_ge j n with h | h
      · exact h
      · exact absurd hj (tail_waits2 hs hc hn inv _ i rfl hin hun j h)
    refine ⟨hjn, ?_⟩
    by_cases hji : j = i
    · subst hji; exact hy.stOp hi H
    · have h1 := (H.2 j (ready_mono hj hji)).2
      obtain ⟨hjun, oj, hoj, hall⟩ := mem_ready.1 hj
      have hnot : ∀ e ∈ oj.after, Region.binds md e = true → e.on ≠ i := fun e he hb heq => by
        have h1 := hall e he hb
        rw [heq, getD_both hun] at h1
        cases h1
      have h2 := stOp_put hoj (hfree j oj hoj hji hjun hnot) (fun cs b => hsel i oi cs b hi) (fun cs b => hsel j oj cs b hoj) hy h1
      have hfree' : ∀ k ok, ops[k]? = some ok → k ≠ i → (listed.setIfInBounds j true).getD k true = false →
          (∀ e ∈ ok.after, Region.binds md e = true → e.on ≠ i) → oi.apart ops ok = true := fun k ok hk hki hun hno => by
        refine hfree k ok hk hki ?_ hno
        by_cases hjk : j = k
        · subst hjk; exact hjun
        · rw [getD_set_ne true hjk] at hun; exact hun
      refine stOp_mono (fun a' h3 => ih (listed.setIfInBounds j true) a' (inv.set hj hjn) hfree' (ready_mono hr (Ne.symm hji)) h3.1 ?_) h2
      rw [Array.setIfInBounds_comm _ _ hji]
      exact h3.2
/-- Behind the head: the operation n alone may come; behind it all that is left is free of order. -/
def midB (md : Region.Mode) (ops : Array Oper) (n g : Nat) (listed : Array Bool) : Bool :=
  decide (Region.ready md ops listed = [n]) && Region.lexFrom md ops g (n + 1) (listed.setIfInBounds n true)
def lexMid (md : Region.Mode) (ops : Array Oper) (n g : Nat) : Nat → Nat → Array Bool → Bool
  | 0, k, listed => decide (k = n) && midB md ops n g listed
  | f + 1, k, listed => (Region.ready md ops listed).contains k && Region.free md ops listed k && lexMid md ops n g f (k + 1) (listed.setIfInBounds k true)
theorem midB_ready {n g : Nat} {listed : Array Bool} (h : midB md ops n g listed = true) : ∀ j ∈ Region.ready md ops listed, n ≤ j := by
  simp only [midB, Bool.and_eq_true, decide_eq_true_eq] at h
  intro j hj
  rw [h.1] at hj
  have : j = n := by simpa using hj
  omega
theorem lex_mid {n g : Nat} {Lq : Act → Prop} (hsel : Region.noSelect ops = true) (hs : Region.sinkB md ops n = true) (hc : chain2B md ops n = true) (hn : n < ops.size) :
    ∀ (l : List Oper) (k : Nat) (listed : Array Bool) (a : Act), (∀ j, j < l.length → l[j]? = ops[k + j]?) → k + l.length = n → HeadInv md ops n listed →
    lexMid md ops n g l.length k listed = true → wpStill P ops w Lq l a →
    wpAnyL P md ops w n (fun listed' a' => midB md ops n g listed' = true ∧ Lq a') l.length listed a
  | [], k, listed, a, _, hk, _, hB, h => by
    simp only [List.length_nil, lexMid, Bool.and_eq_true] at hB
    exact ⟨hB.2, h⟩
  | o :: l, k, listed, a, hl, hk, inv, hB, h => by
    have h0 : ops[k]? = some o := by simpa using (hl 0 (by simp)).symm
    simp only [List.length_cons, lexMid, Bool.and_eq_true] at hB
    obtain ⟨⟨hr, hf⟩, hB'⟩ := hB
    have hkn : k < n := by simp only [List.length_cons] at hk; omega
    have hr' : k ∈ Region.ready md ops listed := by simpa using hr
    have hst : stOp P ops w k (wpStill P ops w Lq l) a := by unfold stOp; simp only [h0]; exact h
    obtain ⟨v, hy, hK⟩ := yieldsAt_of_stOp h0 hst
    exact first2 h0 (Region.noSelect_spec hsel) hs hc hn hkn (fun listed' a' hL => midB_ready hL.1) l.length listed a inv (Region.free_spec h0 hf) hr' hy
      (lex_mid hsel hs hc hn l (k + 1) _ _ (fun j hj => by have := hl (j + 1) (by simp; omega); simpa [Nat.add_assoc, Nat.add_comm 1 j] using this) (by simp only [List.length_cons] at hk; omega) (inv.set hr' hkn) hB' hK)
def regMidB (md : Region.Mode) (ops : Array Oper) (n : Nat) : Bool :=
  Region.noSelect ops && decide (n < ops.size) && Region.sinkB md ops n && chain2B md ops n && lexMid md ops n (ops.size - (n + 1)) n 0 (Array.replicate ops.size false)
theorem wp_region_mid {id : Nat} {Q : Exit → Act → World → Prop} {a : Act} {w : World} {l : List Oper} (n : Nat) (hm : P.follows .mixedOrders = true) (hB : regMidB .any l.toArray n = true)
    (h : wpStill P l.toArray w.drew (fun a' => wpList P l.toArray (Exit.then (fun a1 w1 => wpQuiet P l.toArray (fun w' => w' = w1) (fun a2 => Q .normal a2 w1) (l.drop (n + 1)) a1) Q) ((l.drop n).take 1) a' w.drew) (l.take n) a) : (Code.region id l.toArray true).wp P Q a w := by
  simp only [regMidB, Bool.and_eq_true, decide_eq_true_eq] at hB
  obtain ⟨⟨⟨⟨hsel, hn⟩, hs⟩, hc⟩, hlex⟩ := hB
  have hn' : n < l.length := by simpa using hn
  have htl : (l.take n).length = n := by simp; omega
  have hdl : (l.drop (n + 1)).length = l.toArray.size - (n + 1) := by simp
  have hop : l.toArray[n]? = some (l[n]'hn') := by simp
  have h1 : (l.drop n).take 1 = [l[n]'hn'] := by rw [List.drop_eq_getElem_cons hn']; rfl
  have inv0 : HeadInv .any l.toArray n (Array.replicate l.toArray.size false) :=
    ⟨by simp, fun j oj _ hl => (by rw [getD_replicate_false] at hl; cases hl), fun t _ ht => getD_in (by simpa using ht) (getD_replicate_false _ _)⟩
  have H := lex_mid (md := .any) (g := l.toArray.size - (n + 1)) hsel hs hc hn (l.take n) 0 _ a (fun j hj => by
    have hj' : j < n := by rw [htl] at hj; exact hj
    simp [hj']) (by simpa using htl) inv0 (by rw [htl]; exact hlex) h
  refine wp_region_any hm ?_
  have := wpAny_of_head (Q' := Q) (g := (l.toArray.size - (n + 1)) + 1) (fun listed a' hL => by
    obtain ⟨hm1, hL2⟩ := hL
    simp only [midB, Bool.and_eq_true, decide_eq_true_eq] at hm1
    refine ⟨fun h0 => (by rw [hm1.1] at h0; cases h0), fun i hi => ?_⟩
    rw [hm1.1] at hi
    have hin : i = n := by simpa using hi
    subst hin
    rw [h1] at hL2
    refine wpOp_mono (fun a1 w1 hq => ?_) (wpOp_of_list hop hL2)
    have hq2 := wpAnyQ_lex (C := fun w' => w' = w1) (md := .any) hsel (l.drop (i + 1)) (i + 1) (listed.setIfInBounds i true) a1 (fun j => by simp [List.getElem?_drop]) (by rw [hdl]; exact hm1.2) hq
    have hq3 := wpAny_of_quiet (Q' := Q) (fun a2 w2 (e : w2 = w1) hk => by rw [e]; exact hk) _ _ _ w1 rfl hq2
    rwa [hdl] at hq3) _ _ _ H
  rw [htl, show n + (l.toArray.size - (n + 1) + 1) = l.toArray.size by omega] at this
  exact this
end
end Go.Proofs.YtinejiodnnjpgaaDoor
namespace Go.Proofs.YtinejiodnnjpgaaDoor
open Go.RowKit BigFrame
set_option linter.unusedVariables false
set_option linter.unusedSimpArgs false
set_option maxRecDepth 100000

/-- What settle answers. -/
def SetEnd (w : World) (base m : Nat) (hd : List Value) (E : Nat → Addr) (r : Except Nat (St × Int)) (e : Ending) (w' : World) : Prop :=
  (match r with
    | .error c => ∃ a b : Int, e = .returned (.tuple #[.agg #[.int .i64 a, .int .i64 b], ew (E c)])
    | .ok (st', to) => ∃ a : Int, e = .returned (.tuple #[.agg #[.int .i64 a, .int .i64 to], .nilIface]) ∧ Mach w' base m hd st') ∧ Fm base w w'
theorem settle_stop {G : Gr} {T : Tb} {term a2 : Int} {f : Nat} {st : St} (h : actAt T (topS st) term = (0, a2)) : settleP G T term f st = .error 6 := by
  cases f <;> (unfold settleP; simp [h])
theorem settle_shift {G : Gr} {T : Tb} {term a2 : Int} {f : Nat} {st : St} (h : actAt T (topS st) term = (1, a2)) : settleP G T term f st = .ok (st, a2) := by
  cases f <;> (unfold settleP; simp [h])
theorem settle_acc {G : Gr} {T : Tb} {term a2 : Int} {f : Nat} {st : St} (h : actAt T (topS st) term = (3, a2)) (ha : accP G st) : settleP G T term f st = .ok (st, a2) := by
  cases f <;> (unfold settleP; simp [h, ha])
theorem settle_nacc {G : Gr} {T : Tb} {term a2 : Int} {f : Nat} {st : St} (h : actAt T (topS st) term = (3, a2)) (ha : ¬ accP G st) : settleP G T term f st = .error 2 := by
  cases f <;> (unfold settleP; simp [h, ha])
theorem settle_bound {G : Gr} {T : Tb} {term a2 : Int} {st : St} (h : actAt T (topS st) term = (2, a2)) : settleP G T term 0 st = .error 1 := by
  unfold settleP; simp [h]
theorem settle_red {G : Gr} {T : Tb} {term a2 : Int} {f : Nat} {st : St} (h : actAt T (topS st) term = (2, a2)) : settleP G T term (f + 1) st = match redP G T st a2 with | none => .error 2 | some st' => settleP G T term f st' := by
  conv => lhs; unfold settleP
  simp [h]
  cases redP G T st a2 <;> rfl

set_option maxHeartbeats 8000000 in
theorem settle_any (G : Gr) (Ap Al As : Option Addr) (np cp nl cl ns cs : Nat) (T : Tb) (Aa : Option Addr) (na ca : Nat) (Ag : Option Addr) (ng cg : Nat) (tc : Value) (w : World) (B base m : Nat) (st : St)
    (hM : Mach w base m (hdM G Ap Al As np cp nl cl ns cs (.slice Aa na ca) (.slice Ag ng cg) tc) st) (hB : B ≤ w.heap.size) (hBb : B ≤ base) (hG : GrIn w B G Ap Al As np cp nl cl ns cs) (hT : TbIn w B T Aa na ca Ag ng cg) (hf : TFits G T) (hs : StOk G T st) (hlen : st.2.length ≤ 90000000) (E : Nat → Addr) (hE : ErW w B E) (term : Int) (h0 : 0 ≤ term) (h1 : term ≤ G.terms) :
    Calls Tryd.prog 37 #[.pointer (some ⟨m, 0, none⟩), .int .i64 term] w (SetEnd w base m (hdM G Ap Al As np cp nl cl ns cs (.slice Aa na ca) (.slice Ag ng cg) tc) E (settleP G T term 10000 st)) := by
  obtain ⟨R, hR⟩ : ∃ R, R = settleP G T term 10000 st := ⟨_, rfl⟩
  obtain ⟨hd, hhd⟩ : ∃ hd, hd = hdM G Ap Al As np cp nl cl ns cs (.slice Aa na ca) (.slice Ag ng cg) tc := ⟨_, rfl⟩
  rw [← hR]
  have hbase : base ≤ w.heap.size := by obtain ⟨_, _, _, _, h⟩ := hM; exact h.blt
  obtain ⟨w1, hw1⟩ : ∃ w1, w1 = w.alloc (.cells #[.int .i64 0, .int .i64 0] 82) := ⟨_, rfl⟩
  have hb1 : Below w.heap.size w w1 := by rw [hw1]; exact (Below.refl _ _).alloc (Nat.le_refl _) _
  have hk1 : Blk w1 w.heap.size 82 [.int .i64 0, .int .i64 0] := by rw [hw1]; exact Blk.new _ _ _
  have hF1 : Fm base w w1 := Fm.of hb1 hbase
  have hM1 : Mach w1 base m hd st := by rw [hhd]; exact hM.ext hb1
  have HT := Lib.hid hT; have HG := Lib.hid hG; have HE := Lib.hid hE; have HF1 := Lib.hid hF1; have HM1 := Lib.hid hM1; have HR := Lib.hid hR; have HS := Lib.hid hs; have HK1 := Lib.hid hk1; have HHD := Lib.hid hhd
  have HL := Lib.hid hlen; have HTF := Lib.hid hf
  rw [← hhd]
  clear hT hG hE hF1 hM1 hR hs hM hk1 hb1 hhd hlen hf
  go_enter Tryd.func37, Tryd.ntmps37
  go_wp2_with fail
  rw [← hw1]
  clear hw1
  go_loopw [6] (fun i wr => ∃ (k : Nat) (s : St), k ≤ 10000 ∧ i = .int .i64 (k : Int) ∧ Hid (settleP G T term (10000 - k) s = R) ∧ Hid (StOk G T s) ∧ Hid (Mach wr base m hd s) ∧ Hid (s.2.length ≤ st.2.length + k) ∧ Hid (Fm base w1 wr)) (fun i _ => 10001 - (intOf i).toNat)
  case atStart => exact ⟨0, st, by omega, rfl, HR.out.symm, HS.out, HM1.out, Nat.le_refl _, Fm.refl _ _⟩
  case round =>
    as_aux_lemma =>
      obtain ⟨k, s, hk, rfl, HRk, HSk, HMk, HLk, HFk⟩ := hrel
      obtain ⟨ss, ts⟩ := s
      obtain ⟨sv, tv, vs, U, hM⟩ := HMk.out
      have hszr : w1.heap.size ≤ wr.heap.size := HFk.out.bel.size
      have hw0 : w.heap.size < wr.heap.size := Nat.lt_of_lt_of_le HK1.out.lt hszr
      have hBr : B ≤ wr.heap.size := by omega
      have hT := HT.out.below ((HF1.out.trans HFk.out).bel.mono hBb)
      have hG := HG.out.below ((HF1.out.trans HFk.out).bel.mono hBb)
      have hE := HE.out.below ((HF1.out.trans HFk.out).bel.mono hBb)
      obtain ⟨a1, a2, hA⟩ : ∃ a1 a2, actAt T (topS (ss, ts)) term = (a1, a2) := ⟨_, _, rfl⟩
      have hfit := act_fit HTF.out HSk.out.top.1 HSk.out.top.2 h0 h1
      have hact := act_any G Ap Al As np cp nl cl ns cs T Aa na ca Ag ng cg tc wr B base m sv tv ss ts vs U (by rw [← HHD.out]; exact hM) hBr hT HTF.out term h0 h1 HSk.out
      rw [hA] at hfit hact
      have hblt := hM.blt
      have HACT := Lib.hid hact; have HFIT := Lib.hid hfit; have HA := Lib.hid hA; have HM := Lib.hid hM; have HTr := Lib.hid hT; have HGr := Lib.hid hG; have HEr := Lib.hid hE
      clear hfit hact hA hM hT hG hE HMk
      go_wp2_with fail
      refine HACT.out.mono ?_
      rintro e w2 ⟨rfl, hb2⟩
      obtain ⟨w3, hw3⟩ : ∃ w3, w3 = w2.alloc (.cells #[.int .i64 a1, .int .i64 a2] 82) := ⟨_, rfl⟩
      have hb3 : Below wr.heap.size wr w3 := by rw [hw3]; exact hb2.alloc hb2.size _
      have hM3 := HM.out.ext hb3
      have hF3 : Fm base w1 w3 := HFk.out.trans (Fm.of hb3 hblt)
      have hk3 : Blk w3 w2.heap.size 82 [.int .i64 a1, .int .i64 a2] := by rw [hw3]; exact Blk.new _ _ _
      have hr3 := hF3.blk HK1.out (by decide) (by decide) (by decide)
      have z11 : w3.cell? ⟨m, 11, none⟩ = some (mth 54 m) := hM3.b.cell (by simp [List.getElem?_append, hM3.hl, does])
      have z12 : w3.cell? ⟨m, 12, none⟩ = some (mth 55 m) := hM3.b.cell (by simp [List.getElem?_append, hM3.hl, does])
      have z13 : w3.cell? ⟨m, 13, none⟩ = some (mth 56 m) := hM3.b.cell (by simp [List.getElem?_append, hM3.hl, does])
      have z14 : w3.cell? ⟨m, 14, none⟩ = some (mth 57 m) := hM3.b.cell (by simp [List.getElem?_append, hM3.hl, does])
      have y0 := hk3.cell (i := 0) rfl
      have y1 := hk3.cell (i := 1) rfl
      have HM3 := Lib.hid hM3; have HF3 := Lib.hid hF3; have HK3 := Lib.hid hk3; have HR3 := Lib.hid hr3
      have HT3 := Lib.hid (HTr.out.below (hb3.mono hBr)); have HG3 := Lib.hid (HGr.out.below (hb3.mono hBr)); have HE3 := Lib.hid (HEr.out.below (hb3.mono hBr))
      have hB3 : B ≤ w3.heap.size := Nat.le_trans hBr hb3.size
      unfold mth at z11 z12 z13 z14
      clear hM3 hF3 hk3 hr3 hb2 hb3 HTr HGr HEr HM HFk HACT
      have hb3d : Below w3.heap.size w3 w3.drew := ⟨rfl, rfl, rfl, Nat.le_refl _, fun _ _ => rfl⟩
      have hM3d := HM3.out.ext hb3d
      have HM3D := Lib.hid hM3d
      have HG3D := Lib.hid (HG3.out.below (hb3d.mono hB3)); have HT3D := Lib.hid (HT3.out.below (hb3d.mono hB3)); have HE3D := Lib.hid (HE3.out.below (hb3d.mono hB3))
      clear hb3d hM3d
      by_cases q0 : a1 = 0
      · as_aux_lemma =>
          subst q0
          have HC := Lib.hid (stop_any (.pointer (some ⟨m, 0, none⟩)) 0 a2 w3.drew B hB3 E HE3D.out)
          have HRK : Hid (R = .error 6) := Lib.hid (by rw [← HRk.out]; exact settle_stop HA.out)
          by_cases hk9 : k = 10000
          rotate_left
          all_goals
            go_wp2_with fail
            rw [← hw3]
            clear hw3
            refine wp_region_mid 9 (by kernel_rfl) (by kernel_rfl) ?_
            simp only [List.take_succ_cons, List.take_zero, List.drop_succ_cons, List.drop_zero]
            refine wpStill_of_quiet _ _ ?_
            repeat (first | go_big_quiet_skip | (go_big_quiet_want; go_big_quiet_op; go_big_quiet_on))
            refine wpQuiet_nil ?_
            go_wp2_with fail
            refine HC.out.mono ?_
            rintro e w4 ⟨rfl, hb4⟩
            go_wp2_with fail
            repeat (first | go_big_quiet_skip | (go_big_quiet_want; go_big_quiet_op; go_big_quiet_on))
            refine wpQuiet_nil ?_
            have hF4 : Fm base w w4 := HF1.out.trans (HF3.out.trans ((Fm.dn base w3 1).trans (Fm.of hb4 HM3.out.blt)))
            have hb34 : Below w3.heap.size w3 w4 := (show Below w3.heap.size w3 w3.drew from ⟨rfl, rfl, rfl, Nat.le_refl _, fun _ _ => rfl⟩).trans hb4
            have hk4 : Blk w4 w2.heap.size 82 [.int .i64 0, .int .i64 a2] := Blk.below' HK3.out hb34
            have hr4 : Blk w4 w.heap.size 82 [.int .i64 0, .int .i64 0] := Blk.below' HR3.out hb34
            have hm4 : Mach w4 base m hd (ss, ts) := ⟨_, _, _, _, HM3.out.ext hb34⟩
            have x0 := hk4.cell (i := 0) rfl
            have x1 := hk4.cell (i := 1) rfl
            have r0 := hr4.cell (i := 0) rfl
            have r1 := hr4.cell (i := 1) rfl
            have f0 := hr4.frozen 0
            have f1 := hr4.frozen 1
            have HF4 := Lib.hid hF4; have HR4 := Lib.hid hr4; have HM4 := Lib.hid hm4
            clear hF4 hk4 hr4 hm4 HC HM3 HF3 HK3 HR3 HT3 HG3 HE3 HM3D HT3D HG3D HE3D
            go_wp2_with fail
            have hk2 := (HR4.out.set_ 0 (.int .i64 0)).set_ 1 (.int .i64 a2)
            have hk1 := HR4.out.set_ 0 (.int .i64 0)
            refine bodyPost_ret (results_cell_tmp_row rfl _ _ w.heap.size _ #[.int .i64 0, .int .i64 a2] _ _ rfl hk2 Tryd.underlying82 rfl (by kernel_rfl)) rfl ?_
            have hfz : Fm base w ((w4.setCell ⟨w.heap.size, 0, none⟩ (.int .i64 0)).setCell ⟨w.heap.size, 1, none⟩ (.int .i64 a2)) := (HF4.out.set_ (p := ⟨w.heap.size, 0, none⟩) (cs := #[]) (fr := (0, 0)) hbase (.inl (Nat.le_refl _)) _).set_ (p := ⟨w.heap.size, 1, none⟩) (cs := #[]) (fr := (0, 0)) hbase (.inl (Nat.le_refl _)) _
            rw [HRK.out]
            exact ⟨⟨_, _, rfl⟩, hfz⟩
      by_cases q1 : a1 = 1
      · as_aux_lemma =>
          subst q1
          have HC := Lib.hid (shift_any (.pointer (some ⟨m, 0, none⟩)) 1 a2 w3.drew)
          have HRK : Hid (R = .ok ((ss, ts), a2)) := Lib.hid (by rw [← HRk.out]; exact settle_shift HA.out)
          by_cases hk9 : k = 10000
          rotate_left
          all_goals
            go_wp2_with fail
            rw [← hw3]
            clear hw3
            refine wp_region_mid 9 (by kernel_rfl) (by kernel_rfl) ?_
            simp only [List.take_succ_cons, List.take_zero, List.drop_succ_cons, List.drop_zero]
            refine wpStill_of_quiet _ _ ?_
            repeat (first | go_big_quiet_skip | (go_big_quiet_want; go_big_quiet_op; go_big_quiet_on))
            refine wpQuiet_nil ?_
            go_wp2_with fail
            refine HC.out.mono ?_
            rintro e w4 ⟨rfl, hb4⟩
            go_wp2_with fail
            repeat (first | go_big_quiet_skip | (go_big_quiet_want; go_big_quiet_op; go_big_quiet_on))
            refine wpQuiet_nil ?_
            have hF4 : Fm base w w4 := HF1.out.trans (HF3.out.trans ((Fm.dn base w3 1).trans (Fm.of hb4 HM3.out.blt)))
            have hb34 : Below w3.heap.size w3 w4 := (show Below w3.heap.size w3 w3.drew from ⟨rfl, rfl, rfl, Nat.le_refl _, fun _ _ => rfl⟩).trans hb4
            have hk4 : Blk w4 w2.heap.size 82 [.int .i64 1, .int .i64 a2] := Blk.below' HK3.out hb34
            have hr4 : Blk w4 w.heap.size 82 [.int .i64 0, .int .i64 0] := Blk.below' HR3.out hb34
            have hm4 : Mach w4 base m hd (ss, ts) := ⟨_, _, _, _, HM3.out.ext hb34⟩
            have x0 := hk4.cell (i := 0) rfl
            have x1 := hk4.cell (i := 1) rfl
            have r0 := hr4.cell (i := 0) rfl
            have r1 := hr4.cell (i := 1) rfl
            have f0 := hr4.frozen 0
            have f1 := hr4.frozen 1
            have HF4 := Lib.hid hF4; have HR4 := Lib.hid hr4; have HM4 := Lib.hid hm4
            clear hF4 hk4 hr4 hm4 HC HM3 HF3 HK3 HR3 HT3 HG3 HE3 HM3D HT3D HG3D HE3D
            go_wp2_with fail
            have hk2 := (HR4.out.set_ 0 (.int .i64 1)).set_ 1 (.int .i64 a2)
            have hk1 := HR4.out.set_ 0 (.int .i64 1)
            refine bodyPost_ret (results_cell_tmp_row rfl _ _ w.heap.size _ #[.int .i64 1, .int .i64 a2] _ _ rfl hk2 Tryd.underlying82 rfl (by kernel_rfl)) rfl ?_
            have hfz : Fm base w ((w4.setCell ⟨w.heap.size, 0, none⟩ (.int .i64 1)).setCell ⟨w.heap.size, 1, none⟩ (.int .i64 a2)) := (HF4.out.set_ (p := ⟨w.heap.size, 0, none⟩) (cs := #[]) (fr := (0, 0)) hbase (.inl (Nat.le_refl _)) _).set_ (p := ⟨w.heap.size, 1, none⟩) (cs := #[]) (fr := (0, 0)) hbase (.inl (Nat.le_refl _)) _
            rw [HRK.out]
            exact ⟨⟨_, rfl, (HM4.out.far (p := ⟨w.heap.size, 0, none⟩) HR4.out (by decide) (by decide) (by decide) (by decide) _).far (p := ⟨w.heap.size, 1, none⟩) hk1 (by decide) (by decide) (by decide) (by decide) _⟩, hfz⟩
      by_cases q3 : a1 = 3
      · as_aux_lemma =>
          subst q3
          have hacc := accept_any G Ap Al As np cp nl cl ns cs T (.slice Aa na ca) (.slice Ag ng cg) tc w3.drew B base m sv tv ss ts vs U (by rw [← HHD.out]; exact HM3D.out) hB3 HG3D.out HSk.out E HE3D.out 3 a2
          by_cases hac : accP G (ss, ts)
          · as_aux_lemma =>
              have HC : Hid (Calls Tryd.prog 57 #[.pointer (some ⟨m, 0, none⟩), .agg #[.int .i64 3, .int .i64 a2]] w3.drew fun e w' => e = .returned (.tuple #[.bool true, .nilIface]) ∧ Below w3.drew.heap.size w3.drew w') := Lib.hid (hacc.mono fun e w' h => ⟨by
                rcases h.1 with q | q
                · exact q.2
                · exact absurd hac q.1, h.2⟩)
              clear hacc
              have HRK : Hid (R = .ok ((ss, ts), a2)) := Lib.hid (by rw [← HRk.out]; exact settle_acc HA.out hac)
              by_cases hk9 : k = 10000
              rotate_left
              all_goals
                go_wp2_with fail
                rw [← hw3]
                clear hw3
                refine wp_region_mid 9 (by kernel_rfl) (by kernel_rfl) ?_
                simp only [List.take_succ_cons, List.take_zero, List.drop_succ_cons, List.drop_zero]
                refine wpStill_of_quiet _ _ ?_
                repeat (first | go_big_quiet_skip | (go_big_quiet_want; go_big_quiet_op; go_big_quiet_on))
                refine wpQuiet_nil ?_
                go_wp2_with fail
                refine HC.out.mono ?_
                rintro e w4 ⟨rfl, hb4⟩
                go_wp2_with fail
                repeat (first | go_big_quiet_skip | (go_big_quiet_want; go_big_quiet_op; go_big_quiet_on))
                refine wpQuiet_nil ?_
                have hF4 : Fm base w w4 := HF1.out.trans (HF3.out.trans ((Fm.dn base w3 1).trans (Fm.of hb4 HM3.out.blt)))
                have hb34 : Below w3.heap.size w3 w4 := (show Below w3.heap.size w3 w3.drew from ⟨rfl, rfl, rfl, Nat.le_refl _, fun _ _ => rfl⟩).trans hb4
                have hk4 : Blk w4 w2.heap.size 82 [.int .i64 3, .int .i64 a2] := Blk.below' HK3.out hb34
                have hr4 : Blk w4 w.heap.size 82 [.int .i64 0, .int .i64 0] := Blk.below' HR3.out hb34
                have hm4 : Mach w4 base m hd (ss, ts) := ⟨_, _, _, _, HM3.out.ext hb34⟩
                have x0 := hk4.cell (i := 0) rfl
                have x1 := hk4.cell (i := 1) rfl
                have r0 := hr4.cell (i := 0) rfl
                have r1 := hr4.cell (i := 1) rfl
                have f0 := hr4.frozen 0
                have f1 := hr4.frozen 1
                have HF4 := Lib.hid hF4; have HR4 := Lib.hid hr4; have HM4 := Lib.hid hm4
                clear hF4 hk4 hr4 hm4 HC HM3 HF3 HK3 HR3 HT3 HG3 HE3 HM3D HT3D HG3D HE3D
                go_wp2_with fail
                have hk2 := (HR4.out.set_ 0 (.int .i64 3)).set_ 1 (.int .i64 a2)
                have hk1 := HR4.out.set_ 0 (.int .i64 3)
                refine bodyPost_ret (results_cell_tmp_row rfl _ _ w.heap.size _ #[.int .i64 3, .int .i64 a2] _ _ rfl hk2 Tryd.underlying82 rfl (by kernel_rfl)) rfl ?_
                have hfz : Fm base w ((w4.setCell ⟨w.heap.size, 0, none⟩ (.int .i64 3)).setCell ⟨w.heap.size, 1, none⟩ (.int .i64 a2)) := (HF4.out.set_ (p := ⟨w.heap.size, 0, none⟩) (cs := #[]) (fr := (0, 0)) hbase (.inl (Nat.le_refl _)) _).set_ (p := ⟨w.heap.size, 1, none⟩) (cs := #[]) (fr := (0, 0)) hbase (.inl (Nat.le_refl _)) _
                rw [HRK.out]
                exact ⟨⟨_, rfl, (HM4.out.far (p := ⟨w.heap.size, 0, none⟩) HR4.out (by decide) (by decide) (by decide) (by decide) _).far (p := ⟨w.heap.size, 1, none⟩) hk1 (by decide) (by decide) (by decide) (by decide) _⟩, hfz⟩
          · as_aux_lemma =>
              have HC : Hid (Calls Tryd.prog 57 #[.pointer (some ⟨m, 0, none⟩), .agg #[.int .i64 3, .int .i64 a2]] w3.drew fun e w' => e = .returned (.tuple #[.bool true, ew (E 2)]) ∧ Below w3.drew.heap.size w3.drew w') := Lib.hid (hacc.mono fun e w' h => ⟨by
                rcases h.1 with q | q
                · exact absurd q.1 hac
                · exact q.2, h.2⟩)
              clear hacc
              have HRK : Hid (R = .error 2) := Lib.hid (by rw [← HRk.out]; exact settle_nacc HA.out hac)
              by_cases hk9 : k = 10000
              rotate_left
              all_goals
                go_wp2_with fail
                rw [← hw3]
                clear hw3
                refine wp_region_mid 9 (by kernel_rfl) (by kernel_rfl) ?_
                simp only [List.take_succ_cons, List.take_zero, List.drop_succ_cons, List.drop_zero]
                refine wpStill_of_quiet _ _ ?_
                repeat (first | go_big_quiet_skip | (go_big_quiet_want; go_big_quiet_op; go_big_quiet_on))
                refine wpQuiet_nil ?_
                go_wp2_with fail
                refine HC.out.mono ?_
                rintro e w4 ⟨rfl, hb4⟩
                go_wp2_with fail
                repeat (first | go_big_quiet_skip | (go_big_quiet_want; go_big_quiet_op; go_big_quiet_on))
                refine wpQuiet_nil ?_
                have hF4 : Fm base w w4 := HF1.out.trans (HF3.out.trans ((Fm.dn base w3 1).trans (Fm.of hb4 HM3.out.blt)))
                have hb34 : Below w3.heap.size w3 w4 := (show Below w3.heap.size w3 w3.drew from ⟨rfl, rfl, rfl, Nat.le_refl _, fun _ _ => rfl⟩).trans hb4
                have hk4 : Blk w4 w2.heap.size 82 [.int .i64 3, .int .i64 a2] := Blk.below' HK3.out hb34
                have hr4 : Blk w4 w.heap.size 82 [.int .i64 0, .int .i64 0] := Blk.below' HR3.out hb34
                have hm4 : Mach w4 base m hd (ss, ts) := ⟨_, _, _, _, HM3.out.ext hb34⟩
                have x0 := hk4.cell (i := 0) rfl
                have x1 := hk4.cell (i := 1) rfl
                have r0 := hr4.cell (i := 0) rfl
                have r1 := hr4.cell (i := 1) rfl
                have f0 := hr4.frozen 0
                have f1 := hr4.frozen 1
                have HF4 := Lib.hid hF4; have HR4 := Lib.hid hr4; have HM4 := Lib.hid hm4
                clear hF4 hk4 hr4 hm4 HC HM3 HF3 HK3 HR3 HT3 HG3 HE3 HM3D HT3D HG3D HE3D
                go_wp2_with fail
                have hk2 := (HR4.out.set_ 0 (.int .i64 3)).set_ 1 (.int .i64 a2)
                have hk1 := HR4.out.set_ 0 (.int .i64 3)
                refine bodyPost_ret (results_cell_tmp_row rfl _ _ w.heap.size _ #[.int .i64 3, .int .i64 a2] _ _ rfl hk2 Tryd.underlying82 rfl (by kernel_rfl)) rfl ?_
                have hfz : Fm base w ((w4.setCell ⟨w.heap.size, 0, none⟩ (.int .i64 3)).setCell ⟨w.heap.size, 1, none⟩ (.int .i64 a2)) := (HF4.out.set_ (p := ⟨w.heap.size, 0, none⟩) (cs := #[]) (fr := (0, 0)) hbase (.inl (Nat.le_refl _)) _).set_ (p := ⟨w.heap.size, 1, none⟩) (cs := #[]) (fr := (0, 0)) hbase (.inl (Nat.le_refl _)) _
                rw [HRK.out]
                exact ⟨⟨_, _, rfl⟩, hfz⟩
      obtain ⟨q2, a20, a2n⟩ : a1 = 2 ∧ 0 ≤ a2 ∧ a2 < G.prods.length := by
        rcases HFIT.out with q | q | q | q
        · exact absurd q.1 q0
        · exact absurd q.1 q3
        · exact absurd q.1 q1
        · exact q
      subst q2
      by_cases hk9 : k = 10000
      · as_aux_lemma =>
          subst hk9
          have HRK : Hid (R = .error 1) := Lib.hid (by rw [← HRk.out]; exact settle_bound HA.out)
          have r0 := HR3.out.cell (i := 0) rfl
          have r1 := HR3.out.cell (i := 1) rfl
          have f0 := HR3.out.frozen 0
          have f1 := HR3.out.frozen 1
          have zE := HE3.out.g 1 (by omega)
          unfold evar at zE
          have hg1 : 1 < w.heap.size := by have : 1 < B := HE.out.gl 1 (by omega); omega
          have hg2 : 1 ≠ w.heap.size := by omega
          have hg3 : w.heap.size ≠ 1 := by omega
          go_wp2_with fail
          rw [← hw3]
          clear hw3
          go_region
          go_wp2_with fail
          obtain ⟨w4, hw4⟩ : ∃ w4, w4 = w3.drew := ⟨_, rfl⟩
          have hk2 : Blk (((w3.setCell ⟨w.heap.size, 0, none⟩ (.int .i64 2)).setCell ⟨w.heap.size, 1, none⟩ (.int .i64 a2)).drew) w.heap.size 82 [.int .i64 2, .int .i64 a2] := (HR3.out.set_ 0 (.int .i64 2)).set_ 1 (.int .i64 a2)
          refine bodyPost_ret (results_cell_tmp_row rfl _ _ w.heap.size _ #[.int .i64 2, .int .i64 a2] _ _ rfl hk2 Tryd.underlying82 rfl (by kernel_rfl)) rfl ?_
          have hfz : Fm base w ((w3.setCell ⟨w.heap.size, 0, none⟩ (.int .i64 2)).setCell ⟨w.heap.size, 1, none⟩ (.int .i64 a2)) := ((HF1.out.trans HF3.out).set_ (p := ⟨w.heap.size, 0, none⟩) (cs := #[]) (fr := (0, 0)) hbase (.inl (Nat.le_refl _)) _).set_ (p := ⟨w.heap.size, 1, none⟩) (cs := #[]) (fr := (0, 0)) hbase (.inl (Nat.le_refl _)) _
          rw [HRK.out]
          exact ⟨⟨_, _, rfl⟩, hfz.trans (Fm.dn _ _ 1)⟩
      have hlen2 : ts.length ≤ 100000000 := by have h1 := HLk.out; have h2 := HL.out; omega
      have hred := reduce_any G Ap Al As np cp nl cl ns cs T Aa na ca Ag ng cg tc w3.drew B base m sv tv ss ts vs U (by rw [← HHD.out]; exact HM3D.out) hB3 hBb HG3D.out HT3D.out HTF.out HSk.out hlen2 E HE3D.out a2 a20 a2n
      rw [← HHD.out] at hred
      have hsr := settle_red (G := G) (T := T) (f := 10000 - (k + 1)) HA.out
      rw [show 10000 - (k + 1) + 1 = 10000 - k by omega, HRk.out] at hsr
      have HHK := Lib.hid hk9
      clear hk9
      have hk9 : ((k : Int) == 10000) = false := by have := HHK.out; simp; omega
      cases hro : redP G T (ss, ts) a2 with
      | none =>
        as_aux_lemma =>
          rw [hro] at hred hsr
          have HC : Hid (Calls Tryd.prog 56 #[.pointer (some ⟨m, 0, none⟩), .agg #[.int .i64 2, .int .i64 a2]] w3.drew fun e w' => e = .returned (.tuple #[.bool true, ew (E 2)]) ∧ Fm base w3.drew w') := Lib.hid (hred.mono fun e w' h => h)
          have HRK : Hid (R = .error 2) := Lib.hid hsr
          clear hred hsr hro
          go_wp2_with fail
          rw [← hw3]
          clear hw3
          refine wp_region_mid 9 (by kernel_rfl) (by kernel_rfl) ?_
          simp only [List.take_succ_cons, List.take_zero, List.drop_succ_cons, List.drop_zero]
          refine wpStill_of_quiet _ _ ?_
          repeat (first | go_big_quiet_skip | (go_big_quiet_want; go_big_quiet_op; go_big_quiet_on))
          refine wpQuiet_nil ?_
          go_wp2_with fail
          refine HC.out.mono ?_
          rintro e w4 ⟨rfl, hb4⟩
          go_wp2_with fail
          repeat (first | go_big_quiet_skip | (go_big_quiet_want; go_big_quiet_op; go_big_quiet_on))
          refine wpQuiet_nil ?_
          have hF4 : Fm base w w4 := HF1.out.trans (HF3.out.trans ((Fm.dn base w3 1).trans hb4))
          have hk4 : Blk w4 w2.heap.size 82 [.int .i64 2, .int .i64 a2] := hb4.blk (w := w3.drew) HK3.out (by decide) (by decide) (by decide)
          have hr4 : Blk w4 w.heap.size 82 [.int .i64 0, .int .i64 0] := hb4.blk (w := w3.drew) HR3.out (by decide) (by decide) (by decide)
          have hm4 : True := trivial
          have x0 := hk4.cell (i := 0) rfl
          have x1 := hk4.cell (i := 1) rfl
          have r0 := hr4.cell (i := 0) rfl
          have r1 := hr4.cell (i := 1) rfl
          have f0 := hr4.frozen 0
          have f1 := hr4.frozen 1
          have HF4 := Lib.hid hF4; have HR4 := Lib.hid hr4; have HM4 := Lib.hid hm4
          clear hF4 hk4 hr4 hm4 HC HM3 HF3 HK3 HR3 HT3 HG3 HE3 HM3D HT3D HG3D HE3D
          go_wp2_with fail
          have hk2 := (HR4.out.set_ 0 (.int .i64 2)).set_ 1 (.int .i64 a2)
          have hk1 := HR4.out.set_ 0 (.int .i64 2)
          refine bodyPost_ret (results_cell_tmp_row rfl _ _ w.heap.size _ #[.int .i64 2, .int .i64 a2] _ _ rfl hk2 Tryd.underlying82 rfl (by kernel_rfl)) rfl ?_
          have hfz : Fm base w ((w4.setCell ⟨w.heap.size, 0, none⟩ (.int .i64 2)).setCell ⟨w.heap.size, 1, none⟩ (.int .i64 a2)) := (HF4.out.set_ (p := ⟨w.heap.size, 0, none⟩) (cs := #[]) (fr := (0, 0)) hbase (.inl (Nat.le_refl _)) _).set_ (p := ⟨w.heap.size, 1, none⟩) (cs := #[]) (fr := (0, 0)) hbase (.inl (Nat.le_refl _)) _
          rw [HRK.out]
          exact ⟨⟨_, _, rfl⟩, hfz⟩
      | some st2 =>
        as_aux_lemma =>
          rw [hro] at hred hsr
          have HC : Hid (Calls Tryd.prog 56 #[.pointer (some ⟨m, 0, none⟩), .agg #[.int .i64 2, .int .i64 a2]] w3.drew fun e w' => e = .returned (.tuple #[.bool false, .nilIface]) ∧ Mach w' base m hd st2 ∧ Fm base w3.drew w') := Lib.hid (hred.mono fun e w' h => ⟨h.1.1, h.1.2, h.2⟩)
          have HRK : Hid (settleP G T term (10000 - (k + 1)) st2 = R) := Lib.hid hsr.symm
          have HST : Hid (StOk G T st2) := Lib.hid (HSk.out.red HTF.out a20 a2n hro)
          have HLN : Hid (st2.2.length ≤ st.2.length + (k + 1)) := Lib.hid (by have h1 := red_len hro; have h2 := HLk.out; simp only at h1; omega)
          clear hred hsr hro
          go_wp2_with fail
          rw [← hw3]
          clear hw3
          refine wp_region_mid 9 (by kernel_rfl) (by kernel_rfl) ?_
          simp only [List.take_succ_cons, List.take_zero, List.drop_succ_cons, List.drop_zero]
          refine wpStill_of_quiet _ _ ?_
          repeat (first | go_big_quiet_skip | (go_big_quiet_want; go_big_quiet_op; go_big_quiet_on))
          refine wpQuiet_nil ?_
          go_wp2_with fail
          refine HC.out.mono ?_
          rintro e w4 ⟨rfl, hm4, hb4⟩
          go_wp2_with fail
          repeat (first | go_big_quiet_skip | (go_big_quiet_want; go_big_quiet_op; go_big_quiet_on))
          refine wpQuiet_nil ?_
          have HM4 := Lib.hid hm4
          have HF4 : Hid (Fm base w1 w4) := Lib.hid (HF3.out.trans ((Fm.dn base w3 1).trans hb4))
          clear hm4 hb4 HC HM3 HF3 HK3 HR3 HT3 HG3 HE3 HM3D HT3D HG3D HE3D
          go_wp2_with fail
          go_roundw
          case rel => exact ⟨k + 1, st2, by have := HHK.out; omega, by go_num, HRK, HST, HM4, HLN, HF4⟩
          case measure => have := HHK.out; simp [intOf]; omega
end Go.Proofs.YtinejiodnnjpgaaDoor
