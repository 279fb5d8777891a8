/- A region that draws its order, walked by steps: what only answers a value is taken in the order of the text; of what makes or writes memory each that may come. · The document's read. -/
import Derived.Test.YtinejiodnnjpgaaDoorQ11
import Derived.Test.YtinejiodnnjpgaaDoorQ21
import Derived.Test.YtinejiodnnjpgaaDoorQ22
namespace Go.Proofs.YtinejiodnnjpgaaDoor
open Go
set_option linter.unusedVariables false
set_option linter.unusedSimpArgs false

section
variable {P : Program} {ops : Array Oper} {md : Region.Mode} {Q : Exit → Act → World → Prop} {S : World → Prop}
/-- Whatever comes up leaves S. -/
def wpAnyS (P : Program) (md : Region.Mode) (ops : Array Oper) (Q : Exit → Act → World → Prop) (S : World → Prop) : Nat → Array Bool → Act → World → Prop
  | 0, listed, a, w => Region.ready md ops listed = [] ∧ Q .normal a w
  | f + 1, listed, a, w => Region.ready md ops listed ≠ [] ∧ ∀ i ∈ Region.ready md ops listed, wpOp P ops Q i (fun a' w' => S w' ∧ wpAnyS P md ops Q S f (listed.setIfInBounds i true) a' w') a w
theorem wpAny_of_S : ∀ (f : Nat) (listed : Array Bool) (a : Act) (w : World), wpAnyS P md ops Q S f listed a w → wpAny P md ops Q f listed a w
  | 0, listed, a, w, h => h
  | f + 1, listed, a, w, h => ⟨fun h0 => absurd h0 h.1, fun i hi => wpOp_mono (fun a' w' h' => wpAny_of_S f _ a' w' h'.2) (h.2 i hi)⟩
theorem firstS {i : Nat} {oi : Oper} {v : Value} (hi : ops[i]? = some oi) (hsel : ∀ (j : Nat) (o : Oper) cs b, ops[j]? = some o → o.op ≠ .select cs b)
    (hQ : ∀ c a d v w, Q (.panic c) (a.put d v) w → Q (.panic c) a w) :
    ∀ (f : Nat) (listed : Array Bool) (a : Act) (w : World),
      (∀ j oj, ops[j]? = some oj → j ≠ i → listed.getD j true = false → (∀ e ∈ oj.after, Region.binds md e = true → e.on ≠ i) → oi.apart ops oj = true) →
      i ∈ Region.ready md ops listed → YieldsIf P ops S oi v a → S w →
      wpAnyS P md ops Q S f (listed.setIfInBounds i true) (a.put oi.dst v) w → wpAnyS P md ops Q S (f + 1) listed a w := by
  intro f
  induction f with
  | zero =>
    intro listed a w _ hr hy hS H
    refine ⟨fun h => (by rw [h] at hr; cases hr), fun j hj => ?_⟩
    by_cases hji : j = i
    · subst hji; exact hy.wpOp hi hS ⟨hS, H⟩
    · have := ready_mono hj hji
      rw [H.1] at this
      cases this
  | succ f ih =>
    intro listed a w hfree hr hy hS H
    have hun := (mem_ready.1 hr).1
    refine ⟨fun h => (by rw [h] at hr; cases hr), fun j hj => ?_⟩
    by_cases hji : j = i
    · subst hji; exact hy.wpOp hi hS ⟨hS, H⟩
    · obtain ⟨hjun, oj, hoj, hall⟩ := mem_ready.1 hj
      have hno : ∀ e ∈ oj.after, Region.binds md e = true → e.on ≠ i := fun e he hb q => by
        have := hall e he hb
        rw [q, getD_both hun] at this
        cases this
      have h2 := wpOp_putIf hoj (hfree j oj hoj hji hjun hno) (fun cs b => hsel i oi cs b hi) (fun cs b => hsel j oj cs b hoj) (fun c a w q => hQ c a _ _ w q) hy (H.2 j (ready_mono hj hji))
      refine wpOp_mono (fun a' w' h3 => ⟨h3.2.1, ih (listed.setIfInBounds j true) a' w' (fun k ok hk hki hku hkn => hfree k ok hk hki ?_ hkn) (ready_mono hr (Ne.symm hji)) h3.1 h3.2.1 ?_⟩) h2
      · by_cases q : j = k
        · subst q; exact hjun
        · rw [getD_set_ne true q] at hku; exact hku
      · rw [Array.setIfInBounds_comm _ _ hji]; exact h3.2.2
/-- The operations from k on, f of them, only answer values, and may be taken now. -/
def lexS (md : Region.Mode) (ops : Array Oper) : Nat → Nat → Array Bool → Bool
  | 0, _, _ => true
  | f + 1, k, listed => (Region.ready md ops listed).contains k && Region.free md ops listed k && lexS md ops f (k + 1) (listed.setIfInBounds k true)
def setsB : Nat → Nat → Array Bool → Array Bool
  | 0, _, listed => listed
  | f + 1, k, listed => setsB f (k + 1) (listed.setIfInBounds k true)
theorem batchS {K : Act → Prop} {w : World} {g : Nat} (hsel : Region.noSelect ops = true) (hQ : ∀ c a d v w, Q (.panic c) (a.put d v) w → Q (.panic c) a w) (hS : S w) :
    ∀ (l : List Oper) (k : Nat) (listed : Array Bool) (a : Act), (∀ j, j < l.length → l[j]? = ops[k + j]?) → lexS md ops l.length k listed = true → l.all readB = true →
    (∀ a', K a' → wpAnyS P md ops Q S g (setsB l.length k listed) a' w) → wpQuiet P ops S K l a → wpAnyS P md ops Q S (g + l.length) listed a w
  | [], k, listed, a, _, _, _, hK, h => hK a h
  | o :: l, k, listed, a, hl, hB, hR, hK, h => by
    have h0 : ops[k]? = some o := by simpa using (hl 0 (by simp)).symm
    simp only [List.length_cons, lexS, Bool.and_eq_true] at hB
    simp only [List.all_cons, Bool.and_eq_true] at hR
    obtain ⟨⟨hr, hf⟩, hB2⟩ := hB
    have hr2 : k ∈ Region.ready md ops listed := by simpa using hr
    have key : ∀ (v : Value), YieldsIf P ops S o v a → wpQuiet P ops S K l (a.put o.dst v) → wpAnyS P md ops Q S (g + (l.length + 1)) listed a w := fun v hy h2 =>
      firstS h0 (Region.noSelect_spec hsel) hQ (g + l.length) listed a w (Region.free_spec h0 hf) hr2 hy hS
        (batchS hsel hQ hS l (k + 1) _ _ (fun j hj => by have := hl (j + 1) (by simp; omega); simpa [Nat.add_assoc, Nat.add_comm 1 j] using this) hB2 hR.2 hK h2)
    unfold wpQuiet at h
    split at h
    · rename_i hw
      obtain ⟨v, h1, h2⟩ := h
      exact key v (yieldsIf_of_quiet hR.1 hw h1) h2
    · rename_i hw
      exact key undef (.inr ⟨by simpa using hw, rfl⟩) h
/-- The region. -/
theorem wp_region_S {id : Nat} {a : Act} {w : World} {l : List Oper} (S : World → Prop) (hm : P.follows .mixedOrders = true) (h : wpAnyS P .any l.toArray Q S l.toArray.size (Array.replicate l.toArray.size false) a w.drew) : (Code.region id l.toArray true).wp P Q a w :=
  wp_region_any hm (wpAny_of_S _ _ _ _ h)
/-- The operations from k on, n of them, that only answer values. -/
theorem takeS {w : World} {l : List Oper} {a : Act} {listed : Array Bool} (g k n : Nat) (hB : (Region.noSelect l.toArray && lexS md l.toArray n k listed && decide (k + n ≤ l.length)) = true) (hR : ((l.drop k).take n).all readB = true)
    (hQ : ∀ c a d v w, Q (.panic c) (a.put d v) w → Q (.panic c) a w) (hS : S w) (h : wpQuiet P l.toArray S (fun a' => wpAnyS P md l.toArray Q S g (setsB n k listed) a' w) ((l.drop k).take n) a) : wpAnyS P md l.toArray Q S (g + n) listed a w := by
  simp only [Bool.and_eq_true, decide_eq_true_eq] at hB
  obtain ⟨⟨hsel, hlex⟩, hkn⟩ := hB
  have hlen : ((l.drop k).take n).length = n := by simp; omega
  have := batchS (md := md) (g := g) hsel hQ hS ((l.drop k).take n) k listed a (fun j hj => by
    rw [hlen] at hj
    simp [List.getElem?_take, hj]) (by rw [hlen]; exact hlex) hR (fun a' ha => by rw [hlen]; exact ha) h
  rwa [hlen] at this
/-- One operation alone may come. -/
theorem oneS {w : World} {l : List Oper} {a : Act} {listed : Array Bool} (f i : Nat) (hB : decide (Region.ready md l.toArray listed = [i]) = true) (hi : i < l.length)
    (h : wpList P l.toArray (Exit.then (fun a' w' => S w' ∧ wpAnyS P md l.toArray Q S f (listed.setIfInBounds i true) a' w') Q) ((l.drop i).take 1) a w) : wpAnyS P md l.toArray Q S (f + 1) listed a w := by
  have hr := of_decide_eq_true hB
  refine ⟨by rw [hr]; simp, fun j hj => ?_⟩
  rw [hr, List.mem_singleton] at hj
  subst hj
  have hop : l.toArray[j]? = some (l[j]'hi) := by simp
  refine wpOp_of_list hop ?_
  have h1 : (l.drop j).take 1 = [l[j]'hi] := by rw [List.drop_eq_getElem_cons hi]; rfl
  rw [← h1]
  exact h
/-- One of two may come. -/
theorem twoS {w : World} {l : List Oper} {a : Act} {listed : Array Bool} (f i j : Nat) (hB : decide (Region.ready md l.toArray listed = [i, j]) = true) (hi : i < l.length) (hj : j < l.length)
    (h : wpList P l.toArray (Exit.then (fun a' w' => S w' ∧ wpAnyS P md l.toArray Q S f (listed.setIfInBounds i true) a' w') Q) ((l.drop i).take 1) a w)
    (h' : wpList P l.toArray (Exit.then (fun a' w' => S w' ∧ wpAnyS P md l.toArray Q S f (listed.setIfInBounds j true) a' w') Q) ((l.drop j).take 1) a w) : wpAnyS P md l.toArray Q S (f + 1) listed a w := by
  have hr := of_decide_eq_true hB
  refine ⟨by rw [hr]; simp, fun k hk => ?_⟩
  rw [hr] at hk
  simp only [List.mem_cons, List.not_mem_nil, or_false] at hk
  rcases hk with rfl | rfl
  · have hop : l.toArray[k]? = some (l[k]'hi) := by simp
    refine wpOp_of_list hop ?_
    have h1 : (l.drop k).take 1 = [l[k]'hi] := by rw [List.drop_eq_getElem_cons hi]; rfl
    rw [← h1]
    exact h
  · have hop : l.toArray[k]? = some (l[k]'hj) := by simp
    refine wpOp_of_list hop ?_
    have h1 : (l.drop k).take 1 = [l[k]'hj] := by rw [List.drop_eq_getElem_cons hj]; rfl
    rw [← h1]
    exact h'
/-- None is left. -/
theorem endS {w : World} {a : Act} {listed : Array Bool} (hB : decide (Region.ready md ops listed = []) = true) (h : Q .normal a w) : wpAnyS P md ops Q S 0 listed a w := ⟨of_decide_eq_true hB, h⟩
end
end Go.Proofs.YtinejiodnnjpgaaDoor
namespace Go.Proofs.YtinejiodnnjpgaaDoor
open Go.RowKit BigFrame
set_option linter.unusedVariables false
set_option linter.unusedSimpArgs false
set_option maxRecDepth 100000

/-- What the document's read answers. -/
def RdEnd (w : World) (E : Nat → Addr) (r : Except (Nat × Nat) St) (e : Ending) (w' : World) : Prop :=
  (match r with
    | .error (c, i) => ∃ A n c1 A2 n2 c2, e = .returned (.tuple #[.agg #[.slice A n c1, .slice A2 n2 c2], ew (E c), .int .i64 (i : Int)])
    | .ok st' => ∃ A n c1 A2 n2 c2, e = .returned (.tuple #[.agg #[.slice A n c1, .slice A2 n2 c2], .nilIface, .int .i64 0]) ∧ StI w' w.heap.size (.agg #[.slice A n c1, .slice A2 n2 c2]) st') ∧ Below w.heap.size w w'
/-- A leaf laid anew. -/
theorem StV.leaf {w : World} {base : Nat} {sv tv : Value} {ss : List Int} {ts : List Tr} {vs : List Value} {U : Nat → Prop} (h : StV w base sv tv ss ts vs U) (i : Nat) :
    ∃ U', StV (w.alloc (.cells #[.int .i64 (-1), .int .i64 (i : Int), .slice none 0 0] 68)) base sv tv ss ts vs U' ∧ TrIn (w.alloc (.cells #[.int .i64 (-1), .int .i64 (i : Int), .slice none 0 0] 68)) U' (.pointer (some ⟨w.heap.size, 0, none⟩)) (.node (-1) i []) := by
  have hb : Below w.heap.size w (w.alloc (.cells #[.int .i64 (-1), .int .i64 (i : Int), .slice none 0 0] 68)) := (Below.refl _ _).alloc (Nat.le_refl _) _
  have hk : Blk (w.alloc (.cells #[.int .i64 (-1), .int .i64 (i : Int), .slice none 0 0] 68)) w.heap.size 68 [.int .i64 (-1), .int .i64 (i : Int), .slice none 0 0] := Blk.new w 68 [.int .i64 (-1), .int .i64 (i : Int), .slice none 0 0]
  have h2 := h.ext hb
  refine ⟨fun b => U b ∨ b = w.heap.size, h2.more (fun b q => ?_) (fun b q => .inl q), node_mk (base' := 0) (us := []) (S := U) hk (World.ownsRow_nil _ _ _ _) (fun i t ht => by simp at ht) (fun b q => ?_)⟩
  · rcases q with q | rfl
    · exact .inl q
    · refine .inr ⟨⟨hk.lt, fun e => ?_, fun e => ?_⟩, ⟨_, _, _, hk, .inl rfl⟩⟩
      · have := (h.s.lt _ e).2; omega
      · have := (h.t.lt _ e).2; omega
  · rcases q with q | q | q
    · exact .inl q
    · exact .inr q
    · cases q

set_option maxHeartbeats 4000000 in
theorem rread_any (G : Gr) (Ap Al As : Option Addr) (np cp nl cl ns cs : Nat) (T : Tb) (Aa : Option Addr) (na ca : Nat) (Ag : Option Addr) (ng cg : Nat) (tc : Value) (A2 : Option Addr) (n2 c2 : Nat) (l : List Int) (hl : l.length = n2) (w : World) (B : Nat) (hB : B ≤ w.heap.size) (hG : GrIn w B G Ap Al As np cp nl cl ns cs) (hT : TbIn w B T Aa na ca Ag ng cg) (hI : RdI w B A2 l) (h12 : n2 ≤ 12) (hf : TFits G T) (E : Nat → Addr) (hE : ErW w B E) :
    Calls Tryd.prog 41 #[.agg #[.int .i64 G.terms, .int .i64 G.names, .int .i64 G.start, .slice Ap np cp, .slice Al nl cl, .slice As ns cs], .agg #[.slice Aa na ca, .slice Ag ng cg, tc], .slice A2 n2 c2] w (RdEnd w E (readP G T l 0 ([0], []))) := by
  obtain ⟨R, hR⟩ : ∃ R, R = readP G T l 0 ([0], []) := ⟨_, rfl⟩
  rw [← hR]
  obtain ⟨w0, hw0, hb0, hs0, hGT⟩ := GTb.mk_ w hB G Ap Al As np cp nl cl ns cs T Aa na ca Ag ng cg tc hG hT
  obtain ⟨w1, hw1⟩ : ∃ w1, w1 = ((w0.alloc (.cells #[.slice none 0 0, .slice none 0 0] 97)).alloc (.cells #[.int .i64 0] 3)).alloc (.cells #[.slice (some ⟨w.heap.size + 1 + 1 + 1, 0, none⟩) 1 1, .slice none 0 0] 97) := ⟨_, rfl⟩
  have hz1 : w1.heap.size = w.heap.size + 5 := by rw [hw1]; simp [hs0]
  have hb1 : Below w0.heap.size w0 w1 := by rw [hw1]; exact (((Below.refl _ _).alloc (Nat.le_refl _) _).alloc (by simp) _).alloc (by simp; omega) _
  have hbr : Blk w1 (w.heap.size + 1 + 1) 97 [.slice none 0 0, .slice none 0 0] := by
    have := Blk.new w0 97 [.slice none 0 0, .slice none 0 0]
    rw [hs0] at this
    rw [hw1]
    exact (this.alloc _).alloc _
  have hrow : w1.heap[w.heap.size + 1 + 1 + 1]? = some (.cells #[.int .i64 0] 3 (0, 0)) := by
    have h1 : ((w0.alloc (.cells #[.slice none 0 0, .slice none 0 0] 97)).alloc (.cells #[.int .i64 0] 3)).heap[(w0.alloc (.cells #[.slice none 0 0, .slice none 0 0] 97)).heap.size]? = some (.cells #[.int .i64 0] 3 (0, 0)) := heap_alloc_new _ _
    rw [show (w0.alloc (.cells #[.slice none 0 0, .slice none 0 0] 97)).heap.size = w.heap.size + 1 + 1 + 1 by simp [hs0]] at h1
    rw [hw1, Below.heap_alloc _ _ _ (by simp [hs0])]
    exact h1
  have hbx : Blk w1 (w.heap.size + 4) 97 [.slice (some ⟨w.heap.size + 1 + 1 + 1, 0, none⟩) 1 1, .slice none 0 0] := by
    have := Blk.new ((w0.alloc (.cells #[.slice none 0 0, .slice none 0 0] 97)).alloc (.cells #[.int .i64 0] 3)) 97 [.slice (some ⟨w.heap.size + 1 + 1 + 1, 0, none⟩) 1 1, .slice none 0 0]
    rw [show ((w0.alloc (.cells #[.slice none 0 0, .slice none 0 0] 97)).alloc (.cells #[.int .i64 0] 3)).heap.size = w.heap.size + 4 by simp [hs0]] at this
    rw [hw1]
    exact this
  obtain ⟨base, hbase⟩ : ∃ base, base = w.heap.size + 1 + 1 + 1 := ⟨_, rfl⟩
  have hX1 : XBox w1 base (w.heap.size + 4) ([0], []) := ⟨_, _, _, _, _, _, [], fun _ => False, hbx, ⟨⟨rfl, .inr ⟨w.heap.size + 1 + 1 + 1, 1, #[.int .i64 0], rfl, by omega, hrow, Nat.le_refl 1, by unfold maxLen; omega, rfl, rfl⟩⟩, World.ownsRow_nil _ _ _ _, fun i t ht => by simp at ht, fun b q => q.elim, fun b q => q.elim⟩⟩
  have hGT1 := hGT.below (hb1.mono (by omega)) hB
  have hI1 := hI.below ((hb0.trans (hb1.mono (by omega))).mono hB)
  have hE1 := hE.below ((hb0.trans (hb1.mono (by omega))).mono hB)
  have HB1 := Lib.hid (hb0.trans (hb1.mono (by omega))); have HX1 := Lib.hid hX1; have HR := Lib.hid hR; have HL := Lib.hid hl; have HF := Lib.hid hf; have HGT1 := Lib.hid hGT1; have HI1 := Lib.hid hI1; have HE1 := Lib.hid hE1; have HBR := Lib.hid hbr
  clear hb0 hb1 hX1 hR hl hf hGT hGT1 hI hI1 hE hE1 hbr hrow hbx hG hT hs0
  go_enter Tryd.func41, Tryd.ntmps41
  go_wp2_with fail
  rw [← hw0, ← hw1]
  clear hw0 hw1
  go_loopw [10] (fun i wr => ∃ (k : Nat) (s : St), k ≤ n2 ∧ i = .int .i64 (k : Int) ∧ Hid (readP G T (l.drop k) k s = R) ∧ Hid (StOk G T s) ∧ Hid (XBox wr base (w.heap.size + 4) s) ∧ Hid (s.2.length ≤ 10001 * k) ∧ Hid (Below base w1 wr)) (fun i _ => n2 - (intOf i).toNat)
  case atStart => exact ⟨0, _, by omega, rfl, HR.out.symm, st0 HF.out, HX1.out, Nat.le_refl _, Below.refl _ _⟩
  case round =>
    as_aux_lemma =>
      obtain ⟨k, s, hk, rfl, HRk, HSk, HXk, HLk, HBk⟩ := hrel
      obtain ⟨ss, ts⟩ := s
      obtain ⟨Ax, nx, cx, Ay, ny, cy, vs, U, hbx, hvx⟩ := HXk.out
      have hzr := HBk.out.size
      have hGTr := HGT1.out.below (HBk.out.mono (by omega)) hB
      have hbr := HBR.out.below HBk.out (by omega)
      have x0 := hbx.cell (i := 0) rfl
      have x1 := hbx.cell (i := 1) rfl
      have r0 := hbr.cell (i := 0) rfl
      have r1 := hbr.cell (i := 1) rfl
      have f0 := hbr.frozen 0
      have f1 := hbr.frozen 1
      have hxl := hbx.lt
      have hrl := hbr.lt
      have HBX := Lib.hid hbx; have HVX := Lib.hid hvx; have HBRr := Lib.hid hbr
      have HBW : Hid (Below w.heap.size w wr) := Lib.hid (HB1.out.trans (HBk.out.mono (by omega)))
      have HEr := Lib.hid (HE1.out.below (HBk.out.mono (by omega)))
      have HGTr := Lib.hid hGTr
      obtain ⟨⟨c0, c1', c2', c3, c4, c5⟩, tb, -, -⟩ := id hGTr
      have t0 := tb.cell (i := 0) rfl
      have t1 := tb.cell (i := 1) rfl
      have t2 := tb.cell (i := 2) rfl
      clear hGTr hbr hbx hvx tb
      by_cases hlt : k < n2
      rotate_left
      · as_aux_lemma =>
          have hke : k = n2 := by omega
          subst hke
          have HRK : Hid (R = .ok (ss, ts)) := Lib.hid (by rw [← HRk.out]; exact read_end (by have := HL.out; omega))
          clear c0 c1' c2' c3 c4 c5 t0 t1 t2
          go_wp2_with fail
          have hk1 : Blk (wr.setCell ⟨w.heap.size + 1 + 1, 0, none⟩ (.slice Ax nx cx)) (w.heap.size + 1 + 1) 97 [.slice Ax nx cx, .slice none 0 0] := HBRr.out.set_ 0 _
          have hk2 : Blk ((wr.setCell ⟨w.heap.size + 1 + 1, 0, none⟩ (.slice Ax nx cx)).setCell ⟨w.heap.size + 1 + 1, 1, none⟩ (.slice Ay ny cy)) (w.heap.size + 1 + 1) 97 [.slice Ax nx cx, .slice Ay ny cy] := hk1.set_ 1 _
          refine bodyPost_ret (results_cell_tmp2_row rfl _ _ (w.heap.size + 1 + 1) _ #[.slice Ax nx cx, .slice Ay ny cy] _ _ rfl hk2 Tryd.underlying97 rfl (by kernel_rfl)) rfl ?_
          have hfz : Below w.heap.size w ((wr.setCell ⟨w.heap.size + 1 + 1, 0, none⟩ (.slice Ax nx cx)).setCell ⟨w.heap.size + 1 + 1, 1, none⟩ (.slice Ay ny cy)) := ((HBW.out).setCell (p := ⟨w.heap.size + 1 + 1, 0, none⟩) (by show _ ≤ w.heap.size + 1 + 1; omega) _).setCell (p := ⟨w.heap.size + 1 + 1, 1, none⟩) (by show _ ≤ w.heap.size + 1 + 1; omega) _
          rw [HRK.out]
          have hv2 := (HVX.out.far (p := ⟨w.heap.size + 1 + 1, 0, none⟩) HBRr.out (by decide) (by decide) (by decide) (.slice Ax nx cx)).far (p := ⟨w.heap.size + 1 + 1, 1, none⟩) hk1 (by decide) (by decide) (by decide) (.slice Ay ny cy)
          exact ⟨⟨_, _, _, _, _, _, rfl, _, _, _, _, rfl, hv2.lower (by omega)⟩, hfz⟩
      obtain ⟨bl, offl, rfl, hbB, hcell⟩ := (HI1.out.below (HBk.out.mono (by omega))).at_ (by have := HL.out; omega)
      have hx := hcell k (by have := HL.out; omega)
      have hxl' : l[k]? = some (nth l k) := nth_some (by have := HL.out; omega)
      obtain ⟨x, hxe⟩ : ∃ x, x = nth l k := ⟨_, rfl⟩
      rw [← hxe] at hx hxl'
      have HXL := Lib.hid hxl'
      have hblr : bl < wr.heap.size := by omega
      clear hcell hxl' hxe
      by_cases hx0 : x < 0
      · as_aux_lemma =>
          have HRK : Hid (R = .error (6, k)) := Lib.hid (by rw [← HRk.out]; exact read_err HXL.out (take_out (.inl hx0)))
          have d0 : decide (x < 0) = true := by simpa using hx0
          have zE := HEr.out.g 6 (by omega)
          unfold evar at zE
          have hgE : 6 < w.heap.size := by have : 6 < B := HE1.out.gl 6 (by omega); omega
          have hgE2 : 6 ≠ w.heap.size + 1 + 1 := by omega
          clear hx0
          go_wp2_with fail
          go_quiet (fail)
          rename_i nq _ _
          go_wp2_with fail
          go_region
          go_wp2_with fail
          have hk1 : Blk ((wr.drewN (nq + 1)).setCell ⟨w.heap.size + 1 + 1, 0, none⟩ (.slice Ax nx cx)) (w.heap.size + 1 + 1) 97 [.slice Ax nx cx, .slice none 0 0] := HBRr.out.set_ 0 _
          have hk2 : Blk (((wr.drewN (nq + 1)).setCell ⟨w.heap.size + 1 + 1, 0, none⟩ (.slice Ax nx cx)).setCell ⟨w.heap.size + 1 + 1, 1, none⟩ (.slice Ay ny cy)) (w.heap.size + 1 + 1) 97 [.slice Ax nx cx, .slice Ay ny cy] := hk1.set_ 1 _
          refine bodyPost_ret (results_cell_tmp2_row rfl _ _ (w.heap.size + 1 + 1) _ #[.slice Ax nx cx, .slice Ay ny cy] _ _ rfl hk2 Tryd.underlying97 rfl (by kernel_rfl)) rfl ?_
          have hfz : Below w.heap.size w (((wr.drewN (nq + 1)).setCell ⟨w.heap.size + 1 + 1, 0, none⟩ (.slice Ax nx cx)).setCell ⟨w.heap.size + 1 + 1, 1, none⟩ (.slice Ay ny cy)) := ((HBW.out.trans (bel_dn wr _ _)).setCell (p := ⟨w.heap.size + 1 + 1, 0, none⟩) (by show _ ≤ w.heap.size + 1 + 1; omega) _).setCell (p := ⟨w.heap.size + 1 + 1, 1, none⟩) (by show _ ≤ w.heap.size + 1 + 1; omega) _
          rw [HRK.out]
          exact ⟨⟨_, _, _, _, _, _, rfl⟩, hfz⟩
      have d0 : decide (x < 0) = false := by simpa using hx0
      by_cases hx1 : G.terms ≤ x
      · as_aux_lemma =>
          have HRK : Hid (R = .error (6, k)) := Lib.hid (by rw [← HRk.out]; exact read_err HXL.out (take_out (.inr hx1)))
          have zE := HEr.out.g 6 (by omega)
          unfold evar at zE
          have hgE : 6 < w.heap.size := by have : 6 < B := HE1.out.gl 6 (by omega); omega
          have hgE2 : 6 ≠ w.heap.size + 1 + 1 := by omega
          have d1 : decide (x ≥ G.terms) = true := by simpa using hx1
          have d2 : decide (G.terms ≤ x) = true := by simpa using hx1
          clear hx1 hx0
          go_wp2_with fail
          go_quiet (fail)
          rename_i nq _ _
          go_wp2_with fail
          go_region
          go_wp2_with fail
          have hk1 : Blk ((wr.drewN (nq + 1)).setCell ⟨w.heap.size + 1 + 1, 0, none⟩ (.slice Ax nx cx)) (w.heap.size + 1 + 1) 97 [.slice Ax nx cx, .slice none 0 0] := HBRr.out.set_ 0 _
          have hk2 : Blk (((wr.drewN (nq + 1)).setCell ⟨w.heap.size + 1 + 1, 0, none⟩ (.slice Ax nx cx)).setCell ⟨w.heap.size + 1 + 1, 1, none⟩ (.slice Ay ny cy)) (w.heap.size + 1 + 1) 97 [.slice Ax nx cx, .slice Ay ny cy] := hk1.set_ 1 _
          refine bodyPost_ret (results_cell_tmp2_row rfl _ _ (w.heap.size + 1 + 1) _ #[.slice Ax nx cx, .slice Ay ny cy] _ _ rfl hk2 Tryd.underlying97 rfl (by kernel_rfl)) rfl ?_
          have hfz : Below w.heap.size w (((wr.drewN (nq + 1)).setCell ⟨w.heap.size + 1 + 1, 0, none⟩ (.slice Ax nx cx)).setCell ⟨w.heap.size + 1 + 1, 1, none⟩ (.slice Ay ny cy)) := ((HBW.out.trans (bel_dn wr _ _)).setCell (p := ⟨w.heap.size + 1 + 1, 0, none⟩) (by show _ ≤ w.heap.size + 1 + 1; omega) _).setCell (p := ⟨w.heap.size + 1 + 1, 1, none⟩) (by show _ ≤ w.heap.size + 1 + 1; omega) _
          rw [HRK.out]
          exact ⟨⟨_, _, _, _, _, _, rfl⟩, hfz⟩
      have hn : ¬ (x < 0 ∨ G.terms ≤ x) := by omega
      have d2 : decide (G.terms ≤ x) = false := by simpa using hx1
      have hx0' : 0 ≤ x := by omega
      have hx1' : x ≤ G.terms := by omega
      clear hx0 hx1 r0 r1 f0 f1
      go_wp2_with fail
      go_quiet (fail)
      rename_i nq _ _
      obtain ⟨w2, hw2⟩ : ∃ w2, w2 = wr.drewN nq := ⟨_, rfl⟩
      have hb2 : Below wr.heap.size wr w2 := by rw [hw2]; exact bel_dn _ _ _
      have hz2 : w2.heap.size = wr.heap.size := by rw [hw2]; rfl
      rw [← hw2]
      clear hw2
      go_wp2_with fail
      obtain ⟨wd, hwd⟩ : ∃ wd, wd = w2.drew := ⟨_, rfl⟩
      have hbd : Below wr.heap.size wr wd := by rw [hwd]; exact hb2.trans ⟨rfl, rfl, rfl, Nat.le_refl _, fun _ _ => rfl⟩
      have hzd : wd.heap.size = wr.heap.size := by rw [hwd]; exact hz2
      refine wp_region_S (fun w' => ∃ X : WB w2.heap.size wd, w' = X.val) (by kernel_rfl) ?_
      rw [← hwd]
      clear hwd
      have wb : ∀ (X : WB w2.heap.size wd) (q : Addr), q.block < wr.heap.size → X.val.cell? q = wr.cell? q := fun X q z => (X.bel.cell (p := q) (by rw [hz2]; exact z)).trans (hbd.cell (p := q) z)
      have k0 : ∀ X : WB w2.heap.size wd, X.val.cell? ⟨w.heap.size, 0, none⟩ = some (.int .i64 G.terms) := fun X => (wb X ⟨w.heap.size, 0, none⟩ (by show w.heap.size < _; omega)).trans c0
      have k1 : ∀ X : WB w2.heap.size wd, X.val.cell? ⟨w.heap.size, 1, none⟩ = some (.int .i64 G.names) := fun X => (wb X ⟨w.heap.size, 1, none⟩ (by show w.heap.size < _; omega)).trans c1'
      have k2 : ∀ X : WB w2.heap.size wd, X.val.cell? ⟨w.heap.size, 2, none⟩ = some (.int .i64 G.start) := fun X => (wb X ⟨w.heap.size, 2, none⟩ (by show w.heap.size < _; omega)).trans c2'
      have k3 : ∀ X : WB w2.heap.size wd, X.val.cell? ⟨w.heap.size, 3, none⟩ = some (.slice Ap np cp) := fun X => (wb X ⟨w.heap.size, 3, none⟩ (by show w.heap.size < _; omega)).trans c3
      have k4 : ∀ X : WB w2.heap.size wd, X.val.cell? ⟨w.heap.size, 4, none⟩ = some (.slice Al nl cl) := fun X => (wb X ⟨w.heap.size, 4, none⟩ (by show w.heap.size < _; omega)).trans c4
      have k5 : ∀ X : WB w2.heap.size wd, X.val.cell? ⟨w.heap.size, 5, none⟩ = some (.slice As ns cs) := fun X => (wb X ⟨w.heap.size, 5, none⟩ (by show w.heap.size < _; omega)).trans c5
      have k6 : ∀ X : WB w2.heap.size wd, X.val.cell? ⟨w.heap.size + 1, 0, none⟩ = some (.slice Aa na ca) := fun X => (wb X ⟨w.heap.size + 1, 0, none⟩ (by show w.heap.size + 1 < _; omega)).trans t0
      have k7 : ∀ X : WB w2.heap.size wd, X.val.cell? ⟨w.heap.size + 1, 1, none⟩ = some (.slice Ag ng cg) := fun X => (wb X ⟨w.heap.size + 1, 1, none⟩ (by show w.heap.size + 1 < _; omega)).trans t1
      have k8 : ∀ X : WB w2.heap.size wd, X.val.cell? ⟨w.heap.size + 1, 2, none⟩ = some (tc) := fun X => (wb X ⟨w.heap.size + 1, 2, none⟩ (by show w.heap.size + 1 < _; omega)).trans t2
      have k9 : ∀ X : WB w2.heap.size wd, X.val.cell? ⟨w.heap.size + 4, 0, none⟩ = some (.slice Ax nx cx) := fun X => (wb X ⟨w.heap.size + 4, 0, none⟩ (by show w.heap.size + 4 < _; omega)).trans x0
      have k10 : ∀ X : WB w2.heap.size wd, X.val.cell? ⟨w.heap.size + 4, 1, none⟩ = some (.slice Ay ny cy) := fun X => (wb X ⟨w.heap.size + 4, 1, none⟩ (by show w.heap.size + 4 < _; omega)).trans x1
      have k11 : ∀ X : WB w2.heap.size wd, X.val.cell? ⟨bl, offl + k, none⟩ = some (.int .i64 x) := fun X => (wb X ⟨bl, offl + k, none⟩ (by show bl < _; omega)).trans hx
      show wpAnyS _ _ _ _ _ (9 + 7) _ _ _
      refine takeS 9 0 7 (by kernel_rfl) (by kernel_rfl) (fun _ _ d _ _ h => by cases d <;> exact h) ⟨⟨_, Below.refl _ _⟩, rfl⟩ ?_
      simp only [List.take_succ_cons, List.take_zero, List.drop_succ_cons, List.drop_zero]
      repeat (first | go_big_quiet_skip | (go_big_quiet_want; go_big_quiet_op; go_big_quiet_on))
      refine wpQuiet_nil ?_
      have hcall : ∀ W, Below wd.heap.size wd W → Calls Tryd.prog 42 #[.agg #[.int .i64 G.terms, .int .i64 G.names, .int .i64 G.start, .slice Ap np cp, .slice Al nl cl, .slice As ns cs], .agg #[.slice Aa na ca, .slice Ag ng cg, tc], .agg #[.slice Ax nx cx, .slice Ay ny cy], .int .i64 x] W fun e w' => ∃ A n c1 A2' n2' c2' to ev, e = .returned (.tuple #[.agg #[.slice A n c1, .slice A2' n2' c2'], .int .i64 to, ev]) ∧
          ((∃ c, takeP G T x k (ss, ts) = .error c ∧ ev = ew (E c)) ∨ (∃ (st' : St) (vs' : List Value) (U' : Nat → Prop), takeP G T x k (ss, ts) = .ok (st'.1 ++ [to], st'.2 ++ [.node (-1) k []]) ∧ ev = .nilIface ∧ StV w' base (.slice A n c1) (.slice A2' n2' c2') st'.1 st'.2 vs' U')) ∧ Below W.heap.size W w' := fun W hW => by
        have hbW : Below wr.heap.size wr W := hbd.trans (hW.mono (by omega))
        have hGTW := HGTr.out.below (hbW.mono (by omega)) hB
        have hszW := hbW.size
        have hc := rsettle_any G Ap Al As np cp nl cl ns cs T Aa na ca Ag ng cg tc W B base (.slice Ax nx cx) (.slice Ay ny cy) (ss, ts) ⟨_, _, _, _, rfl, HVX.out.ext hbW⟩ (by omega) (by omega) hGTW.hG hGTW.hT HF.out HSk.out (by have := HLk.out; simp only at this ⊢; omega) E (HEr.out.below (hbW.mono (by omega))) x hx0' hx1'
        refine hc.mono fun e w' h => ?_
        cases hto : settleP G T x 10000 (ss, ts) with
        | error c =>
          rw [hto] at h
          obtain ⟨⟨A, n, c1, A2', n2', c2', rfl⟩, hb⟩ := h
          exact ⟨A, n, c1, A2', n2', c2', 0, _, rfl, .inl ⟨c, take_err hn hto, rfl⟩, hb⟩
        | ok q =>
          obtain ⟨st', to⟩ := q
          rw [hto] at h
          obtain ⟨⟨A, n, c1, A2', n2', c2', rfl, sv, tv, vs', U', e1, hv⟩, hb⟩ := h
          cases e1
          exact ⟨A, n, c1, A2', n2', c2', to, _, rfl, .inr ⟨st', vs', U', take_yes hn hto, rfl, hv⟩, hb⟩
      have HCALL := Lib.hid hcall
      have HBD := Lib.hid hbd
      have HZZ : Hid (wd.heap.size = w2.heap.size ∧ w2.heap.size = wr.heap.size) := Lib.hid ⟨by omega, hz2⟩
      clear hcall hbd hb2 hz2 hzd wb c0 c1' c2' c3 c4 c5 t0 t1 t2 x0 x1 hx
      clear k0 k1 k2 k3 k4 k5 k6 k7 k8 k9 k10 k11
      refine twoS 8 7 12 (by kernel_rfl) (by decide) (by decide) ?_ ?_
      · as_aux_lemma =>
          simp only [List.take_succ_cons, List.take_zero, List.drop_succ_cons, List.drop_zero]
          go_wp2_with fail
          refine (HCALL.out wd (Below.refl _ _)).mono ?_
          rintro e w4 ⟨A, n, c1, A2', n2', c2', to, ev, rfl, hev, hb4⟩
          have hbS : Below w2.heap.size wd w4 := hb4.mono (by have := HZZ.out; omega)
          have HEV := Lib.hid hev; have HB4 := Lib.hid hb4; have HBS := Lib.hid hbS
          clear hev hb4 hbS
          go_wp2_with fail
          refine ⟨⟨WB.mk _ HBS.out, rfl⟩, ?_⟩
          show wpAnyS _ _ _ _ _ (4 + 4) _ _ _
          refine takeS 4 8 4 (by kernel_rfl) (by kernel_rfl) (fun _ _ d _ _ h => by cases d <;> exact h) ⟨WB.mk _ HBS.out, rfl⟩ ?_
          simp only [List.take_succ_cons, List.take_zero, List.drop_succ_cons, List.drop_zero]
          repeat (first | go_big_quiet_skip | (go_big_quiet_want; go_big_quiet_op; go_big_quiet_on))
          refine wpQuiet_nil ?_
          refine oneS 3 12 (by kernel_rfl) (by decide) ?_
          simp only [List.take_succ_cons, List.take_zero, List.drop_succ_cons, List.drop_zero]
          go_wp2_with fail
          obtain ⟨w5, hw5⟩ : ∃ w5, w5 = w4.alloc (.cells #[.slice none 0 0, .slice none 0 0] 97) := ⟨_, rfl⟩
          have hyl : w2.heap.size ≤ w4.heap.size := by have h1 := HBS.out.size; have h2 := HZZ.out; omega
          have HB5 : Hid (Below w2.heap.size wd w5) := Lib.hid (by rw [hw5]; exact HBS.out.alloc hyl _)
          have HY5 : Hid (Blk w5 w4.heap.size 97 [.slice none 0 0, .slice none 0 0]) := Lib.hid (by rw [hw5]; exact Blk.new w4 97 [.slice none 0 0, .slice none 0 0])
          have HEV5 : Hid ((∃ c, takeP G T x k (ss, ts) = .error c ∧ ev = ew (E c)) ∨ (∃ (st' : St) (vs' : List Value) (U' : Nat → Prop), takeP G T x k (ss, ts) = .ok (st'.1 ++ [to], st'.2 ++ [.node (-1) k []]) ∧ ev = .nilIface ∧ StV w5 base (.slice A n c1) (.slice A2' n2' c2') st'.1 st'.2 vs' U')) := Lib.hid (by
            rcases HEV.out with q | ⟨st', vs', U', q1, q2, hv⟩
            · exact .inl q
            · exact .inr ⟨st', vs', U', q1, q2, hv.ext (by rw [hw5]; exact (Below.refl _ _).alloc (Nat.le_refl _) _)⟩)
          rw [← hw5]
          clear hw5 HEV HBS HB4
          refine ⟨⟨WB.mk _ HB5.out, rfl⟩, ?_⟩
          have y0 := HY5.out.cell (i := 0) rfl
          have y1 := HY5.out.cell (i := 1) rfl
          have fy0 := HY5.out.frozen 0
          have fy1 := HY5.out.frozen 1
          refine oneS 2 13 (by kernel_rfl) (by decide) ?_
          simp only [List.take_succ_cons, List.take_zero, List.drop_succ_cons, List.drop_zero]
          go_wp2_with fail
          obtain ⟨w6, hw6⟩ : ∃ w6, w6 = (w5.setCell ⟨w4.heap.size, 0, none⟩ (.slice A n c1)).setCell ⟨w4.heap.size, 1, none⟩ (.slice A2' n2' c2') := ⟨_, rfl⟩
          have hb6 : Below w2.heap.size wd w6 := by rw [hw6]; exact (HB5.out.setCell (p := ⟨w4.heap.size, 0, none⟩) hyl _).setCell (p := ⟨w4.heap.size, 1, none⟩) hyl _
          have hy6a : Blk (w5.setCell ⟨w4.heap.size, 0, none⟩ (.slice A n c1)) w4.heap.size 97 [.slice A n c1, .slice none 0 0] := HY5.out.set_ 0 _
          have hy6 : Blk w6 w4.heap.size 97 [.slice A n c1, .slice A2' n2' c2'] := by rw [hw6]; exact hy6a.set_ 1 _
          have hev6 : (∃ c, takeP G T x k (ss, ts) = .error c ∧ ev = ew (E c)) ∨ (∃ (st' : St) (vs' : List Value) (U' : Nat → Prop), takeP G T x k (ss, ts) = .ok (st'.1 ++ [to], st'.2 ++ [.node (-1) k []]) ∧ ev = .nilIface ∧ StV w6 base (.slice A n c1) (.slice A2' n2' c2') st'.1 st'.2 vs' U') := by
            rcases HEV5.out with q | ⟨st', vs', U', q1, q2, hv⟩
            · exact .inl q
            · refine .inr ⟨st', vs', U', q1, q2, ?_⟩
              rw [hw6]
              exact (hv.far (p := ⟨w4.heap.size, 0, none⟩) HY5.out (by decide) (by decide) (by decide) _).far (p := ⟨w4.heap.size, 1, none⟩) hy6a (by decide) (by decide) (by decide) _
          have HB6 := Lib.hid hb6; have HY6 := Lib.hid hy6; have HEV6 := Lib.hid hev6
          rw [← hw6]
          clear hw6 hb6 hy6a hy6 hev6 y0 y1 fy0 fy1 HB5 HY5 HEV5
          refine ⟨⟨WB.mk _ HB6.out, rfl⟩, ?_⟩
          show wpAnyS _ _ _ _ _ (0 + 2) _ _ _
          refine takeS 0 14 2 (by kernel_rfl) (by kernel_rfl) (fun _ _ d _ _ h => by cases d <;> exact h) ⟨WB.mk _ HB6.out, rfl⟩ ?_
          simp only [List.take_succ_cons, List.take_zero, List.drop_succ_cons, List.drop_zero]
          repeat (first | go_big_quiet_skip | (go_big_quiet_want; go_big_quiet_op; go_big_quiet_on))
          refine wpQuiet_nil ?_
          refine endS (by kernel_rfl) ?_
          have hbr6 : Below wr.heap.size wr w6 := HBD.out.trans (HB6.out.mono (by have := HZZ.out; omega))
          have hbx6 := HBX.out.below' hbr6
          have hbrr6 := HBRr.out.below' hbr6
          have x0 := hbx6.cell (i := 0) rfl
          have x1 := hbx6.cell (i := 1) rfl
          have fx0 := hbx6.frozen 0
          have fx1 := hbx6.frozen 1
          have r0 := hbrr6.cell (i := 0) rfl
          have r1 := hbrr6.cell (i := 1) rfl
          have f0 := hbrr6.frozen 0
          have f1 := hbrr6.frozen 1
          have y0 := HY6.out.cell (i := 0) rfl
          have y1 := HY6.out.cell (i := 1) rfl
          have hyl6 := HY6.out.lt
          have hxl6 := hbx6.lt
          have HBX6 := Lib.hid hbx6; have HBRR6 := Lib.hid hbrr6; have HBR6 := Lib.hid hbr6
          have HBW6 : Hid (Below w.heap.size w w6) := Lib.hid (HBW.out.trans (hbr6.mono (by omega)))
          have HYX : Hid (w.heap.size + 4 ≠ w4.heap.size ∧ w.heap.size + 1 + 1 ≠ w4.heap.size ∧ base ≤ w4.heap.size) := Lib.hid (by have h1 := HZZ.out; have h2 := hyl; exact ⟨by omega, by omega, by omega⟩)
          have hne1 : w4.heap.size ≠ w.heap.size + 4 := by have := HYX.out; omega
          have hne2 : w.heap.size + 4 ≠ w4.heap.size := by have := HYX.out; omega
          clear hbx6 hbrr6 hbr6
          rcases HEV6.out with ⟨c, hto, rfl⟩ | ⟨st', vs', U', hto, rfl, hv6⟩
          · as_aux_lemma =>
              have HRK : Hid (R = .error (c, k)) := Lib.hid (by rw [← HRk.out]; exact read_err HXL.out hto)
              clear hto HEV6
              go_wp2_with fail
              have hk1 : Blk (w6.setCell ⟨w.heap.size + 1 + 1, 0, none⟩ (.slice Ax nx cx)) (w.heap.size + 1 + 1) 97 [.slice Ax nx cx, .slice none 0 0] := HBRR6.out.set_ 0 _
              have hk2 : Blk ((w6.setCell ⟨w.heap.size + 1 + 1, 0, none⟩ (.slice Ax nx cx)).setCell ⟨w.heap.size + 1 + 1, 1, none⟩ (.slice Ay ny cy)) (w.heap.size + 1 + 1) 97 [.slice Ax nx cx, .slice Ay ny cy] := hk1.set_ 1 _
              refine bodyPost_ret (results_cell_tmp2_row rfl _ _ (w.heap.size + 1 + 1) _ #[.slice Ax nx cx, .slice Ay ny cy] _ _ rfl hk2 Tryd.underlying97 rfl (by kernel_rfl)) rfl ?_
              have hfz : Below w.heap.size w ((w6.setCell ⟨w.heap.size + 1 + 1, 0, none⟩ (.slice Ax nx cx)).setCell ⟨w.heap.size + 1 + 1, 1, none⟩ (.slice Ay ny cy)) := ((HBW6.out).setCell (p := ⟨w.heap.size + 1 + 1, 0, none⟩) (by show _ ≤ w.heap.size + 1 + 1; omega) _).setCell (p := ⟨w.heap.size + 1 + 1, 1, none⟩) (by show _ ≤ w.heap.size + 1 + 1; omega) _
              rw [HRK.out]
              exact ⟨⟨_, _, _, _, _, _, rfl⟩, hfz⟩
          · as_aux_lemma =>
              have HRk' : Hid (readP G T (l.drop (k + 1)) (k + 1) (st'.1 ++ [to], st'.2 ++ [.node (-1) k []]) = R) := Lib.hid ((read_yes HXL.out hto).symm.trans HRk.out)
              obtain ⟨hsk, hlk⟩ := take_ok HF.out HSk.out hto
              have HSk' := Lib.hid hsk
              have HLk' : Hid ((st'.2 ++ [Tr.node (-1) k []]).length ≤ 10001 * (k + 1)) := Lib.hid (by have h1 := HLk.out; simp only at h1 hlk; omega)
              have hll : st'.2.length ≤ 10001 * (k + 1) := by have := HLk'.out; rw [List.length_append] at this; omega
              have hls : st'.1.length ≤ 10001 * (k + 1) := by
                have h1 := hsk.l
                simp only [List.length_append, List.length_singleton] at h1
                have h2 := HLk'.out
                simp only [List.length_append, List.length_singleton] at h2
                omega
              obtain ⟨_, _, _, _, e1, e2, -, -, -, -⟩ := stv_forms hv6
              simp only [Value.slice.injEq] at e1 e2
              obtain ⟨rfl, rfl, rfl⟩ := e1
              obtain ⟨rfl, rfl, rfl⟩ := e2
              have HV6 := Lib.hid hv6
              have HB66 : Hid (base ≤ w6.heap.size) := Lib.hid (by have := HYX.out; omega)
              clear hto HEV6 hsk hlk hv6 r0 r1 f0 f1
              go_wp2_with (first
                | (at_builtin; refine wpList_app elIn rfl (.tmp 58) (.tmp 60) rfl base _ st'.1.length 1 (iv st'.1) [.int .i64 to] rfl HV6.out.s rfl rfl (by simp [Value.oneCell']) ?_ ?_ HB66.out ?_; omega; omega; intro v8 w8 hown8 hg8 hat8; obtain ⟨A8, cA8, rfl, -, -, -⟩ := own_form hown8; have hset8 := HV6.out.setS HY6.out HYX.out.2.2 hg8 (ss' := st'.1 ++ [to]) (by rw [List.length_append, iv_app]; exact hown8) (atn1 hat8); have z6 := hset8.2.2.2.1; have z7 := hset8.2.2.2.2; have hyl8 : w4.heap.size < w8.heap.size := Nat.lt_of_lt_of_le hyl6 hg8.size; have zy1 : w8.cell? ⟨w4.heap.size, 1, none⟩ = some (.slice A2' st'.2.length c2') := (World.cell?_setCell_other (w := w8) (a := ⟨w4.heap.size, 0, none⟩) (b := ⟨w4.heap.size, 1, none⟩) (v := .slice A8 (st'.1.length + 1) cA8) (by simp)).symm.trans (hset8.2.1.cell (i := 1) rfl); obtain ⟨UL, hvl, htl⟩ := hset8.1.leaf k; rw [setCell_size] at htl; have hyL := hset8.2.1.alloc (.cells #[.int .i64 (-1), .int .i64 (k : Int), .slice none 0 0] 68); have hbxL := (hset8.2.2.1.blk HBX6.out HYX.out.1 (by decide) (by decide)).alloc (.cells #[.int .i64 (-1), .int .i64 (k : Int), .slice none 0 0] 68); have hbL := hset8.2.2.1.bel.alloc (Nat.le_trans HB66.out hset8.2.2.1.bel.size) (.cells #[.int .i64 (-1), .int .i64 (k : Int), .slice none 0 0] 68); have HVL := Lib.hid hvl; have HTL := Lib.hid htl; have HYL := Lib.hid hyL; have HBXL := Lib.hid hbxL; have HBL := Lib.hid hbL; have HBLz : Hid (base ≤ ((w8.setCell ⟨w4.heap.size, 0, none⟩ (.slice A8 (st'.1.length + 1) cA8)).alloc (.cells #[.int .i64 (-1), .int .i64 (k : Int), .slice none 0 0] 68)).heap.size) := Lib.hid (Nat.le_trans HB66.out hbL.size); clear hown8 hg8 hat8 hset8 hvl htl hyL hbxL hbL x0 x1 fx0 fx1)
                | (at_builtin; refine wpList_app elTp rfl (.tmp 67) (.tmp 69) rfl base _ st'.2.length 1 vs' [.pointer (some ⟨w8.heap.size, 0, none⟩)] rfl HVL.out.t (by simp [setCell_size]; rfl) rfl (by simp [Value.oneCell']) ?_ ?_ HBLz.out ?_; omega; omega; intro v12 w12 hown12 hg12 hat12; obtain ⟨A12, cA12, rfl, -, -, -⟩ := own_form hown12; have hset12 := HVL.out.setT HYL.out HYX.out.2.2 hg12 (ts' := st'.2 ++ [.node (-1) k []]) (vs' := vs' ++ [.pointer (some ⟨w8.heap.size, 0, none⟩)]) (by rw [List.length_append]; exact hown12) (atn1 hat12) (app_tr HVL.out.vl HVL.out.tr HTL.out); have z8 := hset12.2.2.2.1; have z9 := hset12.2.2.2.2; have zy0 : w12.cell? ⟨w4.heap.size, 0, none⟩ = some (.slice A8 (st'.1.length + 1) cA8) := (World.cell?_setCell_other (w := w12) (a := ⟨w4.heap.size, 1, none⟩) (b := ⟨w4.heap.size, 0, none⟩) (v := .slice A12 (st'.2.length + 1) cA12) (by simp)).symm.trans (hset12.2.1.cell (i := 0) rfl); have hbx12 := hset12.2.2.1.blk HBXL.out HYX.out.1 (by decide) (by decide); have x0 : w12.cell? ⟨w.heap.size + 4, 0, none⟩ = some (.slice Ax nx cx) := (World.cell?_setCell_other (w := w12) (a := ⟨w4.heap.size, 1, none⟩) (b := ⟨w.heap.size + 4, 0, none⟩) (v := .slice A12 (st'.2.length + 1) cA12) (by simp)).symm.trans (hbx12.cell (i := 0) rfl); have x1 : w12.cell? ⟨w.heap.size + 4, 1, none⟩ = some (.slice Ay ny cy) := (World.cell?_setCell_other (w := w12) (a := ⟨w4.heap.size, 1, none⟩) (b := ⟨w.heap.size + 4, 1, none⟩) (v := .slice A12 (st'.2.length + 1) cA12) (by simp)).symm.trans (hbx12.cell (i := 1) rfl); have fx0 := hbx12.frozen 0; have fx1 := hbx12.frozen 1; have HS12 := Lib.hid hset12; have HBX12 := Lib.hid hbx12; clear hown12 hg12 hat12 hset12 hbx12 z6 z7 zy1))
              have hbx13 := HBX12.out
              have hk1 : Blk ((w12.setCell ⟨w4.heap.size, 1, none⟩ (.slice A12 (st'.2.length + 1) cA12)).setCell ⟨w.heap.size + 4, 0, none⟩ (.slice A8 (st'.1.length + 1) cA8)) (w.heap.size + 4) 97 [.slice A8 (st'.1.length + 1) cA8, .slice Ay ny cy] := hbx13.set_ 0 _
              have hk2 : Blk (((w12.setCell ⟨w4.heap.size, 1, none⟩ (.slice A12 (st'.2.length + 1) cA12)).setCell ⟨w.heap.size + 4, 0, none⟩ (.slice A8 (st'.1.length + 1) cA8)).setCell ⟨w.heap.size + 4, 1, none⟩ (.slice A12 (st'.2.length + 1) cA12)) (w.heap.size + 4) 97 [.slice A8 (st'.1.length + 1) cA8, .slice A12 (st'.2.length + 1) cA12] := hk1.set_ 1 _
              have hv13 := (HS12.out.1.far (p := ⟨w.heap.size + 4, 0, none⟩) hbx13 (by decide) (by decide) (by decide) (.slice A8 (st'.1.length + 1) cA8)).far (p := ⟨w.heap.size + 4, 1, none⟩) hk1 (by decide) (by decide) (by decide) (.slice A12 (st'.2.length + 1) cA12)
              have hb13 : Below base w1 (w12.setCell ⟨w4.heap.size, 1, none⟩ (.slice A12 (st'.2.length + 1) cA12)) := HBk.out.trans ((HBR6.out.mono (by omega)).trans (HBL.out.trans HS12.out.2.2.1.bel))
              have HX13 : Hid (XBox (((w12.setCell ⟨w4.heap.size, 1, none⟩ (.slice A12 (st'.2.length + 1) cA12)).setCell ⟨w.heap.size + 4, 0, none⟩ (.slice A8 (st'.1.length + 1) cA8)).setCell ⟨w.heap.size + 4, 1, none⟩ (.slice A12 (st'.2.length + 1) cA12)) base (w.heap.size + 4) (st'.1 ++ [to], st'.2 ++ [.node (-1) k []])) := Lib.hid ⟨_, _, _, _, _, _, _, _, hk2, hv13⟩
              have HB13 : Hid (Below base w1 (((w12.setCell ⟨w4.heap.size, 1, none⟩ (.slice A12 (st'.2.length + 1) cA12)).setCell ⟨w.heap.size + 4, 0, none⟩ (.slice A8 (st'.1.length + 1) cA8)).setCell ⟨w.heap.size + 4, 1, none⟩ (.slice A12 (st'.2.length + 1) cA12))) := Lib.hid ((hb13.setCell (p := ⟨w.heap.size + 4, 0, none⟩) (by show base ≤ w.heap.size + 4; omega) _).setCell (p := ⟨w.heap.size + 4, 1, none⟩) (by show base ≤ w.heap.size + 4; omega) _)
              clear hbx13 hk1 hk2 hv13 hb13
              go_roundw
              case rel => exact ⟨k + 1, (st'.1 ++ [to], st'.2 ++ [.node (-1) k []]), by omega, by go_num, HRk', HSk', HX13, HLk', HB13⟩
              case measure => simp [intOf]; omega
      · as_aux_lemma =>
          simp only [List.take_succ_cons, List.take_zero, List.drop_succ_cons, List.drop_zero]
          go_wp2_with fail
          obtain ⟨w3, hw3⟩ : ∃ w3, w3 = wd.alloc (.cells #[.slice none 0 0, .slice none 0 0] 97) := ⟨_, rfl⟩
          have hb3 : Below wd.heap.size wd w3 := by rw [hw3]; exact (Below.refl _ _).alloc (Nat.le_refl _) _
          have HY3 : Hid (Blk w3 wd.heap.size 97 [.slice none 0 0, .slice none 0 0]) := Lib.hid (by rw [hw3]; exact Blk.new wd 97 [.slice none 0 0, .slice none 0 0])
          have HB3 := Lib.hid hb3
          have HB3S : Hid (Below w2.heap.size wd w3) := Lib.hid (hb3.mono (by have := HZZ.out; omega))
          rw [← hw3]
          clear hw3 hb3
          refine ⟨⟨WB.mk _ HB3S.out, rfl⟩, ?_⟩
          refine oneS 7 7 (by kernel_rfl) (by decide) ?_
          simp only [List.take_succ_cons, List.take_zero, List.drop_succ_cons, List.drop_zero]
          go_wp2_with fail
          refine (HCALL.out w3 HB3.out).mono ?_
          rintro e w5 ⟨A, n, c1, A2', n2', c2', to, ev, rfl, hev, hb4⟩
          have hyl : w2.heap.size ≤ wd.heap.size := by have h2 := HZZ.out; omega
          have HB5 : Hid (Below w2.heap.size wd w5) := Lib.hid (HB3S.out.trans (hb4.mono (by have h1 := HB3S.out.size; omega)))
          have HY5 := Lib.hid (HY3.out.below' hb4)
          have HEV5 := Lib.hid hev
          clear hev hb4 HY3 HB3 HB3S
          go_wp2_with fail
          refine ⟨⟨WB.mk _ HB5.out, rfl⟩, ?_⟩
          show wpAnyS _ _ _ _ _ (3 + 4) _ _ _
          refine takeS 3 8 4 (by kernel_rfl) (by kernel_rfl) (fun _ _ d _ _ h => by cases d <;> exact h) ⟨WB.mk _ HB5.out, rfl⟩ ?_
          simp only [List.take_succ_cons, List.take_zero, List.drop_succ_cons, List.drop_zero]
          repeat (first | go_big_quiet_skip | (go_big_quiet_want; go_big_quiet_op; go_big_quiet_on))
          refine wpQuiet_nil ?_
          have y0 := HY5.out.cell (i := 0) rfl
          have y1 := HY5.out.cell (i := 1) rfl
          have fy0 := HY5.out.frozen 0
          have fy1 := HY5.out.frozen 1
          refine oneS 2 13 (by kernel_rfl) (by decide) ?_
          simp only [List.take_succ_cons, List.take_zero, List.drop_succ_cons, List.drop_zero]
          go_wp2_with fail
          obtain ⟨w6, hw6⟩ : ∃ w6, w6 = (w5.setCell ⟨wd.heap.size, 0, none⟩ (.slice A n c1)).setCell ⟨wd.heap.size, 1, none⟩ (.slice A2' n2' c2') := ⟨_, rfl⟩
          have hb6 : Below w2.heap.size wd w6 := by rw [hw6]; exact (HB5.out.setCell (p := ⟨wd.heap.size, 0, none⟩) hyl _).setCell (p := ⟨wd.heap.size, 1, none⟩) hyl _
          have hy6a : Blk (w5.setCell ⟨wd.heap.size, 0, none⟩ (.slice A n c1)) wd.heap.size 97 [.slice A n c1, .slice none 0 0] := HY5.out.set_ 0 _
          have hy6 : Blk w6 wd.heap.size 97 [.slice A n c1, .slice A2' n2' c2'] := by rw [hw6]; exact hy6a.set_ 1 _
          have hev6 : (∃ c, takeP G T x k (ss, ts) = .error c ∧ ev = ew (E c)) ∨ (∃ (st' : St) (vs' : List Value) (U' : Nat → Prop), takeP G T x k (ss, ts) = .ok (st'.1 ++ [to], st'.2 ++ [.node (-1) k []]) ∧ ev = .nilIface ∧ StV w6 base (.slice A n c1) (.slice A2' n2' c2') st'.1 st'.2 vs' U') := by
            rcases HEV5.out with q | ⟨st', vs', U', q1, q2, hv⟩
            · exact .inl q
            · refine .inr ⟨st', vs', U', q1, q2, ?_⟩
              rw [hw6]
              exact (hv.far (p := ⟨wd.heap.size, 0, none⟩) HY5.out (by decide) (by decide) (by decide) _).far (p := ⟨wd.heap.size, 1, none⟩) hy6a (by decide) (by decide) (by decide) _
          have HB6 := Lib.hid hb6; have HY6 := Lib.hid hy6; have HEV6 := Lib.hid hev6
          rw [← hw6]
          clear hw6 hb6 hy6a hy6 hev6 y0 y1 fy0 fy1 HB5 HY5 HEV5
          refine ⟨⟨WB.mk _ HB6.out, rfl⟩, ?_⟩
          show wpAnyS _ _ _ _ _ (0 + 2) _ _ _
          refine takeS 0 14 2 (by kernel_rfl) (by kernel_rfl) (fun _ _ d _ _ h => by cases d <;> exact h) ⟨WB.mk _ HB6.out, rfl⟩ ?_
          simp only [List.take_succ_cons, List.take_zero, List.drop_succ_cons, List.drop_zero]
          repeat (first | go_big_quiet_skip | (go_big_quiet_want; go_big_quiet_op; go_big_quiet_on))
          refine wpQuiet_nil ?_
          refine endS (by kernel_rfl) ?_
          have hbr6 : Below wr.heap.size wr w6 := HBD.out.trans (HB6.out.mono (by have := HZZ.out; omega))
          have hbx6 := HBX.out.below' hbr6
          have hbrr6 := HBRr.out.below' hbr6
          have x0 := hbx6.cell (i := 0) rfl
          have x1 := hbx6.cell (i := 1) rfl
          have fx0 := hbx6.frozen 0
          have fx1 := hbx6.frozen 1
          have r0 := hbrr6.cell (i := 0) rfl
          have r1 := hbrr6.cell (i := 1) rfl
          have f0 := hbrr6.frozen 0
          have f1 := hbrr6.frozen 1
          have y0 := HY6.out.cell (i := 0) rfl
          have y1 := HY6.out.cell (i := 1) rfl
          have hyl6 := HY6.out.lt
          have hxl6 := hbx6.lt
          have HBX6 := Lib.hid hbx6; have HBRR6 := Lib.hid hbrr6; have HBR6 := Lib.hid hbr6
          have HBW6 : Hid (Below w.heap.size w w6) := Lib.hid (HBW.out.trans (hbr6.mono (by omega)))
          have HYX : Hid (w.heap.size + 4 ≠ wd.heap.size ∧ w.heap.size + 1 + 1 ≠ wd.heap.size ∧ base ≤ wd.heap.size) := Lib.hid (by have h1 := HZZ.out; have h2 := hyl; exact ⟨by omega, by omega, by omega⟩)
          have hne1 : wd.heap.size ≠ w.heap.size + 4 := by have := HYX.out; omega
          have hne2 : w.heap.size + 4 ≠ wd.heap.size := by have := HYX.out; omega
          clear hbx6 hbrr6 hbr6
          rcases HEV6.out with ⟨c, hto, rfl⟩ | ⟨st', vs', U', hto, rfl, hv6⟩
          · as_aux_lemma =>
              have HRK : Hid (R = .error (c, k)) := Lib.hid (by rw [← HRk.out]; exact read_err HXL.out hto)
              clear hto HEV6
              go_wp2_with fail
              have hk1 : Blk (w6.setCell ⟨w.heap.size + 1 + 1, 0, none⟩ (.slice Ax nx cx)) (w.heap.size + 1 + 1) 97 [.slice Ax nx cx, .slice none 0 0] := HBRR6.out.set_ 0 _
              have hk2 : Blk ((w6.setCell ⟨w.heap.size + 1 + 1, 0, none⟩ (.slice Ax nx cx)).setCell ⟨w.heap.size + 1 + 1, 1, none⟩ (.slice Ay ny cy)) (w.heap.size + 1 + 1) 97 [.slice Ax nx cx, .slice Ay ny cy] := hk1.set_ 1 _
              refine bodyPost_ret (results_cell_tmp2_row rfl _ _ (w.heap.size + 1 + 1) _ #[.slice Ax nx cx, .slice Ay ny cy] _ _ rfl hk2 Tryd.underlying97 rfl (by kernel_rfl)) rfl ?_
              have hfz : Below w.heap.size w ((w6.setCell ⟨w.heap.size + 1 + 1, 0, none⟩ (.slice Ax nx cx)).setCell ⟨w.heap.size + 1 + 1, 1, none⟩ (.slice Ay ny cy)) := ((HBW6.out).setCell (p := ⟨w.heap.size + 1 + 1, 0, none⟩) (by show _ ≤ w.heap.size + 1 + 1; omega) _).setCell (p := ⟨w.heap.size + 1 + 1, 1, none⟩) (by show _ ≤ w.heap.size + 1 + 1; omega) _
              rw [HRK.out]
              exact ⟨⟨_, _, _, _, _, _, rfl⟩, hfz⟩
          · as_aux_lemma =>
              have HRk' : Hid (readP G T (l.drop (k + 1)) (k + 1) (st'.1 ++ [to], st'.2 ++ [.node (-1) k []]) = R) := Lib.hid ((read_yes HXL.out hto).symm.trans HRk.out)
              obtain ⟨hsk, hlk⟩ := take_ok HF.out HSk.out hto
              have HSk' := Lib.hid hsk
              have HLk' : Hid ((st'.2 ++ [Tr.node (-1) k []]).length ≤ 10001 * (k + 1)) := Lib.hid (by have h1 := HLk.out; simp only at h1 hlk; omega)
              have hll : st'.2.length ≤ 10001 * (k + 1) := by have := HLk'.out; rw [List.length_append] at this; omega
              have hls : st'.1.length ≤ 10001 * (k + 1) := by
                have h1 := hsk.l
                simp only [List.length_append, List.length_singleton] at h1
                have h2 := HLk'.out
                simp only [List.length_append, List.length_singleton] at h2
                omega
              obtain ⟨_, _, _, _, e1, e2, -, -, -, -⟩ := stv_forms hv6
              simp only [Value.slice.injEq] at e1 e2
              obtain ⟨rfl, rfl, rfl⟩ := e1
              obtain ⟨rfl, rfl, rfl⟩ := e2
              have HV6 := Lib.hid hv6
              have HB66 : Hid (base ≤ w6.heap.size) := Lib.hid (by have := HYX.out; omega)
              clear hto HEV6 hsk hlk hv6 r0 r1 f0 f1
              go_wp2_with (first
                | (at_builtin; refine wpList_app elIn rfl (.tmp 58) (.tmp 60) rfl base _ st'.1.length 1 (iv st'.1) [.int .i64 to] rfl HV6.out.s rfl rfl (by simp [Value.oneCell']) ?_ ?_ HB66.out ?_; omega; omega; intro v8 w8 hown8 hg8 hat8; obtain ⟨A8, cA8, rfl, -, -, -⟩ := own_form hown8; have hset8 := HV6.out.setS HY6.out HYX.out.2.2 hg8 (ss' := st'.1 ++ [to]) (by rw [List.length_append, iv_app]; exact hown8) (atn1 hat8); have z6 := hset8.2.2.2.1; have z7 := hset8.2.2.2.2; have hyl8 : wd.heap.size < w8.heap.size := Nat.lt_of_lt_of_le hyl6 hg8.size; have zy1 : w8.cell? ⟨wd.heap.size, 1, none⟩ = some (.slice A2' st'.2.length c2') := (World.cell?_setCell_other (w := w8) (a := ⟨wd.heap.size, 0, none⟩) (b := ⟨wd.heap.size, 1, none⟩) (v := .slice A8 (st'.1.length + 1) cA8) (by simp)).symm.trans (hset8.2.1.cell (i := 1) rfl); obtain ⟨UL, hvl, htl⟩ := hset8.1.leaf k; rw [setCell_size] at htl; have hyL := hset8.2.1.alloc (.cells #[.int .i64 (-1), .int .i64 (k : Int), .slice none 0 0] 68); have hbxL := (hset8.2.2.1.blk HBX6.out HYX.out.1 (by decide) (by decide)).alloc (.cells #[.int .i64 (-1), .int .i64 (k : Int), .slice none 0 0] 68); have hbL := hset8.2.2.1.bel.alloc (Nat.le_trans HB66.out hset8.2.2.1.bel.size) (.cells #[.int .i64 (-1), .int .i64 (k : Int), .slice none 0 0] 68); have HVL := Lib.hid hvl; have HTL := Lib.hid htl; have HYL := Lib.hid hyL; have HBXL := Lib.hid hbxL; have HBL := Lib.hid hbL; have HBLz : Hid (base ≤ ((w8.setCell ⟨wd.heap.size, 0, none⟩ (.slice A8 (st'.1.length + 1) cA8)).alloc (.cells #[.int .i64 (-1), .int .i64 (k : Int), .slice none 0 0] 68)).heap.size) := Lib.hid (Nat.le_trans HB66.out hbL.size); clear hown8 hg8 hat8 hset8 hvl htl hyL hbxL hbL x0 x1 fx0 fx1)
                | (at_builtin; refine wpList_app elTp rfl (.tmp 67) (.tmp 69) rfl base _ st'.2.length 1 vs' [.pointer (some ⟨w8.heap.size, 0, none⟩)] rfl HVL.out.t (by simp [setCell_size]; rfl) rfl (by simp [Value.oneCell']) ?_ ?_ HBLz.out ?_; omega; omega; intro v12 w12 hown12 hg12 hat12; obtain ⟨A12, cA12, rfl, -, -, -⟩ := own_form hown12; have hset12 := HVL.out.setT HYL.out HYX.out.2.2 hg12 (ts' := st'.2 ++ [.node (-1) k []]) (vs' := vs' ++ [.pointer (some ⟨w8.heap.size, 0, none⟩)]) (by rw [List.length_append]; exact hown12) (atn1 hat12) (app_tr HVL.out.vl HVL.out.tr HTL.out); have z8 := hset12.2.2.2.1; have z9 := hset12.2.2.2.2; have zy0 : w12.cell? ⟨wd.heap.size, 0, none⟩ = some (.slice A8 (st'.1.length + 1) cA8) := (World.cell?_setCell_other (w := w12) (a := ⟨wd.heap.size, 1, none⟩) (b := ⟨wd.heap.size, 0, none⟩) (v := .slice A12 (st'.2.length + 1) cA12) (by simp)).symm.trans (hset12.2.1.cell (i := 0) rfl); have hbx12 := hset12.2.2.1.blk HBXL.out HYX.out.1 (by decide) (by decide); have x0 : w12.cell? ⟨w.heap.size + 4, 0, none⟩ = some (.slice Ax nx cx) := (World.cell?_setCell_other (w := w12) (a := ⟨wd.heap.size, 1, none⟩) (b := ⟨w.heap.size + 4, 0, none⟩) (v := .slice A12 (st'.2.length + 1) cA12) (by simp)).symm.trans (hbx12.cell (i := 0) rfl); have x1 : w12.cell? ⟨w.heap.size + 4, 1, none⟩ = some (.slice Ay ny cy) := (World.cell?_setCell_other (w := w12) (a := ⟨wd.heap.size, 1, none⟩) (b := ⟨w.heap.size + 4, 1, none⟩) (v := .slice A12 (st'.2.length + 1) cA12) (by simp)).symm.trans (hbx12.cell (i := 1) rfl); have fx0 := hbx12.frozen 0; have fx1 := hbx12.frozen 1; have HS12 := Lib.hid hset12; have HBX12 := Lib.hid hbx12; clear hown12 hg12 hat12 hset12 hbx12 z6 z7 zy1))
              have hbx13 := HBX12.out
              have hk1 : Blk ((w12.setCell ⟨wd.heap.size, 1, none⟩ (.slice A12 (st'.2.length + 1) cA12)).setCell ⟨w.heap.size + 4, 0, none⟩ (.slice A8 (st'.1.length + 1) cA8)) (w.heap.size + 4) 97 [.slice A8 (st'.1.length + 1) cA8, .slice Ay ny cy] := hbx13.set_ 0 _
              have hk2 : Blk (((w12.setCell ⟨wd.heap.size, 1, none⟩ (.slice A12 (st'.2.length + 1) cA12)).setCell ⟨w.heap.size + 4, 0, none⟩ (.slice A8 (st'.1.length + 1) cA8)).setCell ⟨w.heap.size + 4, 1, none⟩ (.slice A12 (st'.2.length + 1) cA12)) (w.heap.size + 4) 97 [.slice A8 (st'.1.length + 1) cA8, .slice A12 (st'.2.length + 1) cA12] := hk1.set_ 1 _
              have hv13 := (HS12.out.1.far (p := ⟨w.heap.size + 4, 0, none⟩) hbx13 (by decide) (by decide) (by decide) (.slice A8 (st'.1.length + 1) cA8)).far (p := ⟨w.heap.size + 4, 1, none⟩) hk1 (by decide) (by decide) (by decide) (.slice A12 (st'.2.length + 1) cA12)
              have hb13 : Below base w1 (w12.setCell ⟨wd.heap.size, 1, none⟩ (.slice A12 (st'.2.length + 1) cA12)) := HBk.out.trans ((HBR6.out.mono (by omega)).trans (HBL.out.trans HS12.out.2.2.1.bel))
              have HX13 : Hid (XBox (((w12.setCell ⟨wd.heap.size, 1, none⟩ (.slice A12 (st'.2.length + 1) cA12)).setCell ⟨w.heap.size + 4, 0, none⟩ (.slice A8 (st'.1.length + 1) cA8)).setCell ⟨w.heap.size + 4, 1, none⟩ (.slice A12 (st'.2.length + 1) cA12)) base (w.heap.size + 4) (st'.1 ++ [to], st'.2 ++ [.node (-1) k []])) := Lib.hid ⟨_, _, _, _, _, _, _, _, hk2, hv13⟩
              have HB13 : Hid (Below base w1 (((w12.setCell ⟨wd.heap.size, 1, none⟩ (.slice A12 (st'.2.length + 1) cA12)).setCell ⟨w.heap.size + 4, 0, none⟩ (.slice A8 (st'.1.length + 1) cA8)).setCell ⟨w.heap.size + 4, 1, none⟩ (.slice A12 (st'.2.length + 1) cA12))) := Lib.hid ((hb13.setCell (p := ⟨w.heap.size + 4, 0, none⟩) (by show base ≤ w.heap.size + 4; omega) _).setCell (p := ⟨w.heap.size + 4, 1, none⟩) (by show base ≤ w.heap.size + 4; omega) _)
              clear hbx13 hk1 hk2 hv13 hb13
              go_roundw
              case rel => exact ⟨k + 1, (st'.1 ++ [to], st'.2 ++ [.node (-1) k []]), by omega, by go_num, HRk', HSk', HX13, HLk', HB13⟩
              case measure => simp [intOf]; omega
end Go.Proofs.YtinejiodnnjpgaaDoor
