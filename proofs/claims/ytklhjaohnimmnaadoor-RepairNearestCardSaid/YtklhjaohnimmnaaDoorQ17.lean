/- A region that draws its order, walked by steps: what only answers a value is taken in the order of the text; of what makes or writes memory each that may come. · The mender's row. -/
import Derived.Test.YtklhjaohnimmnaaDoorQ16
import Derived.Test.YtklhjaohnimmnaaDoorQ14
import Derived.Test.YtklhjaohnimmnaaDoorQ15
import Derived.Laws.ResultCell
namespace Go.Proofs.YtklhjaohnimmnaaDoor
open Go
set_option linter.unusedVariables false
set_option linter.unusedSimpArgs false

section
variable {P : Program} {ops : Array Oper} {md : Region.Mode} {Q : Exit → Act → World → Prop} {S : World → Prop}
/-- Whatever comes up leaves S. -/
def wpAnyS (P : Program) (md : Region.Mode) (ops : Array Oper) (Q : Exit → Act → World → Prop) (S : World → Prop) : Nat → Array Bool → Act → World → Prop
  | 0, listed, a, w => Region.ready md ops listed = [] ∧ Q .normal a w
  | f + 1, listed, a, w => Region.ready md ops listed ≠ [] ∧ ∀ i ∈ Region.ready md ops listed, wpOp P ops Q i (fun a' w' => S w' ∧ wpAnyS P md ops Q S f (listed.setIfInBounds i true) a' w') a w
theorem wpAny_of_S : ∀ (f : Nat) (listed : Array Bool) (a : Act) (w : World), wpAnyS P md ops Q S f listed a w → wpAny P md ops Q f listed a w
  | 0, listed, a, w, h => h
  | f + 1, listed, a, w, h => ⟨fun h0 => absurd h0 h.1, fun i hi => wpOp_mono (fun a' w' h' => wpAny_of_S f _ a' w' h'.2) (h.2 i hi)⟩
theorem firstS {i : Nat} {oi : Oper} {v : Value} (hi : ops[i]? = some oi) (hsel : ∀ (j : Nat) (o : Oper) cs b, ops[j]? = some o → o.op ≠ .select cs b)
    (hQ : ∀ c a d v w, Q (.panic c) (a.put d v) w → Q (.panic c) a w) :
    ∀ (f : Nat) (listed : Array Bool) (a : Act) (w : World),
      (∀ j oj, ops[j]? = some oj → j ≠ i → listed.getD j true = false → (∀ e ∈ oj.after, Region.binds md e = true → e.on ≠ i) → oi.apart ops oj = true) →
      i ∈ Region.ready md ops listed → YieldsIf P ops S oi v a → S w →
      wpAnyS P md ops Q S f (listed.setIfInBounds i true) (a.put oi.dst v) w → wpAnyS P md ops Q S (f + 1) listed a w := by
  intro f
  induction f with
  | zero =>
    intro listed a w _ hr hy hS H
    refine ⟨fun h => (by rw [h] at hr; cases hr), fun j hj => ?_⟩
    by_cases hji : j = i
    · subst hji; exact hy.wpOp hi hS ⟨hS, H⟩
    · have := ready_mono hj hji
      rw [H.1] at this
      cases this
  | succ f ih =>
    intro listed a w hfree hr hy hS H
    have hun := (mem_ready.1 hr).1
    refine ⟨fun h => (by rw [h] at hr; cases hr), fun j hj => ?_⟩
    by_cases hji : j = i
    · subst hji; exact hy.wpOp hi hS ⟨hS, H⟩
    · obtain ⟨hjun, oj, hoj, hall⟩ := mem_ready.1 hj
      have hno : ∀ e ∈ oj.after, Region.binds md e = true → e.on ≠ i := fun e he hb q => by
        have := hall e he hb
        rw [q, getD_both hun] at this
        cases this
      have h2 := wpOp_putIf hoj (hfree j oj hoj hji hjun hno) (fun cs b => hsel i oi cs b hi) (fun cs b => hsel j oj cs b hoj) (fun c a w q => hQ c a _ _ w q) hy (H.2 j (ready_mono hj hji))
      refine wpOp_mono (fun a' w' h3 => ⟨h3.2.1, ih (listed.setIfInBounds j true) a' w' (fun k ok hk hki hku hkn => hfree k ok hk hki ?_ hkn) (ready_mono hr (Ne.symm hji)) h3.1 h3.2.1 ?_⟩) h2
      · by_cases q : j = k
        · subst q; exact hjun
        · rw [getD_set_ne true q] at hku; exact hku
      · rw [Array.setIfInBounds_comm _ _ hji]; exact h3.2.2
/-- The operations from k on, f of them, only answer values, and may be taken now. -/
def lexS (md : Region.Mode) (ops : Array Oper) : Nat → Nat → Array Bool → Bool
  | 0, _, _ => true
  | f + 1, k, listed => (Region.ready md ops listed).contains k && Region.free md ops listed k && lexS md ops f (k + 1) (listed.setIfInBounds k true)
def setsB : Nat → Nat → Array Bool → Array Bool
  | 0, _, listed => listed
  | f + 1, k, listed => setsB f (k + 1) (listed.setIfInBounds k true)
theorem batchS {K : Act → Prop} {w : World} {g : Nat} (hsel : Region.noSelect ops = true) (hQ : ∀ c a d v w, Q (.panic c) (a.put d v) w → Q (.panic c) a w) (hS : S w) :
    ∀ (l : List Oper) (k : Nat) (listed : Array Bool) (a : Act), (∀ j, j < l.length → l[j]? = ops[k + j]?) → lexS md ops l.length k listed = true → l.all readB = true →
    (∀ a', K a' → wpAnyS P md ops Q S g (setsB l.length k listed) a' w) → wpQuiet P ops S K l a → wpAnyS P md ops Q S (g + l.length) listed a w
  | [], k, listed, a, _, _, _, hK, h => hK a h
  | o :: l, k, listed, a, hl, hB, hR, hK, h => by
    have h0 : ops[k]? = some o := by simpa using (hl 0 (by simp)).symm
    simp only [List.length_cons, lexS, Bool.and_eq_true] at hB
    simp only [List.all_cons, Bool.and_eq_true] at hR
    obtain ⟨⟨hr, hf⟩, hB2⟩ := hB
    have hr2 : k ∈ Region.ready md ops listed := by simpa using hr
    have key : ∀ (v : Value), YieldsIf P ops S o v a → wpQuiet P ops S K l (a.put o.dst v) → wpAnyS P md ops Q S (g + (l.length + 1)) listed a w := fun v hy h2 =>
      firstS h0 (Region.noSelect_spec hsel) hQ (g + l.length) listed a w (Region.free_spec h0 hf) hr2 hy hS
        (batchS hsel hQ hS l (k + 1) _ _ (fun j hj => by have := hl (j + 1) (by simp; omega); simpa [Nat.add_assoc, Nat.add_comm 1 j] using this) hB2 hR.2 hK h2)
    unfold wpQuiet at h
    split at h
    · rename_i hw
      obtain ⟨v, h1, h2⟩ := h
      exact key v (yieldsIf_of_quiet hR.1 hw h1) h2
    · rename_i hw
      exact key undef (.inr ⟨by simpa using hw, rfl⟩) h
/-- The region. -/
theorem wp_region_S {id : Nat} {a : Act} {w : World} {l : List Oper} (S : World → Prop) (hm : P.follows .mixedOrders = true) (h : wpAnyS P .any l.toArray Q S l.toArray.size (Array.replicate l.toArray.size false) a w.drew) : (Code.region id l.toArray true).wp P Q a w :=
  wp_region_any hm (wpAny_of_S _ _ _ _ h)
/-- The operations from k on, n of them, that only answer values. -/
theorem takeS {w : World} {l : List Oper} {a : Act} {listed : Array Bool} (g k n : Nat) (hB : (Region.noSelect l.toArray && lexS md l.toArray n k listed && decide (k + n ≤ l.length)) = true) (hR : ((l.drop k).take n).all readB = true)
    (hQ : ∀ c a d v w, Q (.panic c) (a.put d v) w → Q (.panic c) a w) (hS : S w) (h : wpQuiet P l.toArray S (fun a' => wpAnyS P md l.toArray Q S g (setsB n k listed) a' w) ((l.drop k).take n) a) : wpAnyS P md l.toArray Q S (g + n) listed a w := by
  simp only [Bool.and_eq_true, decide_eq_true_eq] at hB
  obtain ⟨⟨hsel, hlex⟩, hkn⟩ := hB
  have hlen : ((l.drop k).take n).length = n := by simp; omega
  have := batchS (md := md) (g := g) hsel hQ hS ((l.drop k).take n) k listed a (fun j hj => by
    rw [hlen] at hj
    simp [List.getElem?_take, hj]) (by rw [hlen]; exact hlex) hR (fun a' ha => by rw [hlen]; exact ha) h
  rwa [hlen] at this
/-- One operation alone may come. -/
theorem oneS {w : World} {l : List Oper} {a : Act} {listed : Array Bool} (f i : Nat) (hB : decide (Region.ready md l.toArray listed = [i]) = true) (hi : i < l.length)
    (h : wpList P l.toArray (Exit.then (fun a' w' => S w' ∧ wpAnyS P md l.toArray Q S f (listed.setIfInBounds i true) a' w') Q) ((l.drop i).take 1) a w) : wpAnyS P md l.toArray Q S (f + 1) listed a w := by
  have hr := of_decide_eq_true hB
  refine ⟨by rw [hr]; simp, fun j hj => ?_⟩
  rw [hr, List.mem_singleton] at hj
  subst hj
  have hop : l.toArray[j]? = some (l[j]'hi) := by simp
  refine wpOp_of_list hop ?_
  have h1 : (l.drop j).take 1 = [l[j]'hi] := by rw [List.drop_eq_getElem_cons hi]; rfl
  rw [← h1]
  exact h
/-- One of two may come. -/
theorem twoS {w : World} {l : List Oper} {a : Act} {listed : Array Bool} (f i j : Nat) (hB : decide (Region.ready md l.toArray listed = [i, j]) = true) (hi : i < l.length) (hj : j < l.length)
    (h : wpList P l.toArray (Exit.then (fun a' w' => S w' ∧ wpAnyS P md l.toArray Q S f (listed.setIfInBounds i true) a' w') Q) ((l.drop i).take 1) a w)
    (h' : wpList P l.toArray (Exit.then (fun a' w' => S w' ∧ wpAnyS P md l.toArray Q S f (listed.setIfInBounds j true) a' w') Q) ((l.drop j).take 1) a w) : wpAnyS P md l.toArray Q S (f + 1) listed a w := by
  have hr := of_decide_eq_true hB
  refine ⟨by rw [hr]; simp, fun k hk => ?_⟩
  rw [hr] at hk
  simp only [List.mem_cons, List.not_mem_nil, or_false] at hk
  rcases hk with rfl | rfl
  · have hop : l.toArray[k]? = some (l[k]'hi) := by simp
    refine wpOp_of_list hop ?_
    have h1 : (l.drop k).take 1 = [l[k]'hi] := by rw [List.drop_eq_getElem_cons hi]; rfl
    rw [← h1]
    exact h
  · have hop : l.toArray[k]? = some (l[k]'hj) := by simp
    refine wpOp_of_list hop ?_
    have h1 : (l.drop k).take 1 = [l[k]'hj] := by rw [List.drop_eq_getElem_cons hj]; rfl
    rw [← h1]
    exact h'
/-- None is left. -/
theorem endS {w : World} {a : Act} {listed : Array Bool} (hB : decide (Region.ready md ops listed = []) = true) (h : Q .normal a w) : wpAnyS P md ops Q S 0 listed a w := ⟨of_decide_eq_true hB, h⟩
end
end Go.Proofs.YtklhjaohnimmnaaDoor
namespace Go.Proofs.YtklhjaohnimmnaaDoor
open Go.RowKit BigFrame Go.Maps
set_option linter.unusedVariables false
set_option linter.unusedSimpArgs false
set_option maxRecDepth 100000

set_option maxHeartbeats 4000000 in
theorem row_nil (G : Gr) (Ap Al As : Option Addr) (np cp nl cl ns cs : Nat) (D : Md) (A1 A2 A3 A4 : Option Addr) (n1 c1 n2 c2 n3 c3 n4 c4 bM m : Nat) (w : World) (B : Nat) (hB : B ≤ w.heap.size) (hM : MdIn w B m G Ap Al As np cp nl cl ns cs D A1 A2 A3 A4 n1 c1 n2 c2 n3 c3 n4 c4 bM)
    (A : Option Addr) (c : Nat) (M : BCh) (f t : Nat) (hf : f ≤ t) (ht : t ≤ n3) :
    Calls Tryd.prog 25 #[.pointer (some ⟨m, 0, none⟩), .slice A 0 c, .int .i64 (f : Int), .int .i64 (t : Int)] w fun e w' => ∃ v, e = .returned v ∧ BsT w' v (rwB (nthI D.P) (nthI D.L) M D.I [] f t) ∧ Below w.heap.size w w' := by
  obtain ⟨w1, hw1⟩ : ∃ w1, w1 = w.alloc (.cells #[.bool false, .int .i64 0, .int .i64 0, .slice none 0 0] 51) := ⟨_, rfl⟩
  have hb1 : Below w.heap.size w w1 := by rw [hw1]; exact (Below.refl _ _).alloc (Nat.le_refl _) _
  have hk1 : Blk w1 w.heap.size 51 [.bool false, .int .i64 0, .int .i64 0, .slice none 0 0] := by rw [hw1]; exact Blk.new w 51 [.bool false, .int .i64 0, .int .i64 0, .slice none 0 0]
  have hM1 := hM.below hb1 hB
  have x9 := hM1.b.cell (i := 9) rfl
  have hh4 := hM.h4; have hq4 := hM.m4; have hh3 := hM.h3; have hm3 := hM.m3
  obtain ⟨b4, o4, rfl, hbb4, hc4⟩ := hM1.s.rd.at_ (by omega)
  have yt := hc4 t (by omega)
  have yf := hc4 f (by omega)
  rw [hM.cs t ht] at yt
  rw [hM.cs f (by omega)] at yf
  have bt := lvS_bound (nthI_bound hM.cl) (D.I.take t)
  have bf := lvS_bound (nthI_bound hM.cl) (D.I.take f)
  rw [List.length_take, Nat.min_eq_left (by omega)] at bt bf
  have hall := lv_sub (leave := nthI D.L) (l := D.I) hf (by omega)
  generalize lvS (nthI D.L) (D.I.take t) = lu at *
  generalize lvS (nthI D.L) (D.I.take f) = lf at *
  have f0 := hk1.frozen 0
  have f1 := hk1.frozen 1
  have f2 := hk1.frozen 2
  have f3 := hk1.frozen 3
  have z0 := hk1.cell (i := 0) rfl
  have z1 := hk1.cell (i := 1) rfl
  have z2 := hk1.cell (i := 2) rfl
  have z3 := hk1.cell (i := 3) rfl
  have HK := Lib.hid hk1; have HB := Lib.hid hb1
  have HE : Hid (rwB (nthI D.P) (nthI D.L) M D.I [] f t = some (lu - lf, 0, [])) := Lib.hid (by unfold rwB; rw [hall])
  clear hM hM1 hk1 hb1 hc4 hh4 hh3 hall
  subst hq4
  go_enter Tryd.func25, Tryd.ntmps25
  go_wp2_with fail
  rw [← hw1]
  clear hw1
  go_region
  go_wp2_with fail
  have hk3 := (((HK.out.set_ 0 (.bool true)).set_ 1 (.int .i64 (lu - lf))).set_ 2 (.int .i64 0)).set_ 3 (.slice none 0 0)
  refine bodyPost_ret (results_cell_row rfl _ _ w.heap.size _ #[.bool true, .int .i64 (lu - lf), .int .i64 0, .slice none 0 0] _ _ rfl hk3 Tryd.underlying51 rfl (by kernel_rfl)) rfl ?_
  rw [HE.out]
  exact ⟨_, rfl, ⟨none, 0, rfl, Nat.le_refl _, Nat.zero_le _, fun h => absurd rfl h⟩, (bel_set4 HB.out (Nat.le_refl _) _ _ _ _ _ _ _ _).drew⟩

set_option maxHeartbeats 4000000 in
theorem row_cons (G : Gr) (Ap Al As : Option Addr) (np cp nl cl ns cs : Nat) (D : Md) (A1 A2 A3 A4 : Option Addr) (n1 c1 n2 c2 n3 c3 n4 c4 bM m : Nat) (w : World) (B : Nat) (hB : B ≤ w.heap.size) (hM : MdIn w B m G Ap Al As np cp nl cl ns cs D A1 A2 A3 A4 n1 c1 n2 c2 n3 c3 n4 c4 bM)
    (N n lo : Nat) (γ : Nat → Nat → Option Nat) (M : BCh) (hC : ChM w bM N n lo γ M) (hN : N ≤ 300) (A : Option Addr) (nr c : Nat) (r : List Int) (hr : RdI w B A r) (hl : r.length = nr) (h0 : 0 < nr) (h20 : nr ≤ 20) (hcap : nr ≤ c) (hcm : c ≤ maxLen)
    (f t : Nat) (hf : f ≤ t) (ht : t ≤ n3) (hs : ∀ s ∈ r, (s < 0 → (-1 - s).toNat < N) ∧ (0 ≤ s → s.toNat < n1 ∧ s.toNat < n2))
    (hg : ∀ i k, k ≤ t - f → GoodB (rowA (nthI D.P) (nthI D.L) M D.I f r i k)) (hgs : ∀ s ∈ r, ∀ a b, a ≤ b → b ≤ n3 → GoodB (symB (nthI D.P) (nthI D.L) M D.I s a b)) :
    Calls Tryd.prog 25 #[.pointer (some ⟨m, 0, none⟩), .slice A nr c, .int .i64 (f : Int), .int .i64 (t : Int)] w fun e w' => ∃ v, e = .returned v ∧ BsT w' v (rwB (nthI D.P) (nthI D.L) M D.I r f t) ∧ Below w.heap.size w w' := by
  have HSYM : Hid (∀ (W : World), Below w.heap.size w W → ∀ s ∈ r, ∀ (a b : Nat) (ai bi : Int), ai = a → bi = b → a ≤ b → b ≤ n3 →
      Calls Tryd.prog 40 #[.pointer (some ⟨m, 0, none⟩), .int .i64 s, .int .i64 ai, .int .i64 bi] W fun e w' => ∃ v, e = .returned v ∧ BsT w' v (symB (nthI D.P) (nthI D.L) M D.I s a b) ∧ Below W.heap.size W w') := Lib.hid fun W hW s hx a b ai bi ha hb h1 h2 => by
    subst ha hb
    exact symbol_any G Ap Al As np cp nl cl ns cs D A1 A2 A3 A4 n1 c1 n2 c2 n3 c3 n4 c4 bM m W B (Nat.le_trans hB hW.size) (hM.below hW hB) N n lo γ M (hC.below hW) hN s a b (hs s hx).1 (hs s hx).2 h1 h2
  have hm3 := hM.m3
  obtain ⟨nq, rfl⟩ : ∃ nq, nr = nq + 1 := ⟨nr - 1, by omega⟩
  obtain ⟨T, hT⟩ : ∃ T, t = f + T := ⟨t - f, by omega⟩
  have hTe : (t : Int) - (f : Int) = (T : Int) := by omega
  have hTn : t - f = T := by omega
  rw [hTn] at hg
  have HRB : Hid (rwB (nthI D.P) (nthI D.L) M D.I r f t = rowA (nthI D.P) (nthI D.L) M D.I f r nq T) := Lib.hid (by rw [rowB_A (by omega), hl, hTn]; rfl)
  have HG := Lib.hid hg; have HGS := Lib.hid hgs
  have HFT : Hid (f + T ≤ n3) := Lib.hid (by omega)
  have hTm : T ≤ 300 := by omega
  have hfm : f ≤ 300 := by omega
  obtain ⟨w1, hw1⟩ : ∃ w1, w1 = w.alloc (.cells #[.bool false, .int .i64 0, .int .i64 0, .slice none 0 0] 51) := ⟨_, rfl⟩
  have hb1 : Below w.heap.size w w1 := by rw [hw1]; exact (Below.refl _ _).alloc (Nat.le_refl _) _
  have hk1 : Blk w1 w.heap.size 51 [.bool false, .int .i64 0, .int .i64 0, .slice none 0 0] := by rw [hw1]; exact Blk.new w 51 [.bool false, .int .i64 0, .int .i64 0, .slice none 0 0]
  obtain ⟨a, hz1⟩ : ∃ a, w1.heap.size = a := ⟨_, rfl⟩
  have hla : w.heap.size < a := by rw [← hz1, hw1]; simp
  have HLA : Hid (w.heap.size + 1 = a) := Lib.hid (by rw [← hz1, hw1]; simp)
  obtain ⟨b, o, rfl, hbb, hc⟩ := hr.at_ (by omega)
  have HRC : Hid (∀ W, Below w.heap.size w W → ∀ j, j < nq + 1 → W.cell? ⟨b, o + j, none⟩ = some (.int .i64 (nth r j))) := Lib.hid fun W hW j hj => (hW.cell (p := ⟨b, o + j, none⟩) (by show b < _; omega)).trans (hc j (by omega))
  have HMEM : Hid (∀ j, j < nq + 1 → nth r j ∈ r) := Lib.hid fun j hj => by rw [nth_get (by omega)]; exact List.getElem_mem _
  have HLEN : Hid (r.length = nq + 1) := Lib.hid hl
  have HMK := Lib.hid (mk_bests (T + 1) ((T : Int) + 1) (by omega) (by omega))
  have hbn : b < w.heap.size := by omega
  have hnr : ((nq : Int) + 1 == 0) = false := by simp; omega
  have HK := Lib.hid hk1; have HB := Lib.hid hb1
  clear hM hC hr hc hl hs hg hgs hk1 hb1 hT hTn ht hf
  have hmk := HMK.out
  go_enter Tryd.func25, Tryd.ntmps25
  go_wp2_with fail
  rw [← hw1]
  clear hw1
  go_wp2_with fail
  obtain ⟨w2, hw2⟩ : ∃ w2, w2 = w1.alloc (.cells (bz (T + 1)) 51) := ⟨_, rfl⟩
  have hb2 : Below w1.heap.size w1 w2 := by rw [hw2]; exact (Below.refl _ _).alloc (Nat.le_refl _) _
  have hbt2 : BtB w2 w1.heap.size (T + 1) (fun _ => none) := by rw [hw2]; exact BtB.made w1 (T + 1)
  have hlt1 : w.heap.size < w1.heap.size := by omega
  have HK2 := Lib.hid (HK.out.below' hb2)
  have HB2 := Lib.hid (HB.out.trans (hb2.mono (by omega)))
  have HBT2 := Lib.hid hbt2
  have HZ2 : Hid (w1.heap.size < w2.heap.size) := Lib.hid hbt2.lt
  rw [← hw2]
  clear hw2 hb2 hbt2 HK HB
  rw [hz1] at HBT2 HZ2
  rw [HLA.out]
  clear hz1 hlt1
  go_loopw [43] (fun i wr => ∃ k : Nat, k ≤ T + 1 ∧ i = .int .i64 (k : Int) ∧ Hid (Blk wr w.heap.size 51 [.bool false, .int .i64 0, .int .i64 0, .slice none 0 0]) ∧ Hid (BtB wr a (T + 1) (fun X => if X < k then rowA (nthI D.P) (nthI D.L) M D.I f r 0 X else none)) ∧ Hid (Below w.heap.size w wr)) (fun i _ => T + 1 - (intOf i).toNat)
  case atStart => exact ⟨0, Nat.zero_le _, rfl, HK2, Lib.hid (HBT2.out.congr fun X _ => by simp), HB2⟩
  case round =>
    as_aux_lemma =>
      obtain ⟨k, hk, rfl, HKr, HBTr, HBr⟩ := hrel
      have hlr := HBTr.out.lt
      by_cases hlt : k < T + 1
      · as_aux_lemma =>
          have y := HRC.out wr HBr.out 0 h0
          rw [Nat.add_zero] at y
          have HC := Lib.hid (HSYM.out wr HBr.out (nth r 0) (HMEM.out 0 h0) f (f + k) (f : Int) ((f : Int) + (k : Int)) rfl (by omega) (by omega) (by have := HFT.out; omega))
          have hbl := HBr.out.size
          have HMK' := Lib.hid hmk
          clear hmk HMK
          go_wp2_with fail
          refine HC.out.mono ?_
          rintro e w4 ⟨v, rfl, hv, hb4⟩
          obtain ⟨q0, q1, q2, q3, q4, q5, rfl⟩ := hv.form
          have hbt4 := HBTr.out.below hb4
          have hk4 := HKr.out.below' hb4
          have hw4 : Below w.heap.size w w4 := HBr.out.trans (hb4.mono hbl)
          obtain ⟨_, _, _, _, _, _, y0, y1, y2, y3, -⟩ := hbt4.at_ hlt
          have g0 := hbt4.frozen (k * 4)
          have g1 := hbt4.frozen (k * 4 + 1)
          have g2 := hbt4.frozen (k * 4 + 2)
          have g3 := hbt4.frozen (k * 4 + 3)
          have HP := Lib.hid (hbt4.put hlt hv)
          have HK4 : Hid (Blk ((((w4.setCell ⟨a, k * 4, none⟩ (.bool q0)).setCell ⟨a, k * 4 + 1, none⟩ (.int .i64 q1)).setCell ⟨a, k * 4 + 2, none⟩ (.int .i64 q2)).setCell ⟨a, k * 4 + 3, none⟩ (.slice q3 q4 q5)) w.heap.size 51 [.bool false, .int .i64 0, .int .i64 0, .slice none 0 0]) := Lib.hid (by
            have hne : w.heap.size ≠ a := by omega
            exact Blk.far (Blk.far (Blk.far (Blk.far hk4 hne _) hne _) hne _) hne _)
          have HW4 : Hid (Below w.heap.size w ((((w4.setCell ⟨a, k * 4, none⟩ (.bool q0)).setCell ⟨a, k * 4 + 1, none⟩ (.int .i64 q1)).setCell ⟨a, k * 4 + 2, none⟩ (.int .i64 q2)).setCell ⟨a, k * 4 + 3, none⟩ (.slice q3 q4 q5))) := Lib.hid (bel_set4 hw4 (by omega) _ _ _ _ _ _ _ _)
          have HA0 : Hid (∀ X, X < T + 1 → (if X = k then symB (nthI D.P) (nthI D.L) M D.I (nth r 0) f (f + k) else if X < k then rowA (nthI D.P) (nthI D.L) M D.I f r 0 X else none) = if X < k + 1 then rowA (nthI D.P) (nthI D.L) M D.I f r 0 X else none) := Lib.hid (fun X hX => by
            by_cases e : X = k
            · subst e
              rw [if_pos rfl, if_pos (by omega), rowA_zero]
            · rw [if_neg e]
              by_cases e2 : X < k
              · rw [if_pos e2, if_pos (by omega)]
              · rw [if_neg e2, if_neg (by omega)])
          clear hv hb4 hbt4 hk4 hw4 HC y
          go_wp2_with fail
          go_roundw
          case rel => exact ⟨k + 1, by omega, by go_num, HK4, Lib.hid (HP.out.congr HA0.out), HW4⟩
          case measure => simp [intOf]; omega
      · as_aux_lemma =>
          have hke : k = T + 1 := by omega
          have HBT0 : Hid (BtB wr a (T + 1) (rowA (nthI D.P) (nthI D.L) M D.I f r 0)) := Lib.hid (HBTr.out.congr fun X hX => by rw [if_pos (by omega)])
          have HMK' := HMK
          clear hmk HMK HBTr hke HB2 HBT2 HK2
          by_cases h1 : nq = 0
          · subst h1
            as_aux_lemma =>
              obtain ⟨q0, q1, q2, q3, q4, q5, y0, y1, y2, y3, hv⟩ := HBT0.out.at_ (X := T) (by omega)
              have f0 := HKr.out.frozen 0
              have f1 := HKr.out.frozen 1
              have f2 := HKr.out.frozen 2
              have f3 := HKr.out.frozen 3
              have z0 := HKr.out.cell (i := 0) rfl
              have z1 := HKr.out.cell (i := 1) rfl
              have z2 := HKr.out.cell (i := 2) rfl
              have z3 := HKr.out.cell (i := 3) rfl
              have HV := Lib.hid hv
              clear hv
              by_cases hc1 : c = 1
              · subst hc1
                go_wp2_with fail
                refine wp_loop_rounds 1 ?_
                rw [rounds_succ]
                go_wp2_with fail
                have hk3 := (((HKr.out.set_ 0 (.bool q0)).set_ 1 (.int .i64 q1)).set_ 2 (.int .i64 q2)).set_ 3 (.slice q3 q4 q5)
                refine bodyPost_ret (results_cell_row rfl _ _ w.heap.size _ #[.bool q0, .int .i64 q1, .int .i64 q2, .slice q3 q4 q5] _ _ rfl hk3 Tryd.underlying51 rfl (by kernel_rfl)) rfl ?_
                rw [HRB.out]
                exact ⟨_, rfl, HV.out.set4 HKr.out _ _ _ _ _ _ _ _, bel_set4 HBr.out (Nat.le_refl _) _ _ _ _ _ _ _ _⟩
              · go_wp2_with fail
                refine wp_loop_rounds 1 ?_
                rw [rounds_succ]
                go_wp2_with fail
                have hk3 := (((HKr.out.set_ 0 (.bool q0)).set_ 1 (.int .i64 q1)).set_ 2 (.int .i64 q2)).set_ 3 (.slice q3 q4 q5)
                refine bodyPost_ret (results_cell_row rfl _ _ w.heap.size _ #[.bool q0, .int .i64 q1, .int .i64 q2, .slice q3 q4 q5] _ _ rfl hk3 Tryd.underlying51 rfl (by kernel_rfl)) rfl ?_
                rw [HRB.out]
                exact ⟨_, rfl, HV.out.set4 HKr.out _ _ _ _ _ _ _ _, bel_set4 HBr.out (Nat.le_refl _) _ _ _ _ _ _ _ _⟩
          · have hc2 : 2 ≤ c := by omega
            have hnr2 : 1 ≤ nq := by omega
            go_wp2_with fail
            obtain ⟨wo, rfl⟩ : ∃ wo : World, wo = wr := ⟨_, rfl⟩
            go_loopw [9, 62] (fun v9 i wr => ∃ (j a' : Nat), j ≤ nq ∧ v9 = .slice (some ⟨a', 0, none⟩) (T + 1) (T + 1) ∧ i = .int .i64 (j : Int) ∧ w.heap.size < a' ∧ Hid (Blk wr w.heap.size 51 [.bool false, .int .i64 0, .int .i64 0, .slice none 0 0]) ∧ Hid (BtB wr a' (T + 1) (rowA (nthI D.P) (nthI D.L) M D.I f r j)) ∧ Hid (Below w.heap.size w wr)) (fun _ i _ => nq - (intOf i).toNat)
            case atStart => exact ⟨0, a, Nat.zero_le _, rfl, rfl, hla, HKr, HBT0, HBr⟩
            case round =>
              as_aux_lemma =>
                clear HKr HBT0 HBr hlr hla HLA HZ2 hk
                obtain ⟨j, a', hj, rfl, rfl, hla', HKr, HBTr, HBr⟩ := hrel
                have hlr := HBTr.out.lt
                have hz := HBr.out.size
                by_cases hlt : j < nq
                · as_aux_lemma =>
                    have hrc := HRC.out wr HBr.out (j + 1) (by omega)
                    have hrc' : wr.cell? ⟨b, o + 1 + j, none⟩ = some (.int .i64 (nth r (j + 1))) := by rw [show o + 1 + j = o + (j + 1) by omega]; exact hrc
                    have hmk := HMK'.out
                    obtain ⟨s, hse⟩ : ∃ s, s = nth r (j + 1) := ⟨_, rfl⟩
                    have HS : Hid (s ∈ r) := Lib.hid (by rw [hse]; exact HMEM.out (j + 1) (by omega))
                    rw [← hse] at hrc'
                    have HSE : Hid (s = nth r (j + 1)) := Lib.hid hse
                    have HAS : Hid (∀ X, rowA (nthI D.P) (nthI D.L) M D.I f r (j + 1) X = midF (nthI D.P) (nthI D.L) M D.I f (rowA (nthI D.P) (nthI D.L) M D.I f r j) s X (X + 1)) := Lib.hid (fun X => by rw [rowA_succ (by have := HLEN.out; omega), ← hse]; exact mid_all _ _ _)
                    clear hrc hse
                    go_wp2_with fail
                    obtain ⟨w3, hw3⟩ : ∃ w3, w3 = wr.alloc (.cells (bz (T + 1)) 51) := ⟨_, rfl⟩
                    have hb3 : Below wr.heap.size wr w3 := by rw [hw3]; exact (Below.refl _ _).alloc (Nat.le_refl _) _
                    have hbt3 : BtB w3 wr.heap.size (T + 1) (fun _ => none) := by rw [hw3]; exact BtB.made wr (T + 1)
                    have HK3 := Lib.hid (HKr.out.below' hb3)
                    have HB3 := Lib.hid (HBr.out.trans (hb3.mono hz))
                    have HBA3 := Lib.hid (HBTr.out.below hb3)
                    have HBT3 := Lib.hid hbt3
                    rw [← hw3]
                    clear hw3 hb3 hbt3 HKr HBr HBTr
                    obtain ⟨nx, hnx⟩ : ∃ nx, nx = wr.heap.size := ⟨_, rfl⟩
                    have hlx : w.heap.size < nx := by have := hlr; omega
                    have hax : a' < nx := by omega
                    rw [← hnx] at HBT3 ⊢
                    clear hnx hlr hz hmk
                    obtain ⟨wo, rfl⟩ : ∃ wo : World, wo = wr := ⟨_, rfl⟩
                    go_loopw [71] (fun i wr => ∃ k : Nat, k ≤ T + 1 ∧ i = .int .i64 (k : Int) ∧ Hid (Blk wr w.heap.size 51 [.bool false, .int .i64 0, .int .i64 0, .slice none 0 0]) ∧ Hid (BtB wr a' (T + 1) (rowA (nthI D.P) (nthI D.L) M D.I f r j)) ∧ Hid (BtB wr nx (T + 1) (fun X => if X < k then rowA (nthI D.P) (nthI D.L) M D.I f r (j + 1) X else none)) ∧ Hid (Below w.heap.size w wr)) (fun i _ => T + 1 - (intOf i).toNat)
                    case atStart => exact ⟨0, Nat.zero_le _, rfl, HK3, HBA3, Lib.hid (HBT3.out.congr fun X _ => by simp), HB3⟩
                    case round =>
                      as_aux_lemma =>
                        clear HK3 HBA3 HBT3 HB3
                        obtain ⟨k, hk, rfl, HKr, HBAr, HBTr, HBr⟩ := hrel
                        by_cases hltk : k < T + 1
                        rotate_left
                        · as_aux_lemma =>
                            have HBT4 : Hid (BtB wr nx (T + 1) (rowA (nthI D.P) (nthI D.L) M D.I f r (j + 1))) := Lib.hid (HBTr.out.congr fun X hX => by rw [if_pos (by omega)])
                            go_wp2_with fail
                            go_roundw
                            case rel => exact ⟨j + 1, nx, by omega, rfl, by go_num, hlx, HKr, HBT4, HBr⟩
                            case measure => simp [intOf]; omega
                        have d3 : decide ((k : Int) < (T : Int) + 1) = true := decide_eq_true (by omega)
                        go_wp2_with fail
                        obtain ⟨wo, rfl⟩ : ∃ wo : World, wo = wr := ⟨_, rfl⟩
                        go_loopw [76] (fun i wr => ∃ mm : Nat, mm ≤ k + 1 ∧ i = .int .i64 (mm : Int) ∧ Hid (Blk wr w.heap.size 51 [.bool false, .int .i64 0, .int .i64 0, .slice none 0 0]) ∧ Hid (BtB wr a' (T + 1) (rowA (nthI D.P) (nthI D.L) M D.I f r j)) ∧ Hid (BtB wr nx (T + 1) (fun X => if X = k then midF (nthI D.P) (nthI D.L) M D.I f (rowA (nthI D.P) (nthI D.L) M D.I f r j) s k mm else if X < k then rowA (nthI D.P) (nthI D.L) M D.I f r (j + 1) X else none)) ∧ Hid (Below w.heap.size w wr)) (fun i _ => k + 1 - (intOf i).toNat)
                        case atStart => exact ⟨0, Nat.zero_le _, rfl, HKr, HBAr, Lib.hid (HBTr.out.congr fun X _ => by
                          by_cases e : X = k
                          · subst e; rw [if_neg (by omega), if_pos rfl]; rfl
                          · rw [if_neg e]), HBr⟩
                        case round =>
                          as_aux_lemma =>
                            clear HKr HBAr HBTr HBr
                            obtain ⟨mm, hmm, rfl, HKr, HBAr, HBTr, HBr⟩ := hrel
                            by_cases hltm : mm < k + 1
                            rotate_left
                            · as_aux_lemma =>
                                have hme : mm = k + 1 := by omega
                                have HBT4 : Hid (BtB wr nx (T + 1) (fun X => if X < k + 1 then rowA (nthI D.P) (nthI D.L) M D.I f r (j + 1) X else none)) := Lib.hid (HBTr.out.congr fun X hX => by
                                  by_cases e : X = k
                                  · subst e; rw [if_pos rfl, if_pos (by omega), hme, HAS.out X]
                                  · rw [if_neg e]
                                    by_cases e2 : X < k
                                    · rw [if_pos e2, if_pos (by omega)]
                                    · rw [if_neg e2, if_neg (by omega)])
                                clear hme
                                go_wp2_with fail
                                go_roundw
                                case rel => exact ⟨k + 1, by omega, by go_num, HKr, HBAr, HBT4, HBr⟩
                                case measure => simp [intOf]; omega
                            obtain ⟨p0, p1, p2, p3, p4, p5, x0, x1, x2, x3, hva⟩ := HBAr.out.at_ (X := mm) (by omega)
                            have hz := HBr.out.size
                            have hla2 := HBAr.out.lt
                            go_wp2_with fail
                            obtain ⟨wd, hwd⟩ : ∃ wd, wd = wr.drew := ⟨_, rfl⟩
                            have hbd : Below wr.heap.size wr wd := by rw [hwd]; exact (Below.refl _ _).drew
                            have hzd : wd.heap.size = wr.heap.size := by rw [hwd]; rfl
                            refine wp_region_S (fun w' => ∃ X : WB wr.heap.size wd, w' = X.val) (by kernel_rfl) ?_
                            rw [← hwd]
                            clear hwd
                            have wb : ∀ (X : WB wr.heap.size wd) (q : Addr), q.block < wr.heap.size → X.val.cell? q = wr.cell? q := fun X q z => (X.bel.cell (p := q) z).trans (hbd.cell (p := q) z)
                            have k0 : ∀ X : WB wr.heap.size wd, X.val.cell? ⟨a', mm * 4, none⟩ = some (.bool p0) := fun X => (wb X ⟨a', mm * 4, none⟩ hla2).trans x0
                            have k1 : ∀ X : WB wr.heap.size wd, X.val.cell? ⟨a', mm * 4 + 1, none⟩ = some (.int .i64 p1) := fun X => (wb X ⟨a', mm * 4 + 1, none⟩ hla2).trans x1
                            have k2 : ∀ X : WB wr.heap.size wd, X.val.cell? ⟨a', mm * 4 + 2, none⟩ = some (.int .i64 p2) := fun X => (wb X ⟨a', mm * 4 + 2, none⟩ hla2).trans x2
                            have k3 : ∀ X : WB wr.heap.size wd, X.val.cell? ⟨a', mm * 4 + 3, none⟩ = some (.slice p3 p4 p5) := fun X => (wb X ⟨a', mm * 4 + 3, none⟩ hla2).trans x3
                            have HAT := Lib.hid (hva.below hbd)
                            have HW0 := Lib.hid (HBr.out.trans (hbd.mono hz))
                            have HBD := Lib.hid hbd
                            have HZD := Lib.hid hzd
                            have HGA : Hid (GoodB (rowA (nthI D.P) (nthI D.L) M D.I f r j mm)) := Lib.hid (HG.out j mm (by omega))
                            have HGB : Hid (GoodB (symB (nthI D.P) (nthI D.L) M D.I s (f + mm) (f + k))) := Lib.hid (HGS.out s HS.out (f + mm) (f + k) (by omega) (by have := HFT.out; omega))
                            have HBK : Hid (f + mm ≤ f + k ∧ f + k ≤ n3) := Lib.hid ⟨by omega, by have := HFT.out; omega⟩
                            clear hbd hzd wb hva x0 x1 x2 x3 HAS HG HGS
                            show wpAnyS _ _ _ _ _ (4 + 12) _ _ _
                            refine takeS 4 0 12 (by kernel_rfl) (by kernel_rfl) (fun _ _ d _ _ h => by cases d <;> exact h) ⟨⟨_, Below.refl _ _⟩, rfl⟩ ?_
                            simp only [List.take_succ_cons, List.take_zero, List.drop_succ_cons, List.drop_zero]
                            repeat (first | go_big_quiet_skip | (go_big_quiet_want; go_big_quiet_op; go_big_quiet_on))
                            refine wpQuiet_nil ?_
                            clear k0 k1 k2 k3
                            refine twoS 3 12 14 (by kernel_rfl) (by decide) (by decide) ?_ ?_
                            · as_aux_lemma =>
                                simp only [List.take_succ_cons, List.take_zero, List.drop_succ_cons, List.drop_zero]
                                go_wp2_with fail
                                have hbw := (Below.refl wr.heap.size wd)
                                refine (HSYM.out wd (HW0.out.trans (hbw.mono (by have := HZD.out; omega))) s HS.out (f + mm) (f + k) _ _ (by omega) (by omega) HBK.out.1 HBK.out.2).mono ?_
                                rintro e w4 ⟨v, rfl, hv, hb4⟩
                                obtain ⟨u0, u1, u2, u3, u4, u5, rfl⟩ := hv.form
                                have hsz := hbw.size
                                have HV4 := Lib.hid hv
                                have HS4 : Hid (Below wr.heap.size wd w4) := Lib.hid (hbw.trans (hb4.mono (by have := HZD.out; omega)))
                                have HA4 := Lib.hid (HAT.out.below (hb4.mono (Nat.le_refl _)))
                                clear hv hb4 hbw hsz HAT
                                go_wp2_with fail
                                refine ⟨⟨WB.mk _ HS4.out, rfl⟩, ?_⟩
                                refine twoS 2 13 14 (by kernel_rfl) (by decide) (by decide) ?_ ?_
                                · as_aux_lemma =>
                                    simp only [List.take_succ_cons, List.take_zero, List.drop_succ_cons, List.drop_zero]
                                    go_wp2_with fail
                                    have hbw := HS4.out
                                    refine (joined_any (rowA (nthI D.P) (nthI D.L) M D.I f r j mm) (symB (nthI D.P) (nthI D.L) M D.I s (f + mm) (f + k)) _ _ w4 w4.heap.size (Nat.le_refl _) HA4.out.rd HV4.out.rd HGA.out.1 HGB.out.1 HGA.out.2 HGB.out.2).mono ?_
                                    rintro e w5 ⟨v, rfl, hv, hb5⟩
                                    obtain ⟨q0, q1, q2, q3, q4, q5, rfl⟩ := hv.form
                                    have hsz := hbw.size
                                    have HV5 := Lib.hid hv
                                    have HS5 : Hid (Below wr.heap.size wd w5) := Lib.hid (hbw.trans (hb5.mono (by have := HZD.out; omega)))
                                    clear hv hb5 hbw hsz HA4 HV4 HS4
                                    go_wp2_with fail
                                    refine ⟨⟨WB.mk _ HS5.out, rfl⟩, ?_⟩
                                    refine oneS 1 14 (by kernel_rfl) (by decide) ?_
                                    simp only [List.take_succ_cons, List.take_zero, List.drop_succ_cons, List.drop_zero]
                                    go_wp2_with fail
                                    obtain ⟨w6, hw6⟩ : ∃ w6, w6 = w5.alloc (.cells #[.bool false, .int .i64 0, .int .i64 0, .slice none 0 0] 51) := ⟨_, rfl⟩
                                    have hb6 : Below w5.heap.size w5 w6 := by rw [hw6]; exact (Below.refl _ _).alloc (Nat.le_refl _) _
                                    have HX6 : Hid (Blk w6 w5.heap.size 51 [.bool false, .int .i64 0, .int .i64 0, .slice none 0 0]) := Lib.hid (by rw [hw6]; exact Blk.new w5 51 [.bool false, .int .i64 0, .int .i64 0, .slice none 0 0])
                                    have HV6 := Lib.hid (HV5.out.below hb6)
                                    have HLX6 : Hid (wr.heap.size ≤ w5.heap.size) := Lib.hid (by have h1 := HS5.out.size; have h2 := HZD.out; omega)
                                    have HS6 := Lib.hid (HS5.out.trans (hb6.mono HLX6.out))
                                    rw [← hw6]
                                    clear hw6 hb6 HV5 HS5
                                    refine ⟨⟨WB.mk _ HS6.out, rfl⟩, ?_⟩
                                    obtain ⟨bx, hbx⟩ : ∃ bx, w5.heap.size = bx := ⟨_, rfl⟩
                                    rw [hbx] at HX6 HLX6 ⊢
                                    clear hbx
                                    have y0 := HX6.out.cell (i := 0) rfl
                                    have y1 := HX6.out.cell (i := 1) rfl
                                    have y2 := HX6.out.cell (i := 2) rfl
                                    have y3 := HX6.out.cell (i := 3) rfl
                                    have e0 := HX6.out.frozen 0
                                    have e1 := HX6.out.frozen 1
                                    have e2 := HX6.out.frozen 2
                                    have e3 := HX6.out.frozen 3
                                    refine oneS 0 15 (by kernel_rfl) (by decide) ?_
                                    simp only [List.take_succ_cons, List.take_zero, List.drop_succ_cons, List.drop_zero]
                                    go_wp2_with fail
                                    obtain ⟨w7, hw7⟩ : ∃ w7, w7 = (((w6.setCell ⟨bx, 0, none⟩ (.bool q0)).setCell ⟨bx, 1, none⟩ (.int .i64 q1)).setCell ⟨bx, 2, none⟩ (.int .i64 q2)).setCell ⟨bx, 3, none⟩ (.slice q3 q4 q5) := ⟨_, rfl⟩
                                    have hx7 : Blk w7 bx 51 [.bool q0, .int .i64 q1, .int .i64 q2, .slice q3 q4 q5] := by rw [hw7]; exact (((HX6.out.set_ 0 (.bool q0)).set_ 1 (.int .i64 q1)).set_ 2 (.int .i64 q2)).set_ 3 (.slice q3 q4 q5)
                                    have hv7 : BsT w7 (.agg #[.bool q0, .int .i64 q1, .int .i64 q2, .slice q3 q4 q5]) (joinB (rowA (nthI D.P) (nthI D.L) M D.I f r j mm) (symB (nthI D.P) (nthI D.L) M D.I s (f + mm) (f + k))) := by rw [hw7]; exact HV6.out.set4 HX6.out _ _ _ _ _ _ _ _
                                    have hs7 : Below wr.heap.size wd w7 := by rw [hw7]; exact bel_set4 HS6.out HLX6.out _ _ _ _ _ _ _ _
                                    have hr7 : Below wr.heap.size wr w7 := HBD.out.trans hs7
                                    have hbt7 := HBTr.out.below hr7
                                    have HBA7 := Lib.hid (HBAr.out.below hr7)
                                    have HK7 := Lib.hid (HKr.out.below' hr7)
                                    have HW7 := Lib.hid (HBr.out.trans (hr7.mono hz))
                                    have HLX7 : Hid (bx < w7.heap.size ∧ wr.heap.size ≤ bx) := Lib.hid ⟨hx7.lt, HLX6.out⟩
                                    rw [← hw7]
                                    have HS7 := Lib.hid hs7; have HX7 := Lib.hid hx7; have HV7 := Lib.hid hv7; have HBT7 := Lib.hid hbt7
                                    clear hw7 hs7 hx7 hv7 hr7 y0 y1 y2 y3 e0 e1 e2 e3 HX6 HV6 HS6 HLX6
                                    refine ⟨⟨WB.mk _ HS7.out, rfl⟩, ?_⟩
                                    refine endS (by kernel_rfl) ?_
                                    go_wp2_with fail
                                    obtain ⟨m0, m1, m2, m3, m4, m5, n0, n1', n2', n3', hvm⟩ := hbt7.at_ (X := k) (by omega)
                                    have hnl := hbt7.lt
                                    have hxl := HX7.out.lt
                                    have y0 := HX7.out.cell (i := 0) rfl
                                    have y1 := HX7.out.cell (i := 1) rfl
                                    have y2 := HX7.out.cell (i := 2) rfl
                                    have y3 := HX7.out.cell (i := 3) rfl
                                    obtain ⟨wd2, hwd2⟩ : ∃ wd2, wd2 = w7.drew := ⟨_, rfl⟩
                                    have hbd2 : Below w7.heap.size w7 wd2 := by rw [hwd2]; exact (Below.refl _ _).drew
                                    have hzd2 : wd2.heap.size = w7.heap.size := by rw [hwd2]; rfl
                                    refine wp_region_S (fun w' => ∃ X : WB w7.heap.size wd2, w' = X.val) (by kernel_rfl) ?_
                                    rw [← hwd2]
                                    clear hwd2
                                    have wb : ∀ (X : WB w7.heap.size wd2) (q : Addr), q.block < w7.heap.size → X.val.cell? q = w7.cell? q := fun X q z => (X.bel.cell (p := q) z).trans (hbd2.cell (p := q) z)
                                    have k0 : ∀ X : WB w7.heap.size wd2, X.val.cell? ⟨bx, 0, none⟩ = some (.bool q0) := fun X => (wb X ⟨bx, 0, none⟩ hxl).trans y0
                                    have k1 : ∀ X : WB w7.heap.size wd2, X.val.cell? ⟨bx, 1, none⟩ = some (.int .i64 q1) := fun X => (wb X ⟨bx, 1, none⟩ hxl).trans y1
                                    have k2 : ∀ X : WB w7.heap.size wd2, X.val.cell? ⟨bx, 2, none⟩ = some (.int .i64 q2) := fun X => (wb X ⟨bx, 2, none⟩ hxl).trans y2
                                    have k3 : ∀ X : WB w7.heap.size wd2, X.val.cell? ⟨bx, 3, none⟩ = some (.slice q3 q4 q5) := fun X => (wb X ⟨bx, 3, none⟩ hxl).trans y3
                                    have k4 : ∀ X : WB w7.heap.size wd2, X.val.cell? ⟨nx, k * 4, none⟩ = some (.bool m0) := fun X => (wb X ⟨nx, k * 4, none⟩ hnl).trans n0
                                    have k5 : ∀ X : WB w7.heap.size wd2, X.val.cell? ⟨nx, k * 4 + 1, none⟩ = some (.int .i64 m1) := fun X => (wb X ⟨nx, k * 4 + 1, none⟩ hnl).trans n1'
                                    have k6 : ∀ X : WB w7.heap.size wd2, X.val.cell? ⟨nx, k * 4 + 2, none⟩ = some (.int .i64 m2) := fun X => (wb X ⟨nx, k * 4 + 2, none⟩ hnl).trans n2'
                                    have k7 : ∀ X : WB w7.heap.size wd2, X.val.cell? ⟨nx, k * 4 + 3, none⟩ = some (.slice m3 m4 m5) := fun X => (wb X ⟨nx, k * 4 + 3, none⟩ hnl).trans n3'
                                    have HCB := Lib.hid (better_any (joinB (rowA (nthI D.P) (nthI D.L) M D.I f r j mm) (symB (nthI D.P) (nthI D.L) M D.I s (f + mm) (f + k))) (midF (nthI D.P) (nthI D.L) M D.I f (rowA (nthI D.P) (nthI D.L) M D.I f r j) s k mm) (.agg #[.bool q0, .int .i64 q1, .int .i64 q2, .slice q3 q4 q5]) (.agg #[.bool m0, .int .i64 m1, .int .i64 m2, .slice m3 m4 m5]) wd2 wd2.heap.size (Nat.le_refl _) (HV7.out.below hbd2).rd (by have h1 := hvm.below hbd2; rw [if_pos rfl] at h1; exact h1.rd))
                                    have HBD2 := Lib.hid hbd2; have HZD2 := Lib.hid hzd2
                                    clear hbt7 hvm wb hbd2 hzd2 n0 n1' n2' n3' y0 y1 y2 y3
                                    show wpAnyS _ _ _ _ _ (1 + 5) _ _ _
                                    refine takeS 1 0 5 (by kernel_rfl) (by kernel_rfl) (fun _ _ d _ _ h => by cases d <;> exact h) ⟨⟨_, Below.refl _ _⟩, rfl⟩ ?_
                                    simp only [List.take_succ_cons, List.take_zero, List.drop_succ_cons, List.drop_zero]
                                    repeat (first | go_big_quiet_skip | (go_big_quiet_want; go_big_quiet_op; go_big_quiet_on))
                                    refine wpQuiet_nil ?_
                                    clear k0 k1 k2 k3 k4 k5 k6 k7
                                    refine oneS 0 5 (by kernel_rfl) (by decide) ?_
                                    simp only [List.take_succ_cons, List.take_zero, List.drop_succ_cons, List.drop_zero]
                                    go_wp2_with fail
                                    refine HCB.out.mono ?_
                                    rintro e w8 ⟨rfl, hb8⟩
                                    have HS8 : Hid (Below w7.heap.size wd2 w8) := Lib.hid (hb8.mono (by have := HZD2.out; omega))
                                    clear hb8
                                    go_wp2_with fail
                                    refine ⟨⟨WB.mk _ HS8.out, rfl⟩, ?_⟩
                                    refine endS (by kernel_rfl) ?_
                                    have hr8 : Below w7.heap.size w7 w8 := HBD2.out.trans HS8.out
                                    have hbt8 := HBT7.out.below hr8
                                    have hx8 := HX7.out.below' hr8
                                    have hv8 := HV7.out.below hr8
                                    have HBA8 := Lib.hid (HBA7.out.below hr8)
                                    have HK8 := Lib.hid (HK7.out.below' hr8)
                                    have HW8 := Lib.hid (HW7.out.trans (hr8.mono HW7.out.size))
                                    by_cases hbet : betB (joinB (rowA (nthI D.P) (nthI D.L) M D.I f r j mm) (symB (nthI D.P) (nthI D.L) M D.I s (f + mm) (f + k))) (midF (nthI D.P) (nthI D.L) M D.I f (rowA (nthI D.P) (nthI D.L) M D.I f r j) s k mm) = true
                                    · as_aux_lemma =>
                                        rw [hbet]
                                        obtain ⟨_, _, _, _, _, _, n0, n1', n2', n3', -⟩ := hbt8.at_ (X := k) (by omega)
                                        have y0 := hx8.cell (i := 0) rfl
                                        have y1 := hx8.cell (i := 1) rfl
                                        have y2 := hx8.cell (i := 2) rfl
                                        have y3 := hx8.cell (i := 3) rfl
                                        have e0 := hbt8.frozen (k * 4)
                                        have e1 := hbt8.frozen (k * 4 + 1)
                                        have e2 := hbt8.frozen (k * 4 + 2)
                                        have e3 := hbt8.frozen (k * 4 + 3)
                                        have HP := Lib.hid (hbt8.put (X := k) (by omega) hv8)
                                        have hne : w.heap.size ≠ nx := by omega
                                        have HK9 : Hid (Blk ((((w8.setCell ⟨nx, k * 4, none⟩ (.bool q0)).setCell ⟨nx, k * 4 + 1, none⟩ (.int .i64 q1)).setCell ⟨nx, k * 4 + 2, none⟩ (.int .i64 q2)).setCell ⟨nx, k * 4 + 3, none⟩ (.slice q3 q4 q5)) w.heap.size 51 [.bool false, .int .i64 0, .int .i64 0, .slice none 0 0]) := Lib.hid (Blk.far (Blk.far (Blk.far (Blk.far HK8.out hne _) hne _) hne _) hne _)
                                        have HBA9 := Lib.hid (HBA8.out.far4 hbt8 (by omega) (k * 4) (k * 4 + 1) (k * 4 + 2) (k * 4 + 3) (.bool q0) (.int .i64 q1) (.int .i64 q2) (.slice q3 q4 q5))
                                        have HW9 : Hid (Below w.heap.size w ((((w8.setCell ⟨nx, k * 4, none⟩ (.bool q0)).setCell ⟨nx, k * 4 + 1, none⟩ (.int .i64 q1)).setCell ⟨nx, k * 4 + 2, none⟩ (.int .i64 q2)).setCell ⟨nx, k * 4 + 3, none⟩ (.slice q3 q4 q5))) := Lib.hid (bel_set4 HW8.out (by omega) _ _ _ _ _ _ _ _)
                                        have HE : Hid (midF (nthI D.P) (nthI D.L) M D.I f (rowA (nthI D.P) (nthI D.L) M D.I f r j) s k (mm + 1) = joinB (rowA (nthI D.P) (nthI D.L) M D.I f r j mm) (symB (nthI D.P) (nthI D.L) M D.I s (f + mm) (f + k))) := Lib.hid (by rw [midF_succ]; unfold pick; rw [if_pos hbet])
                                        clear hbt8 hx8 hv8 hbet
                                        go_wp2_with fail
                                        go_roundw
                                        case rel => exact ⟨mm + 1, by omega, by go_num, HK9, HBA9, Lib.hid (HP.out.congr fun X _ => by
                                          by_cases e : X = k
                                          · rw [if_pos e, if_pos e, HE.out]
                                          · rw [if_neg e, if_neg e, if_neg e]), HW9⟩
                                        case measure => simp [intOf]; omega
                                    · as_aux_lemma =>
                                        have hbf : betB (joinB (rowA (nthI D.P) (nthI D.L) M D.I f r j mm) (symB (nthI D.P) (nthI D.L) M D.I s (f + mm) (f + k))) (midF (nthI D.P) (nthI D.L) M D.I f (rowA (nthI D.P) (nthI D.L) M D.I f r j) s k mm) = false := by simpa using hbet
                                        rw [hbf]
                                        have HE : Hid (midF (nthI D.P) (nthI D.L) M D.I f (rowA (nthI D.P) (nthI D.L) M D.I f r j) s k (mm + 1) = midF (nthI D.P) (nthI D.L) M D.I f (rowA (nthI D.P) (nthI D.L) M D.I f r j) s k mm) := Lib.hid (by rw [midF_succ]; unfold pick; rw [if_neg hbet])
                                        have HP := Lib.hid hbt8
                                        clear hbt8 hx8 hv8 hbet hbf
                                        go_wp2_with fail
                                        go_roundw
                                        case rel => exact ⟨mm + 1, by omega, by go_num, HK8, HBA8, Lib.hid (HP.out.congr fun X _ => by
                                          by_cases e : X = k
                                          · rw [if_pos e, if_pos e, HE.out]
                                          · rw [if_neg e, if_neg e]), HW8⟩
                                        case measure => simp [intOf]; omega
                                · as_aux_lemma =>
                                    simp only [List.take_succ_cons, List.take_zero, List.drop_succ_cons, List.drop_zero]
                                    go_wp2_with fail
                                    obtain ⟨w5, hw5⟩ : ∃ w5, w5 = w4.alloc (.cells #[.bool false, .int .i64 0, .int .i64 0, .slice none 0 0] 51) := ⟨_, rfl⟩
                                    have hb5 : Below w4.heap.size w4 w5 := by rw [hw5]; exact (Below.refl _ _).alloc (Nat.le_refl _) _
                                    have HX5 : Hid (Blk w5 w4.heap.size 51 [.bool false, .int .i64 0, .int .i64 0, .slice none 0 0]) := Lib.hid (by rw [hw5]; exact Blk.new w4 51 [.bool false, .int .i64 0, .int .i64 0, .slice none 0 0])
                                    have HV5 := Lib.hid (HV4.out.below hb5)
                                    have HA5 := Lib.hid (HA4.out.below hb5)
                                    have HLX6 : Hid (wr.heap.size ≤ w4.heap.size) := Lib.hid (by have h1 := HS4.out.size; have h2 := HZD.out; omega)
                                    have HS5 := Lib.hid (HS4.out.trans (hb5.mono HLX6.out))
                                    rw [← hw5]
                                    clear hw5 hb5 HV4 HS4 HA4
                                    refine ⟨⟨WB.mk _ HS5.out, rfl⟩, ?_⟩
                                    obtain ⟨bx, hbx⟩ : ∃ bx, w4.heap.size = bx := ⟨_, rfl⟩
                                    rw [hbx] at HX5 HLX6 ⊢
                                    clear hbx
                                    refine oneS 1 13 (by kernel_rfl) (by decide) ?_
                                    simp only [List.take_succ_cons, List.take_zero, List.drop_succ_cons, List.drop_zero]
                                    go_wp2_with fail
                                    have hbw := HS5.out
                                    refine (joined_any (rowA (nthI D.P) (nthI D.L) M D.I f r j mm) (symB (nthI D.P) (nthI D.L) M D.I s (f + mm) (f + k)) _ _ w5 w5.heap.size (Nat.le_refl _) HA5.out.rd HV5.out.rd HGA.out.1 HGB.out.1 HGA.out.2 HGB.out.2).mono ?_
                                    rintro e w6 ⟨v, rfl, hv, hb5⟩
                                    obtain ⟨q0, q1, q2, q3, q4, q5, rfl⟩ := hv.form
                                    have hsz := hbw.size
                                    have HV6 := Lib.hid hv
                                    have HS6 : Hid (Below wr.heap.size wd w6) := Lib.hid (hbw.trans (hb5.mono (by have := HZD.out; omega)))
                                    have HX6 := Lib.hid (HX5.out.below' hb5)
                                    clear hv hb5 hbw hsz HA5 HV5 HS5 HX5
                                    go_wp2_with fail
                                    refine ⟨⟨WB.mk _ HS6.out, rfl⟩, ?_⟩
                                    have y0 := HX6.out.cell (i := 0) rfl
                                    have y1 := HX6.out.cell (i := 1) rfl
                                    have y2 := HX6.out.cell (i := 2) rfl
                                    have y3 := HX6.out.cell (i := 3) rfl
                                    have e0 := HX6.out.frozen 0
                                    have e1 := HX6.out.frozen 1
                                    have e2 := HX6.out.frozen 2
                                    have e3 := HX6.out.frozen 3
                                    refine oneS 0 15 (by kernel_rfl) (by decide) ?_
                                    simp only [List.take_succ_cons, List.take_zero, List.drop_succ_cons, List.drop_zero]
                                    go_wp2_with fail
                                    obtain ⟨w7, hw7⟩ : ∃ w7, w7 = (((w6.setCell ⟨bx, 0, none⟩ (.bool q0)).setCell ⟨bx, 1, none⟩ (.int .i64 q1)).setCell ⟨bx, 2, none⟩ (.int .i64 q2)).setCell ⟨bx, 3, none⟩ (.slice q3 q4 q5) := ⟨_, rfl⟩
                                    have hx7 : Blk w7 bx 51 [.bool q0, .int .i64 q1, .int .i64 q2, .slice q3 q4 q5] := by rw [hw7]; exact (((HX6.out.set_ 0 (.bool q0)).set_ 1 (.int .i64 q1)).set_ 2 (.int .i64 q2)).set_ 3 (.slice q3 q4 q5)
                                    have hv7 : BsT w7 (.agg #[.bool q0, .int .i64 q1, .int .i64 q2, .slice q3 q4 q5]) (joinB (rowA (nthI D.P) (nthI D.L) M D.I f r j mm) (symB (nthI D.P) (nthI D.L) M D.I s (f + mm) (f + k))) := by rw [hw7]; exact HV6.out.set4 HX6.out _ _ _ _ _ _ _ _
                                    have hs7 : Below wr.heap.size wd w7 := by rw [hw7]; exact bel_set4 HS6.out HLX6.out _ _ _ _ _ _ _ _
                                    have hr7 : Below wr.heap.size wr w7 := HBD.out.trans hs7
                                    have hbt7 := HBTr.out.below hr7
                                    have HBA7 := Lib.hid (HBAr.out.below hr7)
                                    have HK7 := Lib.hid (HKr.out.below' hr7)
                                    have HW7 := Lib.hid (HBr.out.trans (hr7.mono hz))
                                    have HLX7 : Hid (bx < w7.heap.size ∧ wr.heap.size ≤ bx) := Lib.hid ⟨hx7.lt, HLX6.out⟩
                                    rw [← hw7]
                                    have HS7 := Lib.hid hs7; have HX7 := Lib.hid hx7; have HV7 := Lib.hid hv7; have HBT7 := Lib.hid hbt7
                                    clear hw7 hs7 hx7 hv7 hr7 y0 y1 y2 y3 e0 e1 e2 e3 HX6 HV6 HS6 HLX6
                                    refine ⟨⟨WB.mk _ HS7.out, rfl⟩, ?_⟩
                                    refine endS (by kernel_rfl) ?_
                                    go_wp2_with fail
                                    obtain ⟨m0, m1, m2, m3, m4, m5, n0, n1', n2', n3', hvm⟩ := hbt7.at_ (X := k) (by omega)
                                    have hnl := hbt7.lt
                                    have hxl := HX7.out.lt
                                    have y0 := HX7.out.cell (i := 0) rfl
                                    have y1 := HX7.out.cell (i := 1) rfl
                                    have y2 := HX7.out.cell (i := 2) rfl
                                    have y3 := HX7.out.cell (i := 3) rfl
                                    obtain ⟨wd2, hwd2⟩ : ∃ wd2, wd2 = w7.drew := ⟨_, rfl⟩
                                    have hbd2 : Below w7.heap.size w7 wd2 := by rw [hwd2]; exact (Below.refl _ _).drew
                                    have hzd2 : wd2.heap.size = w7.heap.size := by rw [hwd2]; rfl
                                    refine wp_region_S (fun w' => ∃ X : WB w7.heap.size wd2, w' = X.val) (by kernel_rfl) ?_
                                    rw [← hwd2]
                                    clear hwd2
                                    have wb : ∀ (X : WB w7.heap.size wd2) (q : Addr), q.block < w7.heap.size → X.val.cell? q = w7.cell? q := fun X q z => (X.bel.cell (p := q) z).trans (hbd2.cell (p := q) z)
                                    have k0 : ∀ X : WB w7.heap.size wd2, X.val.cell? ⟨bx, 0, none⟩ = some (.bool q0) := fun X => (wb X ⟨bx, 0, none⟩ hxl).trans y0
                                    have k1 : ∀ X : WB w7.heap.size wd2, X.val.cell? ⟨bx, 1, none⟩ = some (.int .i64 q1) := fun X => (wb X ⟨bx, 1, none⟩ hxl).trans y1
                                    have k2 : ∀ X : WB w7.heap.size wd2, X.val.cell? ⟨bx, 2, none⟩ = some (.int .i64 q2) := fun X => (wb X ⟨bx, 2, none⟩ hxl).trans y2
                                    have k3 : ∀ X : WB w7.heap.size wd2, X.val.cell? ⟨bx, 3, none⟩ = some (.slice q3 q4 q5) := fun X => (wb X ⟨bx, 3, none⟩ hxl).trans y3
                                    have k4 : ∀ X : WB w7.heap.size wd2, X.val.cell? ⟨nx, k * 4, none⟩ = some (.bool m0) := fun X => (wb X ⟨nx, k * 4, none⟩ hnl).trans n0
                                    have k5 : ∀ X : WB w7.heap.size wd2, X.val.cell? ⟨nx, k * 4 + 1, none⟩ = some (.int .i64 m1) := fun X => (wb X ⟨nx, k * 4 + 1, none⟩ hnl).trans n1'
                                    have k6 : ∀ X : WB w7.heap.size wd2, X.val.cell? ⟨nx, k * 4 + 2, none⟩ = some (.int .i64 m2) := fun X => (wb X ⟨nx, k * 4 + 2, none⟩ hnl).trans n2'
                                    have k7 : ∀ X : WB w7.heap.size wd2, X.val.cell? ⟨nx, k * 4 + 3, none⟩ = some (.slice m3 m4 m5) := fun X => (wb X ⟨nx, k * 4 + 3, none⟩ hnl).trans n3'
                                    have HCB := Lib.hid (better_any (joinB (rowA (nthI D.P) (nthI D.L) M D.I f r j mm) (symB (nthI D.P) (nthI D.L) M D.I s (f + mm) (f + k))) (midF (nthI D.P) (nthI D.L) M D.I f (rowA (nthI D.P) (nthI D.L) M D.I f r j) s k mm) (.agg #[.bool q0, .int .i64 q1, .int .i64 q2, .slice q3 q4 q5]) (.agg #[.bool m0, .int .i64 m1, .int .i64 m2, .slice m3 m4 m5]) wd2 wd2.heap.size (Nat.le_refl _) (HV7.out.below hbd2).rd (by have h1 := hvm.below hbd2; rw [if_pos rfl] at h1; exact h1.rd))
                                    have HBD2 := Lib.hid hbd2; have HZD2 := Lib.hid hzd2
                                    clear hbt7 hvm wb hbd2 hzd2 n0 n1' n2' n3' y0 y1 y2 y3
                                    show wpAnyS _ _ _ _ _ (1 + 5) _ _ _
                                    refine takeS 1 0 5 (by kernel_rfl) (by kernel_rfl) (fun _ _ d _ _ h => by cases d <;> exact h) ⟨⟨_, Below.refl _ _⟩, rfl⟩ ?_
                                    simp only [List.take_succ_cons, List.take_zero, List.drop_succ_cons, List.drop_zero]
                                    repeat (first | go_big_quiet_skip | (go_big_quiet_want; go_big_quiet_op; go_big_quiet_on))
                                    refine wpQuiet_nil ?_
                                    clear k0 k1 k2 k3 k4 k5 k6 k7
                                    refine oneS 0 5 (by kernel_rfl) (by decide) ?_
                                    simp only [List.take_succ_cons, List.take_zero, List.drop_succ_cons, List.drop_zero]
                                    go_wp2_with fail
                                    refine HCB.out.mono ?_
                                    rintro e w8 ⟨rfl, hb8⟩
                                    have HS8 : Hid (Below w7.heap.size wd2 w8) := Lib.hid (hb8.mono (by have := HZD2.out; omega))
                                    clear hb8
                                    go_wp2_with fail
                                    refine ⟨⟨WB.mk _ HS8.out, rfl⟩, ?_⟩
                                    refine endS (by kernel_rfl) ?_
                                    have hr8 : Below w7.heap.size w7 w8 := HBD2.out.trans HS8.out
                                    have hbt8 := HBT7.out.below hr8
                                    have hx8 := HX7.out.below' hr8
                                    have hv8 := HV7.out.below hr8
                                    have HBA8 := Lib.hid (HBA7.out.below hr8)
                                    have HK8 := Lib.hid (HK7.out.below' hr8)
                                    have HW8 := Lib.hid (HW7.out.trans (hr8.mono HW7.out.size))
                                    by_cases hbet : betB (joinB (rowA (nthI D.P) (nthI D.L) M D.I f r j mm) (symB (nthI D.P) (nthI D.L) M D.I s (f + mm) (f + k))) (midF (nthI D.P) (nthI D.L) M D.I f (rowA (nthI D.P) (nthI D.L) M D.I f r j) s k mm) = true
                                    · as_aux_lemma =>
                                        rw [hbet]
                                        obtain ⟨_, _, _, _, _, _, n0, n1', n2', n3', -⟩ := hbt8.at_ (X := k) (by omega)
                                        have y0 := hx8.cell (i := 0) rfl
                                        have y1 := hx8.cell (i := 1) rfl
                                        have y2 := hx8.cell (i := 2) rfl
                                        have y3 := hx8.cell (i := 3) rfl
                                        have e0 := hbt8.frozen (k * 4)
                                        have e1 := hbt8.frozen (k * 4 + 1)
                                        have e2 := hbt8.frozen (k * 4 + 2)
                                        have e3 := hbt8.frozen (k * 4 + 3)
                                        have HP := Lib.hid (hbt8.put (X := k) (by omega) hv8)
                                        have hne : w.heap.size ≠ nx := by omega
                                        have HK9 : Hid (Blk ((((w8.setCell ⟨nx, k * 4, none⟩ (.bool q0)).setCell ⟨nx, k * 4 + 1, none⟩ (.int .i64 q1)).setCell ⟨nx, k * 4 + 2, none⟩ (.int .i64 q2)).setCell ⟨nx, k * 4 + 3, none⟩ (.slice q3 q4 q5)) w.heap.size 51 [.bool false, .int .i64 0, .int .i64 0, .slice none 0 0]) := Lib.hid (Blk.far (Blk.far (Blk.far (Blk.far HK8.out hne _) hne _) hne _) hne _)
                                        have HBA9 := Lib.hid (HBA8.out.far4 hbt8 (by omega) (k * 4) (k * 4 + 1) (k * 4 + 2) (k * 4 + 3) (.bool q0) (.int .i64 q1) (.int .i64 q2) (.slice q3 q4 q5))
                                        have HW9 : Hid (Below w.heap.size w ((((w8.setCell ⟨nx, k * 4, none⟩ (.bool q0)).setCell ⟨nx, k * 4 + 1, none⟩ (.int .i64 q1)).setCell ⟨nx, k * 4 + 2, none⟩ (.int .i64 q2)).setCell ⟨nx, k * 4 + 3, none⟩ (.slice q3 q4 q5))) := Lib.hid (bel_set4 HW8.out (by omega) _ _ _ _ _ _ _ _)
                                        have HE : Hid (midF (nthI D.P) (nthI D.L) M D.I f (rowA (nthI D.P) (nthI D.L) M D.I f r j) s k (mm + 1) = joinB (rowA (nthI D.P) (nthI D.L) M D.I f r j mm) (symB (nthI D.P) (nthI D.L) M D.I s (f + mm) (f + k))) := Lib.hid (by rw [midF_succ]; unfold pick; rw [if_pos hbet])
                                        clear hbt8 hx8 hv8 hbet
                                        go_wp2_with fail
                                        go_roundw
                                        case rel => exact ⟨mm + 1, by omega, by go_num, HK9, HBA9, Lib.hid (HP.out.congr fun X _ => by
                                          by_cases e : X = k
                                          · rw [if_pos e, if_pos e, HE.out]
                                          · rw [if_neg e, if_neg e, if_neg e]), HW9⟩
                                        case measure => simp [intOf]; omega
                                    · as_aux_lemma =>
                                        have hbf : betB (joinB (rowA (nthI D.P) (nthI D.L) M D.I f r j mm) (symB (nthI D.P) (nthI D.L) M D.I s (f + mm) (f + k))) (midF (nthI D.P) (nthI D.L) M D.I f (rowA (nthI D.P) (nthI D.L) M D.I f r j) s k mm) = false := by simpa using hbet
                                        rw [hbf]
                                        have HE : Hid (midF (nthI D.P) (nthI D.L) M D.I f (rowA (nthI D.P) (nthI D.L) M D.I f r j) s k (mm + 1) = midF (nthI D.P) (nthI D.L) M D.I f (rowA (nthI D.P) (nthI D.L) M D.I f r j) s k mm) := Lib.hid (by rw [midF_succ]; unfold pick; rw [if_neg hbet])
                                        have HP := Lib.hid hbt8
                                        clear hbt8 hx8 hv8 hbet hbf
                                        go_wp2_with fail
                                        go_roundw
                                        case rel => exact ⟨mm + 1, by omega, by go_num, HK8, HBA8, Lib.hid (HP.out.congr fun X _ => by
                                          by_cases e : X = k
                                          · rw [if_pos e, if_pos e, HE.out]
                                          · rw [if_neg e, if_neg e]), HW8⟩
                                        case measure => simp [intOf]; omega
                            · as_aux_lemma =>
                                simp only [List.take_succ_cons, List.take_zero, List.drop_succ_cons, List.drop_zero]
                                go_wp2_with fail
                                obtain ⟨w3, hw3⟩ : ∃ w3, w3 = wd.alloc (.cells #[.bool false, .int .i64 0, .int .i64 0, .slice none 0 0] 51) := ⟨_, rfl⟩
                                have hb3 : Below wd.heap.size wd w3 := by rw [hw3]; exact (Below.refl _ _).alloc (Nat.le_refl _) _
                                have HX3 : Hid (Blk w3 wd.heap.size 51 [.bool false, .int .i64 0, .int .i64 0, .slice none 0 0]) := Lib.hid (by rw [hw3]; exact Blk.new wd 51 [.bool false, .int .i64 0, .int .i64 0, .slice none 0 0])
                                have HA3 := Lib.hid (HAT.out.below (hb3.mono (Nat.le_refl _)))
                                have HLX6 : Hid (wr.heap.size ≤ wd.heap.size) := Lib.hid (by have h2 := HZD.out; omega)
                                have HS3 : Hid (Below wr.heap.size wd w3) := Lib.hid (hb3.mono HLX6.out)
                                rw [← hw3]
                                clear hw3 hb3 HAT
                                refine ⟨⟨WB.mk _ HS3.out, rfl⟩, ?_⟩
                                obtain ⟨bx, hbx⟩ : ∃ bx, wd.heap.size = bx := ⟨_, rfl⟩
                                rw [hbx] at HX3 HLX6 ⊢
                                clear hbx
                                refine oneS 2 12 (by kernel_rfl) (by decide) ?_
                                simp only [List.take_succ_cons, List.take_zero, List.drop_succ_cons, List.drop_zero]
                                go_wp2_with fail
                                have hbw := HS3.out
                                refine (HSYM.out w3 (HW0.out.trans (hbw.mono (by have := HZD.out; omega))) s HS.out (f + mm) (f + k) _ _ (by omega) (by omega) HBK.out.1 HBK.out.2).mono ?_
                                rintro e w4 ⟨v, rfl, hv, hb4⟩
                                obtain ⟨u0, u1, u2, u3, u4, u5, rfl⟩ := hv.form
                                have hsz := hbw.size
                                have HV4 := Lib.hid hv
                                have HS4 : Hid (Below wr.heap.size wd w4) := Lib.hid (hbw.trans (hb4.mono (by have := HZD.out; omega)))
                                have HA4 := Lib.hid (HA3.out.below hb4)
                                have HX4 := Lib.hid (HX3.out.below' hb4)
                                clear hv hb4 hbw hsz HA3 HX3 HS3
                                go_wp2_with fail
                                refine ⟨⟨WB.mk _ HS4.out, rfl⟩, ?_⟩
                                refine oneS 1 13 (by kernel_rfl) (by decide) ?_
                                simp only [List.take_succ_cons, List.take_zero, List.drop_succ_cons, List.drop_zero]
                                go_wp2_with fail
                                have hbw := HS4.out
                                refine (joined_any (rowA (nthI D.P) (nthI D.L) M D.I f r j mm) (symB (nthI D.P) (nthI D.L) M D.I s (f + mm) (f + k)) _ _ w4 w4.heap.size (Nat.le_refl _) HA4.out.rd HV4.out.rd HGA.out.1 HGB.out.1 HGA.out.2 HGB.out.2).mono ?_
                                rintro e w6 ⟨v, rfl, hv, hb5⟩
                                obtain ⟨q0, q1, q2, q3, q4, q5, rfl⟩ := hv.form
                                have hsz := hbw.size
                                have HV6 := Lib.hid hv
                                have HS6 : Hid (Below wr.heap.size wd w6) := Lib.hid (hbw.trans (hb5.mono (by have := HZD.out; omega)))
                                have HX6 := Lib.hid (HX4.out.below' hb5)
                                clear hv hb5 hbw hsz HA4 HV4 HS4 HX4
                                go_wp2_with fail
                                refine ⟨⟨WB.mk _ HS6.out, rfl⟩, ?_⟩
                                have y0 := HX6.out.cell (i := 0) rfl
                                have y1 := HX6.out.cell (i := 1) rfl
                                have y2 := HX6.out.cell (i := 2) rfl
                                have y3 := HX6.out.cell (i := 3) rfl
                                have e0 := HX6.out.frozen 0
                                have e1 := HX6.out.frozen 1
                                have e2 := HX6.out.frozen 2
                                have e3 := HX6.out.frozen 3
                                refine oneS 0 15 (by kernel_rfl) (by decide) ?_
                                simp only [List.take_succ_cons, List.take_zero, List.drop_succ_cons, List.drop_zero]
                                go_wp2_with fail
                                obtain ⟨w7, hw7⟩ : ∃ w7, w7 = (((w6.setCell ⟨bx, 0, none⟩ (.bool q0)).setCell ⟨bx, 1, none⟩ (.int .i64 q1)).setCell ⟨bx, 2, none⟩ (.int .i64 q2)).setCell ⟨bx, 3, none⟩ (.slice q3 q4 q5) := ⟨_, rfl⟩
                                have hx7 : Blk w7 bx 51 [.bool q0, .int .i64 q1, .int .i64 q2, .slice q3 q4 q5] := by rw [hw7]; exact (((HX6.out.set_ 0 (.bool q0)).set_ 1 (.int .i64 q1)).set_ 2 (.int .i64 q2)).set_ 3 (.slice q3 q4 q5)
                                have hv7 : BsT w7 (.agg #[.bool q0, .int .i64 q1, .int .i64 q2, .slice q3 q4 q5]) (joinB (rowA (nthI D.P) (nthI D.L) M D.I f r j mm) (symB (nthI D.P) (nthI D.L) M D.I s (f + mm) (f + k))) := by rw [hw7]; exact HV6.out.set4 HX6.out _ _ _ _ _ _ _ _
                                have hs7 : Below wr.heap.size wd w7 := by rw [hw7]; exact bel_set4 HS6.out HLX6.out _ _ _ _ _ _ _ _
                                have hr7 : Below wr.heap.size wr w7 := HBD.out.trans hs7
                                have hbt7 := HBTr.out.below hr7
                                have HBA7 := Lib.hid (HBAr.out.below hr7)
                                have HK7 := Lib.hid (HKr.out.below' hr7)
                                have HW7 := Lib.hid (HBr.out.trans (hr7.mono hz))
                                have HLX7 : Hid (bx < w7.heap.size ∧ wr.heap.size ≤ bx) := Lib.hid ⟨hx7.lt, HLX6.out⟩
                                rw [← hw7]
                                have HS7 := Lib.hid hs7; have HX7 := Lib.hid hx7; have HV7 := Lib.hid hv7; have HBT7 := Lib.hid hbt7
                                clear hw7 hs7 hx7 hv7 hr7 y0 y1 y2 y3 e0 e1 e2 e3 HX6 HV6 HS6 HLX6
                                refine ⟨⟨WB.mk _ HS7.out, rfl⟩, ?_⟩
                                refine endS (by kernel_rfl) ?_
                                go_wp2_with fail
                                obtain ⟨m0, m1, m2, m3, m4, m5, n0, n1', n2', n3', hvm⟩ := hbt7.at_ (X := k) (by omega)
                                have hnl := hbt7.lt
                                have hxl := HX7.out.lt
                                have y0 := HX7.out.cell (i := 0) rfl
                                have y1 := HX7.out.cell (i := 1) rfl
                                have y2 := HX7.out.cell (i := 2) rfl
                                have y3 := HX7.out.cell (i := 3) rfl
                                obtain ⟨wd2, hwd2⟩ : ∃ wd2, wd2 = w7.drew := ⟨_, rfl⟩
                                have hbd2 : Below w7.heap.size w7 wd2 := by rw [hwd2]; exact (Below.refl _ _).drew
                                have hzd2 : wd2.heap.size = w7.heap.size := by rw [hwd2]; rfl
                                refine wp_region_S (fun w' => ∃ X : WB w7.heap.size wd2, w' = X.val) (by kernel_rfl) ?_
                                rw [← hwd2]
                                clear hwd2
                                have wb : ∀ (X : WB w7.heap.size wd2) (q : Addr), q.block < w7.heap.size → X.val.cell? q = w7.cell? q := fun X q z => (X.bel.cell (p := q) z).trans (hbd2.cell (p := q) z)
                                have k0 : ∀ X : WB w7.heap.size wd2, X.val.cell? ⟨bx, 0, none⟩ = some (.bool q0) := fun X => (wb X ⟨bx, 0, none⟩ hxl).trans y0
                                have k1 : ∀ X : WB w7.heap.size wd2, X.val.cell? ⟨bx, 1, none⟩ = some (.int .i64 q1) := fun X => (wb X ⟨bx, 1, none⟩ hxl).trans y1
                                have k2 : ∀ X : WB w7.heap.size wd2, X.val.cell? ⟨bx, 2, none⟩ = some (.int .i64 q2) := fun X => (wb X ⟨bx, 2, none⟩ hxl).trans y2
                                have k3 : ∀ X : WB w7.heap.size wd2, X.val.cell? ⟨bx, 3, none⟩ = some (.slice q3 q4 q5) := fun X => (wb X ⟨bx, 3, none⟩ hxl).trans y3
                                have k4 : ∀ X : WB w7.heap.size wd2, X.val.cell? ⟨nx, k * 4, none⟩ = some (.bool m0) := fun X => (wb X ⟨nx, k * 4, none⟩ hnl).trans n0
                                have k5 : ∀ X : WB w7.heap.size wd2, X.val.cell? ⟨nx, k * 4 + 1, none⟩ = some (.int .i64 m1) := fun X => (wb X ⟨nx, k * 4 + 1, none⟩ hnl).trans n1'
                                have k6 : ∀ X : WB w7.heap.size wd2, X.val.cell? ⟨nx, k * 4 + 2, none⟩ = some (.int .i64 m2) := fun X => (wb X ⟨nx, k * 4 + 2, none⟩ hnl).trans n2'
                                have k7 : ∀ X : WB w7.heap.size wd2, X.val.cell? ⟨nx, k * 4 + 3, none⟩ = some (.slice m3 m4 m5) := fun X => (wb X ⟨nx, k * 4 + 3, none⟩ hnl).trans n3'
                                have HCB := Lib.hid (better_any (joinB (rowA (nthI D.P) (nthI D.L) M D.I f r j mm) (symB (nthI D.P) (nthI D.L) M D.I s (f + mm) (f + k))) (midF (nthI D.P) (nthI D.L) M D.I f (rowA (nthI D.P) (nthI D.L) M D.I f r j) s k mm) (.agg #[.bool q0, .int .i64 q1, .int .i64 q2, .slice q3 q4 q5]) (.agg #[.bool m0, .int .i64 m1, .int .i64 m2, .slice m3 m4 m5]) wd2 wd2.heap.size (Nat.le_refl _) (HV7.out.below hbd2).rd (by have h1 := hvm.below hbd2; rw [if_pos rfl] at h1; exact h1.rd))
                                have HBD2 := Lib.hid hbd2; have HZD2 := Lib.hid hzd2
                                clear hbt7 hvm wb hbd2 hzd2 n0 n1' n2' n3' y0 y1 y2 y3
                                show wpAnyS _ _ _ _ _ (1 + 5) _ _ _
                                refine takeS 1 0 5 (by kernel_rfl) (by kernel_rfl) (fun _ _ d _ _ h => by cases d <;> exact h) ⟨⟨_, Below.refl _ _⟩, rfl⟩ ?_
                                simp only [List.take_succ_cons, List.take_zero, List.drop_succ_cons, List.drop_zero]
                                repeat (first | go_big_quiet_skip | (go_big_quiet_want; go_big_quiet_op; go_big_quiet_on))
                                refine wpQuiet_nil ?_
                                clear k0 k1 k2 k3 k4 k5 k6 k7
                                refine oneS 0 5 (by kernel_rfl) (by decide) ?_
                                simp only [List.take_succ_cons, List.take_zero, List.drop_succ_cons, List.drop_zero]
                                go_wp2_with fail
                                refine HCB.out.mono ?_
                                rintro e w8 ⟨rfl, hb8⟩
                                have HS8 : Hid (Below w7.heap.size wd2 w8) := Lib.hid (hb8.mono (by have := HZD2.out; omega))
                                clear hb8
                                go_wp2_with fail
                                refine ⟨⟨WB.mk _ HS8.out, rfl⟩, ?_⟩
                                refine endS (by kernel_rfl) ?_
                                have hr8 : Below w7.heap.size w7 w8 := HBD2.out.trans HS8.out
                                have hbt8 := HBT7.out.below hr8
                                have hx8 := HX7.out.below' hr8
                                have hv8 := HV7.out.below hr8
                                have HBA8 := Lib.hid (HBA7.out.below hr8)
                                have HK8 := Lib.hid (HK7.out.below' hr8)
                                have HW8 := Lib.hid (HW7.out.trans (hr8.mono HW7.out.size))
                                by_cases hbet : betB (joinB (rowA (nthI D.P) (nthI D.L) M D.I f r j mm) (symB (nthI D.P) (nthI D.L) M D.I s (f + mm) (f + k))) (midF (nthI D.P) (nthI D.L) M D.I f (rowA (nthI D.P) (nthI D.L) M D.I f r j) s k mm) = true
                                · as_aux_lemma =>
                                    rw [hbet]
                                    obtain ⟨_, _, _, _, _, _, n0, n1', n2', n3', -⟩ := hbt8.at_ (X := k) (by omega)
                                    have y0 := hx8.cell (i := 0) rfl
                                    have y1 := hx8.cell (i := 1) rfl
                                    have y2 := hx8.cell (i := 2) rfl
                                    have y3 := hx8.cell (i := 3) rfl
                                    have e0 := hbt8.frozen (k * 4)
                                    have e1 := hbt8.frozen (k * 4 + 1)
                                    have e2 := hbt8.frozen (k * 4 + 2)
                                    have e3 := hbt8.frozen (k * 4 + 3)
                                    have HP := Lib.hid (hbt8.put (X := k) (by omega) hv8)
                                    have hne : w.heap.size ≠ nx := by omega
                                    have HK9 : Hid (Blk ((((w8.setCell ⟨nx, k * 4, none⟩ (.bool q0)).setCell ⟨nx, k * 4 + 1, none⟩ (.int .i64 q1)).setCell ⟨nx, k * 4 + 2, none⟩ (.int .i64 q2)).setCell ⟨nx, k * 4 + 3, none⟩ (.slice q3 q4 q5)) w.heap.size 51 [.bool false, .int .i64 0, .int .i64 0, .slice none 0 0]) := Lib.hid (Blk.far (Blk.far (Blk.far (Blk.far HK8.out hne _) hne _) hne _) hne _)
                                    have HBA9 := Lib.hid (HBA8.out.far4 hbt8 (by omega) (k * 4) (k * 4 + 1) (k * 4 + 2) (k * 4 + 3) (.bool q0) (.int .i64 q1) (.int .i64 q2) (.slice q3 q4 q5))
                                    have HW9 : Hid (Below w.heap.size w ((((w8.setCell ⟨nx, k * 4, none⟩ (.bool q0)).setCell ⟨nx, k * 4 + 1, none⟩ (.int .i64 q1)).setCell ⟨nx, k * 4 + 2, none⟩ (.int .i64 q2)).setCell ⟨nx, k * 4 + 3, none⟩ (.slice q3 q4 q5))) := Lib.hid (bel_set4 HW8.out (by omega) _ _ _ _ _ _ _ _)
                                    have HE : Hid (midF (nthI D.P) (nthI D.L) M D.I f (rowA (nthI D.P) (nthI D.L) M D.I f r j) s k (mm + 1) = joinB (rowA (nthI D.P) (nthI D.L) M D.I f r j mm) (symB (nthI D.P) (nthI D.L) M D.I s (f + mm) (f + k))) := Lib.hid (by rw [midF_succ]; unfold pick; rw [if_pos hbet])
                                    clear hbt8 hx8 hv8 hbet
                                    go_wp2_with fail
                                    go_roundw
                                    case rel => exact ⟨mm + 1, by omega, by go_num, HK9, HBA9, Lib.hid (HP.out.congr fun X _ => by
                                      by_cases e : X = k
                                      · rw [if_pos e, if_pos e, HE.out]
                                      · rw [if_neg e, if_neg e, if_neg e]), HW9⟩
                                    case measure => simp [intOf]; omega
                                · as_aux_lemma =>
                                    have hbf : betB (joinB (rowA (nthI D.P) (nthI D.L) M D.I f r j mm) (symB (nthI D.P) (nthI D.L) M D.I s (f + mm) (f + k))) (midF (nthI D.P) (nthI D.L) M D.I f (rowA (nthI D.P) (nthI D.L) M D.I f r j) s k mm) = false := by simpa using hbet
                                    rw [hbf]
                                    have HE : Hid (midF (nthI D.P) (nthI D.L) M D.I f (rowA (nthI D.P) (nthI D.L) M D.I f r j) s k (mm + 1) = midF (nthI D.P) (nthI D.L) M D.I f (rowA (nthI D.P) (nthI D.L) M D.I f r j) s k mm) := Lib.hid (by rw [midF_succ]; unfold pick; rw [if_neg hbet])
                                    have HP := Lib.hid hbt8
                                    clear hbt8 hx8 hv8 hbet hbf
                                    go_wp2_with fail
                                    go_roundw
                                    case rel => exact ⟨mm + 1, by omega, by go_num, HK8, HBA8, Lib.hid (HP.out.congr fun X _ => by
                                      by_cases e : X = k
                                      · rw [if_pos e, if_pos e, HE.out]
                                      · rw [if_neg e, if_neg e]), HW8⟩
                                    case measure => simp [intOf]; omega
                · as_aux_lemma =>
                    have hje : j = nq := by omega
                    subst hje
                    obtain ⟨q0, q1, q2, q3, q4, q5, y0, y1, y2, y3, hv⟩ := HBTr.out.at_ (X := T) (by omega)
                    have f0 := HKr.out.frozen 0
                    have f1 := HKr.out.frozen 1
                    have f2 := HKr.out.frozen 2
                    have f3 := HKr.out.frozen 3
                    have z0 := HKr.out.cell (i := 0) rfl
                    have z1 := HKr.out.cell (i := 1) rfl
                    have z2 := HKr.out.cell (i := 2) rfl
                    have z3 := HKr.out.cell (i := 3) rfl
                    have HV := Lib.hid hv
                    clear hv
                    go_wp2_with fail
                    have hk3 := (((HKr.out.set_ 0 (.bool q0)).set_ 1 (.int .i64 q1)).set_ 2 (.int .i64 q2)).set_ 3 (.slice q3 q4 q5)
                    refine bodyPost_ret (results_cell_row rfl _ _ w.heap.size _ #[.bool q0, .int .i64 q1, .int .i64 q2, .slice q3 q4 q5] _ _ rfl hk3 Tryd.underlying51 rfl (by kernel_rfl)) rfl ?_
                    rw [HRB.out]
                    exact ⟨_, rfl, HV.out.set4 HKr.out _ _ _ _ _ _ _ _, bel_set4 HBr.out (Nat.le_refl _) _ _ _ _ _ _ _ _⟩

theorem row_any (G : Gr) (Ap Al As : Option Addr) (np cp nl cl ns cs : Nat) (D : Md) (A1 A2 A3 A4 : Option Addr) (n1 c1 n2 c2 n3 c3 n4 c4 bM m : Nat) (w : World) (B : Nat) (hB : B ≤ w.heap.size) (hM : MdIn w B m G Ap Al As np cp nl cl ns cs D A1 A2 A3 A4 n1 c1 n2 c2 n3 c3 n4 c4 bM)
    (N n lo : Nat) (γ : Nat → Nat → Option Nat) (M : BCh) (hC : ChM w bM N n lo γ M) (hN : N ≤ 300) (A : Option Addr) (nr c : Nat) (r : List Int) (hr : RdI w B A r) (hl : r.length = nr) (h20 : nr ≤ 20) (hcap : nr ≤ c) (hcm : c ≤ maxLen)
    (f t : Nat) (hf : f ≤ t) (ht : t ≤ n3) (hs : ∀ s ∈ r, (s < 0 → (-1 - s).toNat < N) ∧ (0 ≤ s → s.toNat < n1 ∧ s.toNat < n2))
    (hg : 0 < nr → ∀ i k, k ≤ t - f → GoodB (rowA (nthI D.P) (nthI D.L) M D.I f r i k)) (hgs : ∀ s ∈ r, ∀ a b, a ≤ b → b ≤ n3 → GoodB (symB (nthI D.P) (nthI D.L) M D.I s a b)) :
    Calls Tryd.prog 25 #[.pointer (some ⟨m, 0, none⟩), .slice A nr c, .int .i64 (f : Int), .int .i64 (t : Int)] w fun e w' => ∃ v, e = .returned v ∧ BsT w' v (rwB (nthI D.P) (nthI D.L) M D.I r f t) ∧ Below w.heap.size w w' := by
  by_cases h0 : 0 < nr
  · exact row_cons G Ap Al As np cp nl cl ns cs D A1 A2 A3 A4 n1 c1 n2 c2 n3 c3 n4 c4 bM m w B hB hM N n lo γ M hC hN A nr c r hr hl h0 h20 hcap hcm f t hf ht hs (hg h0) hgs
  · have e : r = [] := List.eq_nil_of_length_eq_zero (by omega)
    have e2 : nr = 0 := by omega
    subst e e2
    exact row_nil G Ap Al As np cp nl cl ns cs D A1 A2 A3 A4 n1 c1 n2 c2 n3 c3 n4 c4 bM m w B hB hM A c M f t hf ht
end Go.Proofs.YtklhjaohnimmnaaDoor
