/- The one chart of a grammar and of words; what newChart gives, of it. · Has: is it a sentence? · Plain: numbers as lists of parts to a base, the lowest first: sums, products, decimals. -/
import Derived.Test.YtiklbannoinioaaDoorQ17
import Derived.Test.YtiklbannoinioaaDoorQ15
import Derived.Lib.ItoaNum
import Derived.Lib.Repeat
namespace Go.Proofs.YtiklbannoinioaaDoor
open Go.RowKit BigFrame Go.Maps
set_option linter.unusedVariables false
set_option linter.unusedSimpArgs false
set_option maxRecDepth 100000

section
variable {G : Gr} {inp : List Int} {I I' : Nat → List K3}
theorem RunsTo.det {tq : Nat} {l t L l1 L1 : List K3} (h : RunsTo G I tq l t L l1 L1) : ∀ {l2 L2 : List K3}, RunsTo G I tq l t L l2 L2 → l1 = l2 ∧ L1 = L2 := by
  induction h with
  | done l L =>
    intro l2 L2 k
    generalize ht : ([] : List K3) = t at k
    cases k with
    | done => exact ⟨rfl, rfl⟩
    | step k => simp at ht
  | @step l t L l' L' x h ih =>
    intro l2 L2 k
    generalize ht : t ++ [x] = t0 at k
    cases k with
    | done => simp at ht
    | step k =>
      obtain ⟨e1, e2⟩ := List.append_inj' ht rfl
      cases e2
      subst e1
      exact ih k
theorem Filled.det (hk : GOk G) {k : Nat} {L : List K3} (h : Filled G inp I k L) : ∀ {I' : Nat → List K3} {L' : List K3}, k ≤ 101 → Filled G inp I' k L' → (∀ j, j < k → I' j = I j) ∧ L' = L := by
  induction h with
  | zero =>
    intro I' L' _ h'
    cases h'
    exact ⟨fun j hj => absurd hj (Nat.not_lt_zero _), rfl⟩
  | @step k L0 L1 h1 h2 h3 ih =>
    intro I' L' hkk h'
    cases h' with
    | step h1' h2' h3' =>
      obtain ⟨e1, e2⟩ := ih (by omega) h1'
      subst e2
      have hI : ∀ j, j < k → ∀ y ∈ I j, ItOk G j y := fun j hj y hy => (h1.ok j hj).ok y hy
      rw [startL_congr e1] at h2'
      have h2c : RunsTo G I' k ((startL G inp I k).foldl stP ([], [])).1 ((startL G inp I k).foldl stP ([], [])).2 _ (I k) L1 := h2.congr hk (by omega) hI e1 (start_VI hI)
      obtain ⟨e3, e4⟩ := h2'.det h2c
      refine ⟨fun j hj => ?_, e4⟩
      by_cases q : j = k
      · subst q; exact e3
      · exact e1 j (by omega)
end
open Classical in
/-- The chart: its items of each place, its spans. -/
noncomputable def chC2 (G : Gr) (inp : List Int) : (Nat → List K3) × List K3 := if h : ∃ I L, Filled G inp I (inp.length + 1) L then (h.choose, h.choose_spec.choose) else (fun _ => [], [])
noncomputable def chT (G : Gr) (inp : List Int) : Ct := ⟨(chC2 G inp).1, (chC2 G inp).2⟩
theorem chT_filled {G : Gr} {inp : List Int} {I : Nat → List K3} {L : List K3} (h : Filled G inp I (inp.length + 1) L) : Filled G inp (chT G inp).I (inp.length + 1) (chT G inp).L := by
  have hx : ∃ I L, Filled G inp I (inp.length + 1) L := ⟨I, L, h⟩
  unfold chT chC2
  rw [dif_pos hx]
  exact hx.choose_spec.choose_spec
section
variable {w w' : World} {B c m2 m3 nN : Nat} {G : Gr} {Ap Al As : Option Addr} {np cp nl cl ns cs : Nat} {Ai : Option Addr} {ni ci : Nat} {inp : List Int} {I : Nat → List K3} {L : List K3}
/-- What newChart gives, as the trees' functions read it. -/
theorem NewC.ch (h : NewC w w' B c m2 m3 nN G Ap Al As np cp nl cl ns cs Ai ni ci inp I L) (hk : GOk G) (hnN : G.names = (nN : Int)) (hm : ni ≤ ci ∧ ci ≤ maxLen) (hli : inp.length = ni) (hn : ni ≤ 100) (hB : B ≤ w.heap.size) (hw : w.heap.size ≤ w'.heap.size) :
    ChIn w' (fun b => b < w'.heap.size ∧ b ≠ m3) B c m3 G Ap Al As np cp nl cl ns cs Ai ni ci inp (chT G inp) ∧ Opn m3 [] w' ∧ Filled G inp (chT G inp).I (ni + 1) (chT G inp).L := by
  have hf := h.fi
  rw [← hli] at hf
  have hc := chT_filled hf
  obtain ⟨e1, e2⟩ := hf.det hk (by omega) hc
  obtain ⟨bn, bi, base1, base2, m1, cb, vs, ss, b3, nz, h1, h2, h3, h4⟩ := h.ex
  have hN := hk.n1
  have hlo := h.lo
  have hne := h.ne
  have hsp := h2.sp
  rw [← e2] at hsp
  have hch := h1.chIn (I := (chT G inp).I) (L := (chT G inp).L) hnN (by omega) hm hli hsp (by omega) (by omega) h3.2.1 (b3 := b3) (fun j p hp => by
    have hj : j < ni + 1 := by have := (List.getElem?_eq_some_iff.1 hp).1; have := h1.ln; omega
    refine ⟨?_, ?_⟩
    · rw [e1 j (by rw [hli]; exact hj)]
      exact h2.fl j p hj hp
    · have := h4 p (List.mem_of_getElem? hp)
      omega)
  refine ⟨hch, ?_, by rw [← hli]; exact hc⟩
  unfold Opn SpM
  exact KMap.congr h1.k3 (fun x _ => by simp)
end
end Go.Proofs.YtiklbannoinioaaDoor
namespace Go.Proofs.YtiklbannoinioaaDoor
open Go.RowKit BigFrame Go.Maps
set_option linter.unusedVariables false
set_option linter.unusedSimpArgs false
set_option maxRecDepth 100000

/-- The whole, from start to end. -/
def wholeX (G : Gr) (inp : List Int) : K3 := (G.start.toNat, 0, inp.length)
noncomputable def hasT (G : Gr) (inp : List Int) : Bool := decide (wholeX G inp ∈ (chT G inp).L)
set_option maxHeartbeats 8000000 in
theorem pHas_any (G : Gr) (Ap Al As : Option Addr) (np cp nl cl ns cs : Nat) (Ai : Option Addr) (ni ci : Nat) (inp : List Int) (w : World) (B : Nat) (hB : B ≤ w.heap.size) (hG : GrIn w B G Ap Al As np cp nl cl ns cs) (hk : GOk G) (hn : ni ≤ 60) (hm : ni ≤ ci ∧ ci ≤ maxLen) (hli : inp.length = ni) (hri : RdI w B Ai inp) :
    Calls Tryd.prog 9 #[.agg #[.int .i64 G.terms, .int .i64 G.names, .int .i64 G.start, .slice Ap np cp, .slice Al nl cl, .slice As ns cs], .slice Ai ni ci] w fun e w' => e = .returned (.bool (hasT G inp)) ∧ Below w.heap.size w w' ∧ Filled G inp (chT G inp).I (ni + 1) (chT G inp).L := by
  obtain ⟨nN, hnN⟩ : ∃ nN : Nat, G.names = (nN : Int) := ⟨G.names.toNat, by have := hk.n1; have := hk.n0; omega⟩
  obtain ⟨st, hst⟩ : ∃ st : Nat, G.start = (st : Int) := ⟨G.start.toNat, by have := hk.s0; omega⟩
  obtain ⟨hb0, hs0, gb⟩ := gbox w G Ap Al As np cp nl cl ns cs
  have hc := newChart_any G Ap Al As np cp nl cl ns cs Ai ni ci nN inp (w.alloc (.cells #[.int .i64 G.terms, .int .i64 G.names, .int .i64 G.start, .slice Ap np cp, .slice Al nl cl, .slice As ns cs] 25)) B (Nat.le_trans hB hb0.size) (hG.below (hb0.mono hB)) hk hn hm hli (hri.below (hb0.mono hB)) hnN
  have HC := Lib.hid hc; have HB0 := Lib.hid hb0; have HK := Lib.hid hk; have HM := Lib.hid hm; have HLI := Lib.hid hli; have HB := Lib.hid hB; have HNN := Lib.hid hnN; have HST := Lib.hid hst
  have hc0 := gb.c0; have hc1 := gb.c1; have hc2 := gb.c2; have hc3 := gb.c3; have hc4 := gb.c4; have hc5 := gb.c5
  clear hc hb0 gb hG hB hli hri hnN hst hs0 hm hk
  go_enter Tryd.func9, Tryd.ntmps9
  go_wp2_with fail
  refine HC.out.mono ?_
  rintro e w1 ⟨c, m2, m3, I, L, rfl, hb1, hN⟩
  have hbw := HB0.out.trans (hb1.mono HB0.out.size)
  obtain ⟨hch, hop, hfi⟩ := hN.ch HK.out HNN.out HM.out HLI.out (by omega) (Nat.le_trans HB.out HB0.out.size) hb1.size
  have hwh := whole_any G Ap Al As np cp nl cl ns cs Ai ni ci inp (chT G inp) _ B c m3 w1 hch st HST.out
  have HBW := Lib.hid hbw; have HFI := Lib.hid hfi; have HCH := Lib.hid hch; have HWH := Lib.hid hwh
  unfold kV at HWH
  clear hb1 hN hbw hop hfi hwh hch HC hc0 hc1 hc2 hc3 hc4 hc5 HB0
  go_wp2_with fail
  refine HWH.out.mono ?_
  rintro e w2 ⟨rfl, hb2⟩
  have hst1 := HK.out.s1; have hst0 := HK.out.n1; have hst2 := HST.out
  have hsd := stands_any G Ap Al As np cp nl cl ns cs Ai ni ci inp (chT G inp) _ B c m3 (st, 0, ni) ⟨by simp only; omega, by simp only; omega, by simp only; omega⟩ w2 (HCH.out.bel (fun b q => q.1) hb2)
  have HSD := Lib.hid hsd; have HB2 := Lib.hid (HBW.out.trans (hb2.mono HBW.out.size))
  unfold kV at HSD
  clear hsd hb2 HWH hst1 hst0 hst2
  go_wp2_with fail
  refine HSD.out.mono ?_
  rintro e w3 ⟨rfl, hb3⟩
  have HB3 := Lib.hid (HB2.out.trans (hb3.mono HB2.out.size))
  have hq2 : hasT G inp = decide ((st, 0, ni) ∈ (chT G inp).L) := by unfold hasT wholeX; rw [HST.out, Int.toNat_natCast, HLI.out]
  have HQ2 := Lib.hid hq2
  clear hb3 hq2
  go_wp2_with fail
  go_ret
  exact ⟨ret_eq (by rw [HQ2.out]; rfl), HB3.out, HFI.out⟩
end Go.Proofs.YtiklbannoinioaaDoor
namespace Go.Proofs.YtiklbannoinioaaDoor
set_option linter.unusedVariables false
set_option linter.unusedSimpArgs false

/-- The value of a list of parts, the lowest first. -/
def vB (b : Nat) : List Nat → Nat
  | [] => 0
  | d :: t => d + b * vB b t
theorem vB_app (b : Nat) : ∀ (l m : List Nat), vB b (l ++ m) = vB b l + b ^ l.length * vB b m
  | [], m => by simp [vB]
  | d :: t, m => by
    simp only [List.cons_append, vB, List.length_cons, vB_app b t m, Nat.mul_add, Nat.pow_succ]
    rw [Nat.mul_comm (b ^ t.length) b, Nat.mul_assoc, Nat.add_assoc]
theorem vB_one (b d : Nat) : vB b [d] = d := by simp [vB]
theorem vB_snoc (b : Nat) (l : List Nat) (d : Nat) : vB b (l ++ [d]) = vB b l + b ^ l.length * d := by rw [vB_app, vB_one]
theorem vB_lt {b : Nat} : ∀ {l : List Nat}, (∀ d ∈ l, d < b) → vB b l < b ^ l.length
  | [], _ => by simp [vB]
  | d :: t, h => by
    have h1 := vB_lt (l := t) (fun x hx => h x (List.mem_cons_of_mem _ hx))
    have h2 : d < b := h d List.mem_cons_self
    have h3 : b * (vB b t + 1) ≤ b * b ^ t.length := Nat.mul_le_mul_left b h1
    simp only [vB, List.length_cons, Nat.pow_succ]
    rw [Nat.mul_comm (b ^ t.length) b]
    rw [Nat.mul_add] at h3
    omega
theorem vB_zeros (b : Nat) : ∀ n, vB b (List.replicate n 0) = 0
  | 0 => rfl
  | n + 1 => by simp [List.replicate_succ, vB, vB_zeros b n]
theorem vB_set {b : Nat} : ∀ {l : List Nat} {i : Nat} {d : Nat}, i < l.length → vB b (l.set i d) + b ^ i * l.getD i 0 = vB b l + b ^ i * d
  | x :: t, 0, d, _ => by simp [vB]; omega
  | x :: t, i + 1, d, h => by
    have h1 := vB_set (b := b) (l := t) (i := i) (d := d) (by simpa using h)
    simp only [List.set_cons_succ, vB, List.getD_cons_succ, Nat.pow_succ]
    rw [Nat.mul_comm (b ^ i) b, Nat.mul_assoc, Nat.mul_assoc, Nat.add_assoc, Nat.add_assoc, ← Nat.mul_add, ← Nat.mul_add, h1]
theorem vB_take_get (b : Nat) (l : List Nat) {i : Nat} {x : Nat} (h : l[i]? = some x) : vB b (l.take (i + 1)) = vB b (l.take i) + b ^ i * x := by
  obtain ⟨hi, rfl⟩ := List.getElem?_eq_some_iff.1 h
  rw [List.take_add_one, h]
  simp only [Option.toList_some]
  rw [vB_snoc, List.length_take, Nat.min_eq_left (Nat.le_of_lt hi)]

/-- Decimal parts times a small number, and what is carried. -/
def tby (n : Nat) : List Nat → Nat → List Nat
  | d :: t, c => (c + d * n) % 10 :: tby n t ((c + d * n) / 10)
  | [], c => if h : c = 0 then [] else c % 10 :: tby n [] (c / 10)
termination_by l c => (l.length, c)
decreasing_by
  · left; simp
  · right; omega
theorem tby_cons (n d : Nat) (t : List Nat) (c : Nat) : tby n (d :: t) c = (c + d * n) % 10 :: tby n t ((c + d * n) / 10) := by rw [tby]
theorem tby_nil0 (n : Nat) : tby n [] 0 = [] := by rw [tby, dif_pos rfl]
theorem tby_nil (n : Nat) {c : Nat} (h : 0 < c) : tby n [] c = c % 10 :: tby n [] (c / 10) := by rw [tby, dif_neg (by omega)]
theorem tby_val_nil (n : Nat) : ∀ (N c : Nat), c ≤ N → vB 10 (tby n [] c) = c
  | 0, c, h => by obtain rfl : c = 0 := by omega
                  rw [tby_nil0]; rfl
  | N + 1, c, h => by
    by_cases h0 : c = 0
    · rw [h0, tby_nil0]; rfl
    · rw [tby_nil n (by omega), vB, tby_val_nil n N (c / 10) (by omega)]
      omega
theorem tby_val (n : Nat) : ∀ (l : List Nat) (c : Nat), vB 10 (tby n l c) = c + n * vB 10 l
  | [], c => by rw [tby_val_nil n c c (Nat.le_refl _)]; simp [vB]
  | d :: t, c => by
    rw [tby_cons, vB, tby_val n t, vB, Nat.mul_add, Nat.mul_add, ← Nat.mul_assoc, ← Nat.mul_assoc, Nat.mul_comm d n, Nat.mul_comm n 10]
    omega
theorem tby_small_nil (n : Nat) : ∀ (N c : Nat), c ≤ N → ∀ d ∈ tby n [] c, d < 10
  | 0, c, h => by obtain rfl : c = 0 := by omega
                  rw [tby_nil0]; simp
  | N + 1, c, h => by
    by_cases h0 : c = 0
    · rw [h0, tby_nil0]; simp
    · rw [tby_nil n (by omega)]
      intro d hd
      rcases List.mem_cons.1 hd with rfl | hd
      · omega
      · exact tby_small_nil n N (c / 10) (by omega) d hd
theorem tby_small (n : Nat) : ∀ (l : List Nat) (c : Nat), ∀ d ∈ tby n l c, d < 10
  | [], c => tby_small_nil n c c (Nat.le_refl _)
  | d :: t, c => by
    rw [tby_cons]
    intro x hx
    rcases List.mem_cons.1 hx with rfl | hx
    · omega
    · exact tby_small n t _ x hx
theorem tby_len_nil (n : Nat) : ∀ (k c : Nat), c < 10 ^ k → (tby n [] c).length ≤ k
  | 0, c, h => by obtain rfl : c = 0 := by simpa using h
                  rw [tby_nil0]; simp
  | k + 1, c, h => by
    by_cases h0 : c = 0
    · rw [h0, tby_nil0]; simp
    · rw [tby_nil n (by omega), List.length_cons]
      have := tby_len_nil n k (c / 10) (by rw [Nat.pow_succ] at h; omega)
      omega
theorem tby_len (n k : Nat) (hn : n < 10 ^ k) : ∀ (l : List Nat) (c : Nat), (∀ d ∈ l, d < 10) → c ≤ n → (tby n l c).length ≤ l.length + k
  | [], c, _, hc => by have := tby_len_nil n k c (by omega); simpa using this
  | d :: t, c, hl, hc => by
    rw [tby_cons, List.length_cons, List.length_cons]
    have hd : d < 10 := hl d List.mem_cons_self
    have h2 : d * n ≤ 9 * n := Nat.mul_le_mul_right n (by omega)
    have := tby_len n k hn t ((c + d * n) / 10) (fun x hx => hl x (List.mem_cons_of_mem _ hx)) (by omega)
    omega
/-- The carry stays small. -/
theorem tby_carry {n c d : Nat} (hd : d < 10) (hc : c ≤ n) : (c + d * n) / 10 ≤ n := by
  have h2 : d * n ≤ 9 * n := Nat.mul_le_mul_right n (by omega)
  omega

/-- Decimal parts added, and what is carried. -/
def pls : List Nat → List Nat → Nat → List Nat
  | x :: a, y :: b, c => (c + x + y) % 10 :: pls a b ((c + x + y) / 10)
  | x :: a, [], c => (c + x) % 10 :: pls a [] ((c + x) / 10)
  | [], y :: b, c => (c + y) % 10 :: pls [] b ((c + y) / 10)
  | [], [], c => if h : c = 0 then [] else c % 10 :: pls [] [] (c / 10)
termination_by a b c => (a.length + b.length, c)
decreasing_by
  · left; simp; omega
  · left; simp
  · left; simp
  · right; omega
theorem pls_cc (x y : Nat) (a b : List Nat) (c : Nat) : pls (x :: a) (y :: b) c = (c + x + y) % 10 :: pls a b ((c + x + y) / 10) := by rw [pls]
theorem pls_cn (x : Nat) (a : List Nat) (c : Nat) : pls (x :: a) [] c = (c + x) % 10 :: pls a [] ((c + x) / 10) := by rw [pls]
theorem pls_nc (y : Nat) (b : List Nat) (c : Nat) : pls [] (y :: b) c = (c + y) % 10 :: pls [] b ((c + y) / 10) := by rw [pls]
theorem pls_nn0 : pls [] [] 0 = [] := by rw [pls, dif_pos rfl]
theorem pls_nn {c : Nat} (h : 0 < c) : pls [] [] c = c % 10 :: pls [] [] (c / 10) := by rw [pls, dif_neg (by omega)]
/-- What one round adds. -/
theorem pls_round (a b : List Nat) (c : Nat) (h : a ≠ [] ∨ b ≠ [] ∨ 0 < c) : pls a b c = (c + a.headD 0 + b.headD 0) % 10 :: pls a.tail b.tail ((c + a.headD 0 + b.headD 0) / 10) := by
  match a, b with
  | x :: a, y :: b => rw [pls_cc]; rfl
  | x :: a, [] => rw [pls_cn]; rfl
  | [], y :: b => rw [pls_nc]; rfl
  | [], [] =>
    rw [pls_nn (by simpa using h)]; rfl
theorem vB_head (b : Nat) (l : List Nat) : vB b l = l.headD 0 + b * vB b l.tail := by cases l <;> simp [vB]
theorem head_lt {b : Nat} {l : List Nat} (hb : 0 < b) (h : ∀ d ∈ l, d < b) : l.headD 0 < b := by
  cases l with
  | nil => simpa using hb
  | cons x a => exact h x List.mem_cons_self
theorem pls_val_nn : ∀ (N c : Nat), c ≤ N → vB 10 (pls [] [] c) = c ∧ ∀ d ∈ pls [] [] c, d < 10
  | 0, c, h => by obtain rfl : c = 0 := by omega
                  rw [pls_nn0]; simp [vB]
  | N + 1, c, h => by
    by_cases h0 : c = 0
    · rw [h0, pls_nn0]; simp [vB]
    · obtain ⟨h1, h2⟩ := pls_val_nn N (c / 10) (by omega)
      rw [pls_nn (by omega), vB, h1]
      refine ⟨by omega, fun d hd => ?_⟩
      rcases List.mem_cons.1 hd with rfl | hd
      · omega
      · exact h2 d hd
theorem pls_val : ∀ (N : Nat) (a b : List Nat) (c : Nat), a.length + b.length ≤ N → vB 10 (pls a b c) = c + vB 10 a + vB 10 b ∧ ∀ d ∈ pls a b c, d < 10
  | 0, a, b, c, hN => by
    obtain rfl : a = [] := List.length_eq_zero_iff.1 (by omega)
    obtain rfl : b = [] := List.length_eq_zero_iff.1 (by simpa using hN)
    have := pls_val_nn c c (Nat.le_refl _)
    simpa [vB] using this
  | N + 1, a, b, c, hN => by
    by_cases h : a ≠ [] ∨ b ≠ []
    · rw [pls_round a b c (by rcases h with h | h; exact Or.inl h; exact Or.inr (Or.inl h))]
      have hl : a.tail.length + b.tail.length ≤ N := by
        simp only [List.length_tail]
        rcases h with h | h
        · have := List.length_pos_iff.2 h; omega
        · have := List.length_pos_iff.2 h; omega
      obtain ⟨h1, h2⟩ := pls_val N a.tail b.tail ((c + a.headD 0 + b.headD 0) / 10) hl
      refine ⟨?_, ?_⟩
      · rw [vB, h1, vB_head 10 a, vB_head 10 b]
        omega
      · intro d hd
        rcases List.mem_cons.1 hd with rfl | hd
        · omega
        · exact h2 d hd
    · have h1 : a = [] := Classical.byContradiction fun q => h (Or.inl q)
      have h2 : b = [] := Classical.byContradiction fun q => h (Or.inr q)
      have := pls_val_nn c c (Nat.le_refl _)
      rw [h1, h2]
      simpa [vB] using this
theorem pls_len : ∀ (N : Nat) (a b : List Nat) (c : Nat), a.length ≤ N → b.length ≤ N → (∀ d ∈ a, d < 10) → (∀ d ∈ b, d < 10) → c ≤ 1 → (pls a b c).length ≤ N + 1
  | 0, a, b, c, h1, h2, _, _, hc => by
    obtain rfl : a = [] := List.length_eq_zero_iff.1 (by omega)
    obtain rfl : b = [] := List.length_eq_zero_iff.1 (by omega)
    by_cases h0 : c = 0
    · rw [h0, pls_nn0]; simp
    · obtain rfl : c = 1 := by omega
      rw [pls_nn (by omega), show 1 / 10 = 0 from rfl, pls_nn0]; simp
  | N + 1, a, b, c, h1, h2, ha, hb, hc => by
    by_cases h : a ≠ [] ∨ b ≠ [] ∨ 0 < c
    · rw [pls_round a b c h, List.length_cons]
      have ha1 := head_lt (by decide) ha
      have hb1 := head_lt (by decide) hb
      have := pls_len N a.tail b.tail ((c + a.headD 0 + b.headD 0) / 10) (by rw [List.length_tail]; omega) (by rw [List.length_tail]; omega) (fun d hd => ha d (List.mem_of_mem_tail hd)) (fun d hd => hb d (List.mem_of_mem_tail hd)) (by omega)
      omega
    · have h1 : a = [] := Classical.byContradiction fun q => h (Or.inl q)
      have h2 : b = [] := Classical.byContradiction fun q => h (Or.inr (Or.inl q))
      have h3 : c = 0 := by omega
      rw [h1, h2, h3, pls_nn0]; simp

theorem vB_zero {b : Nat} : ∀ {l : List Nat}, vB b l = 0 → 0 < b → ∀ d ∈ l, d = 0
  | [], _, _, d, hd => by simp at hd
  | x :: t, h, hb, d, hd => by
    simp only [vB] at h
    have h1 : b * vB b t = 0 := by omega
    have h2 : vB b t = 0 := by
      rcases Nat.mul_eq_zero.1 h1 with h | h
      · omega
      · exact h
    rcases List.mem_cons.1 hd with rfl | hd
    · omega
    · exact vB_zero h2 hb d hd

/-! Decimals. -/
def dg (u : Nat) : UInt8 := UInt8.ofNat (48 + u % 10)
theorem dd_big (u : Nat) (h : ¬ u < 10) : Lib.decDigits u = Lib.decDigits (u / 10) ++ [dg u] := by rw [Lib.decDigits, dif_neg h]; rfl
theorem dd_small (u : Nat) (h : u < 10) : Lib.decDigits u = [dg u] := by rw [Lib.decDigits, dif_pos h]; unfold dg; rw [Nat.mod_eq_of_lt h]
/-- Decimal parts, the last one not 0: their decimal is the parts from behind. -/
theorem dd_parts : ∀ (l : List Nat), (∀ d ∈ l, d < 10) → ∀ h : l ≠ [], l.getLast h ≠ 0 → Lib.decDigits (vB 10 l) = l.reverse.map dg
  | [x], hl, h, h0 => by
    rw [vB_one, dd_small x (hl x List.mem_cons_self)]; rfl
  | x :: y :: t, hl, h, h0 => by
    have hx : x < 10 := hl x List.mem_cons_self
    have ih := dd_parts (y :: t) (fun d hd => hl d (List.mem_cons_of_mem _ hd)) (by simp) (by rw [List.getLast_cons (by simp)] at h0; exact h0)
    have hv : vB 10 (x :: y :: t) = x + 10 * vB 10 (y :: t) := rfl
    have hpos : 0 < vB 10 (y :: t) := by
      by_cases hz : vB 10 (y :: t) = 0
      · have e1 : Lib.decDigits (vB 10 (y :: t)) = [dg 0] := by rw [hz]; exact dd_small 0 (by decide)
        exact absurd (vB_zero hz (by decide) _ (List.getLast_mem (by simp))) (by rw [List.getLast_cons (by simp)] at h0; exact h0)
      · omega
    rw [dd_big _ (by omega), hv]
    have e2 : (x + 10 * vB 10 (y :: t)) / 10 = vB 10 (y :: t) := by omega
    have e3 : dg (x + 10 * vB 10 (y :: t)) = dg x := by unfold dg; congr 2; omega
    rw [e2, ih, e3, List.reverse_cons (a := x), List.map_append]
    rfl
end Go.Proofs.YtiklbannoinioaaDoor
