/- Plain: with which terminals the sentences of each name begin: one step. No program here. · grammar.whole. · A region that draws its order: quiet operations (calls too) ahead of one store: the cheap steps. · grammar.firsts: its closure. -/
import Derived.Test.YtgfchgnebpogjaaZ6
import Derived.Test.YtgfchgnebpogjaaZ9
import Derived.Test.YtgfchgnebpogjaaZ7
import Derived.StillTailTactics
import Derived.BigQuiet
import Derived.Test.YtgfchgnebpogjaaZ10
namespace Go.Proofs.Ytgfchgnebpogjaa
set_option linter.unusedVariables false
set_option linter.unusedSimpArgs false

/-- The symbols of a right side, one by one; q: was there something new? -/
def goF (emp : List Bool) (left : Nat) : List Int → List (List Bool) → Bool → List (List Bool) × Bool
  | [], M, q => (M, q)
  | s :: r, M, q =>
    if 0 ≤ s then (M.set left ((rowB M left).set s.toNat true), q || !bth (rowB M left) s.toNat)
    else if bth emp (-1 - s).toNat = true then goF emp left r (M.set left (orB (rowB M left) (rowB M (-1 - s).toNat))) (newB (rowB M left) (rowB M (-1 - s).toNat) || q)
    else (M.set left (orB (rowB M left) (rowB M (-1 - s).toNat)), newB (rowB M left) (rowB M (-1 - s).toNat) || q)
def stepF (lives emp : List Bool) (_ : Nat) (p : Pr) (M : List (List Bool)) : List (List Bool) × Bool :=
  if p.2.1.all (livS lives) = true then goF emp p.1.toNat p.2.1 M false else (M, false)
end Go.Proofs.Ytgfchgnebpogjaa
namespace Go.Proofs.Ytgfchgnebpogjaa
open Go.RowKit BigFrame
set_option linter.unusedVariables false
set_option linter.unusedSimpArgs false
set_option maxRecDepth 100000

theorem whole1_any (x : Int) (v g N : Nat) (l : List Bool) (w : World) (hN : N ≤ 300) (h : BlSt w v g N l) (hx : x < 0 → (-1 - x).toNat < N) :
    Calls Try.prog 75 #[.int .i64 x, .pointer (some ⟨v, 0, none⟩)] w fun e w' => e = .returned (.bool (!livS l x)) ∧ w = w' := by
  have zv := h.c
  by_cases h1 : x < 0
  · have d1 : decide (x < 0) = true := decide_eq_true h1
    have ht := hx (by omega)
    obtain ⟨t, ht1⟩ : ∃ t : Nat, t = (-1 - x).toNat := ⟨_, rfl⟩
    rw [← ht1] at ht
    have hts : -1 - x = (t : Int) := by omega
    have z := h.b.bcell (k := t) (by rw [h.l]; exact ht)
    have HF : Hid (livS l x = bth l t) := Lib.hid (by
      have h3 : ¬ 0 ≤ x := by omega
      unfold livS; rw [← ht1]; simp [h3])
    generalize bth l t = q at z HF
    clear h hx ht1
    go_enter Try.func75, Try.ntmps75
    go_wp2
    go_ret
    exact ⟨ret_eq (by rw [HF.out]; rfl), rfl⟩
  · have d1 : decide (x < 0) = false := decide_eq_false h1
    have HF : Hid (livS l x = true) := Lib.hid (by unfold livS; simp; omega)
    clear h hx
    go_enter Try.func75, Try.ntmps75
    go_wp2
    go_ret
    exact ⟨ret_eq (by rw [HF.out]; rfl), rfl⟩

theorem whole_any (px : Int) (r : List Int) (py : Int) (A' : Option Addr) (n' c' g N : Nat) (l : List Bool) (w : World) (B : Nat) (hB : B ≤ w.heap.size) (hN : N ≤ 300) (hr : RdI w B A' r) (hl : r.length = n') (hm : n' ≤ maxLen) (hb : Blk w g 4 (bv l)) (hbl : l.length = N) (h2 : ∀ s ∈ r, s < 0 → (-1 - s).toNat < N) :
    Calls Try.prog 53 #[.agg #[.int .i64 px, .slice A' n' c', .int .i64 py], .slice (some ⟨g, 0, none⟩) N N] w fun e w' => e = .returned (.bool (r.all (livS l))) ∧ Below w.heap.size w w' := by
  have hs2 : ((w.alloc (.cells #[.int .i64 px, .slice A' n' c', .int .i64 py] 50)).alloc (.cells #[.slice (some ⟨g, 0, none⟩) N N] 38)).heap.size = w.heap.size + 2 := by simp
  have hb2 : Below w.heap.size w ((w.alloc (.cells #[.int .i64 px, .slice A' n' c', .int .i64 py] 50)).alloc (.cells #[.slice (some ⟨g, 0, none⟩) N N] 38)) := ((Below.refl _ _).alloc (Nat.le_refl _) _).alloc (by simp) _
  have hcv := new_cell (w.alloc (.cells #[.int .i64 px, .slice A' n' c', .int .i64 py] 50)) (w.heap.size + 1) (by simp) (.slice (some ⟨g, 0, none⟩) N N) 38
  have hgs := hb.lt
  have hcon := contains1 75 (w.heap.size + 1) (fun s => !livS l s) A' n' c' r ((w.alloc (.cells #[.int .i64 px, .slice A' n' c', .int .i64 py] 50)).alloc (.cells #[.slice (some ⟨g, 0, none⟩) N N] 38)) w.heap.size (fun _ _ => rfl) ((hr.more hB).below hb2) hl hm (fun x hx =>
    whole1_any x (w.heap.size + 1) g N l _ hN ⟨hcv, hb.below hb2 hgs, hbl⟩ (h2 x hx))
  have hall : r.any (fun s => !livS l s) = !(r.all (livS l)) := by rw [List.not_all_eq_any_not]
  rw [hall] at hcon
  generalize r.all (livS l) = q at hcon
  have HC := Lib.hid hcon; have HB2 := Lib.hid hb2
  unfold maxLen at hm
  clear hcon hb2 hs2 hall hcv hr hl hb hbl h2
  go_enter Try.func53, Try.ntmps53
  go_wp2_with fail
  refine HC.out.mono ?_
  rintro e w' ⟨rfl, rfl⟩
  go_wp2
  go_ret
  exact ⟨ret_eq (by simp), HB2.out⟩
end Go.Proofs.Ytgfchgnebpogjaa
namespace Go.Proofs.Ytgfchgnebpogjaa
open Go
set_option linter.unusedVariables false

theorem wpStill_of_quiet {P : Program} {ops : Array Oper} {w : World} {Q : Act → Prop} : ∀ (l : List Oper) (a : Act), wpQuiet P ops (fun w' => w' = w) Q l a → wpStill P ops w Q l a
  | [], a, h => h
  | o :: rest, a, h => by
    unfold wpQuiet at h
    unfold wpStill
    split at h
    · rename_i hw
      rw [if_pos hw]
      obtain ⟨v, h1, h2⟩ := h
      have h3 := h1 w rfl
      unfold Oper.quietAt at h3
      unfold Oper.still
      generalize (execOp a.eval o).run P w = r at *
      cases r with
      | halt x w' => exact h3.elim
      | ok n w' =>
        cases n with
        | value u =>
          obtain ⟨rfl, rfl⟩ := h3
          exact ⟨rfl, wpStill_of_quiet rest _ h2⟩
        | skip =>
          obtain ⟨rfl, rfl⟩ := h3
          exact ⟨rfl, wpStill_of_quiet rest _ h2⟩
        | enter f args =>
          obtain ⟨rfl, hc⟩ := h3
          exact ⟨rfl, v, hc, wpStill_of_quiet rest _ h2⟩
        | _ => exact h3.elim
    · rename_i hw
      rw [if_neg hw]
      exact wpStill_of_quiet rest _ h

/-- N quiet operations, then the tail, in the world drawn once. -/
theorem wp_quiet_tail {P : Program} {ops : Array Oper} {w w2 : World} (hw : w2 = w.drew) {Q : Act → Prop} {l : List Oper} {a : Act} (h : wpQuiet P ops (fun w' => w' = w2) Q l a) : wpStill P ops w.drew Q l a := by
  subst hw
  exact wpStill_of_quiet l a h
end Go.Proofs.Ytgfchgnebpogjaa
namespace Go.Proofs.Ytgfchgnebpogjaa
open Go.RowKit BigFrame
set_option linter.unusedVariables false
set_option linter.unusedSimpArgs false
set_option maxRecDepth 100000

/-- Where all that firsts holds lies: the variables' blocks vl, vm, ve; the lists in gl, ge; the rows. -/
structure FsSt (w : World) (vl vm ve gl ge D N T : Nat) (ρ : List Nat) (lives emp : List Bool) (M : List (List Bool)) : Prop where
  l : BlSt w vl gl N lives
  e : BlSt w ve ge N emp
  c : w.cell? ⟨vm, 0, none⟩ = some (.slice (some ⟨D, 0, none⟩) N N)
  m : MtSt w D N T ρ M
  b : vl < w.heap.size ∧ vm < w.heap.size ∧ ve < w.heap.size
  n : ∀ k, k < N → nthN ρ k ≠ vl ∧ nthN ρ k ≠ vm ∧ nthN ρ k ≠ ve ∧ nthN ρ k ≠ gl ∧ nthN ρ k ≠ ge
theorem FsSt.below {w w' : World} {vl vm ve gl ge D N T : Nat} {ρ : List Nat} {lives emp : List Bool} {M : List (List Bool)} (h : FsSt w vl vm ve gl ge D N T ρ lives emp M) (hb : Below w.heap.size w w') : FsSt w' vl vm ve gl ge D N T ρ lives emp M :=
  ⟨h.l.below hb h.b.1 h.l.b.lt, h.e.below hb h.b.2.2 h.e.b.lt, (hb.cell (p := ⟨vm, 0, none⟩) h.b.2.1).trans h.c, h.m.below hb, ⟨Nat.lt_of_lt_of_le h.b.1 hb.size, Nat.lt_of_lt_of_le h.b.2.1 hb.size, Nat.lt_of_lt_of_le h.b.2.2 hb.size⟩, h.n⟩
/-- A row turned. -/
theorem FsSt.row {w w' : World} {vl vm ve gl ge D N T k : Nat} {ρ : List Nat} {lives emp : List Bool} {M : List (List Bool)} {r : List Bool} (h : FsSt w vl vm ve gl ge D N T ρ lives emp M) (hk : k < N) (hr : r.length = T) (hkp : Kp (fun j => j = nthN ρ k) w w') (hb : Blk w' (nthN ρ k) 4 (bv r)) :
    FsSt w' vl vm ve gl ge D N T ρ lives emp (M.set k r) := by
  obtain ⟨n1, n2, n3, n4, n5⟩ := h.n k hk
  exact ⟨⟨(hkp.cell (p := ⟨vl, 0, none⟩) h.b.1 (fun e => n1 e.symm)).trans h.l.c, (hkp.block gl h.l.b.lt (fun e => n4 e.symm)).trans h.l.b, h.l.l⟩,
    ⟨(hkp.cell (p := ⟨ve, 0, none⟩) h.b.2.2 (fun e => n3 e.symm)).trans h.e.c, (hkp.block ge h.e.b.lt (fun e => n5 e.symm)).trans h.e.b, h.e.l⟩,
    (hkp.cell (p := ⟨vm, 0, none⟩) h.b.2.1 (fun e => n2 e.symm)).trans h.c, h.m.set_ hk hr hkp hb, ⟨Nat.lt_of_lt_of_le h.b.1 hkp.size, Nat.lt_of_lt_of_le h.b.2.1 hkp.size, Nat.lt_of_lt_of_le h.b.2.2 hkp.size⟩, h.n⟩

set_option maxHeartbeats 4000000 in
theorem firsts1_any (i : Int) (px : Int) (r : List Int) (py : Int) (A' : Option Addr) (n' c' vl vm ve gl ge D N T : Nat) (ρ : List Nat) (lives emp : List Bool) (M : List (List Bool)) (w : World) (B : Nat) (hB : B ≤ w.heap.size) (hN : N ≤ 300) (hT : T ≤ 300)
    (hr : RdI w B A' r) (hl : r.length = n') (hm : n' ≤ 20) (hf : FsSt w vl vm ve gl ge D N T ρ lives emp M) (hBr : ∀ k, k < N → B ≤ nthN ρ k)
    (h0 : 0 ≤ px) (h1 : px.toNat < N) (h2 : ∀ s ∈ r, (s < 0 → (-1 - s).toNat < N) ∧ s < (T : Int)) (st : List (List Bool) × Bool) (hst : st = stepF lives emp 0 (px, r, py) M) :
    Calls Try.prog 73 #[.int .i64 i, .agg #[.int .i64 px, .slice A' n' c', .int .i64 py], .pointer (some ⟨vl, 0, none⟩), .pointer (some ⟨vm, 0, none⟩), .pointer (some ⟨ve, 0, none⟩)] w fun e w' => e = .returned (.bool st.2) ∧ FsSt w' vl vm ve gl ge D N T ρ lives emp st.1 ∧ Kp (fun j => ∃ k, k < N ∧ j = nthN ρ k) w w' := by
  obtain ⟨t, rfl⟩ := Int.eq_ofNat_of_zero_le h0
  rw [Int.toNat_natCast] at h1
  have hb0 : Below w.heap.size w (w.alloc (.cells #[.int .i64 t, .slice A' n' c', .int .i64 py] 50)) := (Below.refl _ _).alloc (Nat.le_refl _) _
  have hs0 : (w.alloc (.cells #[.int .i64 t, .slice A' n' c', .int .i64 py] 50)).heap.size = w.heap.size + 1 := by simp
  have hf0 := hf.below hb0
  have hr0 := (hr.more hB).below hb0
  have HRB := Lib.hid (hr.below (hb0.mono hB))
  have hwh := whole_any t r py A' n' c' gl N lives (w.alloc (.cells #[.int .i64 t, .slice A' n' c', .int .i64 py] 50)) w.heap.size hb0.size hN hr0 hl (by unfold maxLen; omega) hf0.l.b hf0.l.l (fun s hs => (h2 s hs).1)
  rw [hs0] at hwh
  have hst' : st = if r.all (livS lives) = true then goF emp t r M false else (M, false) := by rw [hst]; unfold stepF; simp only [Int.toNat_natCast]
  have zvl := hf0.l.c
  have hrow : ∀ k, k < N → nthN ρ k < w.heap.size := fun k hk => (hf.m.rows k hk).1.lt
  have hk0 : Kp (fun j => ∃ k, k < N ∧ j = nthN ρ k) w (w.alloc (.cells #[.int .i64 t, .slice A' n' c', .int .i64 py] 50)) := (Kp.refl _ _).alloc _
  have HF0 := Lib.hid hf0; have HR0 := Lib.hid hr0; have HL := Lib.hid hl; have HB0 := Lib.hid hb0; have HK0 := Lib.hid hk0; have H2 := Lib.hid h2
  clear hst hf hr hl hf0 hr0 hb0 h2 hk0 h0
  generalize r.all (livS lives) = al at hst' hwh
  have HW := Lib.hid hwh; clear hwh
  cases al
  · have HF : Hid (st = (M, false)) := Lib.hid (by rw [hst']; simp)
    clear hst' hrow
    go_enter Try.func73, Try.ntmps73
    go_wp2_with fail
    refine HW.out.mono ?_
    rintro e w1 ⟨rfl, hb1⟩
    have HF1 := Lib.hid (HF0.out.below (by rw [hs0]; exact hb1))
    have HK1 := Lib.hid (HK0.out.trans (Kp.of (by rw [hs0]; exact hb1)))
    clear hb1
    go_wp2
    go_ret
    rw [HF.out]
    exact ⟨rfl, HF1.out, HK1.out⟩
  · have HF : Hid (st = goF emp t r M false) := Lib.hid (by rw [hst']; simp)
    clear hst'
    go_enter Try.func73, Try.ntmps73
    go_wp2_with fail
    refine HW.out.mono ?_
    rintro e w1 ⟨rfl, hb1⟩
    have HF1 := Lib.hid (HF0.out.below (by rw [hs0]; exact hb1))
    have HK1 := Lib.hid (HK0.out.trans (Kp.of (by rw [hs0]; exact hb1)))
    have z1 := (hb1.cell (p := ⟨w.heap.size, 1, none⟩) (Nat.lt_succ_self _)).trans (show _ = some (.slice A' n' c') by simp)
    have z0 := (hb1.cell (p := ⟨w.heap.size, 0, none⟩) (Nat.lt_succ_self _)).trans (show _ = some (.int .i64 (t : Int)) by simp)
    have HR1 := Lib.hid (HRB.out.below (hb1.mono (by omega)))
    have HROW := Lib.hid hrow
    have hw1 : w.heap.size < w1.heap.size := by have := hb1.size; omega
    have Z0 := Lib.hid z0
    clear hb1 HW HF0 HR0 hrow z0 zvl
    go_wp2_with fail
    clear z1
    go_loopw [8, 18] (fun v i wr => ∃ k : Nat, ∃ q : Bool, ∃ Mk : List (List Bool), k ≤ n' ∧ i = .int .i64 k ∧ v = .bool q ∧ Kp (fun j => ∃ k, k < N ∧ j = nthN ρ k) w1 wr ∧ Hid (FsSt wr vl vm ve gl ge D N T ρ lives emp Mk) ∧ Hid (goF emp t r M false = goF emp t (r.drop k) Mk q)) (fun _ i _ => n' - (intOf i).toNat)
    case atStart => exact ⟨0, false, M, Nat.zero_le _, rfl, rfl, Kp.refl _ _, HF1.out, rfl⟩
    case round =>
      as_aux_lemma =>
        obtain ⟨k, q, Mk, hk, rfl, rfl, hkr, HS, HE⟩ := hrel
        have kw : ∀ wq, Kp (fun j => ∃ k, k < N ∧ j = nthN ρ k) w1 wq → wq.cell? ⟨w.heap.size, 0, none⟩ = some (.int .i64 (t : Int)) := fun wq h => (h.cell (p := ⟨w.heap.size, 0, none⟩) hw1 (fun ⟨k, hk, e⟩ => by have := HROW.out k hk; simp at e; omega)).trans Z0.out
        have z0 := kw wr hkr
        have zvm := HS.out.c
        have zD := HS.out.m.cell h1
        obtain ⟨hrb, hrl⟩ := HS.out.m.rows t h1
        clear kw
        by_cases hlt : k < n'
        · as_aux_lemma =>
            have hrk : RdI wr B A' r := Rd.keep HR1.out (fun p hp => hkr.cell (by omega) (fun ⟨k, hk, e⟩ => by have := hBr k hk; omega))
            obtain ⟨b, off, rfl, hb, hc⟩ := hrk.at_ (by rw [HL.out]; omega)
            have zs1 := hc k (by rw [HL.out]; omega)
            have hd := drop_nth (l := r) (k := k) (by rw [HL.out]; omega)
            have hmem := H2.out _ (mem_nth (l := r) (k := k) (by rw [HL.out]; omega))
            generalize nth r k = s at zs1 hd hmem
            have HD := Lib.hid hd; clear hd hc hrk
            by_cases hs : 0 ≤ s
            · as_aux_lemma =>
                have d1 : decide (0 ≤ s) = true := decide_eq_true hs
                obtain ⟨u, rfl⟩ := Int.eq_ofNat_of_zero_le hs
                have huT : u < T := by have := hmem.2; omega
                have zr := hrb.bcell (k := u) (by rw [hrl]; exact huT)
                have zf := hrb.frozen u
                have HK2 : Hid (Kp (fun j => ∃ k, k < N ∧ j = nthN ρ k) wr (wr.setCell ⟨nthN ρ t, u, none⟩ (.bool true))) := Lib.hid ((Kp.refl _ _).set_ (.inr ⟨t, h1, rfl⟩) _)
                have HS2 := Lib.hid (HS.out.row h1 (r := (rowB Mk t).set u true) (by rw [List.length_set]; exact hrl) ((Kp.refl (fun j => j = nthN ρ t) wr).set_ (p := ⟨nthN ρ t, u, none⟩) (.inr rfl) (.bool true)) (hrb.bset u true))
                have HE2 : Hid (goF emp t r M false = (Mk.set t ((rowB Mk t).set u true), q || !bth (rowB Mk t) u)) := Lib.hid (by rw [HE.out, HD.out]; simp only [goF]; rw [if_pos hs]; simp only [Int.toNat_natCast])
                generalize bth (rowB Mk t) u = bit at zr HE2
                generalize nthN ρ t = R at *
                clear hmem hrb
                cases q
                · cases bit
                  all_goals
                    go_wp2
                    go_ret
                    rw [HF.out, HE2.out]
                    exact ⟨rfl, HS2.out, (HK1.out.trans hkr).trans HK2.out⟩
                · go_wp2
                  go_ret
                  rw [HF.out, HE2.out]
                  exact ⟨rfl, HS2.out, (HK1.out.trans hkr).trans HK2.out⟩
            · as_aux_lemma =>
                have d1 : decide (0 ≤ s) = false := decide_eq_false hs
                have hx := hmem.1 (by omega)
                obtain ⟨x, hx1⟩ : ∃ x : Nat, x = (-1 - s).toNat := ⟨_, rfl⟩
                rw [← hx1] at hx
                have hts : -1 - s = (x : Int) := by omega
                obtain ⟨hxb, hxl⟩ := HS.out.m.rows x hx
                have zDx := HS.out.m.cell hx
                have zve := HS.out.e.c
                have zeb := HS.out.e.b.bcell (k := x) (by rw [HS.out.e.l]; exact hx)
                have HEE : Hid (goF emp t (s :: r.drop (k + 1)) Mk q = if bth emp x = true then goF emp t (r.drop (k + 1)) (Mk.set t (orB (rowB Mk t) (rowB Mk x))) (newB (rowB Mk t) (rowB Mk x) || q) else (Mk.set t (orB (rowB Mk t) (rowB Mk x)), newB (rowB Mk t) (rowB Mk x) || q)) := Lib.hid (by simp only [goF]; rw [if_neg hs, ← hx1])
                have hadd := add_any (nthN ρ t) (nthN ρ x) T (rowB Mk t) (rowB Mk x) wr.drew (by omega) hrb.drew hxb.drew hrl hxl (fun e => by rw [HS.out.m.nd t x h1 hx e])
                have hol : (orB (rowB Mk t) (rowB Mk x)).length = T := orB_len hrl hxl
                have HOL := Lib.hid hol
                have hex : ∀ wq, FsSt wq vl vm ve gl ge D N T ρ lives emp (Mk.set t (orB (rowB Mk t) (rowB Mk x))) → wq.cell? ⟨ve, 0, none⟩ = some (.slice (some ⟨ge, 0, none⟩) N N) ∧ wq.cell? ⟨ge, x, none⟩ = some (.bool (bth emp x)) := fun wq h => ⟨h.e.c, h.e.b.bcell (k := x) (by rw [h.e.l]; exact hx)⟩
                have HEX := Lib.hid hex
                generalize orB (rowB Mk t) (rowB Mk x) = orr at *
                generalize newB (rowB Mk t) (rowB Mk x) = nw at hadd HEE
                generalize bth emp x = eb at HEE zeb HEX
                have hdr := HS.out.below (show Below wr.heap.size wr wr.drew from ⟨rfl, rfl, rfl, Nat.le_refl _, fun _ _ => rfl⟩)
                clear hmem hx1 hrb hxb hol hex
                go_wp2_with fail
                refine wp_region_still_tail 10 (by kernel_rfl) (by kernel_rfl) ?_
                simp only [List.take_succ_cons, List.take_zero, List.drop_succ_cons, List.drop_zero]
                change wpStill _ _ wr.drew (fun a' => wpList _ _ _ _ a' wr.drew) _ _
                obtain ⟨w2, hw2⟩ : ∃ w2, w2 = wr.drew := ⟨_, rfl⟩
                rw [← hw2] at hadd hdr ⊢
                have hcl : ∀ p, w2.cell? p = wr.cell? p := by intro p; rw [hw2]; rfl
                have y0 := (hcl _).trans z0
                have y1 := (hcl _).trans zvm
                have y2 := (hcl _).trans zD
                have y3 := (hcl _).trans zDx
                have y4 := (hcl _).trans zve
                have y5 := (hcl _).trans zeb
                have hk2 : Kp (fun j => ∃ k, k < N ∧ j = nthN ρ k) w1 w2 := by rw [hw2]; exact hkr.draw
                have HADD := Lib.hid hadd; have HDR := Lib.hid hdr; have HKW := Lib.hid hk2
                clear hcl hw2 z0 zvm zD zDx zve zeb hadd hdr hk2
                refine wpStill_of_quiet _ _ ?_
                repeat (first | go_big_quiet_skip | (go_big_quiet_want; go_big_quiet_op; go_big_quiet_on))
                refine wpQuiet_nil ?_
                cases nw
                all_goals
                  go_wp2_with fail
                  refine HADD.out.mono ?_
                  rintro e w5 ⟨rfl, hb5, hk5⟩
                  have hS5 := HDR.out.row h1 HOL.out hk5 hb5
                  have HK5 : Hid (Kp (fun j => ∃ k, k < N ∧ j = nthN ρ k) w1 w5) := Lib.hid (HKW.out.trans (hk5.mono (fun j _ e => ⟨t, h1, e⟩)))
                  obtain ⟨v1, v2⟩ := HEX.out w5 hS5
                  have HS5 := Lib.hid hS5
                  clear hb5 hk5 hS5
                  cases eb
                  · have HE3 : Hid (goF emp t r M false = (Mk.set t orr, _ || q)) := Lib.hid (by rw [HE.out, HD.out, HEE.out, if_neg (by simp)])
                    go_wp2
                    go_ret
                    rw [HF.out, HE3.out]
                    exact ⟨rfl, HS5.out, HK1.out.trans HK5.out⟩
                  · have HE3 : Hid (goF emp t r M false = goF emp t (r.drop (k + 1)) (Mk.set t orr) (_ || q)) := Lib.hid (by rw [HE.out, HD.out, HEE.out, if_pos rfl])
                    go_wp2
                    go_roundw
                    case rel => exact ⟨k + 1, _, _, by omega, by go_num, rfl, HK5.out, HS5.out, HE3.out⟩
                    case measure => simp [intOf]; omega
        · as_aux_lemma =>
            have HE2 : Hid (goF emp t r M false = (Mk, q)) := Lib.hid (by rw [HE.out, List.drop_eq_nil_of_le (by rw [HL.out]; omega)]; rfl)
            go_wp2
            go_ret
            rw [HF.out, HE2.out]
            exact ⟨rfl, HS.out, HK1.out.trans hkr⟩
end Go.Proofs.Ytgfchgnebpogjaa
