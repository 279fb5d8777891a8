/- The document's table: rows of truths, appended. · A chart in memory; symbolStands. -/
import Derived.Test.YtklhjaohnimmnaaDoorQ27
import Derived.Test.YtklhjaohnimmnaaDoorQ22
import Derived.Test.YtklhjaohnimmnaaDoorQ10
import Derived.BigRegion
import Derived.Test.YtklhjaohnimmnaaDoorQ4
namespace Go.Proofs.YtklhjaohnimmnaaDoor
open Go.RowKit BigFrame
set_option linter.unusedVariables false
set_option linter.unusedSimpArgs false
set_option maxRecDepth 100000

theorem own_blk {w : World} {base : Nat} {e : TypeId} {sz : Nat} {v : Value} {n : Nat} {xs : List Value} (h : w.ownsRow base e sz v n xs) {g : Nat} (hg : v.ownBlock = some g) : ∃ vs, Blk w g e vs := by
  rcases h.2 with ⟨rfl, _⟩ | ⟨g', cap, cur, rfl, _, hh, _⟩
  · simp [Value.ownBlock] at hg
  · simp [Value.ownBlock] at hg
    subst hg
    exact ⟨cur.toList, by unfold Blk; rw [hh]⟩
theorem elSs : ElTy Tryd.prog 65 43 1 24 (.slice none 0 0) := ⟨Tryd.underlying65, by kernel_rfl, rfl, by decide⟩
def rwv (T b : Nat) : Value := .slice (some ⟨b, 0, none⟩) T T

set_option maxHeartbeats 2000000 in
theorem rTable_any (N T : Nat) (w : World) (hN0 : 0 < N) (hN : N ≤ 300) (hT : T ≤ 301) :
    Calls Tryd.prog 34 #[.int .i64 (N : Int), .int .i64 (T : Int)] w fun e w' => ∃ D c ρ, e = .returned (.slice (some ⟨D, 0, none⟩) N c) ∧ N ≤ c ∧ c ≤ maxLen ∧ w.heap.size ≤ D ∧ (∀ k, k < N → w.heap.size ≤ nthN ρ k) ∧ MtSt w' D N T ρ (m0 N T) ∧ Below w.heap.size w w' := by
  have hmk2 : ∀ w : World, (Instr.makeSlice 43 (.int .i64 (T : Int)) (.int .i64 (T : Int))).run Tryd.prog w = .ok (.slice (some ⟨w.heap.size, 0, none⟩) T T) (w.alloc (.cells (zs (.bool false) T) 4)) := fun w =>
    mk_row elBg rfl .i64 .i64 T _ (by omega) (by omega) (by omega) w
  go_enter Tryd.func34, Tryd.ntmps34
  go_wp2_with fail
  go_loopw [5, 6] (fun v i wr => ∃ k : Nat, k ≤ N ∧ i = .int .i64 k ∧ Kp (fun _ => False) w wr ∧ ∃ (ρ : List Nat), Hid (ρ.length = k ∧ wr.ownsRow w.heap.size 43 1 v k (ρ.map (rwv T)) ∧ (∀ i, i < k → w.heap.size ≤ nthN ρ i ∧ Blk wr (nthN ρ i) 4 (bv (List.replicate T false))) ∧ (∀ i j, i < k → j < k → nthN ρ i = nthN ρ j → i = j))) (fun _ i _ => N - (intOf i).toNat)
  case atStart => exact ⟨0, Nat.zero_le _, rfl, Kp.refl _ _, [], rfl, World.ownsRow_nil _ _ _ _, fun i h => absurd h (by omega), fun i j h => absurd h (by omega)⟩
  case round =>
    obtain ⟨k, hk, rfl, hkr, ρ, HR⟩ := hrel
    have hsz := hkr.size
    by_cases hlt : k < N
    · have hown := (HR.out.2.1).alloc (.cells (zs (.bool false) T) 4)
      have hsa : (wr.alloc (.cells (zs (.bool false) T) 4)).heap.size = wr.heap.size + 1 := by simp
      have HO := Lib.hid hown
      clear hown
      go_wp2_with (at_builtin; refine wpList_app elSs rfl (.tmp 12) (.tmp 15) rfl w.heap.size _ k 1 _ [.slice (some ⟨wr.heap.size, 0, none⟩) T T] rfl HO.out (by rw [hsa]; rfl) rfl (by simp [Value.oneCell']) (by omega) (by omega) (by omega) ?_; intro v1 w1 hown1 hg1 hat1; have HG1 := Lib.hid hg1; have HO1 := Lib.hid hown1; clear hown1 hg1 hat1)
      go_roundw
      case rel =>
        obtain ⟨r1, r2, r3, r4⟩ := HR.out
        have hne : ∀ i, i < k → nthN ρ i < wr.heap.size := fun i hi => (r3 i hi).2.lt
        have hgr : ∀ (g : Nat) (vs : List Value), Blk (wr.alloc (.cells (zs (.bool false) T) 4)) g 4 vs → Blk w1 g 4 vs := fun g vs hb => hb.grown HG1.out (fun e => by
          obtain ⟨us, hu⟩ := own_blk HO.out e.symm
          exact absurd (Blk.type_eq hb hu) (by decide))
        refine ⟨k + 1, by omega, by go_num, (hkr.alloc _).grown HG1.out (fun b hb => .inl (HO.out.lt b hb).1), ρ ++ [wr.heap.size], by rw [List.length_append, r1]; rfl, by rw [List.map_append]; exact HO1.out, fun i hi => ?_, fun i j hi hj => ?_⟩
        · rw [nthN_snoc, r1]
          by_cases e : i < k
          · rw [if_pos e]
            exact ⟨(r3 i e).1, hgr _ _ ((r3 i e).2.alloc _)⟩
          · have e2 : i = k := by omega
            subst e2
            rw [if_neg (by omega), if_pos rfl]
            refine ⟨hsz, hgr _ _ ?_⟩
            have := Blk.made wr 4 (.bool false) T
            rw [← bv_rep]; exact this
        · rw [nthN_snoc, nthN_snoc, r1]
          intro h
          by_cases e1 : i < k
          · by_cases e2 : j < k
            · rw [if_pos e1, if_pos e2] at h; exact r4 i j e1 e2 h
            · rw [if_pos e1, if_neg e2, if_pos (by omega)] at h
              have := hne i e1; omega
          · by_cases e2 : j < k
            · rw [if_neg e1, if_pos (by omega), if_pos e2] at h
              have := hne j e2; omega
            · omega
      case measure => simp [intOf]; omega
    · have hkN : k = N := by omega
      subst hkN
      obtain ⟨r1, r2, r3, r4⟩ := HR.out
      rcases r2.2 with ⟨_, h0⟩ | ⟨g, cap, cur, rfl, hb, hg, hn, hc, hs, ht⟩
      · omega
      · go_wp2
        go_ret
        have hgne : ∀ i, i < k → nthN ρ i ≠ g := fun i hi e => by
          have hx := (r3 i hi).2
          rw [e] at hx
          have hy : Blk wr g 43 cur.toList := by unfold Blk; rw [hg]
          exact absurd (Blk.type_eq hx hy) (by decide)
        refine ⟨g, cap, ρ, rfl, hn, hc, hb, fun i hi => (r3 i hi).1, ⟨(Array.getElem?_eq_some_iff.1 hg).1, fun i hi => ?_, r1, by simp [m0], r4, hgne, fun i hi => by rw [rowB_m0 hi]; exact ⟨(r3 i hi).2, List.length_replicate⟩⟩, hkr.bel (Nat.le_refl _) (fun _ _ h => h)⟩
        have := r2.cells (g := g) rfl i (rwv T (nthN ρ i)) (by rw [List.getElem?_map, List.getElem?_eq_getElem (by omega), ← nthN_get (by omega)]; rfl)
        unfold rwv at this
        have ha : (⟨g, 0, none⟩ : Addr).add i = ⟨g, i, none⟩ := by simp [Addr.add]; intro h; exact h.symm
        rw [ha] at this
        exact this
end Go.Proofs.YtklhjaohnimmnaaDoor
namespace Go.Proofs.YtklhjaohnimmnaaDoor
open Go.RowKit BigFrame
set_option linter.unusedVariables false
set_option linter.unusedSimpArgs false
set_option maxRecDepth 100000

/-- The chart m in memory, from block B on: N tables of S rows of S truths. -/
structure Cu (w : World) (B C N S : Nat) (δ γ : Nat → Nat) (ρ : Nat → Nat → Nat) (m : Ch) : Prop where
  hS : 0 < S
  hN : 0 < N
  c : ∀ i, i < N → w.cell? ⟨C, i, none⟩ = some (.slice (some ⟨δ i, 0, none⟩) S (γ i))
  g : ∀ i, i < N → S ≤ γ i ∧ γ i ≤ maxLen
  d : ∀ i f, i < N → f < S → w.cell? ⟨δ i, f, none⟩ = some (.slice (some ⟨ρ i f, 0, none⟩) S S)
  r : ∀ i f t, i < N → f < S → t < S → w.cell? ⟨ρ i f, t, none⟩ = some (.bool (m i f t))
  z : ∀ i f t, i < N → f < S → t < S → w.frozen? ⟨ρ i f, t, none⟩ = false
  inj : ∀ i f j g, i < N → f < S → j < N → g < S → ρ i f = ρ j g → i = j ∧ f = g
  lC : B ≤ C
  lD : ∀ i, i < N → B ≤ δ i
  lR : ∀ i f, i < N → f < S → B ≤ ρ i f
  uC : C < w.heap.size
  uD : ∀ i, i < N → δ i < w.heap.size
  uR : ∀ i f, i < N → f < S → ρ i f < w.heap.size
section
variable {w w' : World} {B C N S : Nat} {δ γ : Nat → Nat} {ρ : Nat → Nat → Nat} {m : Ch}
theorem Cu.below (h : Cu w B C N S δ γ ρ m) (hb : Below w.heap.size w w') : Cu w' B C N S δ γ ρ m :=
  ⟨h.hS, h.hN, fun i hi => (hb.cell (p := ⟨C, i, none⟩) h.uC).trans (h.c i hi), h.g, fun i f hi hf => (hb.cell (p := ⟨δ i, f, none⟩) (h.uD i hi)).trans (h.d i f hi hf),
   fun i f t hi hf ht => (hb.cell (p := ⟨ρ i f, t, none⟩) (h.uR i f hi hf)).trans (h.r i f t hi hf ht), fun i f t hi hf ht => (hb.frozen (p := ⟨ρ i f, t, none⟩) (h.uR i f hi hf)).trans (h.z i f t hi hf ht),
   h.inj, h.lC, h.lD, h.lR, Nat.lt_of_lt_of_le h.uC hb.size, fun i hi => Nat.lt_of_lt_of_le (h.uD i hi) hb.size, fun i f hi hf => Nat.lt_of_lt_of_le (h.uR i f hi hf) hb.size⟩
theorem Cu.neC (h : Cu w B C N S δ γ ρ m) {i f : Nat} (hi : i < N) (hf : f < S) : ρ i f ≠ C := fun e => by
  have h1 := h.r i f 0 hi hf h.hS
  have h2 := h.c 0 h.hN
  rw [e, h2] at h1
  cases h1
theorem Cu.neD (h : Cu w B C N S δ γ ρ m) {i f j : Nat} (hi : i < N) (hf : f < S) (hj : j < N) : ρ i f ≠ δ j := fun e => by
  have h1 := h.r i f 0 hi hf h.hS
  have h2 := h.d j 0 hj h.hS
  rw [e, h2] at h1
  cases h1
theorem addr_ne {a b c d : Nat} (h : a ≠ c ∨ b ≠ d) : (⟨a, b, none⟩ : Addr) ≠ ⟨c, d, none⟩ := fun e => by
  injection e with e1 e2
  rcases h with h | h
  · exact h e1
  · exact h e2
theorem Cu.set_ (h : Cu w B C N S δ γ ρ m) {X f t : Nat} (hX : X < N) (hf : f < S) (ht : t < S) : Cu (w.setCell ⟨ρ X f, t, none⟩ (.bool true)) B C N S δ γ ρ (upd m X f t) := by
  have hs : (w.setCell ⟨ρ X f, t, none⟩ (.bool true)).heap.size = w.heap.size := setCell_size _ _ _
  refine ⟨h.hS, h.hN, fun i hi => ?_, h.g, fun i a hi ha => ?_, fun i a b hi ha hb => ?_, fun i a b hi ha hb => ?_, h.inj, h.lC, h.lD, h.lR, by rw [hs]; exact h.uC, fun i hi => by rw [hs]; exact h.uD i hi, fun i a hi ha => by rw [hs]; exact h.uR i a hi ha⟩
  · rw [World.cell?_setCell_other (h := addr_ne (.inl (h.neC hX hf)))]; exact h.c i hi
  · rw [World.cell?_setCell_other (h := addr_ne (.inl (h.neD hX hf hi)))]; exact h.d i a hi ha
  · unfold upd
    by_cases e : i = X ∧ a = f ∧ b = t
    · obtain ⟨rfl, rfl, rfl⟩ := e
      rw [if_pos ⟨rfl, rfl, rfl⟩]
      exact World.cell?_setCell_same _ _ _ (h.r i a b hi ha hb)
    · rw [if_neg e, World.cell?_setCell_other (h := addr_ne ?_)]
      · exact h.r i a b hi ha hb
      · by_cases e2 : ρ X f = ρ i a
        · obtain ⟨rfl, rfl⟩ := h.inj X f i a hX hf hi ha e2
          exact .inr (fun q => e ⟨rfl, rfl, q.symm⟩)
        · exact .inl e2
  · rw [World.frozen?_setCell]; exact h.z i a b hi ha hb
theorem Cu.congr {m' : Ch} (h : Cu w B C N S δ γ ρ m) (e : m = m') : Cu w B C N S δ γ ρ m' := e ▸ h
end

/-- A slice of integers read at one place. -/
theorem RdI.get {w : World} {B : Nat} {A : Option Addr} {l : List Int} (h : RdI w B A l) {k : Nat} (hk : k < l.length) :
    ∃ b off, A = some ⟨b, off, none⟩ ∧ b < B ∧ w.cell? ⟨b, off + k, none⟩ = some (.int .i64 (nth l k)) := by
  obtain ⟨b, off, e, hb, hc⟩ := h.at_ (by omega)
  exact ⟨b, off, e, hb, hc k hk⟩

set_option maxHeartbeats 1000000 in
theorem symSt_any (B C N S cC : Nat) (δ γ : Nat → Nat) (ρ : Nat → Nat → Nat) (m : Ch) (Ai : Option Addr) (ni ci Bi : Nat) (inp : List Int) (s : Int) (f t : Nat) (w : World) (hM : Cu w B C N S δ γ ρ m) (hcN : N ≤ cC) (hcC : cC ≤ maxLen)
    (hi : RdI w Bi Ai inp) (hil : inp.length = ni) (hni : ni ≤ 1000) (hS : S = ni + 1) (hs : s < 0 → (-1 - s).toNat < N) (hN : N ≤ 1000) (hf : f ≤ t) (ht : t ≤ ni) (b : Bool) (hb : b = true ↔ Sy m inp s f t) :
    Calls Tryd.prog 45 #[.slice (some ⟨C, 0, none⟩) N cC, .slice Ai ni ci, .int .i64 s, .int .i64 (f : Int), .int .i64 (t : Int)] w fun e w' => e = .returned (.bool b) ∧ w = w' := by
  unfold Sy at hb
  by_cases h0 : s < 0
  · rw [if_pos h0] at hb
    have hX := hs h0
    obtain ⟨X, hX1⟩ : ∃ X : Nat, X = (-1 - s).toNat := ⟨_, rfl⟩
    rw [← hX1] at hX hb
    have hts : -1 - s = (X : Int) := by omega
    have z1 := hM.c X hX
    obtain ⟨g1, g2⟩ := hM.g X hX
    have z2 := hM.d X f hX (by omega)
    have z3 := hM.r X f t hX (by omega) (by omega)
    have hbm : m X f t = b := Bool.eq_iff_iff.2 hb.symm
    rw [hbm] at z3
    have d2 : decide (0 ≤ s) = false := decide_eq_false (by omega)
    unfold maxLen at hcC g2
    clear hb hM hbm hX1 hs hi
    go_enter Tryd.func45, Tryd.ntmps45
    go_wp2
    go_ret
    exact ⟨rfl, rfl⟩
  · rw [if_neg h0] at hb
    have d2 : decide (0 ≤ s) = true := decide_eq_true (by omega)
    by_cases h1 : t = f + 1
    · subst h1
      obtain ⟨b', off', rfl, hb', z1⟩ := hi.get (k := f) (by omega)
      have hbm : b = decide (nth inp f = s) := by
        cases b
        · symm; rw [decide_eq_false_iff_not]; intro e; exact absurd (hb.2 ⟨rfl, e⟩) (by simp)
        · symm; rw [decide_eq_true_eq]; exact (hb.1 rfl).2
      have hd : (((f + 1 : Nat) : Int) == (f : Int) + 1) = true := by simp
      generalize nth inp f = v at z1 hbm
      have HBM := Lib.hid hbm
      have hcast : ((f + 1 : Nat) : Int) = (f : Int) + 1 := by omega
      clear hb hM hbm hs hi
      rw [hcast]
      go_enter Tryd.func45, Tryd.ntmps45
      go_wp2
      go_ret
      exact ⟨by rw [HBM.out]; rfl, rfl⟩
    · have hbm : b = false := by
        cases b
        · rfl
        · exact absurd (hb.1 rfl).1 h1
      subst hbm
      have hd : ((t : Int) == (f : Int) + 1) = false := by rw [beq_eq_false_iff_ne]; omega
      clear hb hM hs hi
      go_enter Tryd.func45, Tryd.ntmps45
      go_wp2
      go_ret
      exact ⟨rfl, rfl⟩
end Go.Proofs.YtklhjaohnimmnaaDoor
