/- grammar.Lives and grammar.Empty: grown, its closures. -/
import Derived.Test.YtgfchgnebpogjaaCon
import Derived.Test.YtgfchgnebpogjaaGrN
import Derived.Test.YtgfchgnebpogjaaGrP
import Derived.Test.YtgfchgnebpogjaaLvP
namespace Go.Proofs.Ytgfchgnebpogjaa
open Go.RowKit BigFrame
set_option linter.unusedVariables false
set_option linter.unusedSimpArgs false
set_option maxRecDepth 100000

theorem elBg : ElTy Try.prog 38 4 1 1 (.bool false) := ⟨Try.underlying38, by kernel_rfl, rfl, by decide⟩
theorem prFitg {G : Gr} (h : GOk G) {p : Prd} (hp : p ∈ G.prods) {N : Nat} (hN : G.names = N) : 0 ≤ p.1 ∧ p.1.toNat < N ∧ ∀ s ∈ p.2.1, s < 0 → (-1 - s).toNat < N := by
  have q := h.pr p hp
  have h0 := q.l0; have h1 := q.l1
  exact ⟨h0, by omega, fun s hs hn => by have := (q.s s hs).1; omega⟩

theorem livS_any (x : Int) (g N : Nat) (l : List Bool) (w : World) (hN : N ≤ 300) (h : Blk w g 4 (bv l)) (hl : l.length = N) (hx : x < 0 → (-1 - x).toNat < N) :
    Calls Try.prog 48 #[.int .i64 x, .slice (some ⟨g, 0, none⟩) N N] w fun e w' => e = .returned (.bool (livS l x)) ∧ w = w' := by
  by_cases h1 : 0 ≤ x
  · have d1 : decide (0 ≤ x) = true := decide_eq_true h1
    have HF : Hid (livS l x = true) := Lib.hid (by unfold livS; simp [h1])
    clear hl h hx
    go_enter Try.func48, Try.ntmps48
    go_wp2
    go_ret
    exact ⟨ret_eq (by rw [HF.out]; rfl), rfl⟩
  · have d1 : decide (0 ≤ x) = false := decide_eq_false h1
    have ht := hx (by omega)
    obtain ⟨t, ht1⟩ : ∃ t : Nat, t = (-1 - x).toNat := ⟨_, rfl⟩
    rw [← ht1] at ht
    have hts : -1 - x = (t : Int) := by omega
    have z := h.bcell (k := t) (by rw [hl]; exact ht)
    have HF : Hid (livS l x = bth l t) := Lib.hid (by unfold livS; rw [← ht1]; simp [h1])
    generalize bth l t = q at z HF
    clear hl h hx ht1
    go_enter Try.func48, Try.ntmps48
    go_wp2
    go_ret
    exact ⟨ret_eq (by rw [HF.out]; rfl), rfl⟩
theorem empS_any (x : Int) (g N : Nat) (l : List Bool) (w : World) (hN : N ≤ 300) (h : Blk w g 4 (bv l)) (hl : l.length = N) (hx : x < 0 → (-1 - x).toNat < N) :
    Calls Try.prog 54 #[.int .i64 x, .slice (some ⟨g, 0, none⟩) N N] w fun e w' => e = .returned (.bool (empS l x)) ∧ w = w' := by
  by_cases h1 : x < 0
  · have d1 : decide (x < 0) = true := decide_eq_true h1
    have ht := hx (by omega)
    obtain ⟨t, ht1⟩ : ∃ t : Nat, t = (-1 - x).toNat := ⟨_, rfl⟩
    rw [← ht1] at ht
    have hts : -1 - x = (t : Int) := by omega
    have z := h.bcell (k := t) (by rw [hl]; exact ht)
    have HF : Hid (empS l x = bth l t) := Lib.hid (by unfold empS; rw [← ht1]; simp [h1])
    generalize bth l t = q at z HF
    clear hl h hx ht1
    go_enter Try.func54, Try.ntmps54
    go_wp2
    go_ret
    exact ⟨ret_eq (by rw [HF.out]; rfl), rfl⟩
  · have d1 : decide (x < 0) = false := decide_eq_false h1
    have HF : Hid (empS l x = false) := Lib.hid (by unfold empS; simp [h1])
    clear hl h hx
    go_enter Try.func54, Try.ntmps54
    go_wp2
    go_ret
    exact ⟨ret_eq (by rw [HF.out]; rfl), rfl⟩

/-- The list l of truths lies in block g, its slice in the cell of v. -/
structure BlSt (w : World) (v g N : Nat) (l : List Bool) : Prop where
  c : w.cell? ⟨v, 0, none⟩ = some (.slice (some ⟨g, 0, none⟩) N N)
  b : Blk w g 4 (bv l)
  l : l.length = N
theorem BlSt.below {w w' : World} {B v g N : Nat} {l : List Bool} (h : BlSt w v g N l) (hb : Below B w w') (hv : v < B) (hg : g < B) : BlSt w' v g N l :=
  ⟨(hb.cell (p := ⟨v, 0, none⟩) hv).trans h.c, h.b.below hb hg, h.l⟩


theorem allLives_any (px : Int) (r : List Int) (py : Int) (A' : Option Addr) (n' c' : Nat) (w : World) (hm : n' ≤ maxLen) :
    Calls Try.prog 49 #[.agg #[.int .i64 px, .slice A' n' c', .int .i64 py]] w fun e w' => e = .returned (.bool true) ∧ Below w.heap.size w w' := by
  have hb0 : Below w.heap.size w (w.alloc (.cells #[.int .i64 px, .slice A' n' c', .int .i64 py] 50)) := (Below.refl _ _).alloc (Nat.le_refl _) _
  unfold maxLen at hm
  go_enter Try.func49, Try.ntmps49
  go_wp2
  go_ret
  exact ⟨rfl, hb0⟩
theorem innerLives_any (x : Int) (vs v g N : Nat) (l : List Bool) (w : World) (hN : N ≤ 300) (hc : w.cell? ⟨vs, 0, none⟩ = some (.func (.func 48) #[] #[])) (h : BlSt w v g N l) (hx : x < 0 → (-1 - x).toNat < N) :
    Calls Try.prog 72 #[.int .i64 x, .pointer (some ⟨vs, 0, none⟩), .pointer (some ⟨v, 0, none⟩)] w fun e w' => e = .returned (.bool (!livS l x)) ∧ w = w' := by
  have HC := Lib.hid (livS_any x g N l w hN h.b h.l hx)
  have z := h.c
  clear h hx
  generalize livS l x = q at *
  go_enter Try.func72, Try.ntmps72
  go_wp2_with fail
  refine HC.out.mono ?_
  rintro e w' ⟨rfl, rfl⟩
  go_wp2
  go_ret
  exact ⟨rfl, rfl⟩
set_option maxHeartbeats 1000000 in
theorem grownLives_any (i : Int) (px : Int) (r : List Int) (py : Int) (A' : Option Addr) (n' c' v vp vs g N : Nat) (l : List Bool) (w : World) (B : Nat) (hB : B ≤ w.heap.size) (hvs : v < w.heap.size) (hvg : v ≠ g) (hps : vp < w.heap.size) (hss : vs < w.heap.size) (hN : N ≤ 300)
    (hr : RdI w B A' r) (hl : r.length = n') (hm : n' ≤ maxLen) (hb : BlSt w v g N l) (hcp : w.cell? ⟨vp, 0, none⟩ = some (.func (.func 49) #[] #[])) (hcs : w.cell? ⟨vs, 0, none⟩ = some (.func (.func 48) #[] #[]))
    (h0 : 0 ≤ px) (h1 : px.toNat < N) (h2 : ∀ s ∈ r, s < 0 → (-1 - s).toNat < N) (st : List Bool × Bool) (hst : st = stepG livS 0 (px, r, py) l) :
    Calls Try.prog 71 #[.int .i64 i, .agg #[.int .i64 px, .slice A' n' c', .int .i64 py], .pointer (some ⟨v, 0, none⟩), .pointer (some ⟨vp, 0, none⟩), .pointer (some ⟨vs, 0, none⟩)] w fun e w' => e = .returned (.bool st.2) ∧ BlSt w' v g N st.1 ∧ Kp (fun k => k = g) w w' := by
  obtain ⟨t, rfl⟩ := Int.eq_ofNat_of_zero_le h0
  rw [Int.toNat_natCast] at h1
  have hb0 : Below w.heap.size w (w.alloc (.cells #[.int .i64 t, .slice A' n' c', .int .i64 py] 50)) := (Below.refl _ _).alloc (Nat.le_refl _) _
  have hs0 : (w.alloc (.cells #[.int .i64 t, .slice A' n' c', .int .i64 py] 50)).heap.size = w.heap.size + 1 := by simp
  have hgs := hb.b.lt
  have hS0 := hb.below hb0 hvs hgs
  have zv := hS0.c
  have zt := hS0.b.bcell (k := t) (by rw [hS0.l]; exact h1)
  have hst' : st = if bth l t || !(r.all (livS l)) then (l, false) else (l.set t true, true) := by rw [hst]; unfold stepG; simp only [Int.toNat_natCast]
  have hk0 : Kp (fun k => k = g) w (w.alloc (.cells #[.int .i64 t, .slice A' n' c', .int .i64 py] 50)) := (Kp.refl _ _).alloc _
  have hprod := allLives_any t r py A' n' c' (w.alloc (.cells #[.int .i64 t, .slice A' n' c', .int .i64 py] 50)) hm
  rw [hs0] at hprod
  have hm' := hm
  unfold maxLen at hm'
  have HS0 := Lib.hid hS0; have HP := Lib.hid hprod; have HK0 := Lib.hid hk0; have HB0 := Lib.hid hb0
  have zp := (hb0.cell (p := ⟨vp, 0, none⟩) hps).trans hcp
  have hcs0 := (hb0.cell (p := ⟨vs, 0, none⟩) hss).trans hcs
  have hr0 := (hr.more hB).below hb0
  have hkey : ∀ w4, Below (w.heap.size + 1) (w.alloc (.cells #[.int .i64 t, .slice A' n' c', .int .i64 py] 50)) w4 →
      Calls Try.prog 56 #[.slice A' n' c', .func (.func 72) #[] #[.pointer (some ⟨vs, 0, none⟩), .pointer (some ⟨v, 0, none⟩)]] w4 (fun e w' => e = .returned (.bool (r.any (fun s => !livS l s))) ∧ w4 = w') := fun w4 hb4 =>
    contains2 72 vs v (fun s => !livS l s) A' n' c' r w4 w.heap.size (fun _ _ => rfl) (hr0.below (hb4.mono (Nat.le_succ _))) hl hm (fun x hx =>
      innerLives_any x vs v g N l w4 hN ((hb4.cell (p := ⟨vs, 0, none⟩) (by simp; omega)).trans hcs0) (hS0.below hb4 (by omega) (by omega)) (h2 x hx))
  have HKEY := Lib.hid hkey
  have hall : r.any (fun s => !livS l s) = !(r.all (livS l)) := by rw [List.not_all_eq_any_not]
  rw [hall] at HKEY
  have HB := Lib.hid hb
  clear hst hcs0 hr0 hkey hall hS0 hprod hk0 hb0 hr hl hm h2 hcp hcs h0 hB
  generalize r.all (livS l) = al at hst' HKEY
  generalize bth l t = q at zt hst'
  cases q
  rotate_left
  · have HF : Hid (st = (l, false)) := Lib.hid (by rw [hst']; simp)
    clear hst'
    go_enter Try.func71, Try.ntmps71
    go_wp2
    go_ret
    rw [HF.out]
    exact ⟨rfl, HS0.out, HK0.out⟩
  cases al
  · have HF : Hid (st = (l, false)) := Lib.hid (by rw [hst']; simp)
    clear hst'
    go_enter Try.func71, Try.ntmps71
    go_wp2_with fail
    refine HP.out.mono ?_
    rintro e w4 ⟨rfl, hb4⟩
    have HC := Lib.hid (HKEY.out w4 hb4)
    have z41 := (hb4.cell (p := ⟨w.heap.size, 1, none⟩) (Nat.lt_succ_self _)).trans (show _ = some (.slice A' n' c') by simp)
    have HB4 := Lib.hid hb4
    clear hb4 HKEY HP
    go_wp2_with fail
    refine HC.out.mono ?_
    rintro e w5 ⟨rfl, rfl⟩
    go_wp2
    go_ret
    rw [HF.out]
    exact ⟨rfl, HS0.out.below HB4.out (by omega) (by omega), HK0.out.trans (Kp.of (by rw [hs0]; exact HB4.out))⟩
  · have HF : Hid (st = (l.set t true, true)) := Lib.hid (by rw [hst']; simp)
    clear hst'
    go_enter Try.func71, Try.ntmps71
    go_wp2_with fail
    refine HP.out.mono ?_
    rintro e w4 ⟨rfl, hb4⟩
    have HC := Lib.hid (HKEY.out w4 hb4)
    have z41 := (hb4.cell (p := ⟨w.heap.size, 1, none⟩) (Nat.lt_succ_self _)).trans (show _ = some (.slice A' n' c') by simp)
    have z40 := (hb4.cell (p := ⟨w.heap.size, 0, none⟩) (Nat.lt_succ_self _)).trans (show _ = some (.int .i64 (t : Int)) by simp)
    have hS4 := HS0.out.below hb4 (by omega) (by omega)
    have zv4 := hS4.c
    have zt4 := hS4.b.bcell (k := t) (by rw [hS4.l]; exact h1)
    have zf4 := hS4.b.frozen t
    generalize bth l t = q4 at zt4
    have HB4 := Lib.hid hb4; have HS4 := Lib.hid hS4
    clear hb4 HKEY HP hS4
    go_wp2_with fail
    refine HC.out.mono ?_
    rintro e w5 ⟨rfl, rfl⟩
    go_wp2
    go_ret
    rw [HF.out]
    have hk1 : Kp (fun k => k = g) w4 (w4.setCell ⟨g, t, none⟩ (.bool true)) := (Kp.refl (fun k => k = g) w4).set_ (p := ⟨g, t, none⟩) (.inr rfl) _
    have hw4 : w.heap.size ≤ w4.heap.size := by have := HB4.out.size; omega
    exact ⟨rfl, ⟨(hk1.cell (p := ⟨v, 0, none⟩) (by simp; omega) hvg).trans HS4.out.c, HS4.out.b.bset t true, by rw [List.length_set]; exact HS4.out.l⟩, (HK0.out.trans (Kp.of (by rw [hs0]; exact HB4.out))).trans hk1⟩


theorem allEmpty_any (px : Int) (r : List Int) (py : Int) (A' : Option Addr) (n' c' : Nat) (w : World) (hm : n' ≤ maxLen) :
    Calls Try.prog 55 #[.agg #[.int .i64 px, .slice A' n' c', .int .i64 py]] w fun e w' => e = .returned (.bool true) ∧ Below w.heap.size w w' := by
  have hb0 : Below w.heap.size w (w.alloc (.cells #[.int .i64 px, .slice A' n' c', .int .i64 py] 50)) := (Below.refl _ _).alloc (Nat.le_refl _) _
  unfold maxLen at hm
  go_enter Try.func55, Try.ntmps55
  go_wp2
  go_ret
  exact ⟨rfl, hb0⟩
theorem innerEmpty_any (x : Int) (vs v g N : Nat) (l : List Bool) (w : World) (hN : N ≤ 300) (hc : w.cell? ⟨vs, 0, none⟩ = some (.func (.func 54) #[] #[])) (h : BlSt w v g N l) (hx : x < 0 → (-1 - x).toNat < N) :
    Calls Try.prog 72 #[.int .i64 x, .pointer (some ⟨vs, 0, none⟩), .pointer (some ⟨v, 0, none⟩)] w fun e w' => e = .returned (.bool (!empS l x)) ∧ w = w' := by
  have HC := Lib.hid (empS_any x g N l w hN h.b h.l hx)
  have z := h.c
  clear h hx
  generalize empS l x = q at *
  go_enter Try.func72, Try.ntmps72
  go_wp2_with fail
  refine HC.out.mono ?_
  rintro e w' ⟨rfl, rfl⟩
  go_wp2
  go_ret
  exact ⟨rfl, rfl⟩
set_option maxHeartbeats 1000000 in
theorem grownEmpty_any (i : Int) (px : Int) (r : List Int) (py : Int) (A' : Option Addr) (n' c' v vp vs g N : Nat) (l : List Bool) (w : World) (B : Nat) (hB : B ≤ w.heap.size) (hvs : v < w.heap.size) (hvg : v ≠ g) (hps : vp < w.heap.size) (hss : vs < w.heap.size) (hN : N ≤ 300)
    (hr : RdI w B A' r) (hl : r.length = n') (hm : n' ≤ maxLen) (hb : BlSt w v g N l) (hcp : w.cell? ⟨vp, 0, none⟩ = some (.func (.func 55) #[] #[])) (hcs : w.cell? ⟨vs, 0, none⟩ = some (.func (.func 54) #[] #[]))
    (h0 : 0 ≤ px) (h1 : px.toNat < N) (h2 : ∀ s ∈ r, s < 0 → (-1 - s).toNat < N) (st : List Bool × Bool) (hst : st = stepG empS 0 (px, r, py) l) :
    Calls Try.prog 71 #[.int .i64 i, .agg #[.int .i64 px, .slice A' n' c', .int .i64 py], .pointer (some ⟨v, 0, none⟩), .pointer (some ⟨vp, 0, none⟩), .pointer (some ⟨vs, 0, none⟩)] w fun e w' => e = .returned (.bool st.2) ∧ BlSt w' v g N st.1 ∧ Kp (fun k => k = g) w w' := by
  obtain ⟨t, rfl⟩ := Int.eq_ofNat_of_zero_le h0
  rw [Int.toNat_natCast] at h1
  have hb0 : Below w.heap.size w (w.alloc (.cells #[.int .i64 t, .slice A' n' c', .int .i64 py] 50)) := (Below.refl _ _).alloc (Nat.le_refl _) _
  have hs0 : (w.alloc (.cells #[.int .i64 t, .slice A' n' c', .int .i64 py] 50)).heap.size = w.heap.size + 1 := by simp
  have hgs := hb.b.lt
  have hS0 := hb.below hb0 hvs hgs
  have zv := hS0.c
  have zt := hS0.b.bcell (k := t) (by rw [hS0.l]; exact h1)
  have hst' : st = if bth l t || !(r.all (empS l)) then (l, false) else (l.set t true, true) := by rw [hst]; unfold stepG; simp only [Int.toNat_natCast]
  have hk0 : Kp (fun k => k = g) w (w.alloc (.cells #[.int .i64 t, .slice A' n' c', .int .i64 py] 50)) := (Kp.refl _ _).alloc _
  have hprod := allEmpty_any t r py A' n' c' (w.alloc (.cells #[.int .i64 t, .slice A' n' c', .int .i64 py] 50)) hm
  rw [hs0] at hprod
  have hm' := hm
  unfold maxLen at hm'
  have HS0 := Lib.hid hS0; have HP := Lib.hid hprod; have HK0 := Lib.hid hk0; have HB0 := Lib.hid hb0
  have zp := (hb0.cell (p := ⟨vp, 0, none⟩) hps).trans hcp
  have hcs0 := (hb0.cell (p := ⟨vs, 0, none⟩) hss).trans hcs
  have hr0 := (hr.more hB).below hb0
  have hkey : ∀ w4, Below (w.heap.size + 1) (w.alloc (.cells #[.int .i64 t, .slice A' n' c', .int .i64 py] 50)) w4 →
      Calls Try.prog 56 #[.slice A' n' c', .func (.func 72) #[] #[.pointer (some ⟨vs, 0, none⟩), .pointer (some ⟨v, 0, none⟩)]] w4 (fun e w' => e = .returned (.bool (r.any (fun s => !empS l s))) ∧ w4 = w') := fun w4 hb4 =>
    contains2 72 vs v (fun s => !empS l s) A' n' c' r w4 w.heap.size (fun _ _ => rfl) (hr0.below (hb4.mono (Nat.le_succ _))) hl hm (fun x hx =>
      innerEmpty_any x vs v g N l w4 hN ((hb4.cell (p := ⟨vs, 0, none⟩) (by simp; omega)).trans hcs0) (hS0.below hb4 (by omega) (by omega)) (h2 x hx))
  have HKEY := Lib.hid hkey
  have hall : r.any (fun s => !empS l s) = !(r.all (empS l)) := by rw [List.not_all_eq_any_not]
  rw [hall] at HKEY
  have HB := Lib.hid hb
  clear hst hcs0 hr0 hkey hall hS0 hprod hk0 hb0 hr hl hm h2 hcp hcs h0 hB
  generalize r.all (empS l) = al at hst' HKEY
  generalize bth l t = q at zt hst'
  cases q
  rotate_left
  · have HF : Hid (st = (l, false)) := Lib.hid (by rw [hst']; simp)
    clear hst'
    go_enter Try.func71, Try.ntmps71
    go_wp2
    go_ret
    rw [HF.out]
    exact ⟨rfl, HS0.out, HK0.out⟩
  cases al
  · have HF : Hid (st = (l, false)) := Lib.hid (by rw [hst']; simp)
    clear hst'
    go_enter Try.func71, Try.ntmps71
    go_wp2_with fail
    refine HP.out.mono ?_
    rintro e w4 ⟨rfl, hb4⟩
    have HC := Lib.hid (HKEY.out w4 hb4)
    have z41 := (hb4.cell (p := ⟨w.heap.size, 1, none⟩) (Nat.lt_succ_self _)).trans (show _ = some (.slice A' n' c') by simp)
    have HB4 := Lib.hid hb4
    clear hb4 HKEY HP
    go_wp2_with fail
    refine HC.out.mono ?_
    rintro e w5 ⟨rfl, rfl⟩
    go_wp2
    go_ret
    rw [HF.out]
    exact ⟨rfl, HS0.out.below HB4.out (by omega) (by omega), HK0.out.trans (Kp.of (by rw [hs0]; exact HB4.out))⟩
  · have HF : Hid (st = (l.set t true, true)) := Lib.hid (by rw [hst']; simp)
    clear hst'
    go_enter Try.func71, Try.ntmps71
    go_wp2_with fail
    refine HP.out.mono ?_
    rintro e w4 ⟨rfl, hb4⟩
    have HC := Lib.hid (HKEY.out w4 hb4)
    have z41 := (hb4.cell (p := ⟨w.heap.size, 1, none⟩) (Nat.lt_succ_self _)).trans (show _ = some (.slice A' n' c') by simp)
    have z40 := (hb4.cell (p := ⟨w.heap.size, 0, none⟩) (Nat.lt_succ_self _)).trans (show _ = some (.int .i64 (t : Int)) by simp)
    have hS4 := HS0.out.below hb4 (by omega) (by omega)
    have zv4 := hS4.c
    have zt4 := hS4.b.bcell (k := t) (by rw [hS4.l]; exact h1)
    have zf4 := hS4.b.frozen t
    generalize bth l t = q4 at zt4
    have HB4 := Lib.hid hb4; have HS4 := Lib.hid hS4
    clear hb4 HKEY HP hS4
    go_wp2_with fail
    refine HC.out.mono ?_
    rintro e w5 ⟨rfl, rfl⟩
    go_wp2
    go_ret
    rw [HF.out]
    have hk1 : Kp (fun k => k = g) w4 (w4.setCell ⟨g, t, none⟩ (.bool true)) := (Kp.refl (fun k => k = g) w4).set_ (p := ⟨g, t, none⟩) (.inr rfl) _
    have hw4 : w.heap.size ≤ w4.heap.size := by have := HB4.out.size; omega
    exact ⟨rfl, ⟨(hk1.cell (p := ⟨v, 0, none⟩) (by simp; omega) hvg).trans HS4.out.c, HS4.out.b.bset t true, by rw [List.length_set]; exact HS4.out.l⟩, (HK0.out.trans (Kp.of (by rw [hs0]; exact HB4.out))).trans hk1⟩
end Go.Proofs.Ytgfchgnebpogjaa
