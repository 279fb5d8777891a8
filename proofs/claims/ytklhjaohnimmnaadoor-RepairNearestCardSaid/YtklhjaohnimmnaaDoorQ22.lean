/- Plain: which names have trees, which the empty sentence: a list of truths that grows. No program here. · grammar.Lives and grammar.Empty: grown, its closures. -/
import Derived.Test.YtklhjaohnimmnaaDoorQ1
import Derived.Test.YtklhjaohnimmnaaDoorQ2
import Derived.Test.YtklhjaohnimmnaaDoorQ21
import Derived.Test.YtklhjaohnimmnaaDoorQ18
namespace Go.Proofs.YtklhjaohnimmnaaDoor
set_option linter.unusedVariables false
set_option linter.unusedSimpArgs false

/-- What a symbol must be: (of Lives) a terminal or a name that is in; (of Empty) a name that is in. -/
def livS (l : List Bool) (s : Int) : Bool := decide (0 ≤ s) || bth l (-1 - s).toNat
def empS (l : List Bool) (s : Int) : Bool := decide (s < 0) && bth l (-1 - s).toNat
section
variable (f : List Bool → Int → Bool)
def stepG (_ : Nat) (p : Pr) (l : List Bool) : List Bool × Bool :=
  if bth l p.1.toNat || !(p.2.1.all (f l)) then (l, false) else (l.set p.1.toNat true, true)
variable {f}
theorem stepG_same (i : Nat) (p : Pr) (l : List Bool) (h : (stepG f i p l).2 = false) : (stepG f i p l).1 = l := by
  unfold stepG at h ⊢
  split
  · rfl
  · rw [if_neg ‹_›] at h; cases h
theorem stepG_len {i : Nat} {p : Pr} {l : List Bool} : (stepG f i p l).1.length = l.length := by
  unfold stepG; split <;> simp
/-- How many are not in. -/
def muB (l : List Bool) : Nat := (l.map (fun b => if b = true then 0 else 1)).sum
theorem muB_set : ∀ (l : List Bool) (k : Nat), k < l.length → bth l k = false → muB (l.set k true) < muB l
  | [], k, h, _ => by simp at h
  | b :: l, 0, _, h => by
    have : bth (b :: l) 0 = b := rfl
    rw [this] at h
    subst h
    simp [muB]
  | b :: l, k + 1, h, hb => by
    have : bth (b :: l) (k + 1) = bth l k := by simp [bth]
    rw [this] at hb
    have := muB_set l k (by simpa using h) hb
    unfold muB at this ⊢
    rw [List.set_cons_succ, List.map_cons, List.map_cons, List.sum_cons, List.sum_cons]
    omega
theorem stepG_mu {i : Nat} {p : Pr} {l : List Bool} (hk : p.1.toNat < l.length) (h : (stepG f i p l).2 = true) : muB (stepG f i p l).1 < muB l := by
  unfold stepG at h ⊢
  split at h
  · cases h
  · rename_i hc
    rw [if_neg hc]
    exact muB_set l _ hk (by cases hb : bth l p.1.toNat; rfl; rw [hb] at hc; simp at hc)
def b0 (N : Nat) : List Bool := List.replicate N false
theorem muB_b0 (N : Nat) : muB (b0 N) = N := by
  unfold muB b0
  rw [List.map_replicate]
  induction N with
  | zero => rfl
  | succ n ih => rw [List.replicate_succ, List.sum_cons, ih]; simp; omega
theorem stepG_done {ps : List Pr} {N : Nat} (hf : ∀ p ∈ ps, p.1.toNat < N) : (passF (stepG f) 0 ps (rounds (stepG f) ps N (b0 N))).2 = false := by
  have := fix_measure (step := stepG f) (Q := fun l : List Bool => l.length = N) (μ := muB) stepG_same (ps := ps) (fun k p y hp hy => ⟨by rw [stepG_len]; exact hy, fun h => stepG_mu (by rw [hy]; exact hf p (List.mem_of_getElem? hp)) h⟩) (x := b0 N) (by simp [b0])
  rwa [muB_b0] at this
theorem grow_agree {ps : List Pr} {N m : Nat} (hf : ∀ p ∈ ps, p.1.toNat < N) (h : (passF (stepG f) 0 ps (rounds (stepG f) ps m (b0 N))).2 = false) : rounds (stepG f) ps m (b0 N) = rounds (stepG f) ps N (b0 N) := by
  have h2 := stepG_done (f := f) hf
  have a := (rounds_fixed stepG_same h (Nat.le_add_right m N)).1
  have b := (rounds_fixed stepG_same h2 (Nat.le_add_left N m)).1
  rw [← a, ← b]
end
end Go.Proofs.YtklhjaohnimmnaaDoor
namespace Go.Proofs.YtklhjaohnimmnaaDoor
open Go.RowKit BigFrame
set_option linter.unusedVariables false
set_option linter.unusedSimpArgs false
set_option maxRecDepth 100000

theorem elBg : ElTy Tryd.prog 43 4 1 1 (.bool false) := ⟨Tryd.underlying43, by kernel_rfl, rfl, by decide⟩
theorem prFitg {G : Gr} (h : GOk G) {p : Prd} (hp : p ∈ G.prods) {N : Nat} (hN : G.names = N) : 0 ≤ p.1 ∧ p.1.toNat < N ∧ ∀ s ∈ p.2.1, s < 0 → (-1 - s).toNat < N := by
  have q := h.pr p hp
  have h0 := q.l0; have h1 := q.l1
  exact ⟨h0, by omega, fun s hs hn => by have := (q.s s hs).1; omega⟩

theorem livS_any (x : Int) (g N : Nat) (l : List Bool) (w : World) (hN : N ≤ 300) (h : Blk w g 4 (bv l)) (hl : l.length = N) (hx : x < 0 → (-1 - x).toNat < N) :
    Calls Tryd.prog 23 #[.int .i64 x, .slice (some ⟨g, 0, none⟩) N N] w fun e w' => e = .returned (.bool (livS l x)) ∧ w = w' := by
  by_cases h1 : 0 ≤ x
  · have d1 : decide (0 ≤ x) = true := decide_eq_true h1
    have HF : Hid (livS l x = true) := Lib.hid (by unfold livS; simp [h1])
    clear hl h hx
    go_enter Tryd.func23, Tryd.ntmps23
    go_wp2
    go_ret
    exact ⟨ret_eq (by rw [HF.out]; rfl), rfl⟩
  · have d1 : decide (0 ≤ x) = false := decide_eq_false h1
    have ht := hx (by omega)
    obtain ⟨t, ht1⟩ : ∃ t : Nat, t = (-1 - x).toNat := ⟨_, rfl⟩
    rw [← ht1] at ht
    have hts : -1 - x = (t : Int) := by omega
    have z := h.bcell (k := t) (by rw [hl]; exact ht)
    have HF : Hid (livS l x = bth l t) := Lib.hid (by unfold livS; rw [← ht1]; simp [h1])
    generalize bth l t = q at z HF
    clear hl h hx ht1
    go_enter Tryd.func23, Tryd.ntmps23
    go_wp2
    go_ret
    exact ⟨ret_eq (by rw [HF.out]; rfl), rfl⟩
/-- The list l of truths lies in block g, its slice in the cell of v. -/
structure BlSt (w : World) (v g N : Nat) (l : List Bool) : Prop where
  c : w.cell? ⟨v, 0, none⟩ = some (.slice (some ⟨g, 0, none⟩) N N)
  b : Blk w g 4 (bv l)
  l : l.length = N
theorem BlSt.below {w w' : World} {B v g N : Nat} {l : List Bool} (h : BlSt w v g N l) (hb : Below B w w') (hv : v < B) (hg : g < B) : BlSt w' v g N l :=
  ⟨(hb.cell (p := ⟨v, 0, none⟩) hv).trans h.c, h.b.below hb hg, h.l⟩


theorem allLives_any (px : Int) (r : List Int) (py : Int) (A' : Option Addr) (n' c' : Nat) (w : World) (hm : n' ≤ maxLen) :
    Calls Tryd.prog 24 #[.agg #[.int .i64 px, .slice A' n' c', .int .i64 py]] w fun e w' => e = .returned (.bool true) ∧ Below w.heap.size w w' := by
  have hb0 : Below w.heap.size w (w.alloc (.cells #[.int .i64 px, .slice A' n' c', .int .i64 py] 41)) := (Below.refl _ _).alloc (Nat.le_refl _) _
  unfold maxLen at hm
  go_enter Tryd.func24, Tryd.ntmps24
  go_wp2
  go_ret
  exact ⟨rfl, hb0⟩
theorem innerLives_any (x : Int) (vs v g N : Nat) (l : List Bool) (w : World) (hN : N ≤ 300) (hc : w.cell? ⟨vs, 0, none⟩ = some (.func (.func 23) #[] #[])) (h : BlSt w v g N l) (hx : x < 0 → (-1 - x).toNat < N) :
    Calls Tryd.prog 39 #[.int .i64 x, .pointer (some ⟨vs, 0, none⟩), .pointer (some ⟨v, 0, none⟩)] w fun e w' => e = .returned (.bool (!livS l x)) ∧ w = w' := by
  have HC := Lib.hid (livS_any x g N l w hN h.b h.l hx)
  have z := h.c
  clear h hx
  generalize livS l x = q at *
  go_enter Tryd.func39, Tryd.ntmps39
  go_wp2_with fail
  refine HC.out.mono ?_
  rintro e w' ⟨rfl, rfl⟩
  go_wp2
  go_ret
  exact ⟨rfl, rfl⟩
set_option maxHeartbeats 1000000 in
theorem grownLives_any (i : Int) (px : Int) (r : List Int) (py : Int) (A' : Option Addr) (n' c' v vp vs g N : Nat) (l : List Bool) (w : World) (B : Nat) (hB : B ≤ w.heap.size) (hvs : v < w.heap.size) (hvg : v ≠ g) (hps : vp < w.heap.size) (hss : vs < w.heap.size) (hN : N ≤ 300)
    (hr : RdI w B A' r) (hl : r.length = n') (hm : n' ≤ maxLen) (hb : BlSt w v g N l) (hcp : w.cell? ⟨vp, 0, none⟩ = some (.func (.func 24) #[] #[])) (hcs : w.cell? ⟨vs, 0, none⟩ = some (.func (.func 23) #[] #[]))
    (h0 : 0 ≤ px) (h1 : px.toNat < N) (h2 : ∀ s ∈ r, s < 0 → (-1 - s).toNat < N) (st : List Bool × Bool) (hst : st = stepG livS 0 (px, r, py) l) :
    Calls Tryd.prog 38 #[.int .i64 i, .agg #[.int .i64 px, .slice A' n' c', .int .i64 py], .pointer (some ⟨v, 0, none⟩), .pointer (some ⟨vp, 0, none⟩), .pointer (some ⟨vs, 0, none⟩)] w fun e w' => e = .returned (.bool st.2) ∧ BlSt w' v g N st.1 ∧ Kp (fun k => k = g) w w' := by
  obtain ⟨t, rfl⟩ := Int.eq_ofNat_of_zero_le h0
  rw [Int.toNat_natCast] at h1
  have hb0 : Below w.heap.size w (w.alloc (.cells #[.int .i64 t, .slice A' n' c', .int .i64 py] 41)) := (Below.refl _ _).alloc (Nat.le_refl _) _
  have hs0 : (w.alloc (.cells #[.int .i64 t, .slice A' n' c', .int .i64 py] 41)).heap.size = w.heap.size + 1 := by simp
  have hgs := hb.b.lt
  have hS0 := hb.below hb0 hvs hgs
  have zv := hS0.c
  have zt := hS0.b.bcell (k := t) (by rw [hS0.l]; exact h1)
  have hst' : st = if bth l t || !(r.all (livS l)) then (l, false) else (l.set t true, true) := by rw [hst]; unfold stepG; simp only [Int.toNat_natCast]
  have hk0 : Kp (fun k => k = g) w (w.alloc (.cells #[.int .i64 t, .slice A' n' c', .int .i64 py] 41)) := (Kp.refl _ _).alloc _
  have hprod := allLives_any t r py A' n' c' (w.alloc (.cells #[.int .i64 t, .slice A' n' c', .int .i64 py] 41)) hm
  rw [hs0] at hprod
  have hm' := hm
  unfold maxLen at hm'
  have HS0 := Lib.hid hS0; have HP := Lib.hid hprod; have HK0 := Lib.hid hk0; have HB0 := Lib.hid hb0
  have zp := (hb0.cell (p := ⟨vp, 0, none⟩) hps).trans hcp
  have hcs0 := (hb0.cell (p := ⟨vs, 0, none⟩) hss).trans hcs
  have hr0 := (hr.more hB).below hb0
  have hkey : ∀ w4, Below (w.heap.size + 1) (w.alloc (.cells #[.int .i64 t, .slice A' n' c', .int .i64 py] 41)) w4 →
      Calls Tryd.prog 20 #[.slice A' n' c', .func (.func 39) #[] #[.pointer (some ⟨vs, 0, none⟩), .pointer (some ⟨v, 0, none⟩)]] w4 (fun e w' => e = .returned (.bool (r.any (fun s => !livS l s))) ∧ w4 = w') := fun w4 hb4 =>
    contains2 39 vs v (fun s => !livS l s) A' n' c' r w4 w.heap.size (fun _ _ => rfl) (hr0.below (hb4.mono (Nat.le_succ _))) hl hm (fun x hx =>
      innerLives_any x vs v g N l w4 hN ((hb4.cell (p := ⟨vs, 0, none⟩) (by simp; omega)).trans hcs0) (hS0.below hb4 (by omega) (by omega)) (h2 x hx))
  have HKEY := Lib.hid hkey
  have hall : r.any (fun s => !livS l s) = !(r.all (livS l)) := by rw [List.not_all_eq_any_not]
  rw [hall] at HKEY
  have HB := Lib.hid hb
  clear hst hcs0 hr0 hkey hall hS0 hprod hk0 hb0 hr hl hm h2 hcp hcs h0 hB
  generalize r.all (livS l) = al at hst' HKEY
  generalize bth l t = q at zt hst'
  cases q
  rotate_left
  · have HF : Hid (st = (l, false)) := Lib.hid (by rw [hst']; simp)
    clear hst'
    go_enter Tryd.func38, Tryd.ntmps38
    go_wp2
    go_ret
    rw [HF.out]
    exact ⟨rfl, HS0.out, HK0.out⟩
  cases al
  · have HF : Hid (st = (l, false)) := Lib.hid (by rw [hst']; simp)
    clear hst'
    go_enter Tryd.func38, Tryd.ntmps38
    go_wp2_with fail
    refine HP.out.mono ?_
    rintro e w4 ⟨rfl, hb4⟩
    have HC := Lib.hid (HKEY.out w4 hb4)
    have z41 := (hb4.cell (p := ⟨w.heap.size, 1, none⟩) (Nat.lt_succ_self _)).trans (show _ = some (.slice A' n' c') by simp)
    have HB4 := Lib.hid hb4
    clear hb4 HKEY HP
    go_wp2_with fail
    refine HC.out.mono ?_
    rintro e w5 ⟨rfl, rfl⟩
    go_wp2
    go_ret
    rw [HF.out]
    exact ⟨rfl, HS0.out.below HB4.out (by omega) (by omega), HK0.out.trans (Kp.of (by rw [hs0]; exact HB4.out))⟩
  · have HF : Hid (st = (l.set t true, true)) := Lib.hid (by rw [hst']; simp)
    clear hst'
    go_enter Tryd.func38, Tryd.ntmps38
    go_wp2_with fail
    refine HP.out.mono ?_
    rintro e w4 ⟨rfl, hb4⟩
    have HC := Lib.hid (HKEY.out w4 hb4)
    have z41 := (hb4.cell (p := ⟨w.heap.size, 1, none⟩) (Nat.lt_succ_self _)).trans (show _ = some (.slice A' n' c') by simp)
    have z40 := (hb4.cell (p := ⟨w.heap.size, 0, none⟩) (Nat.lt_succ_self _)).trans (show _ = some (.int .i64 (t : Int)) by simp)
    have hS4 := HS0.out.below hb4 (by omega) (by omega)
    have zv4 := hS4.c
    have zt4 := hS4.b.bcell (k := t) (by rw [hS4.l]; exact h1)
    have zf4 := hS4.b.frozen t
    generalize bth l t = q4 at zt4
    have HB4 := Lib.hid hb4; have HS4 := Lib.hid hS4
    clear hb4 HKEY HP hS4
    go_wp2_with fail
    refine HC.out.mono ?_
    rintro e w5 ⟨rfl, rfl⟩
    go_wp2
    go_ret
    rw [HF.out]
    have hk1 : Kp (fun k => k = g) w4 (w4.setCell ⟨g, t, none⟩ (.bool true)) := (Kp.refl (fun k => k = g) w4).set_ (p := ⟨g, t, none⟩) (.inr rfl) _
    have hw4 : w.heap.size ≤ w4.heap.size := by have := HB4.out.size; omega
    exact ⟨rfl, ⟨(hk1.cell (p := ⟨v, 0, none⟩) (by simp; omega) hvg).trans HS4.out.c, HS4.out.b.bset t true, by rw [List.length_set]; exact HS4.out.l⟩, (HK0.out.trans (Kp.of (by rw [hs0]; exact HB4.out))).trans hk1⟩
end Go.Proofs.YtklhjaohnimmnaaDoor
