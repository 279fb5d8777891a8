/- The mender's solve. · The mender's solve: the walk. -/
import Derived.Test.YtklhjaohnimmnaaDoorQ17
import Derived.Test.YtklhjaohnimmnaaDoorQ18
import Derived.Deep.LoopGhost
namespace Go.Proofs.YtklhjaohnimmnaaDoor
open Go.RowKit BigFrame Go.Maps
set_option linter.unusedVariables false
set_option linter.unusedSimpArgs false
set_option maxRecDepth 100000

/-- A world that keeps, of w, all blocks but those of S. -/
structure KB (S : Nat → Prop) (w : World) where
  val : World
  kp : Kp S w val
instance (S : Nat → Prop) (w : World) : Nonempty (KB S w) := ⟨⟨w, Kp.refl _ _⟩⟩

theorem blk_ne {w : World} {g g' : Nat} {e e' : TypeId} {vs vs' : List Value} (h : Blk w g e vs) (h' : Blk w g' e' vs') (hne : e ≠ e') : g ≠ g' := by
  rintro rfl
  unfold Blk at h h'
  rw [h] at h'
  simp at h'
  exact hne h'.2
theorem map_ne {w : World} {g bM n : Nat} {e : TypeId} {vs : List Value} {k : TypeId} {R : Value → Option (DataW Unit × List MemPlace)} {D : DataW Unit} (h : Blk w g e vs) (h' : w.ownsMap Tryd.prog k R bM n D) : g ≠ bM := by
  rintro rfl
  obtain ⟨es, clock, hb, _⟩ := h'
  unfold Blk at h
  rw [h] at hb
  cases hb
theorem map_ne_int {w : World} {b bM n : Nat} {arr : Array Value} {cur : Nat × Nat} {k : TypeId} {R : Value → Option (DataW Unit × List MemPlace)} {D : DataW Unit} (h' : w.ownsMap Tryd.prog k R bM n D) (h : w.heap[b]? = some (.cells arr 3 cur)) : b ≠ bM := by
  rintro rfl
  obtain ⟨es, clock, hb, _⟩ := h'
  rw [h] at hb
  cases hb
section
variable {w w' : World} {B m : Nat} {G : Gr} {Ap Al As : Option Addr} {np cp nl cl ns cs : Nat} {D : Md} {A1 A2 A3 A4 : Option Addr} {n1 c1 n2 c2 n3 c3 n4 c4 bM : Nat}
theorem MdIn.put4 (h : MdIn w B m G Ap Al As np cp nl cl ns cs D A1 A2 A3 A4 n1 c1 n2 c2 n3 c3 n4 c4 bM) {g N : Nat} {β : Nat → Bs} (hg : BtB w g N β) (hB : B ≤ g) (i0 i1 i2 i3 : Nat) (u0 u1 u2 u3 : Value) :
    MdIn ((((w.setCell ⟨g, i0, none⟩ u0).setCell ⟨g, i1, none⟩ u1).setCell ⟨g, i2, none⟩ u2).setCell ⟨g, i3, none⟩ u3) B m G Ap Al As np cp nl cl ns cs D A1 A2 A3 A4 n1 c1 n2 c2 n3 c3 n4 c4 bM := by
  obtain ⟨cs, hb, _⟩ := hg
  have hb4 : Below B w ((((w.setCell ⟨g, i0, none⟩ u0).setCell ⟨g, i1, none⟩ u1).setCell ⟨g, i2, none⟩ u2).setCell ⟨g, i3, none⟩ u3) := bel_set4 (Below.refl _ _) hB _ _ _ _ _ _ _ _
  have hne : m ≠ g := blk_ne h.b hb (by decide)
  exact { h with
    b := Blk.far (Blk.far (Blk.far (Blk.far h.b hne _) hne _) hne _) hne _, p := h.p.below hb4, l := h.l.below hb4, i := h.i.below hb4
    s := h.s.keep fun k arr cur hk => by
      have hne := int_ne_best hb hk
      rw [Below.heap_setCell _ _ _ _ hne, Below.heap_setCell _ _ _ _ hne, Below.heap_setCell _ _ _ _ hne, Below.heap_setCell _ _ _ _ hne] }
theorem MdIn.map (h : MdIn w B m G Ap Al As np cp nl cl ns cs D A1 A2 A3 A4 n1 c1 n2 c2 n3 c3 n4 c4 bM) {n : Nat} {k : TypeId} {R : Value → Option (DataW Unit × List MemPlace)} {E : DataW Unit} (hm : w.ownsMap Tryd.prog k R bM n E) (hg : w.grownBy w' (some bM)) (hB : B ≤ bM) (hBw : B ≤ w.heap.size) :
    MdIn w' B m G Ap Al As np cp nl cl ns cs D A1 A2 A3 A4 n1 c1 n2 c2 n3 c3 n4 c4 bM := by
  have hb4 : Below B w w' := (Below.refl B w).grown hg hBw (fun k e => by simp only [Option.some.injEq] at e; omega)
  have hne : m ≠ bM := map_ne h.b hm
  exact { h with
    b := h.b.grown hg (by simpa using hne), p := h.p.below hb4, l := h.l.below hb4, i := h.i.below hb4
    s := h.s.keep fun k arr cur hk => hg.block k (Array.getElem?_eq_some_iff.1 hk).1 (by simpa using map_ne_int hm hk) }
end
theorem ChM.look2 {w w' : World} {bM N n lo : Nat} {γ : Nat → Nat → Option Nat} {M : BCh} (h : ChM w bM N n lo γ M) (hb : w'.heap[bM]? = w.heap[bM]?) {f t : Nat} (hf : f ≤ 1000) (ht : t ≤ 1000) : (Instr.lookup 46 (.map (some bM)) (.agg #[.int .i64 (f : Int), .int .i64 (t : Int)]) false).run Tryd.prog w' = .ok (rowV N (γ f t)) w' := by
  obtain ⟨D, hD, hD2⟩ := h.o
  obtain ⟨v, ps, hrun, hv⟩ := (owns_of_block hD hb).lookup (t := 46) (e := 52) lawK Tryd.underlying46 (z := .slice none 0 0) (by rfl) (zd := .lit (.int .i64 (-1))) (zp := []) rfl (kOf hf ht)
  rw [hD2 f t hf ht] at hv
  have e := sElem_inv hv
  subst e
  exact hrun
/-- What solve's loops keep. -/
structure SvI (w : World) (B m : Nat) (G : Gr) (Ap Al As : Option Addr) (np cp nl cl ns cs : Nat) (D : Md) (A1 A2 A3 A4 : Option Addr) (n1 c1 n2 c2 n3 c3 n4 c4 bM N n : Nat) (γ : Nat → Nat → Option Nat) (kb f t : Nat) (w0 : World) (M : BCh) : Prop where
  m : MdIn w B m G Ap Al As np cp nl cl ns cs D A1 A2 A3 A4 n1 c1 n2 c2 n3 c3 n4 c4 bM
  c : ChM w bM N n B γ M
  k : Blk w kb 53 [.int .i64 (f : Int), .int .i64 (t : Int)]
  b : Below B w0 w
section
variable {w w' : World} {B m : Nat} {G : Gr} {Ap Al As : Option Addr} {np cp nl cl ns cs : Nat} {D : Md} {A1 A2 A3 A4 : Option Addr} {n1 c1 n2 c2 n3 c3 n4 c4 bM N n : Nat} {γ : Nat → Nat → Option Nat} {kb f t : Nat} {w0 : World} {M : BCh}
theorem SvI.below (h : SvI w B m G Ap Al As np cp nl cl ns cs D A1 A2 A3 A4 n1 c1 n2 c2 n3 c3 n4 c4 bM N n γ kb f t w0 M) (hb : Below w.heap.size w w') (hB : B ≤ w.heap.size) : SvI w' B m G Ap Al As np cp nl cl ns cs D A1 A2 A3 A4 n1 c1 n2 c2 n3 c3 n4 c4 bM N n γ kb f t w0 M :=
  ⟨h.m.below hb hB, h.c.below hb, h.k.below' hb, h.b.trans (hb.mono hB)⟩
theorem SvI.put4 (h : SvI w B m G Ap Al As np cp nl cl ns cs D A1 A2 A3 A4 n1 c1 n2 c2 n3 c3 n4 c4 bM N n γ kb f t w0 M) {a c g X : Nat} (ha : a ≤ 1000) (hc : c ≤ 1000) (hg : γ a c = some g) (hX : X < N) {b : Bs} {v0 v1 v2 v3 : Value} (hv : BsT w (.agg #[v0, v1, v2, v3]) b) :
    SvI ((((w.setCell ⟨g, X * 4, none⟩ v0).setCell ⟨g, X * 4 + 1, none⟩ v1).setCell ⟨g, X * 4 + 2, none⟩ v2).setCell ⟨g, X * 4 + 3, none⟩ v3) B m G Ap Al As np cp nl cl ns cs D A1 A2 A3 A4 n1 c1 n2 c2 n3 c3 n4 c4 bM N n γ kb f t w0 (updB M X a c b) := by
  have hgb := h.c.i a c g ha hc hg
  have hlo := (h.c.ne a c g ha hc hg).2
  obtain ⟨cs', hb, _⟩ := id hgb
  have hne : kb ≠ g := blk_ne h.k hb (by decide)
  exact ⟨h.m.put4 hgb hlo _ _ _ _ _ _ _ _, h.c.putI ha hc hg hX hv, Blk.far (Blk.far (Blk.far (Blk.far h.k hne _) hne _) hne _) hne _, bel_set4 h.b hlo _ _ _ _ _ _ _ _⟩
end
end Go.Proofs.YtklhjaohnimmnaaDoor
namespace Go.Proofs.YtklhjaohnimmnaaDoor
open Go.RowKit BigFrame Go.Maps
set_option linter.unusedVariables false
set_option linter.unusedSimpArgs false
set_option maxRecDepth 100000

set_option maxHeartbeats 4000000 in
theorem solve_any (G : Gr) (Ap Al As : Option Addr) (np cp nl cl ns cs : Nat) (D : Md) (A1 A2 A3 A4 : Option Addr) (n1 c1 n2 c2 n3 c3 n4 c4 bM m : Nat) (w : World) (B : Nat) (hB : B ≤ w.heap.size) (hM : MdIn w B m G Ap Al As np cp nl cl ns cs D A1 A2 A3 A4 n1 c1 n2 c2 n3 c3 n4 c4 bM) (hG : GrIn w B G Ap Al As np cp nl cl ns cs)
    (N n : Nat) (γ : Nat → Nat → Option Nat) (M : BCh) (hC : ChM w bM N n B γ M) (hNG : G.names = (N : Int)) (hN : N ≤ 300) (hn : n < 100000) (f t : Nat) (hf : f ≤ t) (ht : t ≤ n3) (hγ : γ f t = none)
    (hfit : ∀ p ∈ G.prods, 0 ≤ p.1 ∧ p.1.toNat < N ∧ p.2.1.length ≤ 20 ∧ ∀ s ∈ p.2.1, (s < 0 → (-1 - s).toNat < N) ∧ (0 ≤ s → s.toNat < n1 ∧ s.toNat < n2) ∧ s < 301) (hnp : np ≤ 400)
    (hS : ChSnd (nthI D.P) (nthI D.L) G.prods N D.I M) (hd : ∀ X s, Der G.prods X s → DigB s) :
    Calls Tryd.prog 14 #[.pointer (some ⟨m, 0, none⟩), .int .i64 (f : Int), .int .i64 (t : Int)] w fun e w' => e = .returned (.tuple #[]) ∧ MdIn w' B m G Ap Al As np cp nl cl ns cs D A1 A2 A3 A4 n1 c1 n2 c2 n3 c3 n4 c4 bM ∧ Below B w w' ∧ ∃ (M' : BCh) (γ' : Nat → Nat → Option Nat), ChM w' bM N (n + 1) B γ' M' ∧ SolI (nthI D.P) (nthI D.L) D.I f t G.prods N M M' ∧
      (∀ p ∈ G.prods, betB (rwB (nthI D.P) (nthI D.L) M' D.I p.2.1 f t) (M' p.1.toNat f t) = false) ∧ (∀ a c, ¬ (a = f ∧ c = t) → γ' a c = γ a c) := by
  have hm3 := hM.m3
  have hput : ∀ x, 0 ≤ nthI D.P x := fun x => (nthI_bound hM.cp x).1
  have hlv : ∀ x, 0 ≤ nthI D.L x := fun x => (nthI_bound hM.cl x).1
  have hbd : ∀ x a b, lvS (nthI D.L) (sub D.I a b) + nthI D.P x ≤ farC := fun x a b => by
    have h1 := (lvS_bound (nthI_bound hM.cl) (sub D.I a b)).2
    have h2 := (nthI_bound hM.cp x).2
    have h3 : (sub D.I a b).length ≤ 300 := by
      unfold sub
      have := hM.h3
      simp only [List.length_take, List.length_drop]
      omega
    unfold farC; omega
  have hfits : Fits N G.prods := fun p hp => ⟨(hfit p hp).2.1, fun s hs => ((hfit p hp).2.2.2 s hs).1⟩
  have htl : t ≤ D.I.length := by have := hM.h3; omega
  have HROW : Hid (∀ (W : World) (M' : BCh) (γ' : Nat → Nat → Option Nat) (n' : Nat), B ≤ W.heap.size → MdIn W B m G Ap Al As np cp nl cl ns cs D A1 A2 A3 A4 n1 c1 n2 c2 n3 c3 n4 c4 bM → ChM W bM N n' B γ' M' → ChSnd (nthI D.P) (nthI D.L) G.prods N D.I M' → ∀ p ∈ G.prods, ∀ (A : Option Addr) (nr c : Nat), RdI W B A p.2.1 → p.2.1.length = nr → nr ≤ c → c ≤ maxLen →
      Calls Tryd.prog 25 #[.pointer (some ⟨m, 0, none⟩), .slice A nr c, .int .i64 (f : Int), .int .i64 (t : Int)] W fun e w' => ∃ v, e = .returned v ∧ BsT w' v (rwB (nthI D.P) (nthI D.L) M' D.I p.2.1 f t) ∧ Below W.heap.size W w') := Lib.hid fun W M' γ' n' hBW hMW hCW hSW p hp A nr c hr hl hc1 hc2 => by
    have hp4 := (hfit p hp).2.2.2
    refine row_any G Ap Al As np cp nl cl ns cs D A1 A2 A3 A4 n1 c1 n2 c2 n3 c3 n4 c4 bM m W B hBW hMW N n' B γ' M' hCW hN A nr c p.2.1 hr hl (by have := (hfit p hp).2.2.1; omega) hc1 hc2 f t hf ht (fun s hs => ⟨(hp4 s hs).1, (hp4 s hs).2.1⟩) (fun h0 i k hk => ?_) (fun s hs a b hab hb => ?_)
    · exact rowA_good hput hlv hbd hSW hd (by omega) (by omega) (fun s hs => ⟨(hp4 s hs).1, (hp4 s hs).2.2⟩) i k hk
    · exact sym_good hput hlv hbd hSW hd (hp4 s hs).1 (hp4 s hs).2.2 hab (by have := hM.h3; omega)
  have HSTEP : Hid (∀ (k : Nat) (p : Pr) (M1 : BCh), p ∈ G.prods → SolI (nthI D.P) (nthI D.L) D.I f t G.prods N M M1 → SolI (nthI D.P) (nthI D.L) D.I f t G.prods N M (stepV (nthI D.P) (nthI D.L) D.I f t k p M1).1 ∧ ((stepV (nthI D.P) (nthI D.L) D.I f t k p M1).2 = true → muV wB N (stepV (nthI D.P) (nthI D.L) D.I f t k p M1).1 f t < muV wB N M1 f t)) := Lib.hid fun k p M1 hp hQ => stepV_Q hfits hput hlv hbd hd hf htl k p M1 hp hQ
  have HQ0 : Hid (SolI (nthI D.P) (nthI D.L) D.I f t G.prods N M M) := Lib.hid ⟨hS, fun _ _ _ _ => rfl⟩
  obtain ⟨w1, hw1⟩ : ∃ w1, w1 = w.alloc (.cells #[.int .i64 (f : Int), .int .i64 (t : Int)] 53) := ⟨_, rfl⟩
  obtain ⟨kb, hkb⟩ : ∃ kb, w.heap.size = kb := ⟨_, rfl⟩
  have hb1 : Below w.heap.size w w1 := by rw [hw1]; exact (Below.refl _ _).alloc (Nat.le_refl _) _
  have hk1 : Blk w1 kb 53 [.int .i64 (f : Int), .int .i64 (t : Int)] := by rw [hw1, ← hkb]; exact Blk.new w 53 [.int .i64 (f : Int), .int .i64 (t : Int)]
  have hM1 := hM.below hb1 hB
  have hC1 := hC.below hb1
  have HG := Lib.hid hG
  have HFIT := Lib.hid hfit
  have HLB := hC.lb
  have hft : f ≤ 1000 ∧ t ≤ 1000 := ⟨by omega, by omega⟩
  have HB1 := Lib.hid hb1
  have hmk := mk_bests N (N : Int) rfl (by omega)
  clear hM hC hG hfit hS hd hput hlv hbd hfits htl hb1
  go_enter Tryd.func14, Tryd.ntmps14
  go_wp2_with fail
  rw [← hw1]
  clear hw1
  obtain ⟨wd, hwd⟩ : ∃ wd, wd = w1.drew := ⟨_, rfl⟩
  have hbd : Below w1.heap.size w1 wd := by rw [hwd]; exact (Below.refl _ _).drew
  have hzd : B ≤ wd.heap.size := by rw [hwd]; exact Nat.le_trans hB HB1.out.size
  refine wp_region_S (fun w' => ∃ X : KB (fun j => j = bM) wd, w' = X.val) (by kernel_rfl) ?_
  rw [← hwd]
  clear hwd
  have hB1 : B ≤ w1.heap.size := Nat.le_trans hB HB1.out.size
  have hMd := hM1.below hbd hB1
  have hCd := hC1.below hbd
  have hkd := hk1.below' hbd
  obtain ⟨w2, hrun, hC2, hg2⟩ := hCd.putO hft.1 hft.2 hn hγ (by omega)
  obtain ⟨E0, hown, -⟩ := id (hCd.below ((Below.refl wd.heap.size wd).alloc (Nat.le_refl _) (.cells (bz N) 51))).o
  have hmne : m ≠ bM := map_ne (hMd.b.alloc _) hown
  have hkne : kb ≠ bM := map_ne (hkd.alloc _) hown
  have hMa := hMd.below ((Below.refl wd.heap.size wd).alloc (Nat.le_refl _) (.cells (bz N) 51)) (by omega)
  have hM2 := hMa.map hown hg2 HLB (by simp; omega)
  have hk2 := (hkd.alloc (.cells (bz N) 51)).grown hg2 (by simpa using hkne)
  have hkp : Kp (fun j => j = bM) wd w2 := ((Kp.refl (fun j => j = bM) wd).alloc (.cells (bz N) 51)).grown hg2 (fun k e => by simp only [Option.some.injEq] at e; exact .inr e.symm)
  have hbw2 : Below B w w2 := (HB1.out.mono hB).trans ((hbd.mono hB1).trans (((Below.refl B wd).alloc (by omega) _).grown hg2 (by simp; omega) (fun k e => by simp only [Option.some.injEq] at e; omega)))
  have wb : ∀ (X : KB (fun j => j = bM) wd) (q : Addr), q.block < wd.heap.size → q.block ≠ bM → X.val.cell? q = wd.cell? q := fun X q h1 h2 => X.kp.cell h1 h2
  have hml := hMd.b.lt
  have hkl := hkd.lt
  have k0 : ∀ X : KB (fun j => j = bM) wd, X.val.cell? ⟨m, 10, none⟩ = some (.map (some bM)) := fun X => (wb X ⟨m, 10, none⟩ hml hmne).trans (hMd.b.cell (i := 10) rfl)
  have k1 : ∀ X : KB (fun j => j = bM) wd, X.val.cell? ⟨m, 1, none⟩ = some (.int .i64 (N : Int)) := fun X => (wb X ⟨m, 1, none⟩ hml hmne).trans (by rw [← hNG]; exact hMd.b.cell (i := 1) rfl)
  have k2 : ∀ X : KB (fun j => j = bM) wd, X.val.cell? ⟨kb, 0, none⟩ = some (.int .i64 (f : Int)) := fun X => (wb X ⟨kb, 0, none⟩ hkl hkne).trans (hkd.cell (i := 0) rfl)
  have k3 : ∀ X : KB (fun j => j = bM) wd, X.val.cell? ⟨kb, 1, none⟩ = some (.int .i64 (t : Int)) := fun X => (wb X ⟨kb, 1, none⟩ hkl hkne).trans (hkd.cell (i := 1) rfl)
  have HSV : Hid (SvI w2 B m G Ap Al As np cp nl cl ns cs D A1 A2 A3 A4 n1 c1 n2 c2 n3 c3 n4 c4 bM N (n + 1) (fun a c => if a = f ∧ c = t then some wd.heap.size else γ a c) kb f t w M) := Lib.hid ⟨hM2, hC2, hk2, hbw2⟩
  have HKP := Lib.hid hkp
  clear hM1 hC1 hk1 hMd hCd hkd hC2 hg2 hown hMa hM2 hk2 hkp hbw2 wb
  show wpAnyS _ _ _ _ _ (2 + 10) _ _ _
  refine takeS 2 0 10 (by kernel_rfl) (by kernel_rfl) (fun _ _ d _ _ h => by cases d <;> exact h) ⟨⟨_, Kp.refl _ _⟩, rfl⟩ ?_
  simp only [List.take_succ_cons, List.take_zero, List.drop_succ_cons, List.drop_zero]
  repeat (first | go_big_quiet_skip | (go_big_quiet_want; go_big_quiet_op; go_big_quiet_on))
  refine wpQuiet_nil ?_
  clear k0 k1 k2 k3
  refine oneS 1 10 (by kernel_rfl) (by decide) ?_
  simp only [List.take_succ_cons, List.take_zero, List.drop_succ_cons, List.drop_zero]
  go_wp2_with fail
  refine ⟨⟨KB.mk _ ((Kp.refl _ _).alloc _), rfl⟩, ?_⟩
  refine oneS 0 11 (by kernel_rfl) (by decide) ?_
  simp only [List.take_succ_cons, List.take_zero, List.drop_succ_cons, List.drop_zero]
  go_wp2_with fail
  refine ⟨⟨KB.mk _ HKP.out, rfl⟩, ?_⟩
  refine endS (by kernel_rfl) ?_
  obtain ⟨g, hg⟩ : ∃ g, wd.heap.size = g := ⟨_, rfl⟩
  rw [hg] at HSV ⊢
  clear hmk HKP hrun
  go_wp2_with fail
  obtain ⟨γ2, hγ2⟩ : ∃ γ2, γ2 = (fun a c => if a = f ∧ c = t then some g else γ a c) := ⟨_, rfl⟩
  rw [← hγ2] at HSV
  have HG2 : Hid (γ2 f t = some g) := Lib.hid (by rw [hγ2]; exact if_pos ⟨rfl, rfl⟩)
  have HGO : Hid (∀ a c, ¬ (a = f ∧ c = t) → γ2 a c = γ a c) := Lib.hid (fun a c h => by rw [hγ2]; exact if_neg h)
  have HNPL : Hid (G.prods.length = np) := Lib.hid HG.out.p.len.1
  clear hγ2
  go_loopg [7] (muV wB N M f t + 1) (fun gk ag wr => ∃ r : Nat, ∃ b : Bool, ag = .bool b ∧ gk = (if b then muV wB N (rounds (stepV (nthI D.P) (nthI D.L) D.I f t) G.prods r M) f t + 1 else 0) ∧ Hid (SvI wr B m G Ap Al As np cp nl cl ns cs D A1 A2 A3 A4 n1 c1 n2 c2 n3 c3 n4 c4 bM N (n + 1) γ2 kb f t w (rounds (stepV (nthI D.P) (nthI D.L) D.I f t) G.prods r M) ∧ SolI (nthI D.P) (nthI D.L) D.I f t G.prods N M (rounds (stepV (nthI D.P) (nthI D.L) D.I f t) G.prods r M)) ∧ Hid (b = false → (passF (stepV (nthI D.P) (nthI D.L) D.I f t) 0 G.prods (rounds (stepV (nthI D.P) (nthI D.L) D.I f t) G.prods r M)).2 = false))
  case atStart => exact ⟨0, true, rfl, rfl, ⟨HSV.out, HQ0.out⟩, fun h => by cases h⟩
  case round =>
    obtain ⟨r, b, rfl, hgk, HR, HF⟩ := hrel
    clear HSV
    obtain ⟨y, hy⟩ : ∃ y, y = rounds (stepV (nthI D.P) (nthI D.L) D.I f t) G.prods r M := ⟨_, rfl⟩
    rw [← hy] at HR HF hgk
    have HY := Lib.hid hy; clear hy
    have HGK := Lib.hid hgk; clear hgk
    have HQY := Lib.hid HR.out.2
    cases b
    · as_aux_lemma =>
        go_wp2
        go_end0
        exact ⟨rfl, HR.out.1.m, HR.out.1.b, y, γ2, HR.out.1.c, HR.out.2, fun a1 l1 b1 h1 => solved_fix (HF.out (by simp)) (a1, l1, b1) h1, fun a1 a2 h => HGO.out a1 a2 (fun q => h q.1 q.2)⟩
    · have x3 := HR.out.1.m.b.cell (i := 3) rfl
      go_wp2_with fail
      clear x3
      go_loopw [7, 32] (fun ag i wr => ∃ k : Nat, ∃ b : Bool, k ≤ np ∧ i = .int .i64 k ∧ ag = .bool b ∧ Hid (b = (passF (stepV (nthI D.P) (nthI D.L) D.I f t) 0 (G.prods.take k) y).2) ∧ Hid (SvI wr B m G Ap Al As np cp nl cl ns cs D A1 A2 A3 A4 n1 c1 n2 c2 n3 c3 n4 c4 bM N (n + 1) γ2 kb f t w ((passF (stepV (nthI D.P) (nthI D.L) D.I f t) 0 (G.prods.take k) y).1) ∧ SolI (nthI D.P) (nthI D.L) D.I f t G.prods N M ((passF (stepV (nthI D.P) (nthI D.L) D.I f t) 0 (G.prods.take k) y).1))) (fun _ i _ => np - (intOf i).toNat)
      case atStart => exact ⟨0, false, Nat.zero_le _, rfl, rfl, rfl, HR.out⟩
      case round =>
        clear HR HF
        obtain ⟨k, b, hk, rfl, rfl, HB, HR⟩ := hrel
        by_cases hlt : k < np
        · as_aux_lemma =>
            have hps0 := HB.out
            obtain ⟨M1, hM1⟩ : ∃ M1, M1 = (passF (stepV (nthI D.P) (nthI D.L) D.I f t) 0 (G.prods.take k) y).1 := ⟨_, rfl⟩
            rw [← hM1] at HR
            have HM1 := Lib.hid hM1
            clear hM1 hps0
            have hBr : B ≤ wr.heap.size := Nat.le_trans hB HR.out.1.b.size
            obtain ⟨bb, off, rfl, hbb, hc⟩ := (HG.out.p.below HR.out.1.b).at_ (by omega)
            obtain ⟨px, rr, py, A', n', c', hq, z0, z1, z2, g1, g2, g3, g4⟩ := hc k hlt
            have hmem := List.mem_of_getElem? hq
            obtain ⟨e1, e2, e3, e4⟩ := HFIT.out _ hmem
            simp only at e1 e2 e3 e4
            obtain ⟨X, rfl⟩ := Int.eq_ofNat_of_zero_le e1
            rw [Int.toNat_natCast] at e2
            have hps := passF_snoc (stepV (nthI D.P) (nthI D.L) D.I f t) G.prods k ((X : Int), rr, py) y hq
            have hst := HSTEP.out k ((X : Int), rr, py) M1 hmem HR.out.2
            rw [← HM1.out] at hps
            obtain ⟨w3, hw3⟩ : ∃ w3, w3 = wr.alloc (.cells #[.int .i64 (X : Int), .slice A' n' c', .int .i64 py] 41) := ⟨_, rfl⟩
            have hb3 : Below wr.heap.size wr w3 := by rw [hw3]; exact (Below.refl _ _).alloc (Nat.le_refl _) _
            have hpb : Blk w3 wr.heap.size 41 [.int .i64 (X : Int), .slice A' n' c', .int .i64 py] := by rw [hw3]; exact Blk.new wr 41 [.int .i64 (X : Int), .slice A' n' c', .int .i64 py]
            have hsv3 := HR.out.1.below hb3 hBr
            have hB3 := Nat.le_trans hBr hb3.size
            have HC := Lib.hid (HROW.out w3 M1 γ2 (n + 1) hB3 hsv3.m hsv3.c HR.out.2.snd _ hmem A' n' c' (g4.below (hb3.mono hBr)) g1 g2 g3)
            have HSV3 := Lib.hid hsv3; have HPB := Lib.hid hpb; have HQR := Lib.hid HR.out.2
            have HPS := Lib.hid hps; have HST := Lib.hid hst
            obtain ⟨pb, hpb2⟩ : ∃ pb, wr.heap.size = pb := ⟨_, rfl⟩
            rw [hpb2] at HPB
            have HPP : Hid (pb < w3.heap.size) := Lib.hid HPB.out.lt
            have HB3 := Lib.hid hB3
            clear hsv3 hpb hps hst hc hq g1 g4 hb3 HR hB3
            unfold maxLen at g3
            go_wp2_with fail
            rw [← hw3]
            clear hw3 hpb2 z0 z1 z2
            refine HC.out.mono ?_
            rintro e w4 ⟨v, rfl, hv, hb4⟩
            obtain ⟨q0, q1, q2, q3, q4, q5, rfl⟩ := hv.form
            obtain ⟨w5, hw5⟩ : ∃ w5, w5 = w4.alloc (.cells #[.bool q0, .int .i64 q1, .int .i64 q2, .slice q3 q4 q5] 51) := ⟨_, rfl⟩
            have hb5 : Below w4.heap.size w4 w5 := by rw [hw5]; exact (Below.refl _ _).alloc (Nat.le_refl _) _
            have htb : Blk w5 w4.heap.size 51 [.bool q0, .int .i64 q1, .int .i64 q2, .slice q3 q4 q5] := by rw [hw5]; exact Blk.new w4 51 [.bool q0, .int .i64 q1, .int .i64 q2, .slice q3 q4 q5]
            have hb35 : Below w3.heap.size w3 w5 := hb4.trans (hb5.mono hb4.size)
            have HSV5 := Lib.hid (HSV3.out.below hb35 HB3.out)
            have HPB5 := Lib.hid (HPB.out.below' hb35)
            have HV5 := Lib.hid (hv.below hb5)
            have HB5 : Hid (B ≤ w5.heap.size) := Lib.hid (Nat.le_trans HB3.out hb35.size)
            obtain ⟨tb, htb2⟩ : ∃ tb, w4.heap.size = tb := ⟨_, rfl⟩
            have HTG : Hid (g < tb) := Lib.hid (by rw [← htb2]; exact Nat.lt_of_lt_of_le (HSV3.out.c.i f t g hft.1 hft.2 HG2.out).lt hb4.size)
            rw [htb2] at htb
            have HTB := Lib.hid htb
            clear hv hb4 hb5 hb35 htb HSV3 HPB HB3 HC
            go_wp2_with fail
            rw [← hw5]
            clear hw5 htb2
            obtain ⟨wd, hwd⟩ : ∃ wd, wd = w5.drew := ⟨_, rfl⟩
            have hbd : Below w5.heap.size w5 wd := by rw [hwd]; exact (Below.refl _ _).drew
            have hzd : B ≤ wd.heap.size := by rw [hwd]; exact HB5.out
            refine wp_region_S (fun w' => ∃ X : WB wd.heap.size wd, w' = X.val) (by kernel_rfl) ?_
            rw [← hwd]
            clear hwd
            have hsvd := HSV5.out.below hbd HB5.out
            have hpbd := HPB5.out.below' hbd
            have htbd := HTB.out.below' hbd
            have hvd := HV5.out.below hbd
            obtain ⟨m0, m1, m2, m3, m4, m5, o0, o1, o2, o3, hvm⟩ := (hsvd.c.i f t g hft.1 hft.2 HG2.out).at_ e2
            have hgl := (hsvd.c.i f t g hft.1 hft.2 HG2.out).lt
            have wb : ∀ (Y : WB wd.heap.size wd) (q : Addr), q.block < wd.heap.size → Y.val.cell? q = wd.cell? q := fun Y q h1 => Y.bel.cell (p := q) h1
            have k0 : ∀ Y : WB wd.heap.size wd, Y.val.cell? ⟨m, 10, none⟩ = some (.map (some bM)) := fun Y => (wb Y ⟨m, 10, none⟩ hsvd.m.b.lt).trans (hsvd.m.b.cell (i := 10) rfl)
            have k2 : ∀ Y : WB wd.heap.size wd, Y.val.cell? ⟨kb, 0, none⟩ = some (.int .i64 (f : Int)) := fun Y => (wb Y ⟨kb, 0, none⟩ hsvd.k.lt).trans (hsvd.k.cell (i := 0) rfl)
            have k3 : ∀ Y : WB wd.heap.size wd, Y.val.cell? ⟨kb, 1, none⟩ = some (.int .i64 (t : Int)) := fun Y => (wb Y ⟨kb, 1, none⟩ hsvd.k.lt).trans (hsvd.k.cell (i := 1) rfl)
            have k4 : ∀ Y : WB wd.heap.size wd, Y.val.cell? ⟨tb, 0, none⟩ = some (.bool q0) := fun Y => (wb Y ⟨tb, 0, none⟩ htbd.lt).trans (htbd.cell (i := 0) rfl)
            have k5 : ∀ Y : WB wd.heap.size wd, Y.val.cell? ⟨tb, 1, none⟩ = some (.int .i64 q1) := fun Y => (wb Y ⟨tb, 1, none⟩ htbd.lt).trans (htbd.cell (i := 1) rfl)
            have k6 : ∀ Y : WB wd.heap.size wd, Y.val.cell? ⟨tb, 2, none⟩ = some (.int .i64 q2) := fun Y => (wb Y ⟨tb, 2, none⟩ htbd.lt).trans (htbd.cell (i := 2) rfl)
            have k7 : ∀ Y : WB wd.heap.size wd, Y.val.cell? ⟨tb, 3, none⟩ = some (.slice q3 q4 q5) := fun Y => (wb Y ⟨tb, 3, none⟩ htbd.lt).trans (htbd.cell (i := 3) rfl)
            have k8 : ∀ Y : WB wd.heap.size wd, Y.val.cell? ⟨pb, 0, none⟩ = some (.int .i64 (X : Int)) := fun Y => (wb Y ⟨pb, 0, none⟩ hpbd.lt).trans (hpbd.cell (i := 0) rfl)
            have k9 : ∀ Y : WB wd.heap.size wd, Y.val.cell? ⟨g, X * 4, none⟩ = some (.bool m0) := fun Y => (wb Y ⟨g, X * 4, none⟩ hgl).trans o0
            have k10 : ∀ Y : WB wd.heap.size wd, Y.val.cell? ⟨g, X * 4 + 1, none⟩ = some (.int .i64 m1) := fun Y => (wb Y ⟨g, X * 4 + 1, none⟩ hgl).trans o1
            have k11 : ∀ Y : WB wd.heap.size wd, Y.val.cell? ⟨g, X * 4 + 2, none⟩ = some (.int .i64 m2) := fun Y => (wb Y ⟨g, X * 4 + 2, none⟩ hgl).trans o2
            have k12 : ∀ Y : WB wd.heap.size wd, Y.val.cell? ⟨g, X * 4 + 3, none⟩ = some (.slice m3 m4 m5) := fun Y => (wb Y ⟨g, X * 4 + 3, none⟩ hgl).trans o3
            have k13 : ∀ Y : WB wd.heap.size wd, (Instr.lookup 46 (.map (some bM)) (.agg #[.int .i64 (f : Int), .int .i64 (t : Int)]) false).run Tryd.prog Y.val = .ok (.slice (some ⟨g, 0, none⟩) N N) Y.val := fun Y => by
              have h := (hsvd.c.below Y.bel).look hft.1 hft.2
              rw [HG2.out] at h
              exact h
            have HCB := Lib.hid (better_any (rwB (nthI D.P) (nthI D.L) M1 D.I rr f t) (M1 X f t) (.agg #[.bool q0, .int .i64 q1, .int .i64 q2, .slice q3 q4 q5]) (.agg #[.bool m0, .int .i64 m1, .int .i64 m2, .slice m3 m4 m5]) wd wd.heap.size (Nat.le_refl _) hvd.rd hvm.rd)
            have HSVD := Lib.hid hsvd; have HPBD := Lib.hid hpbd; have HTBD := Lib.hid htbd; have HVD := Lib.hid hvd
            clear hsvd hpbd htbd hvd hvm wb hbd o0 o1 o2 o3 hgl HSV5 HPB5 HTB HV5 HB5
            show wpAnyS _ _ _ _ _ (1 + 11) _ _ _
            refine takeS 1 0 11 (by kernel_rfl) (by kernel_rfl) (fun _ _ d _ _ h => by cases d <;> exact h) ⟨⟨_, Below.refl _ _⟩, rfl⟩ ?_
            simp only [List.take_succ_cons, List.take_zero, List.drop_succ_cons, List.drop_zero]
            repeat (first | go_big_quiet_skip | (go_big_quiet_want; go_big_quiet_op; go_big_quiet_on))
            refine wpQuiet_nil ?_
            clear k0 k2 k3 k4 k5 k6 k7 k8 k9 k10 k11 k12 k13
            refine oneS 0 11 (by kernel_rfl) (by decide) ?_
            simp only [List.take_succ_cons, List.take_zero, List.drop_succ_cons, List.drop_zero]
            go_wp2_with fail
            refine HCB.out.mono ?_
            rintro e w6 ⟨rfl, hb6⟩
            go_wp2_with fail
            refine ⟨⟨WB.mk _ hb6, rfl⟩, ?_⟩
            refine endS (by kernel_rfl) ?_
            have hsv6 := HSVD.out.below hb6 hzd
            have hpb6 := HPBD.out.below' hb6
            have htb6 := HTBD.out.below' hb6
            have hv6 := HVD.out.below hb6
            have hB6 : B ≤ w6.heap.size := Nat.le_trans hzd hb6.size
            clear hb6 HSVD HPBD HTBD HVD HCB hzd
            by_cases hbet : betB (rwB (nthI D.P) (nthI D.L) M1 D.I rr f t) (M1 X f t) = true
            · as_aux_lemma =>
                rw [hbet]
                have hyes : stepV (nthI D.P) (nthI D.L) D.I f t k ((X : Int), rr, py) M1 = (updB M1 X f t (rwB (nthI D.P) (nthI D.L) M1 D.I rr f t), true) := stepV_yes hbet
                rw [hyes] at HPS HST
                have HSV6 := Lib.hid hsv6; have HPB6 := Lib.hid hpb6; have HTB6 := Lib.hid htb6; have HV6 := Lib.hid hv6
                clear hsv6 hpb6 htb6 hv6 hbet hyes
                go_wp2_with fail
                obtain ⟨we, hwe⟩ : ∃ we, we = w6.drew := ⟨_, rfl⟩
                have hbe : Below w6.heap.size w6 we := by rw [hwe]; exact (Below.refl _ _).drew
                refine wp_region_S (fun w' => ∃ X : KB (fun j => j = g) we, w' = X.val) (by kernel_rfl) ?_
                rw [← hwe]
                clear hwe
                have hsve := HSV6.out.below hbe hB6
                have hpbe := HPB6.out.below' hbe
                have htbe := HTB6.out.below' hbe
                have hve := HV6.out.below hbe
                have hge := hsve.c.i f t g hft.1 hft.2 HG2.out
                obtain ⟨cs', hgb, _⟩ := id hge
                obtain ⟨_, _, _, _, _, _, o0, o1, o2, o3, -⟩ := hge.at_ e2
                have u0 := hge.frozen (X * 4)
                have u1 := hge.frozen (X * 4 + 1)
                have u2 := hge.frozen (X * 4 + 2)
                have u3 := hge.frozen (X * 4 + 3)
                have hmg : m ≠ g := blk_ne hsve.m.b hgb (by decide)
                have hkg : kb ≠ g := blk_ne hsve.k hgb (by decide)
                have hpg : pb ≠ g := blk_ne hpbe hgb (by decide)
                have htg : tb ≠ g := by rintro rfl; exact absurd HTG.out (by omega)
                have hbg : bM ≠ g := (hsve.c.ne f t g hft.1 hft.2 HG2.out).1.symm
                have wb : ∀ (Y : KB (fun j => j = g) we) (q : Addr), q.block < we.heap.size → q.block ≠ g → Y.val.cell? q = we.cell? q := fun Y q h1 h2 => Y.kp.cell h1 h2
                have k0 : ∀ Y : KB (fun j => j = g) we, Y.val.cell? ⟨m, 10, none⟩ = some (.map (some bM)) := fun Y => (wb Y ⟨m, 10, none⟩ hsve.m.b.lt hmg).trans (hsve.m.b.cell (i := 10) rfl)
                have k2 : ∀ Y : KB (fun j => j = g) we, Y.val.cell? ⟨kb, 0, none⟩ = some (.int .i64 (f : Int)) := fun Y => (wb Y ⟨kb, 0, none⟩ hsve.k.lt hkg).trans (hsve.k.cell (i := 0) rfl)
                have k3 : ∀ Y : KB (fun j => j = g) we, Y.val.cell? ⟨kb, 1, none⟩ = some (.int .i64 (t : Int)) := fun Y => (wb Y ⟨kb, 1, none⟩ hsve.k.lt hkg).trans (hsve.k.cell (i := 1) rfl)
                have k4 : ∀ Y : KB (fun j => j = g) we, Y.val.cell? ⟨tb, 0, none⟩ = some (.bool q0) := fun Y => (wb Y ⟨tb, 0, none⟩ htbe.lt htg).trans (htbe.cell (i := 0) rfl)
                have k5 : ∀ Y : KB (fun j => j = g) we, Y.val.cell? ⟨tb, 1, none⟩ = some (.int .i64 q1) := fun Y => (wb Y ⟨tb, 1, none⟩ htbe.lt htg).trans (htbe.cell (i := 1) rfl)
                have k6 : ∀ Y : KB (fun j => j = g) we, Y.val.cell? ⟨tb, 2, none⟩ = some (.int .i64 q2) := fun Y => (wb Y ⟨tb, 2, none⟩ htbe.lt htg).trans (htbe.cell (i := 2) rfl)
                have k7 : ∀ Y : KB (fun j => j = g) we, Y.val.cell? ⟨tb, 3, none⟩ = some (.slice q3 q4 q5) := fun Y => (wb Y ⟨tb, 3, none⟩ htbe.lt htg).trans (htbe.cell (i := 3) rfl)
                have k8 : ∀ Y : KB (fun j => j = g) we, Y.val.cell? ⟨pb, 0, none⟩ = some (.int .i64 (X : Int)) := fun Y => (wb Y ⟨pb, 0, none⟩ hpbe.lt hpg).trans (hpbe.cell (i := 0) rfl)
                have k13 : ∀ Y : KB (fun j => j = g) we, (Instr.lookup 46 (.map (some bM)) (.agg #[.int .i64 (f : Int), .int .i64 (t : Int)]) false).run Tryd.prog Y.val = .ok (.slice (some ⟨g, 0, none⟩) N N) Y.val := fun Y => by
                  have h := hsve.c.look2 (w' := Y.val) (Y.kp.block bM hsve.c.lt hbg) hft.1 hft.2
                  rw [HG2.out] at h
                  exact h
                have HP := Lib.hid (hsve.put4 hft.1 hft.2 HG2.out e2 hve)
                have HKP : Hid (Kp (fun j => j = g) we ((((we.setCell ⟨g, X * 4, none⟩ (.bool q0)).setCell ⟨g, X * 4 + 1, none⟩ (.int .i64 q1)).setCell ⟨g, X * 4 + 2, none⟩ (.int .i64 q2)).setCell ⟨g, X * 4 + 3, none⟩ (.slice q3 q4 q5))) := Lib.hid (((((Kp.refl (fun j => j = g) we).set_ (p := ⟨g, X * 4, none⟩) (.inr rfl) _).set_ (p := ⟨g, X * 4 + 1, none⟩) (.inr rfl) _).set_ (p := ⟨g, X * 4 + 2, none⟩) (.inr rfl) _).set_ (p := ⟨g, X * 4 + 3, none⟩) (.inr rfl) _)
                clear hsve hpbe htbe hve hge hgb wb hbe hmg hkg hpg htg hbg HSV6 HPB6 HTB6 HV6
                show wpAnyS _ _ _ _ _ (2 + 10) _ _ _
                refine takeS 2 0 10 (by kernel_rfl) (by kernel_rfl) (fun _ _ d _ _ h => by cases d <;> exact h) ⟨⟨_, Kp.refl _ _⟩, rfl⟩ ?_
                simp only [List.take_succ_cons, List.take_zero, List.drop_succ_cons, List.drop_zero]
                repeat (first | go_big_quiet_skip | (go_big_quiet_want; go_big_quiet_op; go_big_quiet_on))
                refine wpQuiet_nil ?_
                clear k0 k2 k3 k4 k5 k6 k7 k8 k13
                refine oneS 1 10 (by kernel_rfl) (by decide) ?_
                simp only [List.take_succ_cons, List.take_zero, List.drop_succ_cons, List.drop_zero]
                go_wp2_with fail
                refine ⟨⟨KB.mk _ HKP.out, rfl⟩, ?_⟩
                refine oneS 0 11 (by kernel_rfl) (by decide) ?_
                simp only [List.take_succ_cons, List.take_zero, List.drop_succ_cons, List.drop_zero]
                go_wp2_with fail
                refine ⟨⟨KB.mk _ HKP.out, rfl⟩, ?_⟩
                refine endS (by kernel_rfl) ?_
                go_wp2_with fail
                go_roundw
                case rel =>
                  refine ⟨k + 1, true, by omega, by go_num, rfl, ?_, ?_⟩
                  · show true = _; rw [HPS.out]; simp only [Bool.or_true]
                  · rw [HPS.out]; exact ⟨HP.out, HST.out.1⟩
                case measure => simp [intOf]; omega
            · as_aux_lemma =>
                have hbf : betB (rwB (nthI D.P) (nthI D.L) M1 D.I rr f t) (M1 X f t) = false := by simpa using hbet
                rw [hbf]
                have hno : stepV (nthI D.P) (nthI D.L) D.I f t k ((X : Int), rr, py) M1 = (M1, false) := stepV_no hbf
                rw [hno] at HPS
                have HSV6 := Lib.hid hsv6
                clear hsv6 hpb6 htb6 hv6 hbet hbf hno
                go_wp2_with fail
                go_roundw
                case rel =>
                  refine ⟨k + 1, b, by omega, by go_num, rfl, ?_, ?_⟩
                  · show b = _; rw [HPS.out]; simp only [Bool.or_false]; exact HB.out
                  · rw [HPS.out]; exact ⟨HSV6.out, HQR.out⟩
                case measure => simp [intOf]; omega
        · have he : G.prods.take k = G.prods := List.take_of_length_le (by rw [HNPL.out]; omega)
          have hlow := pass_lowers (step := stepV (nthI D.P) (nthI D.L) D.I f t) (μ := fun M => muV wB N M f t) (Q := fun M1 => SolI (nthI D.P) (nthI D.L) D.I f t G.prods N M (M1)) stepV_same G.prods 0 y (fun k p z hp hz => by rw [Nat.zero_add]; exact HSTEP.out k p z (List.mem_of_getElem? hp) hz) HQY.out
          rw [he] at HB HR
          have HHB := Lib.hid HB.out
          clear HB he
          have HLOW := Lib.hid hlow; clear hlow
          cases b
          · go_wp2
            go_roundg 0
            case measure => rw [HGK.out]; simp
            case rel =>
              refine ⟨r + 1, false, rfl, rfl, ?_, fun _ => ?_⟩
              · show Hid _; rw [rounds, ← HY.out]; exact HR
              · rw [rounds, ← HY.out, pass_same stepV_same G.prods 0 y HHB.out.symm]; exact HHB.out.symm
          · have hμ := HLOW.out.2 HHB.out.symm
            have HM := Lib.hid hμ; clear hμ
            go_wp2
            go_roundg (muV wB N (passF (stepV (nthI D.P) (nthI D.L) D.I f t) 0 G.prods y).1 f t + 1)
            case measure => rw [HGK.out]; simp; exact HM.out
            case rel =>
              refine ⟨r + 1, true, rfl, ?_, ?_, fun h => by cases h⟩
              · rw [rounds, ← HY.out]; rfl
              · show Hid _; rw [rounds, ← HY.out]; exact HR
end Go.Proofs.YtklhjaohnimmnaaDoor
