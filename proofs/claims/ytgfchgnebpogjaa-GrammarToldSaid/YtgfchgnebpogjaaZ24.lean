/- grammar.Loops. -/
import Derived.Test.YtgfchgnebpogjaaZ18
import Derived.Test.YtgfchgnebpogjaaZ23
namespace Go.Proofs.Ytgfchgnebpogjaa
open Go.RowKit BigFrame
set_option linter.unusedVariables false
set_option linter.unusedSimpArgs false
set_option maxRecDepth 100000

theorem LoopsT_bad (G : Gr) (Ap Al As : Option Addr) (np cp nl cl ns cs : Nat) (w : World) (B : Nat) (hB : B ≤ w.heap.size) (hG : GrIn w B G Ap Al As np cp nl cl ns cs) (hk : okB G = false) :
    Calls Try.prog 24 #[.agg #[.int .i64 G.terms, .int .i64 G.names, .int .i64 G.start, .slice Ap np cp, .slice Al nl cl, .slice As ns cs]] w fun e w' => e = .returned (.slice none 0 0) ∧ Below w.heap.size w w' := by
  obtain ⟨hb0, hs0, gb⟩ := gbox w G Ap Al As np cp nl cl ns cs
  obtain ⟨hp1, hp2⟩ := hG.p.len
  have hl3 := hG.lm; have hl4 := hG.sm
  have hcall := ok_any G Ap Al As np cp nl cl ns cs (w.alloc (.cells #[.int .i64 G.terms, .int .i64 G.names, .int .i64 G.start, .slice Ap np cp, .slice Al nl cl, .slice As ns cs] 30)) B (Nat.le_trans hB hb0.size) (hG.below (hb0.mono hB))
  rw [hk, hs0] at hcall
  have HC := Lib.hid hcall; have HB0 := Lib.hid hb0
  unfold maxLen at hp2 hl3 hl4
  clear hcall gb hG hk hp1 hb0 hs0
  go_enter Try.func24, Try.ntmps24
  go_wp2_with (go_at_call 18; refine HC.out.mono ?_; rintro e w' ⟨rfl, hb⟩)
  go_ret
  exact ⟨rfl, HB0.out.trans (hb.mono (Nat.le_succ _))⟩

/-- All blocks of cells lie as they lay. -/
def Cl (W W' : World) : Prop := ∀ (k : Nat) cs e f, W.heap[k]? = some (.cells cs e f) → W'.heap[k]? = some (.cells cs e f)
theorem Cl.refl (W : World) : Cl W W := fun _ _ _ _ h => h
theorem Cl.trans {A C D : World} (h : Cl A C) (k : Cl C D) : Cl A D := fun i cs e f q => k i cs e f (h i cs e f q)
theorem Cl.below {W W' : World} (h : Below W.heap.size W W') : Cl W W' := fun k cs e f q => (h.block k (Array.getElem?_eq_some_iff.1 q).1).trans q
theorem Cl.grown {W W' : World} {b n : Nat} {P : Program} {k : TypeId} {R : Value → Option (DataW Unit × List MemPlace)} {D : DataW Unit} (ho : W.ownsMap P k R b n D) (h : W.grownBy W' (some b)) : Cl W W' := fun i cs e f q =>
  (h.block i (Array.getElem?_eq_some_iff.1 q).1 (fun e2 => by
    cases e2
    obtain ⟨es, clock, hb, _⟩ := ho
    rw [hb] at q; cases q)).trans q
theorem rdI_take {w : World} {B b off k : Nat} {r : List Int} (h : RdI w B (some ⟨b, off, none⟩) r) : RdI w B (some ⟨b, off, none⟩) (r.take k) := fun hne => by
  have hr : iv r ≠ [] := fun e => by
    have : r = [] := by simpa [iv] using e
    subst this; simp at hne
  obtain ⟨b', off', e, hb, hc⟩ := h hr
  refine ⟨b', off', e, hb, fun j u hu => hc j u ?_⟩
  rw [List.map_take, List.getElem?_take] at hu
  split at hu
  · exact hu
  · cases hu
theorem rdI_drop {w : World} {B b off k : Nat} {r : List Int} (h : RdI w B (some ⟨b, off, none⟩) r) : RdI w B (some ⟨b, off + k, none⟩) (r.drop k) := fun hne => by
  have hr : iv r ≠ [] := fun e => by
    have : r = [] := by simpa [iv] using e
    subst this; simp at hne
  obtain ⟨b', off', e, hb, hc⟩ := h hr
  cases e
  refine ⟨b, off + k, rfl, hb, fun j u hu => ?_⟩
  rw [List.map_drop, List.getElem?_drop] at hu
  rw [Nat.add_assoc]
  exact hc _ u hu

/-- A row of the call's own lies in a block of cells. -/
theorem own_cells {w : World} {base : Nat} {e : TypeId} {size n : Nat} {v : Value} {xs : List Value} (h : w.ownsRow base e size v n xs) : ∀ k, v.ownBlock = some k → ∃ cs t f, w.heap[k]? = some (.cells cs t f) := fun k hk => by
  rcases h.2 with ⟨rfl, _⟩ | ⟨g, cap, cur, rfl, _, hg, _⟩
  · cases hk
  · cases hk; exact ⟨_, _, _, hg⟩
theorem DfS.re {E : Nat → Nat → Prop} {N n m a : Nat} {seen : List Bool} {todo : List Int} {dn dn' : Nat → Prop} (h : DfS E N n seen todo (some a) dn m) (hd : ∀ b, E a b → dn' b → dn b) : DfS E N n seen todo (some a) dn' m :=
  ⟨h.len, h.snd, h.wt, h.xs, fun c d h1 h2 h3 => (h.cl c d h1 h2 h3).imp id (fun ⟨q1, q2⟩ => ⟨q1, fun e => q2 (hd d (by cases q1; exact h3) e)⟩), h.mu⟩
/-- What a round of the search finds in memory. -/
structure DfW (W9 wr : World) (gs base : Nat) (seen : List Bool) (v : Value) (l : List Int) : Prop where
  fb : Below gs W9 wr
  fx : Blk wr gs 4 (bv seen)
  fo : wr.ownsRow base 3 1 v l.length (iv l)
  fs : base ≤ wr.heap.size
section
variable {W9 wr w' : World} {gs base : Nat} {seen : List Bool} {v v' : Value} {l l' : List Int}
theorem DfW.below (h : DfW W9 wr gs base seen v l) (hb : Below wr.heap.size wr w') (hg : gs ≤ base) : DfW W9 w' gs base seen v l :=
  ⟨h.fb.trans (hb.mono (by have := h.fs; omega)), h.fx.below' hb, own_ext h.fo hb, Nat.le_trans h.fs hb.size⟩
theorem DfW.setx (h : DfW W9 wr gs base seen v l) (hg : gs < base) (k : Nat) (b : Bool) : DfW W9 (wr.setCell ⟨gs, k, none⟩ (.bool b)) gs base (seen.set k b) v l :=
  ⟨h.fb.setCell (Nat.le_refl _) _, h.fx.bset k b, ownsRow_setCell_below h.fo (a := ⟨gs, k, none⟩) hg _, by rw [setCell_size]; exact h.fs⟩
theorem DfW.app (h : DfW W9 wr gs base seen v l) (hg : wr.grownBy w' v.ownBlock) (ho : w'.ownsRow base 3 1 v' l'.length (iv l')) (hgb : gs < base) : DfW W9 w' gs base seen v' l' := by
  have hne : ∀ k, k < base → some k ≠ v.ownBlock := fun k hk e => by have := (h.fo.lt k e.symm).1; omega
  have hfs := h.fs
  exact ⟨h.fb.grown hg (by omega) (fun k e => by have := (h.fo.lt k e).1; omega), h.fx.grown hg (hne _ hgb), ho, Nat.le_trans h.fs hg.size⟩
theorem DfW.grown (h : DfW W9 wr gs base seen v l) {r : Nat} (hg : wr.grownBy w' (some r)) (hr : ∃ o : Obj, wr.heap[r]? = some o ∧ o.isCells = false) (hgb : gs < base) (hrb : base ≤ r) : DfW W9 w' gs base seen v l := by
  obtain ⟨o, ho, hc⟩ := hr
  have hfs := h.fs
  refine ⟨h.fb.grown hg (by omega) (fun k e => by cases e; omega), h.fx.grown hg (by simp; omega), h.fo.kept hg (.inr fun e => ?_), Nat.le_trans h.fs hg.size⟩
  obtain ⟨cs, t, f, hh⟩ := own_cells h.fo r e
  rw [ho] at hh; cases hh; cases hc
theorem ranges_app {P : Program} {k : TypeId} {R : Value → Option (DataW Unit × List MemPlace)} {b r n cnt : Nat} {D : DataW Unit} {left : Lit → Bool} (h : wr.ranges P k R b r n D left cnt) (hw : DfW W9 wr gs base seen v l) (hg : wr.grownBy w' v.ownBlock) : w'.ranges P k R b r n D left cnt := by
  have h2 := h
  obtain ⟨es, clock, since, sn, c0, hb, _, _, _, hr, _⟩ := h2
  refine h.kept hg (fun e => ?_) (fun e => ?_)
  · obtain ⟨cs, t, f, hh⟩ := own_cells hw.fo _ e.symm
    rw [hb] at hh; cases hh
  · obtain ⟨cs, t, f, hh⟩ := own_cells hw.fo _ e.symm
    rw [hr] at hh; cases hh
theorem ranges_set {P : Program} {k : TypeId} {R : Value → Option (DataW Unit × List MemPlace)} {b r n cnt : Nat} {D : DataW Unit} {left : Lit → Bool} (h : wr.ranges P k R b r n D left cnt) (hw : DfW W9 wr gs base seen v l) (i : Nat) (u : Value) : (wr.setCell ⟨gs, i, none⟩ u).ranges P k R b r n D left cnt := by
  have h2 := h
  obtain ⟨es, clock, since, sn, c0, hb, _, _, _, hr, _⟩ := h2
  have hg : wr.grownBy (wr.setCell ⟨gs, i, none⟩ u) (some gs) := ⟨rfl, rfl, rfl, by rw [setCell_size]; exact Nat.le_refl _, fun k _ hk => Below.heap_setCell _ _ _ k (fun e => hk (by rw [e]))⟩
  have hx := hw.fx
  unfold Blk at hx
  refine h.kept hg (fun e => ?_) (fun e => ?_)
  · cases e; rw [hx] at hb; cases hb
  · cases e; rw [hx] at hr; cases hr
theorem ranges_walk {P : Program} {k : TypeId} {R : Value → Option (DataW Unit × List MemPlace)} {b r n cnt : Nat} {D : DataW Unit} {left : Lit → Bool} (h : wr.ranges P k R b r n D left cnt) : ∃ o : Obj, wr.heap[r]? = some o ∧ o.isCells = false := by
  obtain ⟨es, clock, since, sn, c0, hb, _, _, _, hr, _⟩ := h
  exact ⟨_, hr, rfl⟩
end

def loP (n0 N : Nat) (LV EM : List Bool) : Nat → World → Value → Prop
  | 0 => fun w v => ∃ g, v = .slice (some ⟨g, 0, none⟩) N N ∧ n0 < g ∧ Blk w g 4 (bv LV)
  | _ => fun w v => ∃ g, v = .slice (some ⟨g, 0, none⟩) N N ∧ n0 < g ∧ Blk w g 4 (bv EM)
def loInv (W0 : World) (n0 N : Nat) (gv : Value) (LV EM : List Bool) (listed : Array Bool) (a : Act) (w : World) : Prop :=
  ∃ (la lb lc ld : Nat → Bool) (l5 : Bool) (lo hi b : Nat → Nat) (s3 : Value) (sl sr sv : Nat → Value),
    listed = #[la 0, lb 0, la 1, lb 1, lc 1, l5, ld 1] ∧
    a = ⟨#[gv, .pointer (some ⟨n0, 0, none⟩), .slice none 0 0, s3, sv 1, undef, undef, undef, undef, undef, undef, undef, undef, undef, undef, undef, undef, gv, .bool true, .bool false, sl 0, sr 0, sl 1, sr 1, undef, undef, undef, undef, undef, undef, undef, undef, undef, undef, undef, undef, undef, undef, undef, undef, undef, undef, undef, undef, undef, undef, undef, undef, undef, undef, undef, undef, undef, undef, undef, undef, undef, undef, undef, undef, undef, undef, undef, undef, undef, undef, undef, undef, undef, undef, undef, undef, undef, undef, undef, undef, undef, undef, undef, undef, undef, undef, undef, undef, undef, undef, undef, undef, undef, undef, undef, undef, undef, undef, undef, undef, undef, undef, undef, undef, undef, undef, undef, undef, undef, undef, undef, undef, undef, undef, undef, undef, undef, undef, undef, undef, undef, undef, undef, undef, undef, undef, undef, undef, undef, undef, undef, undef, undef, undef, undef, undef, undef, undef, undef, undef], []⟩ ∧
    (l5 = true → lb 0 = true ∧ s3 = sr 0) ∧ Tri 2 (fun _ => 38) (fun _ => .slice none 0 0) (loP n0 N LV EM) W0 n0 gv la lb lc ld lo hi b sl sr sv w

set_option maxHeartbeats 4000000 in
theorem LoopsT_good (G : Gr) (Ap Al As : Option Addr) (np cp nl cl ns cs : Nat) (w : World) (B N : Nat) (hB : B ≤ w.heap.size) (hG : GrIn w B G Ap Al As np cp nl cl ns cs) (hk : GOk G) (hN : G.names = N) :
    Calls Try.prog 24 #[.agg #[.int .i64 G.terms, .int .i64 G.names, .int .i64 G.start, .slice Ap np cp, .slice Al nl cl, .slice As ns cs]] w fun e w' => ∃ g l, e = .returned (.slice (some ⟨g, 0, none⟩) N N) ∧ w.heap.size ≤ g ∧ Blk w' g 4 (bv l) ∧ l.length = N ∧
      (∀ n, n < N → (bth l n = true ↔ Pth (Ed (rounds (stepG livS) G.prods N (b0 N)) (rounds (stepG empS) G.prods N (b0 N)) G.prods) n n)) ∧ Below w.heap.size w w' := by
  obtain ⟨hb0, hs0, gb⟩ := gbox w G Ap Al As np cp nl cl ns cs
  obtain ⟨hp1, hp2⟩ := hG.p.len
  have hl3 := hG.lm; have hl4 := hG.sm
  have hcall := ok_any G Ap Al As np cp nl cl ns cs (w.alloc (.cells #[.int .i64 G.terms, .int .i64 G.names, .int .i64 G.start, .slice Ap np cp, .slice Al nl cl, .slice As ns cs] 30)) B (Nat.le_trans hB hb0.size) (hG.below (hb0.mono hB))
  rw [okB_t hk, hs0] at hcall
  have HC := Lib.hid hcall; have HB0 := Lib.hid hb0; have HGB := Lib.hid gb; have HG := Lib.hid (hG.below (hb0.mono hB))
  have hn0 := hk.n0; have hn1 := hk.n1; have hp4 := hk.p; have ht1 := hk.t1
  have hNN : N ≤ 300 := by omega
  have hN0 : 0 < N := by omega
  have hnp : np ≤ 400 := by omega
  have HK := Lib.hid hk; have HN := Lib.hid hN; have HP1 := Lib.hid hp1
  have HFIT := Lib.hid (fun p (hp : p ∈ G.prods) => prFitg hk hp hN)
  unfold maxLen at hp2 hl3 hl4
  have hs0 : (w.alloc (.cells #[.int .i64 G.terms, .int .i64 G.names, .int .i64 G.start, .slice Ap np cp, .slice Al nl cl, .slice As ns cs] 30)).heap.size = w.heap.size + 1 := by simp
  clear hcall gb hG hp1 hb0 hk hN
  obtain ⟨LV, hLV⟩ : ∃ LV, LV = rounds (stepG livS) G.prods N (b0 N) := ⟨_, rfl⟩
  obtain ⟨EM, hEM⟩ : ∃ EM, EM = rounds (stepG empS) G.prods N (b0 N) := ⟨_, rfl⟩
  rw [← hLV, ← hEM]
  have hLVl : LV.length = N := by rw [hLV]; exact growN_len N
  have hEMl : EM.length = N := by rw [hEM]; exact growN_len N
  have HLVE := Lib.hid hLV; have HEME := Lib.hid hEM
  clear hLV hEM
  go_enter Try.func24, Try.ntmps24
  go_wp2_with fail
  generalize w.alloc (.cells #[.int .i64 G.terms, .int .i64 G.names, .int .i64 G.start, .slice Ap np cp, .slice Al nl cl, .slice As ns cs] 30) = W0 at *
  refine HC.out.mono ?_
  rintro e w1 ⟨rfl, hb1⟩
  obtain ⟨c0, c1, c2, c3, c4, c5⟩ := HGB.out.below hb1 (Nat.lt_succ_self _)
  have hs1 := hb1.size
  have hlv : ∀ W, Below (w.heap.size + 1) W0 W → Calls Try.prog 19 #[.agg #[.int .i64 G.terms, .int .i64 G.names, .int .i64 G.start, .slice Ap np cp, .slice Al nl cl, .slice As ns cs]] W fun e w' => ∃ g, e = .returned (.slice (some ⟨g, 0, none⟩) N N) ∧ W.heap.size ≤ g ∧ Blk w' g 4 (bv LV) ∧ Below W.heap.size W w' :=
    fun W h => by rw [HLVE.out]; exact LivesT_good G Ap Al As np cp nl cl ns cs W B N (by have := h.size; omega) (HG.out.below (h.mono (by omega))) HK.out HN.out
  have hem : ∀ W, Below (w.heap.size + 1) W0 W → Calls Try.prog 23 #[.agg #[.int .i64 G.terms, .int .i64 G.names, .int .i64 G.start, .slice Ap np cp, .slice Al nl cl, .slice As ns cs]] W fun e w' => ∃ g, e = .returned (.slice (some ⟨g, 0, none⟩) N N) ∧ W.heap.size ≤ g ∧ Blk w' g 4 (bv EM) ∧ Below W.heap.size W w' :=
    fun W h => by rw [HEME.out]; exact EmptyT_good G Ap Al As np cp nl cl ns cs W B N (by have := h.size; omega) (HG.out.below (h.mono (by omega))) HK.out HN.out
  have HLV := Lib.hid hlv; have HEM := Lib.hid hem
  have hz0 : w.heap.size < W0.heap.size := by omega
  have HBB := Lib.hid hb1
  clear hlv hem HC hb1
  go_wp2_with fail
  clear c0 c1 c2 c3 c4 c5
  refine wp_region_inv (by kernel_rfl) (loInv W0 w.heap.size N (.agg #[.int .i64 G.terms, .int .i64 G.names, .int .i64 G.start, .slice Ap np cp, .slice Al nl cl, .slice As ns cs]) LV EM) (by kernel_rfl) ?_ ?_ ?_ ?_
  · rintro l a w' ⟨la, lb, lc, ld, l5, lo, hi, b, s3, sl, sr, sv, rfl, _⟩
    rfl
  · rintro l a w' ⟨la, lb, lc, ld, l5, lo, hi, b, s3, sl, sr, sv, rfl, rfl, h5, hC⟩ hall
    have q1 : lb 0 = true := hall 1 (by decide)
    have q3 : lb 1 = true := hall 3 (by decide)
    have q4 : lc 1 = true := hall 4 (by decide)
    have q5 : l5 = true := hall 5 (by decide)
    have q6 : ld 1 = true := hall 6 (by decide)
    clear hall
    obtain ⟨gl, e0, hgl, hbl⟩ := (hC.ib 0 (by omega) q1).1.now
    obtain ⟨ge, e1, hge, hbe⟩ := (hC.ib 1 (by omega) q3).1.now
    obtain ⟨f0, f1, f2⟩ := hC.ic 1 (by omega) q4
    rw [q6, if_pos rfl] at f2
    rw [(h5 q5).2, f0, e0, e1]
    rw [e1] at f2
    have hb := hC.hb
    generalize b 1 = ve at *
    generalize sl 0 = sl0 at *
    generalize sl 1 = sl1 at *
    clear hC q1 q3 q4 q5 q6 e0 e1 f0 h5
    have HB := Lib.hid hb; have F2 := Lib.hid f2; have HBE := Lib.hid hbe; have HBL := Lib.hid hbl
    clear hb f2 hbe hbl
    obtain ⟨c0, c1, c2, c3, c4, c5⟩ := HGB.out.below HB.out (Nat.lt_succ_self _)
    have hmm := @run_makeMap Try.prog
    have hwz : w.heap.size < w'.heap.size := by have := HB.out.size; omega
    go_wp2_with fail
    clear hmm
    have hb3 : Below w'.heap.size w' (w'.alloc (.map #[] 0)) := (Below.refl _ _).alloc (Nat.le_refl _) _
    have hT0 : ToSt (w'.alloc (.map #[] 0)) w'.heap.size N 0 w'.heap.size (fun _ => none) (fun _ _ => False) :=
      ⟨⟨.map [], World.ownsMap_made _ _ _ _, fun _ _ => rfl⟩, fun a g _ e => (by cases e), fun _ _ _ _ e => e, fun _ _ _ _ _ e => (by cases e), fun _ _ _ e => (by cases e), Nat.le_refl _⟩
    have hs3 : (w'.alloc (.map #[] 0)).heap.size = w'.heap.size + 1 := by simp
    obtain ⟨bM, hbM⟩ : ∃ bM, bM = w'.heap.size := ⟨_, rfl⟩
    rw [← hbM] at hb3 hT0 hs3 ⊢
    have HB3 := Lib.hid (HB.out.trans (hb3.mono (by omega)))
    have HL3 := Lib.hid (HBL.out.below hb3 (by have := HBL.out.lt; omega)); have HE3 := Lib.hid (HBE.out.below hb3 (by have := HBE.out.lt; omega)); have HV3 := Lib.hid (F2.out.below hb3 (by have := F2.out.lt; omega))
    have hglb : gl < bM := by have := HBL.out.lt; omega
    have hgeb : ge < bM := by have := HBE.out.lt; omega
    have hveb : ve < bM := by have := F2.out.lt; omega
    have hnb : w.heap.size < bM := by omega
    clear HB HBL HBE F2 hb3
    generalize w'.alloc (.map #[] 0) = W3 at *
    have HT0 := Lib.hid hT0
    have HBG : Hid (B ≤ bM) := Lib.hid (by omega)
    clear hT0 hbM c0 c1 c2 c3 c4 c5 hwz
    go_loopw [28] (fun i wr => ∃ m : Nat, m ≤ np ∧ i = .int .i64 m ∧ Below bM W3 wr ∧ ∃ β, Hid (ToSt wr bM N (50 * m) bM β (Ed LV EM (G.prods.take m)))) (fun i _ => np - (intOf i).toNat)
    case atStart => exact ⟨0, Nat.zero_le _, rfl, Below.refl _ _, _, HT0.out.congr (fun a b _ => ⟨fun e => e.elim, fun e => absurd e Ed.none⟩)⟩
    case round =>
      as_aux_lemma =>
        clear HT0
        obtain ⟨m, hm, rfl, hbw, β, HT⟩ := hrel
        have hsz := hbw.size
        obtain ⟨c0, c1, c2, c3, c4, c5⟩ := HGB.out.below (HB3.out.trans (hbw.mono (by omega))) (Nat.lt_succ_self _)
        by_cases hlt : m < np
        · as_aux_lemma =>
            have hpm : G.prods[m]? = some (G.prods[m]'(by rw [HP1.out]; exact hlt)) := List.getElem?_eq_getElem _
            generalize G.prods[m]'(by rw [HP1.out]; exact hlt) = p at hpm
            obtain ⟨px, r, py⟩ := p
            have HPM := Lib.hid hpm
            obtain ⟨hf0, hf1, hf2⟩ := HFIT.out _ (mem_of_get hpm)
            simp only at hf0 hf1 hf2
            obtain ⟨t, rfl⟩ := Int.eq_ofNat_of_zero_le hf0
            rw [Int.toNat_natCast] at hf1
            have hGP := HG.out.below ((HB3.out.trans (hbw.mono (by omega))).mono (by omega : B ≤ w.heap.size + 1))
            obtain ⟨b, off, rfl, hb, hc⟩ := hGP.p.at_ (by omega)
            obtain ⟨px', r', py', A', n', c', hq, z0, z1, z2, g1, g2, g3, g4⟩ := hc m hlt
            rw [hpm] at hq
            simp only [Option.some.injEq, Prod.mk.injEq] at hq
            obtain ⟨rfl, rfl, rfl⟩ := hq
            have hrr := (HK.out.pr _ (mem_of_get hpm)).r
            simp only at hrr
            have hn20 : n' ≤ 20 := by omega
            have hsT : ∀ s ∈ r, s ≤ 1000 := fun s hs => by have := ((HK.out.pr _ (mem_of_get hpm)).s s hs).2; omega
            have HR := Lib.hid g1; have HF2 := Lib.hid hf2; have HST := Lib.hid hsT
            have hps := fun a b => Ed.snoc (LV := LV) (EM := EM) (a := a) (b := b) hpm
            have HPS := Lib.hid hps
            have hb5 : Below wr.heap.size wr (wr.alloc (.cells #[.int .i64 (t : Int), .slice A' n' c', .int .i64 py] 50)) := (Below.refl _ _).alloc (Nat.le_refl _) _
            have hs5 : (wr.alloc (.cells #[.int .i64 (t : Int), .slice A' n' c', .int .i64 py] 50)).heap.size = wr.heap.size + 1 := by simp
            have hbox := Blk.new wr 50 [.int .i64 (t : Int), .slice A' n' c', .int .i64 py]
            have hr5 := RdI.below g4 (hb5.mono (by omega : B ≤ wr.heap.size))
            have hwh := whole_any (t : Int) r py A' n' c' gl N LV (wr.alloc (.cells #[.int .i64 (t : Int), .slice A' n' c', .int .i64 py] 50)) B (by omega) hNN hr5 g1 (by unfold maxLen at g3 ⊢; omega) ((HL3.out.below hbw hglb).below hb5 (by omega)) hLVl hf2
            have HWH := Lib.hid hwh; have HR5 := Lib.hid hr5; have HBX := Lib.hid hbox; have HB5 := Lib.hid (hbw.trans (hb5.mono (by omega))); have HT5 := Lib.hid (HT.out.below hb5)
            unfold maxLen at g3
            clear hpm hc g1 g4 hf2 hf0 hGP hps hsT hrr hbox hr5 hwh hb5 HT
            obtain ⟨ok, hok⟩ : ∃ ok, ok = r.all (livS LV) := ⟨_, rfl⟩
            rw [← hok] at HWH
            have HOK := Lib.hid hok; clear hok
            obtain ⟨gp, hgp⟩ : ∃ gp, gp = wr.heap.size := ⟨_, rfl⟩
            have hgpb : bM < gp := by omega
            go_upto_region 8 with (fail)
            rw [← hgp] at HBX hs5 ⊢
            generalize wr.alloc (.cells #[.int .i64 (t : Int), .slice A' n' c', .int .i64 py] 50) = W5 at *
            have hbx : Blk W5 gp 50 [.int .i64 (t : Int), .slice A' n' c', .int .i64 py] := HBX.out
            have y0 := hbx.cell (i := 0) rfl; have y1 := hbx.cell (i := 1) rfl; have y2 := hbx.cell (i := 2) rfl
            clear hgp z0 z1 z2 c0 c1 c2 c3 c4 c5 hbw hbx
            go_wp2_with fail
            refine HWH.out.mono ?_
            rintro e w6 ⟨rfl, hb6⟩
            have hs6 := hb6.size
            have HB6 := Lib.hid (HB5.out.trans (hb6.mono (by omega))); have HT6 := Lib.hid (HT5.out.below hb6); have HBX6 := Lib.hid (HBX.out.below hb6 (by omega))
            have HR6 := Lib.hid (HR5.out.below (hb6.mono (by have := HBG.out; omega)))
            clear hb6 HWH HB5 HT5 HBX HR5 y0 y1 y2
            cases ok
            · as_aux_lemma =>
                have HT7 : Hid (ToSt w6 bM N (50 * (m + 1)) bM β (Ed LV EM (G.prods.take (m + 1)))) := Lib.hid ((HT6.out.mono (by omega)).congr (fun a b _ => by
                  rw [HPS.out a b]
                  exact ⟨.inl, fun q => q.elim id (fun q => absurd q (EdK.dead HOK.out.symm))⟩))
                clear HT6
                go_wp2_with fail
                go_roundw
                case rel => exact ⟨m + 1, by omega, by go_num, HB6.out, β, HT7.out⟩
                case measure => simp [intOf]; omega
            · as_aux_lemma =>
                have y0 := HBX6.out.cell (i := 0) rfl; have y1 := HBX6.out.cell (i := 1) rfl; have y2 := HBX6.out.cell (i := 2) rfl
                go_wp2_with fail
                clear y0 y1 y2
                go_loopw [39] (fun i wr' => ∃ k : Nat, k ≤ n' ∧ i = .int .i64 k ∧ Hid (Below bM w6 wr' ∧ Cl w6 wr') ∧ ∃ β, Hid (ToSt wr' bM N (50 * m + 2 * k) bM β (fun a b => Ed LV EM (G.prods.take m) a b ∨ EdK LV EM ((t : Int), r, py) k a b))) (fun i _ => n' - (intOf i).toNat)
                case atStart => exact ⟨0, Nat.zero_le _, rfl, ⟨Below.refl _ _, Cl.refl _⟩, β, HT6.out.congr (fun a b _ => ⟨.inl, fun q => q.elim id (fun q => absurd q EdK.zero)⟩)⟩
                case round =>
                  as_aux_lemma =>
                    clear HT6
                    obtain ⟨k, hk, rfl, HW, β, HT⟩ := hrel
                    have hwsz := HW.out.1.size
                    have hbx : Blk wr gp 50 [.int .i64 (t : Int), .slice A' n' c', .int .i64 py] := HW.out.2 _ _ _ _ HBX6.out
                    have y0 := hbx.cell (i := 0) rfl; have y1 := hbx.cell (i := 1) rfl; have y2 := hbx.cell (i := 2) rfl
                    have lgp := hbx.lt
                    by_cases hkn : k < n'
                    · as_aux_lemma =>
                        have hri : RdI wr B A' r := HR6.out.below (HW.out.1.mono HBG.out)
                        obtain ⟨b', off', rfl, hb', zrs⟩ := hri.at_ (by rw [HR.out]; omega)
                        have zr := zrs k (by rw [HR.out]; exact hkn)
                        have HRI := Lib.hid hri
                        have hmem := mem_nth (l := r) (k := k) (by rw [HR.out]; exact hkn)
                        have hEs := fun a b => EdK.succ (LV := LV) (EM := EM) (p := ((t : Int), r, py)) (K := k) (a := a) (b := b) HOK.out.symm (by show k < r.length; rw [HR.out]; exact hkn)
                        have HES := Lib.hid hEs
                        have hs2 := HF2.out _ hmem
                        clear hri zrs hmem hEs
                        obtain ⟨s, hs⟩ : ∃ s, s = nth r k := ⟨_, rfl⟩
                        rw [← hs] at zr hs2
                        have HS := Lib.hid hs; clear hs
                        by_cases h0 : 0 ≤ s
                        · as_aux_lemma =>
                            have d1 : decide (0 ≤ s) = true := decide_eq_true h0
                            have HT2 : Hid (ToSt wr bM N (50 * m + 2 * (k + 1)) bM β (fun a b => Ed LV EM (G.prods.take m) a b ∨ EdK LV EM ((t : Int), r, py) (k + 1) a b)) := Lib.hid ((HT.out.mono (by omega)).congr (fun a b _ => by
                              rw [HES.out a b]
                              show _ ↔ _ ∨ (_ ∨ (nth r k < 0 ∧ _))
                              rw [← HS.out]
                              exact ⟨fun q => q.imp id .inl, fun q => q.imp id (fun q => q.elim id (fun q => by omega))⟩))
                            clear HT y0 y2
                            go_wp2_with fail
                            go_roundw
                            case rel => exact ⟨k + 1, by omega, by go_num, HW, β, HT2.out⟩
                            case measure => simp [intOf]; omega
                        · as_aux_lemma =>
                            have d1 : decide (0 ≤ s) = false := decide_eq_false h0
                            have hx := hs2 (by omega)
                            obtain ⟨x, hx1⟩ : ∃ x : Nat, x = (-1 - s).toNat := ⟨_, rfl⟩
                            rw [← hx1] at hx
                            have hxs : -1 - s = (x : Int) := by omega
                            have HX1 := Lib.hid hx1
                            clear hx1 hs2
                            go_wp2_with fail
                            refine wp_region_still_tail 9 (by kernel_rfl) (by kernel_rfl) ?_
                            simp only [List.take_succ_cons, List.take_zero, List.drop_succ_cons, List.drop_zero]
                            change wpStill _ _ wr.drew (fun a' => wpList _ _ _ _ a' wr.drew) _ _
                            have hdr : Below wr.heap.size wr wr.drew := ⟨rfl, rfl, rfl, Nat.le_refl _, fun _ _ => rfl⟩
                            obtain ⟨w7, hw7⟩ : ∃ w7, w7 = wr.drew := ⟨_, rfl⟩
                            have hcl : ∀ p, w7.cell? p = wr.cell? p := by intro p; rw [hw7]; rfl
                            have x1 := (hcl _).trans y1
                            have hs7 : w7.heap.size = wr.heap.size := by rw [hw7]; rfl
                            rw [← hw7] at hdr ⊢
                            have hw1 : IntKind.i64.wrap ((k : Int) + 1) = (k : Int) + 1 := IntWalk.i64_in _ (by omega)
                            have hw2 : 0 ≤ (k : Int) + 1 := by omega
                            have hw3 : ((k : Int) + 1).toNat = k + 1 := by omega
                            have HDR := Lib.hid hdr
                            clear hcl hw7 y0 y1 y2 zr hdr
                            refine wpStill_of_quiet _ _ ?_
                            by_cases hcap : c' = k + 1
                            · subst hcap
                              repeat (first | go_big_quiet_skip | (go_big_quiet_want; go_big_quiet_op; go_big_quiet_on))
                              refine wpQuiet_nil ?_
                              go_wp2_with fail
                              have hri7 : RdI w7 B (some ⟨b', off', none⟩) r := HRI.out.below (HDR.out.mono (by omega))
                              obtain ⟨Ll, hLl⟩ : ∃ Ll : Nat → List Int, Ll = fun j => if j = 0 then r.take k else r.drop (k + 1) := ⟨_, rfl⟩
                              have hcat := concat_any wr.heap.size 2 2 Ll (fun j => if j = 0 then some ⟨b', off', none⟩ else some ⟨b', off', none⟩) (fun j => if j = 0 then k + 1 else 0) (w7.alloc (.cells #[.slice (some ⟨b', off', none⟩) k (k + 1), .slice (some ⟨b', off', none⟩) (0) (0)] 22)) B (by simp; have := HBG.out; omega) (by simp; omega) (by omega)
                                (by rw [hLl]; have h1 := HR.out; simp [lenL]; omega)
                                (fun j hj => by
                                  rcases (by omega : j = 0 ∨ j = 1) with rfl | rfl
                                  · have h1 := HR.out
                                    rw [hLl]; simp [← hs7, show k ≤ r.length by omega]
                                  · have h1 := HR.out
                                    rw [hLl]; simp [← hs7, h1]; try omega)
                                (fun j hj => by
                                  have hb8 : Below B w7 (w7.alloc (.cells #[.slice (some ⟨b', off', none⟩) k (k + 1), .slice (some ⟨b', off', none⟩) (0) (0)] 22)) := (Below.refl _ _).alloc (by have := HBG.out; omega) _
                                  rcases (by omega : j = 0 ∨ j = 1) with rfl | rfl
                                  · rw [hLl]; exact RdI.below (rdI_take hri7) hb8
                                  · rw [hLl]; exact (by have h1 := HR.out; have : r.drop (k + 1) = [] := List.drop_eq_nil_of_le (by omega); simp only [if_neg (show ¬ (1 : Nat) = 0 by omega)]; rw [this]; exact Rd.nil _ _ _))
                              have hcl2 : catL Ll 2 = r.take k ++ r.drop (k + 1) := by rw [hLl]; simp [catL]
                              rw [hcl2] at hcat
                              have hb8 : Below w7.heap.size w7 (w7.alloc (.cells #[.slice (some ⟨b', off', none⟩) k (k + 1), .slice (some ⟨b', off', none⟩) (0) (0)] 22)) := (Below.refl _ _).alloc (Nat.le_refl _) _
                              have HCAT := Lib.hid hcat; have HB8 := Lib.hid (HDR.out.trans (hb8.mono (by omega)))
                              clear hcat hb8 hri7 hcl2 hLl x1
                              refine HCAT.out.mono ?_
                              rintro e w9 ⟨v, rfl, hown, hb9⟩
                              have hb9' : Below wr.heap.size wr w9 := HB8.out.trans (hb9.mono (by have := HB8.out.size; omega))
                              have HB9 := Lib.hid hb9'
                              obtain ⟨A9, c9, rfl, hc91, hc92, hrd9⟩ := own_form hown
                              have HRD9 := Lib.hid hrd9
                              clear hown hb9 hb9' HCAT HB8 hrd9
                              obtain ⟨xs, hxs2⟩ : ∃ xs, xs = r.take k ++ r.drop (k + 1) := ⟨_, rfl⟩
                              rw [← hxs2] at HRD9 hc91 ⊢
                              have hmx : ∀ y ∈ xs, y ∈ r := fun y hy => by
                                rw [hxs2] at hy
                                rcases List.mem_append.1 hy with q | q
                                · exact List.mem_of_mem_take q
                                · exact List.mem_of_mem_drop q
                              have hlx : xs.length ≤ 40 := by
                                have h1 := HR.out
                                rw [hxs2, List.length_append, List.length_take, List.length_drop]; omega
                              have hbE : Below bM W3 w9 := (HB6.out.trans (HW.out.1.trans (HB9.out.mono (by omega))))
                              have hst : BlSt w9 ve ge N EM := ⟨(HV3.out.below hbE hveb).cell rfl, HE3.out.below hbE hgeb, hEMl⟩
                              have hct := contains1 57 ve (fun s => !empS EM s) A9 xs.length c9 xs w9 w9.heap.size (fun _ _ => rfl) HRD9.out rfl (by unfold maxLen; omega) (fun y hy => loops1_any y ve ge N EM w9 hst (fun q => HF2.out y (hmx y hy) q) (by omega) (HST.out y (hmx y hy)))
                              rw [any_not_emp] at hct
                              have hal : xs.all (empS EM) = restB EM r k := by rw [hxs2]; rfl
                              have HCT := Lib.hid hct; have HAL := Lib.hid hal
                              have HT9 := Lib.hid (HT.out.below HB9.out)
                              have HBX9 : Hid (Blk w9 gp 50 _) := Lib.hid (Blk.below' (HW.out.2 _ _ _ _ HBX6.out) HB9.out)
                              have HW9 : Hid (Below bM w6 w9 ∧ Cl w6 w9) := Lib.hid ⟨HW.out.1.trans (HB9.out.mono (by omega)), HW.out.2.trans (Cl.below HB9.out)⟩
                              have hs9 := HB9.out.size
                              clear hct hal hmx hst hxs2 HRD9 HB9 HT HW hbE
                              go_wp2_with fail
                              refine HCT.out.mono ?_
                              rintro e w10 ⟨rfl, rfl⟩
                              generalize xs.all (empS EM) = al at *
                              cases al
                              · simp only [Bool.not_false]
                                as_aux_lemma =>
                                  have HT2 : Hid (ToSt w9 bM N (50 * m + 2 * (k + 1)) bM β (fun a b => Ed LV EM (G.prods.take m) a b ∨ EdK LV EM ((t : Int), r, py) (k + 1) a b)) := Lib.hid ((HT9.out.mono (by omega)).congr (fun a b _ => by
                                    rw [HES.out a b]
                                    show _ ↔ _ ∨ (_ ∨ (_ ∧ _ ∧ _ ∧ restB EM r k = true))
                                    rw [← HAL.out]
                                    exact ⟨fun q => q.imp id .inl, fun q => q.imp id (fun q => q.elim id (fun q => by cases q.2.2.2))⟩))
                                  clear HT9
                                  go_wp2_with fail
                                  go_roundw
                                  case rel => exact ⟨k + 1, by omega, by go_num, HW9, β, HT2.out⟩
                                  case measure => simp [intOf]; omega
                              · simp only [Bool.not_true]
                                as_aux_lemma =>
                                  have hE2 : ∀ a y, a < N → ((Ed LV EM (G.prods.take m) a y ∨ EdK LV EM ((t : Int), r, py) (k + 1) a y) ↔ ((Ed LV EM (G.prods.take m) a y ∨ EdK LV EM ((t : Int), r, py) k a y) ∨ (a = t ∧ y = x))) := fun a y _ => by
                                    rw [HES.out a y]
                                    show _ ∨ (_ ∨ (nth r k < 0 ∧ ((t : Int)).toNat = a ∧ (-1 - nth r k).toNat = y ∧ restB EM r k = true)) ↔ _
                                    rw [← HAL.out, ← HS.out, ← HX1.out, Int.toNat_natCast]
                                    constructor
                                    · rintro (q | q | q)
                                      · exact .inl (.inl q)
                                      · exact .inl (.inr q)
                                      · exact .inr ⟨q.2.1.symm, q.2.2.1.symm⟩
                                    · rintro ((q | q) | q)
                                      · exact .inl q
                                      · exact .inr (.inl q)
                                      · exact .inr (.inr ⟨by omega, q.1.symm, q.2.symm, rfl⟩)
                                  have HE2 := Lib.hid hE2
                                  have y0 := HBX9.out.cell (i := 0) rfl; have y1 := HBX9.out.cell (i := 1) rfl; have y2 := HBX9.out.cell (i := 2) rfl
                                  have qT : ∀ (w : World) (r : Option Nat), (binOp .eql 70 (.map r) (.map none)).run Try.prog w = .ok (.bool r.isNone) w := fun w r => run_eql_map_nil w _ _ _ r Try.underlying70
                                  have l1 := HT9.out.look hf1 (by omega)
                                  clear hE2
                                  cases hβ : β t with
                                  | none =>
                                    rw [hβ] at l1
                                    have hlo9 : bM ≤ w9.heap.size := by omega
                                    obtain ⟨w10, l3, hT10, hg10⟩ := HT9.out.putO hf1 (by omega) (by omega) hβ hlo9
                                    have hb9 : Below w9.heap.size w9 (w9.alloc (.map #[] 0)) := (Below.refl _ _).alloc (Nat.le_refl _) _
                                    have hc9 : Cl w9 (w9.alloc (.map #[] 0)) := Cl.below hb9
                                    obtain ⟨D9, hD9, _⟩ := (HT9.out.below hb9).o
                                    have hc10 : Cl (w9.alloc (.map #[] 0)) w10 := Cl.grown hD9 hg10
                                    have hb10 : Below bM w9 w10 := (hb9.mono hlo9).grown hg10 (by simp; omega) (fun k e => by cases e; exact Nat.le_refl _)
                                    have hgg : (fun z => if z = t then some w9.heap.size else β z) t = some w9.heap.size := by simp
                                    have l4 := hT10.look hf1 (by omega)
                                    simp only [if_true] at l4
                                    obtain ⟨c, l5, hwf⟩ := hT10.look2 hf1 hgg (b := x) (by omega)
                                    obtain ⟨w11, l6, hT11, hg11⟩ := hT10.putI hf1 (b := x) (by omega) (by omega) hgg (c := wrap64 (c + 1)) (wrap64_wf _) HE2.out
                                    obtain ⟨C10, hC10, _⟩ := hT10.i _ _ hf1 hgg
                                    have hc11 : Cl w10 w11 := Cl.grown hC10 hg11
                                    have hb11 : Below bM w9 w11 := hb10.grown hg11 (by have := hb10.size; omega) (fun k e => by cases e; omega)
                                    have hbx10 := HBX9.out
                                    have hbxA : Blk (w9.alloc (.map #[] 0)) gp 50 _ := hc9 _ _ _ _ hbx10
                                    have hbxB : Blk w10 gp 50 _ := hc10 _ _ _ _ hbxA
                                    have v0 := hbxB.cell (i := 0) rfl
                                    have v1 := hbxB.cell (i := 1) rfl
                                    have HT11 := Lib.hid (hT11.mono (n' := 50 * m + 2 * (k + 1)) (by omega)); have HW11 : Hid (Below bM w6 w11 ∧ Cl w6 w11) := Lib.hid ⟨HW9.out.1.trans hb11, HW9.out.2.trans (hc9.trans (hc10.trans hc11))⟩
                                    have lgp9 : gp < w9.heap.size := hbx10.lt
                                    have hmm := @run_makeMap Try.prog
                                    clear hT10 hT11 hg10 hg11 hc9 hc10 hc11 hb9 hb10 hb11 hD9 hC10 hgg hbx10 hbxA hbxB hwf hlo9
                                    go_wp2_with fail
                                    go_roundw
                                    case rel => exact ⟨k + 1, by omega, by go_num, HW11, _, HT11.out⟩
                                    case measure => simp [intOf]; omega
                                  | some g =>
                                    rw [hβ] at l1
                                    obtain ⟨c, l2, hwf⟩ := HT9.out.look2 hf1 hβ (b := x) (by omega)
                                    obtain ⟨w11, l3, hT11, hg11⟩ := HT9.out.putI hf1 (b := x) (by omega) (by omega) hβ (c := wrap64 (c + 1)) (wrap64_wf _) HE2.out
                                    obtain ⟨C10, hC10, _⟩ := HT9.out.i _ _ hf1 hβ
                                    have hge := (HT9.out.ne _ _ hf1 hβ).2
                                    have HT11 := Lib.hid (hT11.mono (n' := 50 * m + 2 * (k + 1)) (by omega)); have HW11 : Hid (Below bM w6 w11 ∧ Cl w6 w11) := Lib.hid ⟨HW9.out.1.trans ((Below.refl bM w9).grown hg11 (by omega) (fun k e => by cases e; exact hge)), HW9.out.2.trans (Cl.grown hC10 hg11)⟩
                                    clear hT11 hg11 hC10 hwf
                                    go_wp2_with fail
                                    go_roundw
                                    case rel => exact ⟨k + 1, by omega, by go_num, HW11, _, HT11.out⟩
                                    case measure => simp [intOf]; omega
                            · repeat (first | go_big_quiet_skip | (go_big_quiet_want; go_big_quiet_op; go_big_quiet_on))
                              refine wpQuiet_nil ?_
                              go_wp2_with fail
                              have hri7 : RdI w7 B (some ⟨b', off', none⟩) r := HRI.out.below (HDR.out.mono (by omega))
                              obtain ⟨Ll, hLl⟩ : ∃ Ll : Nat → List Int, Ll = fun j => if j = 0 then r.take k else r.drop (k + 1) := ⟨_, rfl⟩
                              have hcat := concat_any wr.heap.size 2 2 Ll (fun j => if j = 0 then some ⟨b', off', none⟩ else some ⟨b', off' + (k + 1), none⟩) (fun j => if j = 0 then c' else c' - (k + 1)) (w7.alloc (.cells #[.slice (some ⟨b', off', none⟩) k (c'), .slice (some ⟨b', off' + (k + 1), none⟩) (n' - (k + 1)) (c' - (k + 1))] 22)) B (by simp; have := HBG.out; omega) (by simp; omega) (by omega)
                                (by rw [hLl]; have h1 := HR.out; simp [lenL]; omega)
                                (fun j hj => by
                                  rcases (by omega : j = 0 ∨ j = 1) with rfl | rfl
                                  · have h1 := HR.out
                                    rw [hLl]; simp [← hs7, show k ≤ r.length by omega]
                                  · have h1 := HR.out
                                    rw [hLl]; simp [← hs7, h1]; try omega)
                                (fun j hj => by
                                  have hb8 : Below B w7 (w7.alloc (.cells #[.slice (some ⟨b', off', none⟩) k (c'), .slice (some ⟨b', off' + (k + 1), none⟩) (n' - (k + 1)) (c' - (k + 1))] 22)) := (Below.refl _ _).alloc (by have := HBG.out; omega) _
                                  rcases (by omega : j = 0 ∨ j = 1) with rfl | rfl
                                  · rw [hLl]; exact RdI.below (rdI_take hri7) hb8
                                  · rw [hLl]; exact RdI.below (rdI_drop hri7) hb8)
                              have hcl2 : catL Ll 2 = r.take k ++ r.drop (k + 1) := by rw [hLl]; simp [catL]
                              rw [hcl2] at hcat
                              have hb8 : Below w7.heap.size w7 (w7.alloc (.cells #[.slice (some ⟨b', off', none⟩) k (c'), .slice (some ⟨b', off' + (k + 1), none⟩) (n' - (k + 1)) (c' - (k + 1))] 22)) := (Below.refl _ _).alloc (Nat.le_refl _) _
                              have HCAT := Lib.hid hcat; have HB8 := Lib.hid (HDR.out.trans (hb8.mono (by omega)))
                              clear hcat hb8 hri7 hcl2 hLl x1
                              refine HCAT.out.mono ?_
                              rintro e w9 ⟨v, rfl, hown, hb9⟩
                              have hb9' : Below wr.heap.size wr w9 := HB8.out.trans (hb9.mono (by have := HB8.out.size; omega))
                              have HB9 := Lib.hid hb9'
                              obtain ⟨A9, c9, rfl, hc91, hc92, hrd9⟩ := own_form hown
                              have HRD9 := Lib.hid hrd9
                              clear hown hb9 hb9' HCAT HB8 hrd9
                              obtain ⟨xs, hxs2⟩ : ∃ xs, xs = r.take k ++ r.drop (k + 1) := ⟨_, rfl⟩
                              rw [← hxs2] at HRD9 hc91 ⊢
                              have hmx : ∀ y ∈ xs, y ∈ r := fun y hy => by
                                rw [hxs2] at hy
                                rcases List.mem_append.1 hy with q | q
                                · exact List.mem_of_mem_take q
                                · exact List.mem_of_mem_drop q
                              have hlx : xs.length ≤ 40 := by
                                have h1 := HR.out
                                rw [hxs2, List.length_append, List.length_take, List.length_drop]; omega
                              have hbE : Below bM W3 w9 := (HB6.out.trans (HW.out.1.trans (HB9.out.mono (by omega))))
                              have hst : BlSt w9 ve ge N EM := ⟨(HV3.out.below hbE hveb).cell rfl, HE3.out.below hbE hgeb, hEMl⟩
                              have hct := contains1 57 ve (fun s => !empS EM s) A9 xs.length c9 xs w9 w9.heap.size (fun _ _ => rfl) HRD9.out rfl (by unfold maxLen; omega) (fun y hy => loops1_any y ve ge N EM w9 hst (fun q => HF2.out y (hmx y hy) q) (by omega) (HST.out y (hmx y hy)))
                              rw [any_not_emp] at hct
                              have hal : xs.all (empS EM) = restB EM r k := by rw [hxs2]; rfl
                              have HCT := Lib.hid hct; have HAL := Lib.hid hal
                              have HT9 := Lib.hid (HT.out.below HB9.out)
                              have HBX9 : Hid (Blk w9 gp 50 _) := Lib.hid (Blk.below' (HW.out.2 _ _ _ _ HBX6.out) HB9.out)
                              have HW9 : Hid (Below bM w6 w9 ∧ Cl w6 w9) := Lib.hid ⟨HW.out.1.trans (HB9.out.mono (by omega)), HW.out.2.trans (Cl.below HB9.out)⟩
                              have hs9 := HB9.out.size
                              clear hct hal hmx hst hxs2 HRD9 HB9 HT HW hbE
                              go_wp2_with fail
                              refine HCT.out.mono ?_
                              rintro e w10 ⟨rfl, rfl⟩
                              generalize xs.all (empS EM) = al at *
                              cases al
                              · simp only [Bool.not_false]
                                as_aux_lemma =>
                                  have HT2 : Hid (ToSt w9 bM N (50 * m + 2 * (k + 1)) bM β (fun a b => Ed LV EM (G.prods.take m) a b ∨ EdK LV EM ((t : Int), r, py) (k + 1) a b)) := Lib.hid ((HT9.out.mono (by omega)).congr (fun a b _ => by
                                    rw [HES.out a b]
                                    show _ ↔ _ ∨ (_ ∨ (_ ∧ _ ∧ _ ∧ restB EM r k = true))
                                    rw [← HAL.out]
                                    exact ⟨fun q => q.imp id .inl, fun q => q.imp id (fun q => q.elim id (fun q => by cases q.2.2.2))⟩))
                                  clear HT9
                                  go_wp2_with fail
                                  go_roundw
                                  case rel => exact ⟨k + 1, by omega, by go_num, HW9, β, HT2.out⟩
                                  case measure => simp [intOf]; omega
                              · simp only [Bool.not_true]
                                as_aux_lemma =>
                                  have hE2 : ∀ a y, a < N → ((Ed LV EM (G.prods.take m) a y ∨ EdK LV EM ((t : Int), r, py) (k + 1) a y) ↔ ((Ed LV EM (G.prods.take m) a y ∨ EdK LV EM ((t : Int), r, py) k a y) ∨ (a = t ∧ y = x))) := fun a y _ => by
                                    rw [HES.out a y]
                                    show _ ∨ (_ ∨ (nth r k < 0 ∧ ((t : Int)).toNat = a ∧ (-1 - nth r k).toNat = y ∧ restB EM r k = true)) ↔ _
                                    rw [← HAL.out, ← HS.out, ← HX1.out, Int.toNat_natCast]
                                    constructor
                                    · rintro (q | q | q)
                                      · exact .inl (.inl q)
                                      · exact .inl (.inr q)
                                      · exact .inr ⟨q.2.1.symm, q.2.2.1.symm⟩
                                    · rintro ((q | q) | q)
                                      · exact .inl q
                                      · exact .inr (.inl q)
                                      · exact .inr (.inr ⟨by omega, q.1.symm, q.2.symm, rfl⟩)
                                  have HE2 := Lib.hid hE2
                                  have y0 := HBX9.out.cell (i := 0) rfl; have y1 := HBX9.out.cell (i := 1) rfl; have y2 := HBX9.out.cell (i := 2) rfl
                                  have qT : ∀ (w : World) (r : Option Nat), (binOp .eql 70 (.map r) (.map none)).run Try.prog w = .ok (.bool r.isNone) w := fun w r => run_eql_map_nil w _ _ _ r Try.underlying70
                                  have l1 := HT9.out.look hf1 (by omega)
                                  clear hE2
                                  cases hβ : β t with
                                  | none =>
                                    rw [hβ] at l1
                                    have hlo9 : bM ≤ w9.heap.size := by omega
                                    obtain ⟨w10, l3, hT10, hg10⟩ := HT9.out.putO hf1 (by omega) (by omega) hβ hlo9
                                    have hb9 : Below w9.heap.size w9 (w9.alloc (.map #[] 0)) := (Below.refl _ _).alloc (Nat.le_refl _) _
                                    have hc9 : Cl w9 (w9.alloc (.map #[] 0)) := Cl.below hb9
                                    obtain ⟨D9, hD9, _⟩ := (HT9.out.below hb9).o
                                    have hc10 : Cl (w9.alloc (.map #[] 0)) w10 := Cl.grown hD9 hg10
                                    have hb10 : Below bM w9 w10 := (hb9.mono hlo9).grown hg10 (by simp; omega) (fun k e => by cases e; exact Nat.le_refl _)
                                    have hgg : (fun z => if z = t then some w9.heap.size else β z) t = some w9.heap.size := by simp
                                    have l4 := hT10.look hf1 (by omega)
                                    simp only [if_true] at l4
                                    obtain ⟨c, l5, hwf⟩ := hT10.look2 hf1 hgg (b := x) (by omega)
                                    obtain ⟨w11, l6, hT11, hg11⟩ := hT10.putI hf1 (b := x) (by omega) (by omega) hgg (c := wrap64 (c + 1)) (wrap64_wf _) HE2.out
                                    obtain ⟨C10, hC10, _⟩ := hT10.i _ _ hf1 hgg
                                    have hc11 : Cl w10 w11 := Cl.grown hC10 hg11
                                    have hb11 : Below bM w9 w11 := hb10.grown hg11 (by have := hb10.size; omega) (fun k e => by cases e; omega)
                                    have hbx10 := HBX9.out
                                    have hbxA : Blk (w9.alloc (.map #[] 0)) gp 50 _ := hc9 _ _ _ _ hbx10
                                    have hbxB : Blk w10 gp 50 _ := hc10 _ _ _ _ hbxA
                                    have v0 := hbxB.cell (i := 0) rfl
                                    have v1 := hbxB.cell (i := 1) rfl
                                    have HT11 := Lib.hid (hT11.mono (n' := 50 * m + 2 * (k + 1)) (by omega)); have HW11 : Hid (Below bM w6 w11 ∧ Cl w6 w11) := Lib.hid ⟨HW9.out.1.trans hb11, HW9.out.2.trans (hc9.trans (hc10.trans hc11))⟩
                                    have lgp9 : gp < w9.heap.size := hbx10.lt
                                    have hmm := @run_makeMap Try.prog
                                    clear hT10 hT11 hg10 hg11 hc9 hc10 hc11 hb9 hb10 hb11 hD9 hC10 hgg hbx10 hbxA hbxB hwf hlo9
                                    go_wp2_with fail
                                    go_roundw
                                    case rel => exact ⟨k + 1, by omega, by go_num, HW11, _, HT11.out⟩
                                    case measure => simp [intOf]; omega
                                  | some g =>
                                    rw [hβ] at l1
                                    obtain ⟨c, l2, hwf⟩ := HT9.out.look2 hf1 hβ (b := x) (by omega)
                                    obtain ⟨w11, l3, hT11, hg11⟩ := HT9.out.putI hf1 (b := x) (by omega) (by omega) hβ (c := wrap64 (c + 1)) (wrap64_wf _) HE2.out
                                    obtain ⟨C10, hC10, _⟩ := HT9.out.i _ _ hf1 hβ
                                    have hge := (HT9.out.ne _ _ hf1 hβ).2
                                    have HT11 := Lib.hid (hT11.mono (n' := 50 * m + 2 * (k + 1)) (by omega)); have HW11 : Hid (Below bM w6 w11 ∧ Cl w6 w11) := Lib.hid ⟨HW9.out.1.trans ((Below.refl bM w9).grown hg11 (by omega) (fun k e => by cases e; exact hge)), HW9.out.2.trans (Cl.grown hC10 hg11)⟩
                                    clear hT11 hg11 hC10 hwf
                                    go_wp2_with fail
                                    go_roundw
                                    case rel => exact ⟨k + 1, by omega, by go_num, HW11, _, HT11.out⟩
                                    case measure => simp [intOf]; omega
                    · as_aux_lemma =>
                        have hT2 : ToSt wr bM N (50 * (m + 1)) bM β (Ed LV EM (G.prods.take (m + 1))) := (HT.out.mono (by omega)).congr (fun a b _ => by
                          rw [HPS.out a b]
                          have : k = r.length := by have := HR.out; omega
                          rw [this])
                        have HT2 := Lib.hid hT2
                        clear hT2 HT y0 y1 y2 hbx
                        go_wp2_with fail
                        go_roundw
                        case rel => exact ⟨m + 1, by omega, by go_num, HB6.out.trans HW.out.1, β, HT2.out⟩
                        case measure => simp [intOf]; omega
        · as_aux_lemma =>
            have he : G.prods.take m = G.prods := List.take_of_length_le (by rw [HP1.out]; omega)
            have hT := HT.out
            rw [he] at hT
            have HT2 := Lib.hid (hT.mono (n' := 50000) (by omega))
            clear he hT HT
            have hmk := mk_row elBg rfl .i64 .i64 N (N : Int) rfl (by omega) (by omega) wr
            rw [HN.out] at c1
            clear c0 c2 c3 c4 c5
            go_upto_region 21 with (fail)
            clear hmk c1
            have hl0 := Blk.made wr 4 (.bool false) N
            rw [bv_rep] at hl0
            have hb8 : Below wr.heap.size wr (wr.alloc (.cells (zs (.bool false) N) 4)) := (Below.refl _ _).alloc (Nat.le_refl _) _
            have hT8 := HT2.out.below hb8
            have hB8 := hbw.trans (hb8.mono (by omega))
            have hs8 : (wr.alloc (.cells (zs (.bool false) N) 4)).heap.size = wr.heap.size + 1 := by simp
            obtain ⟨gz, hgz⟩ : ∃ gz, gz = wr.heap.size := ⟨_, rfl⟩
            rw [← hgz] at hl0 hs8 ⊢
            generalize wr.alloc (.cells (zs (.bool false) N) 4) = W8 at *
            have HL0 := Lib.hid hl0; have HT8 := Lib.hid hT8; have HB8 := Lib.hid hB8
            have hgzb : bM ≤ gz := by omega
            have hE : ∀ a b, Ed LV EM G.prods a b → a < N ∧ b < N := fun a b ⟨p, hp, _, k, _, hk2, hk3, e1, e2, _⟩ => by
              obtain ⟨f0, f1, f2⟩ := HFIT.out p hp
              exact ⟨by omega, by rw [← e2]; exact f2 _ (mem_nth hk2) hk3⟩
            have HEF := Lib.hid hE
            have HTz : Hid (∀ k : Nat, (k = bM ∨ ∃ a, a < N ∧ β a = some k) → k < gz) := Lib.hid (fun k hk => by
              rw [hgz]
              rcases hk with rfl | ⟨a, ha, hg⟩
              · exact HT2.out.lt
              · exact HT2.out.glt ha hg)
            clear hl0 hT8 hB8 hb8 hbw HT2 hgz hE
            go_wp2_with fail
            go_loopw [85] (fun i wr' => ∃ n : Nat, n ≤ N ∧ i = .int .i64 n ∧ Kp (fun j => j = gz) W8 wr' ∧ ∃ x : List Bool, Hid (Blk wr' gz 4 (bv x) ∧ x.length = N ∧ ∀ j, j < n → (bth x j = true ↔ Pth (Ed LV EM G.prods) j j))) (fun i _ => N - (intOf i).toNat)
            case atStart => exact ⟨0, Nat.zero_le _, rfl, Kp.refl _ _, _, HL0.out, by simp, fun j hj => by omega⟩
            case round =>
              as_aux_lemma =>
                clear HL0
                obtain ⟨n, hn, rfl, hk, x, HX⟩ := hrel
                have hsz2 := hk.size
                by_cases hnN : n < N
                · as_aux_lemma =>
                    have hb8w : Below gz W8 wr := hk.bel (by omega) (fun j hj e => by omega)
                    obtain ⟨c0, c1, c2, c3, c4, c5⟩ := HGB.out.below (HB3.out.trans ((HB8.out.mono (by omega)).trans (hb8w.mono (by omega)))) (Nat.lt_succ_self _)
                    rw [HN.out] at c1
                    have hmk := mk_row elBg rfl .i64 .i64 N (N : Int) rfl (by omega) (by omega) wr
                    clear c0 c2 c3 c4 c5 hb8w
                    go_upto_region 25 with (fail)
                    clear hmk c1
                    go_wp2_with fail
                    obtain ⟨gs, hgs⟩ : ∃ gs, gs = wr.heap.size := ⟨_, rfl⟩
                    have e1 : (wr.alloc (.cells (zs (.bool false) N) 4)).heap.size = gs + 1 := by simp [hgs]
                    have e2 : ((wr.alloc (.cells (zs (.bool false) N) 4)).alloc (.cells #[.int .i64 (n : Int)] 3)).heap.size = gs + 1 + 1 := by simp [hgs]
                    have hx0 := (Blk.made wr 4 (.bool false) N).alloc (.cells #[.int .i64 (n : Int)] 3)
                    rw [bv_rep, ← hgs] at hx0
                    have ho0 := World.ownsRow_lit (base := gs + 1) (e := 3) (size := 1) (wr.alloc (.cells (zs (.bool false) N) 4)) #[.int .i64 (n : Int)] 1 (by rw [e1]; exact Nat.le_refl _) (by decide) rfl
                    rw [e1] at ho0
                    have hk9 := (hk.alloc (.cells (zs (.bool false) N) 4)).alloc (.cells #[.int .i64 (n : Int)] 3)
                    have hb9 : Below gs wr ((wr.alloc (.cells (zs (.bool false) N) 4)).alloc (.cells #[.int .i64 (n : Int)] 3)) := ((Below.refl _ _).alloc (by omega) _).alloc (by rw [e1]; omega) _
                    have HLX := Lib.hid (HX.out.1.below hb9 (by have := HX.out.1.lt; omega)); have HX2 := Lib.hid HX.out.2
                    have hT9 := (HT8.out.keep (w' := wr) (fun k hk2 => hk.block k (by have := HTz.out k hk2; omega) (by have := HTz.out k hk2; omega))).keep (w' := (wr.alloc (.cells (zs (.bool false) N) 4)).alloc (.cells #[.int .i64 (n : Int)] 3)) (fun k hk2 => hb9.block k (by have := HTz.out k hk2; omega))
                    rw [← hgs] at ⊢
                    generalize ((wr.alloc (.cells (zs (.bool false) N) 4)).alloc (.cells #[.int .i64 (n : Int)] 3)) = W9 at *
                    have hgzs : gz < gs := by omega
                    have hs8g : W8.heap.size ≤ gs := by omega
                    have hKq : ∀ wr', Below gs W9 wr' → Kp (fun j => j = gz) W8 wr' := fun wr' h => ⟨h.os.trans hk9.os, h.tape.trans hk9.tape, h.output.trans hk9.output, Nat.le_trans hk9.size h.size, fun k h1 h2 => (h.block k (by omega)).trans (hk9.block k h1 h2)⟩
                    have HKQ := Lib.hid hKq
                    have HW0 : Hid (DfW W9 W9 gs (gs + 1) (b0 N) (.slice (some ⟨gs + 1, 0, none⟩) 1 1) [(n : Int)]) := Lib.hid ⟨Below.refl _ _, hx0, ho0, by omega⟩
                    have HT9 := Lib.hid hT9; have HK9 := Lib.hid hk9
                    clear hx0 ho0 hk9 hb9 hT9 hk e1 HX hgs hKq hsz2
                    go_loopg [14] (N + 1) (fun gk v wr' => ∃ seen l, Hid (DfW W9 wr' gs (gs + 1) seen v l ∧ DfS (Ed LV EM G.prods) N n seen l none (fun _ => False) gk ∧ gk ≤ N + 1))
                    case atStart => exact ⟨_, _, HW0.out, DfS.start hnN, Nat.le_refl _⟩
                    case round =>
                      as_aux_lemma =>
                        clear HW0
                        obtain ⟨seen, l, HS⟩ := hrel
                        rcases List.eq_nil_or_concat l with rfl | ⟨l1, a, rfl⟩
                        · as_aux_lemma =>
                            obtain ⟨A, c, rfl, _, hc, _⟩ := own_form HS.out.1.fo
                            have hfb := HS.out.1.fb
                            have hdn := HS.out.2.1.done (b := n)
                            have zs1 := HS.out.1.fx.bcell (k := n) (by rw [HS.out.2.1.len]; exact hnN)
                            have hlx := HLX.out.below hfb hgzs
                            have zl := hlx.bcell (k := n) (by rw [HX2.out.1]; exact hnN)
                            have zlf := hlx.frozen n
                            have hk9 := HKQ.out _ hfb
                            have hX2 : Blk (wr.setCell ⟨gz, n, none⟩ (.bool (bth seen n))) gz 4 (bv (x.set n (bth seen n))) ∧ (x.set n (bth seen n)).length = N ∧ ∀ j, j < n + 1 → (bth (x.set n (bth seen n)) j = true ↔ Pth (Ed LV EM G.prods) j j) := by
                              refine ⟨hlx.bset n _, by rw [List.length_set]; exact HX2.out.1, fun j hj => ?_⟩
                              rw [bth_set (by rw [HX2.out.1]; exact hnN)]
                              split
                              · rename_i e; subst e; exact hdn
                              · exact HX2.out.2 j (by omega)
                            have HX3 := Lib.hid hX2; have HK3 := Lib.hid (hk9.set_ (p := ⟨gz, n, none⟩) (.inr rfl) (.bool (bth seen n)))
                            clear hX2 hdn hlx hk9 hfb HS
                            generalize bth seen n = v at *
                            generalize bth x n = v2 at zl
                            go_wp2_with fail
                            go_roundw
                            case rel => exact ⟨n + 1, by omega, by go_num, HK3.out, _, HX3.out⟩
                            case measure => simp [intOf]; omega
                        · as_aux_lemma =>
                            rw [List.concat_eq_append] at HS
                            have hwt := HS.out.2.1.wt a (by simp)
                            obtain ⟨aa, rfl⟩ := Int.eq_ofNat_of_zero_le hwt.1
                            rw [Int.toNat_natCast] at hwt
                            have haN := hwt.2.1
                            obtain ⟨g, cap, rfl, hcap, hcm, hg, zt, hop⟩ := own_top HS.out.1.fo
                            obtain ⟨m1, hgk⟩ : ∃ m1, gk = m1 + 1 := by
                              have := HS.out.2.1.mu
                              rw [List.length_append, List.length_singleton] at this
                              exact ⟨gk - 1, by omega⟩
                            subst hgk
                            have HPOP := Lib.hid HS.out.2.1.pop
                            have HWP : Hid (DfW W9 wr gs (gs + 1) seen (.slice (some ⟨g, 0, none⟩) l1.length cap) l1) := Lib.hid ⟨HS.out.1.fb, HS.out.1.fx, hop, HS.out.1.fs⟩
                            have hm1 : m1 ≤ N := by have := HS.out.2.2; omega
                            have hll : l1.length ≤ N := by have := HPOP.out.mu; omega
                            have hT := HT9.out.keep (w' := wr) (fun k hk2 => HS.out.1.fb.block k (by have := HTz.out k hk2; omega))
                            have l1k := hT.look haN (by omega)
                            have HTW := Lib.hid hT
                            unfold maxLen at hcm
                            have hfs := HS.out.1.fs
                            clear hop HS hwt hT
                            cases hβ : β aa with
                            | none =>
                              rw [hβ] at l1k
                              have hz := HTW.out.z aa haN hβ
                              have hrg := run_range_nilMap (P := Try.prog) wr 70 3 3 Try.underlying70
                              have hnx : ∀ ty, (Instr.next (.pointer (some ⟨wr.heap.size, 0, none⟩)) false ty).run Try.prog (wr.alloc (.mapIter none 0 #[] 0)) = _ := fun ty => run_next_nilMap wr ty 0 0 #[]
                              have HZ := Lib.hid hz
                              have HWN := Lib.hid (HWP.out.below ((Below.refl wr.heap.size wr).alloc (Nat.le_refl _) (.mapIter none 0 #[] 0)) (by omega))
                              have HDN := Lib.hid (HPOP.out.close (dn' := fun _ => False) (fun b q => absurd q (HZ.out b)))
                              clear hz
                              go_wp2_with fail
                              refine wp_loop_rounds 1 ?_
                              rw [rounds_succ]
                              go_wp2_with fail
                              go_roundg m1
                              case measure => omega
                              case rel => exact ⟨seen, l1, HWN.out, HDN.out, by omega⟩
                            | some gm =>
                              rw [hβ] at l1k
                              obtain ⟨C, hC, hC2⟩ := HTW.out.i aa gm haN hβ
                              have HC2 := Lib.hid hC2; have HC := Lib.hid hC
                              clear hC2 hC
                              go_wp2_with (first
                                | (at_range; refine wpList_range_own _ rfl _ 70 rfl 3 3 lawI Try.underlying70 _ gm 50000 C rfl HC.out ?_; intro w0 hrg0 hg0 hs0)
                                | fail)
                              go_frame
                              have HR0 := Lib.hid hrg0
                              have HW0 : Hid (DfW W9 w0 gs (gs + 1) seen (.slice (some ⟨g, 0, none⟩) l1.length cap) l1) := Lib.hid (HWP.out.below ⟨hg0.os, hg0.tape, hg0.output, hg0.size, fun k hk => hg0.block k hk (by simp)⟩ (by omega))
                              clear hrg0 hg0 zt l1k
                              obtain ⟨ri, hri⟩ : ∃ ri, ri = wr.heap.size := ⟨_, rfl⟩
                              rw [← hri] at HR0 hfs ⊢
                              clear hri HTW HWP
                              have HD0 := Lib.hid (show DfS (Ed LV EM G.prods) N n seen l1 (some aa) (fun b => Maps.has C (.int .i64 (b : Int)) = false) m1 from HPOP.out.re (fun b q1 q2 => by have := (HC2.out b).2 ⟨b, rfl, q1⟩; rw [this] at q2; cases q2))
                              go_loopw [14] (fun v wr' => ∃ (left : Lit → Bool) (cnt : Nat) (seen : List Bool) (l : List Int), wr'.ranges Try.prog 3 (plainElem (H := Unit) Try.prog 3) gm ri 50000 C left cnt ∧ Hid (DfW W9 wr' gs (gs + 1) seen v l ∧ DfS (Ed LV EM G.prods) N n seen l (some aa) (fun b => left (.int .i64 (b : Int)) = false) m1 ∧ (∀ x : Int, left (.int .i64 x) = true → ∃ b : Nat, x = b ∧ Ed LV EM G.prods aa b))) (fun _ wr' => wr'.rangeLeft gm ri)
                              case atStart => exact ⟨_, _, seen, l1, HR0.out, HW0.out, HD0.out, fun x q => (HC2.out x).1 q⟩
                              case round =>
                                as_aux_lemma =>
                                  clear HR0 HW0 HD0 HPOP HC
                                  obtain ⟨left, cnt, seen, l, hrg, HS⟩ := hrel
                                  go_wp2_with (first
                                    | (at_next; refine wpList_next_ranges_ii _ rfl _ rfl 3 3 .i64 .i64 lawI Try.underlying3 Try.underlying3 gm ri 50000 _ _ _ rfl hrg ?_ ?_)
                                    | fail)
                                  · intro hc0 hl0
                                    have HDN := Lib.hid (HS.out.2.1.close (dn' := fun _ => False) (fun b q => hl0 _))
                                    clear hl0 hrg
                                    go_wp2_with fail
                                    go_roundg m1
                                    case measure => omega
                                    case rel => exact ⟨seen, l, HS.out.1, HDN.out, by omega⟩
                                  · intro xk c w1 cnt1 hwx hwc hlx hat hrg1 hlt1 hg1 hs1 hen
                                    obtain ⟨b, rfl, hEb⟩ := HS.out.2.2 xk hlx
                                    have hbN := (HEF.out _ _ hEb).2
                                    have hW1 := HS.out.1.grown hg1 (ranges_walk hrg) (by omega) hfs
                                    have hdn : ∀ c : Nat, ((left (.int .i64 (c : Int)) && !(Lit.int .i64 (c : Int)).sameKey (.int .i64 (b : Int))) = false) → left (.int .i64 (c : Int)) = false ∨ c = b := fun c q => by
                                      cases e : left (.int .i64 (c : Int)) with
                                      | false => exact .inl rfl
                                      | true =>
                                        rw [e] at q
                                        have q2 : (Lit.int .i64 (c : Int)).sameKey (.int .i64 (b : Int)) = true := by simpa using q
                                        have := WideAt.sameKey_eq q2
                                        exact .inr (by injection this; omega)
                                    have hlf : ∀ x : Int, (left (.int .i64 x) && !(Lit.int .i64 x).sameKey (.int .i64 (b : Int))) = true → ∃ b : Nat, x = b ∧ Ed LV EM G.prods aa b := fun x q => HS.out.2.2 x (by simp at q; exact q.1)
                                    have hle := hrg.left_eq
                                    have zx := hW1.fx.bcell (k := b) (by rw [HS.out.2.1.len]; exact hbN)
                                    have zxf := hW1.fx.frozen b
                                    have HW1 := Lib.hid hW1; have HDN := Lib.hid hdn; have HLF := Lib.hid hlf; have HLE := Lib.hid hle; have HDS := Lib.hid HS.out.2.1; have HEB := Lib.hid hEb; have HRG := Lib.hid hrg1
                                    have hll2 : l.length ≤ N := by have := HS.out.2.1.mu; omega
                                    clear hlx hat hrg1 hg1 hs1 hW1 hdn hlf hle HS hEb hrg hwc hwx
                                    cases hsb : bth seen b
                                    · as_aux_lemma =>
                                        rw [hsb] at zx
                                        have HN2 := Lib.hid (HDS.out.new (dn' := fun c => (left (.int .i64 (c : Int)) && !(Lit.int .i64 (c : Int)).sameKey (.int .i64 (b : Int))) = false) HEB.out hbN hsb HDN.out)
                                        have HW2 := Lib.hid (HW1.out.setx (by omega) b true)
                                        have HRG2 := Lib.hid (ranges_set HRG.out HW1.out b (.bool true))
                                        have hsz2 : (w1.setCell ⟨gs, b, none⟩ (.bool true)).heap.size = w1.heap.size := setCell_size _ _ _
                                        have hgtw := HW1.out.fs
                                        clear hsb
                                        go_wp2_with (at_builtin; refine wpList_app elIu rfl (.tmp 123) (.tmp 125) rfl (gs + 1) _ l.length 1 _ [.int .i64 (b : Int)] rfl HW2.out.fo (by rw [hsz2]; rfl) rfl (by simp [Value.oneCell']) (by omega) (by omega) (by rw [hsz2]; exact hgtw) ?_; intro v1 w2 hown2 hg2 hat2; have HG2 := Lib.hid hg2; have HO2 := Lib.hid hown2; clear hown2 hg2 hat2)
                                        have HRG3 := Lib.hid (ranges_app HRG2.out HW2.out HG2.out)
                                        go_roundw
                                        case rel => exact ⟨_, _, seen.set b true, l ++ [(b : Int)], HRG3.out, HW2.out.app HG2.out (by rw [List.length_append]; unfold iv; rw [List.map_append]; exact HO2.out) (by omega), HN2.out, HLF.out⟩
                                        case measure => rw [HRG3.out.left_eq, HLE.out]; exact hlt1
                                    · as_aux_lemma =>
                                        rw [hsb] at zx
                                        have HN2 := Lib.hid (HDS.out.old (dn' := fun c => (left (.int .i64 (c : Int)) && !(Lit.int .i64 (c : Int)).sameKey (.int .i64 (b : Int))) = false) hsb HDN.out)
                                        clear hsb
                                        go_wp2_with fail
                                        go_roundw
                                        case rel => exact ⟨_, _, seen, l, HRG.out, HW1.out, HN2.out, HLF.out⟩
                                        case measure => rw [HRG.out.left_eq, HLE.out]; exact hlt1
                · as_aux_lemma =>
                    have hne : n = N := by omega
                    have h3 := HX.out.2.2
                    rw [hne] at h3
                    have H3 := Lib.hid h3
                    have hkf := hk.bel (B := w.heap.size + 1) (by omega) (fun j hj e => by omega)
                    have HKF := Lib.hid (HB0.out.trans ((HB3.out.trans ((HB8.out.mono (by omega)).trans hkf)).mono (by omega)))
                    clear hne h3 hkf
                    go_wp2_with fail
                    go_ret
                    exact ⟨gz, x, rfl, by omega, HX.out.1, HX.out.2.1, H3.out, HKF.out⟩
  · rintro l a w' i ⟨la, lb, lc, ld, l5, lo, hi, b, s3, sl, sr, sv, rfl, rfl, h5, hC⟩ hi
    obtain ⟨hl, o, ho, hpre⟩ := mem_ready.1 hi
    have hi8 : i < 7 := (Array.getElem?_eq_some_iff.1 ho).1
    refine wpOp_of_list ho ?_
    have hcell := HGB.out.below hC.hb (Nat.lt_succ_self _)
    obtain ⟨c0, c1, c2, c3, c4, c5⟩ := hcell
    have HC := Lib.hid hC; have H5 := Lib.hid h5
    clear h5
    have hcase : i = 0 ∨ i = 1 ∨ i = 2 ∨ i = 3 ∨ i = 4 ∨ i = 5 ∨ i = 6 := by omega
    clear hi hi8
    rcases hcase with rfl | rfl | rfl | rfl | rfl | rfl | rfl
    · simp at ho hl
      subst ho
      clear hpre
      go_wp2_with fail
      exact ⟨upd la 0 true, lb, lc, ld, l5, lo, hi, b, s3, upd sl 0 _, sr, sv, rfl, rfl, H5.out, HC.out.load 0⟩
    · simp at ho hl
      subst ho
      simp [Region.binds] at hpre
      have e := hC.ia 0 (by omega) (by first | exact hpre | exact hpre.1)
      have E := Lib.hid e
      rw [e]
      clear hC e
      go_wp2_with fail
      refine (HLV.out w' HC.out.hb).mono ?_
      rintro e w2 ⟨g, rfl, hg, hblk, hb⟩
      have hC2 := HC.out.call (k := 0) (by omega) hl hb (fun w'' ha hs => ⟨g, rfl, by have := HC.out.lt; omega, (ha g hg hblk.lt).trans hblk⟩)
      have HC2 := Lib.hid hC2
      clear hC2
      go_wp2_with fail
      exact ⟨la, upd lb 0 true, lc, ld, l5, upd lo 0 _, upd hi 0 _, b, s3, sl, upd sr 0 _, sv, rfl, by simp only [E.out, upd]; rfl, fun e => absurd (H5.out e).1 (by rw [hl]; simp), HC2.out⟩
    · simp at ho hl
      subst ho
      clear hpre
      go_wp2_with fail
      exact ⟨upd la 1 true, lb, lc, ld, l5, lo, hi, b, s3, upd sl 1 _, sr, sv, rfl, rfl, H5.out, HC.out.load 1⟩
    · simp at ho hl
      subst ho
      simp [Region.binds] at hpre
      have e := hC.ia 1 (by omega) (by first | exact hpre | exact hpre.1)
      have E := Lib.hid e
      rw [e]
      clear hC e
      go_wp2_with fail
      refine (HEM.out w' HC.out.hb).mono ?_
      rintro e w2 ⟨g, rfl, hg, hblk, hb⟩
      have hC2 := HC.out.call (k := 1) (by omega) hl hb (fun w'' ha hs => ⟨g, rfl, by have := HC.out.lt; omega, (ha g hg hblk.lt).trans hblk⟩)
      have HC2 := Lib.hid hC2
      clear hC2
      go_wp2_with fail
      exact ⟨la, upd lb 1 true, lc, ld, l5, upd lo 1 _, upd hi 1 _, b, s3, sl, upd sr 1 _, sv, rfl, by simp only [E.out, upd]; rfl, H5.out, HC2.out⟩
    · simp at ho hl
      subst ho
      clear hpre
      have hC2 := HC.out.alloc (k := 1) (by omega) hl
      have HC2 := Lib.hid hC2
      clear hC2 hC
      go_wp2_with fail
      exact ⟨la, lb, upd lc 1 true, ld, l5, lo, hi, upd b 1 _, s3, sl, sr, upd sv 1 _, rfl, rfl, H5.out, HC2.out⟩
    · simp at ho hl
      subst ho
      simp [Region.binds] at hpre
      have q1 : lb 0 = true := by simp [hpre]
      clear hC hpre
      go_wp2_with fail
      exact ⟨la, lb, lc, ld, true, lo, hi, b, _, sl, sr, sv, rfl, rfl, fun _ => ⟨q1, rfl⟩, HC.out⟩
    · simp at ho hl
      subst ho
      simp [Region.binds] at hpre
      have q1 : lb 1 = true := by simp [hpre]
      have q2 : lc 1 = true := by simp [hpre]
      have hC2 := HC.out.store (k := 1) (by omega) q1 q2
      have hcell := HC.out.cell (k := 1) (by omega) q2
      have hld : ld 1 = false := hl
      rw [hld] at hcell
      have hlt := (HC.out.ic 1 (by omega) q2).2.2.lt
      obtain ⟨k1, k2⟩ := hcell
      obtain ⟨e1, e2, _⟩ := HC.out.ic 1 (by omega) q2
      obtain ⟨x1, e3, _⟩ := (HC.out.ib 1 (by omega) q1).1.now
      have E1 := Lib.hid e1; have E3 := Lib.hid e3; have HC2 := Lib.hid hC2
      rw [e1, e3]
      clear hC2 hC hpre e1 e3 e2
      simp only [Bool.false_eq_true, if_false] at k1
      go_wp2_with fail
      exact ⟨la, lb, lc, upd ld 1 true, l5, lo, hi, b, s3, sl, sr, sv, rfl, by simp only [E1.out, E3.out], H5.out, by have h := HC2.out; rw [E3.out] at h; exact h⟩
  · exact ⟨fun _ => false, fun _ => false, fun _ => false, fun _ => false, false, fun _ => 0, fun _ => 0, fun _ => 0, undef, fun _ => undef, fun _ => undef, fun _ => undef, rfl, rfl, fun e => (by cases e), Tri.start hz0 (HBB.out.trans ⟨rfl, rfl, rfl, Nat.le_refl _, fun _ _ => rfl⟩)⟩
end Go.Proofs.Ytgfchgnebpogjaa
