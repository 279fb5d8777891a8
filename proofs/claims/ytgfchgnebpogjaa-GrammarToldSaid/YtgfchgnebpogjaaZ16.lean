/- grammar.Follow: its closure. -/
import Derived.Test.YtgfchgnebpogjaaZ15
import Derived.Test.YtgfchgnebpogjaaZ11
import Derived.Sort.CutIn
namespace Go.Proofs.Ytgfchgnebpogjaa
open Go.RowKit Go.Shelf BigFrame
attribute [local go_sem] Oper.semAt_some
set_option linter.unusedVariables false
set_option linter.unusedSimpArgs false
set_option maxRecDepth 100000

/-- The blocks that Follow's closure only reads. -/
def FoB (vu vm vg ve vf gu ge D DF N : Nat) (ρF : List Nat) (j : Nat) : Prop :=
  (j = vu ∨ j = vm ∨ j = vg ∨ j = ve ∨ j = vf) ∨ (j = gu ∨ j = ge ∨ j = D ∨ j = DF) ∨ ∃ k, k < N ∧ j = nthN ρF k
/-- The blocks of the rows. -/
def FoR (N : Nat) (ρ : List Nat) (j : Nat) : Prop := ∃ k, k < N ∧ j = nthN ρ k
/-- Where all that Follow holds lies. -/
structure FoSt (w : World) (vu vm vg ve vf gu ge D DF N T np : Nat) (ρ ρF : List Nat) (used emp : List Bool) (FT M : List (List Bool)) : Prop where
  u : BlSt w vu gu np used
  e : BlSt w ve ge N emp
  c : w.cell? ⟨vm, 0, none⟩ = some (.slice (some ⟨D, 0, none⟩) N N)
  cf : w.cell? ⟨vf, 0, none⟩ = some (.slice (some ⟨DF, 0, none⟩) N N)
  g : w.cell? ⟨vg, 0, none⟩ = some (.int .i64 (T : Int))
  m : MtSt w D N (T + 1) ρ M
  f : MtSt w DF N T ρF FT
  b : ∀ j, FoB vu vm vg ve vf gu ge D DF N ρF j → j < w.heap.size
  n : ∀ j, FoB vu vm vg ve vf gu ge D DF N ρF j → ¬ FoR N ρ j
section
variable {w w' : World} {vu vm vg ve vf gu ge D DF N T np k : Nat} {ρ ρF : List Nat} {used emp r : List Bool} {FT M : List (List Bool)}
theorem FoSt.rlt (h : FoSt w vu vm vg ve vf gu ge D DF N T np ρ ρF used emp FT M) {j : Nat} (hj : FoR N ρ j) : j < w.heap.size := by
  obtain ⟨k, hk, rfl⟩ := hj
  exact (h.m.rows k hk).1.lt
theorem FoSt.keep {S : Nat → Prop} (h : FoSt w vu vm vg ve vf gu ge D DF N T np ρ ρF used emp FT M) (hk : Kp S w w') (h1 : ∀ j, FoB vu vm vg ve vf gu ge D DF N ρF j → ¬ S j) (h2 : ∀ j, FoR N ρ j → ¬ S j) : FoSt w' vu vm vg ve vf gu ge D DF N T np ρ ρF used emp FT M := by
  have e1 : FoB vu vm vg ve vf gu ge D DF N ρF vu := .inl (.inl rfl)
  have e2 : FoB vu vm vg ve vf gu ge D DF N ρF vm := .inl (.inr (.inl rfl))
  have e3 : FoB vu vm vg ve vf gu ge D DF N ρF vg := .inl (.inr (.inr (.inl rfl)))
  have e4 : FoB vu vm vg ve vf gu ge D DF N ρF ve := .inl (.inr (.inr (.inr (.inl rfl))))
  have e5 : FoB vu vm vg ve vf gu ge D DF N ρF vf := .inl (.inr (.inr (.inr (.inr rfl))))
  have e6 : FoB vu vm vg ve vf gu ge D DF N ρF gu := .inr (.inl (.inl rfl))
  have e7 : FoB vu vm vg ve vf gu ge D DF N ρF ge := .inr (.inl (.inr (.inl rfl)))
  have e8 : FoB vu vm vg ve vf gu ge D DF N ρF D := .inr (.inl (.inr (.inr (.inl rfl))))
  have e9 : FoB vu vm vg ve vf gu ge D DF N ρF DF := .inr (.inl (.inr (.inr (.inr rfl))))
  have ea : ∀ k, k < N → FoB vu vm vg ve vf gu ge D DF N ρF (nthN ρF k) := fun k hk => .inr (.inr ⟨k, hk, rfl⟩)
  exact ⟨⟨(hk.cell (p := ⟨vu, 0, none⟩) (h.b _ e1) (h1 _ e1)).trans h.u.c, (hk.block gu (h.b _ e6) (h1 _ e6)).trans h.u.b, h.u.l⟩,
    ⟨(hk.cell (p := ⟨ve, 0, none⟩) (h.b _ e4) (h1 _ e4)).trans h.e.c, (hk.block ge (h.b _ e7) (h1 _ e7)).trans h.e.b, h.e.l⟩,
    (hk.cell (p := ⟨vm, 0, none⟩) (h.b _ e2) (h1 _ e2)).trans h.c, (hk.cell (p := ⟨vf, 0, none⟩) (h.b _ e5) (h1 _ e5)).trans h.cf, (hk.cell (p := ⟨vg, 0, none⟩) (h.b _ e3) (h1 _ e3)).trans h.g,
    h.m.keep hk (h1 _ e8) (fun k hk => h2 _ ⟨k, hk, rfl⟩), h.f.keep hk (h1 _ e9) (fun k hk => h1 _ (ea k hk)), fun j hj => Nat.lt_of_lt_of_le (h.b j hj) hk.size, h.n⟩
theorem FoSt.below (h : FoSt w vu vm vg ve vf gu ge D DF N T np ρ ρF used emp FT M) (hb : Below w.heap.size w w') : FoSt w' vu vm vg ve vf gu ge D DF N T np ρ ρF used emp FT M :=
  h.keep (S := fun _ => False) (Kp.of hb) (fun _ _ e => e) (fun _ _ e => e)
/-- A row turned. -/
theorem FoSt.row (h : FoSt w vu vm vg ve vf gu ge D DF N T np ρ ρF used emp FT M) (hk : k < N) (hr : r.length = T + 1) (hkp : Kp (fun j => j = nthN ρ k) w w') (hb : Blk w' (nthN ρ k) 4 (bv r)) :
    FoSt w' vu vm vg ve vf gu ge D DF N T np ρ ρF used emp FT (M.set k r) := by
  have hn : ∀ j, FoB vu vm vg ve vf gu ge D DF N ρF j → ¬ j = nthN ρ k := fun j hj e => h.n j hj ⟨k, hk, e⟩
  have e1 : FoB vu vm vg ve vf gu ge D DF N ρF vu := .inl (.inl rfl)
  have e2 : FoB vu vm vg ve vf gu ge D DF N ρF vm := .inl (.inr (.inl rfl))
  have e3 : FoB vu vm vg ve vf gu ge D DF N ρF vg := .inl (.inr (.inr (.inl rfl)))
  have e4 : FoB vu vm vg ve vf gu ge D DF N ρF ve := .inl (.inr (.inr (.inr (.inl rfl))))
  have e5 : FoB vu vm vg ve vf gu ge D DF N ρF vf := .inl (.inr (.inr (.inr (.inr rfl))))
  have e6 : FoB vu vm vg ve vf gu ge D DF N ρF gu := .inr (.inl (.inl rfl))
  have e7 : FoB vu vm vg ve vf gu ge D DF N ρF ge := .inr (.inl (.inr (.inl rfl)))
  have e9 : FoB vu vm vg ve vf gu ge D DF N ρF DF := .inr (.inl (.inr (.inr (.inr rfl))))
  have ea : ∀ k, k < N → FoB vu vm vg ve vf gu ge D DF N ρF (nthN ρF k) := fun k hk => .inr (.inr ⟨k, hk, rfl⟩)
  exact ⟨⟨(hkp.cell (p := ⟨vu, 0, none⟩) (h.b _ e1) (hn _ e1)).trans h.u.c, (hkp.block gu (h.b _ e6) (hn _ e6)).trans h.u.b, h.u.l⟩,
    ⟨(hkp.cell (p := ⟨ve, 0, none⟩) (h.b _ e4) (hn _ e4)).trans h.e.c, (hkp.block ge (h.b _ e7) (hn _ e7)).trans h.e.b, h.e.l⟩,
    (hkp.cell (p := ⟨vm, 0, none⟩) (h.b _ e2) (hn _ e2)).trans h.c, (hkp.cell (p := ⟨vf, 0, none⟩) (h.b _ e5) (hn _ e5)).trans h.cf, (hkp.cell (p := ⟨vg, 0, none⟩) (h.b _ e3) (hn _ e3)).trans h.g,
    h.m.set_ hk hr hkp hb, h.f.keep hkp (hn _ e9) (fun k hk => hn _ (ea k hk)), fun j hj => Nat.lt_of_lt_of_le (h.b j hj) hkp.size, h.n⟩
end

/-- Symbols that fit. -/
abbrev Sy (N T : Nat) := { s : Int // (s < 0 → (-1 - s).toNat < N) ∧ s < (T : Int) }
theorem sy_one {N T : Nat} (hN : 0 < N) : ((-1 : Int) < 0 → (-1 - (-1 : Int)).toNat < N) ∧ (-1 : Int) < (T : Int) := ⟨fun _ => by simpa using hN, by omega⟩
def syf {N T : Nat} (hN : 0 < N) (r : List Int) (hr : FitS N T r) (k : Nat) : Nat × Sy N T := (k, if h : k < r.length then ⟨nth r k, by rw [nth_get h]; exact hr _ (List.getElem_mem h)⟩ else ⟨-1, sy_one hN⟩)
theorem syf_nth {N T : Nat} {hN : 0 < N} {r : List Int} {hr : FitS N T r} {k : Nat} (h : k < r.length) : (syf hN r hr k).2.1 = nth r k := by unfold syf; rw [dif_pos h]
/-- What has come, as it stands in the production. -/
def restS {N T : Nat} (pre : List (Nat × Sy N T)) : List Int := (pre.map fun x => x.2.1).reverse
theorem restS_nil {N T : Nat} : restS ([] : List (Nat × Sy N T)) = [] := rfl
theorem restS_snoc {N T : Nat} (pre : List (Nat × Sy N T)) (x : Nat × Sy N T) : restS (pre ++ [x]) = x.2.1 :: restS pre := by unfold restS; simp
theorem restS_fit {N T : Nat} (pre : List (Nat × Sy N T)) : FitS N T (restS pre) := fun s hs => by
  unfold restS at hs
  rw [List.mem_reverse, List.mem_map] at hs
  obtain ⟨x, _, rfl⟩ := hs
  exact x.2.2
theorem restS_all {N T : Nat} (hN : 0 < N) (r : List Int) (hr : FitS N T r) : restS (upto (syf hN r hr) r.length 0) = r := by
  have := upto_rev (syf hN r hr) (fun x => x.2.1) r (fun k hk => syf_nth hk) r.length 0 (by omega)
  rw [List.drop_zero] at this
  exact this

/-- Changes of blocks of cells, and of blocks that lay below. -/
theorem keepsFrom_of {S : Nat → Prop} {B1 : Nat} {W W' : World} (h : Kp S W W') (hS : ∀ j, S j → j < B1 ∨ ∃ vs e, W.heap[j]? = some (.cells vs e (0, 0))) : KeepsFrom B1 W W' :=
  ⟨h.size, fun k o hB hk ho => (h.block k (Array.getElem?_eq_some_iff.1 hk).1 (fun e => by
    rcases hS k e with q | ⟨vs, t, q⟩
    · omega
    · rw [q] at hk; cases hk; cases ho)).trans hk⟩
theorem kp_of_grownBy {W W' : World} {row : Option Nat} (h : W.grownBy W' row) : Kp (fun j => some j = row) W W' := ⟨h.os, h.tape, h.output, h.size, fun k hk hn => h.block k hk hn⟩

section
variable (w : World) (vu vm vg ve vf gu ge D DF N T np bb : Nat) (ρ ρF : List Nat) (used emp L : List Bool) (FT M : List (List Bool))
/-- Between two rounds of the range. -/
structure FoI (gb cap : Nat) (tl : List Value) (pre : List (Nat × Sy N T)) (W : World) : Prop where
  st : FoSt W vu vm vg ve vf gu ge D DF N T np ρ ρF used emp FT (goB emp FT T L (restS pre) M).1
  mo : Boxed W (w.heap.size + 1) 4 (.bool (goB emp FT T L (restS pre) M).2)
  be : Boxed W bb 38 (.slice (some ⟨gb, 0, none⟩) (T + 1) cap)
  bc : T + 1 ≤ cap
  bl : BlT W gb (behR emp FT T (restS pre) L) tl
  g1 : w.heap.size + 2 ≤ gb
  g2 : gb ≠ bb
  g3 : gb ≠ bb + 1
  sz : bb + 2 ≤ W.heap.size
  bx : w.heap.size + 2 ≤ bb
  kp : Kp (FoR N ρ) w W
  lt : ∀ j, FoB vu vm vg ve vf gu ge D DF N ρF j ∨ FoR N ρ j → j < w.heap.size
end

theorem FoI.own {w : World} {vu vm vg ve vf gu ge D DF N T np bb gb cap B1 : Nat} {tl : List Value} {ρ ρF : List Nat} {used emp L : List Bool} {FT M : List (List Bool)} {pre : List (Nat × Sy N T)} {X Y : World} {row : Option Nat}
    (h : FoI w vu vm vg ve vf gu ge D DF N T np bb ρ ρF used emp L FT M gb cap tl pre X) (hg : X.grownBy Y row) (hB : w.heap.size ≤ B1) (hr : ∀ r, row = some r → B1 ≤ r ∧ ∃ o : Obj, X.heap[r]? = some o ∧ o.isCells = false) :
    FoI w vu vm vg ve vf gu ge D DF N T np bb ρ ρF used emp L FT M gb cap tl pre Y := by
  have hne : ∀ j vs e, X.heap[j]? = some (.cells vs e (0, 0)) → some j ≠ row := fun j vs e hj e2 => by
    obtain ⟨_, o, ho, hc⟩ := hr j e2.symm
    rw [hj] at ho; cases ho; cases hc
  have hlo : ∀ j, j < w.heap.size → some j ≠ row := fun j hj e => by have := (hr j e.symm).1; omega
  exact ⟨h.st.keep (kp_of_grownBy hg) (fun j hj => hlo j (h.lt j (.inl hj))) (fun j hj => hlo j (h.lt j (.inr hj))), h.mo.kept hg (hne _ _ _ h.mo), h.be.kept hg (hne _ _ _ h.be), h.bc,
    Blk.grown h.bl hg (hne _ _ _ h.bl), h.g1, h.g2, h.g3, Nat.le_trans h.sz hg.size, h.bx, h.kp.grown hg (fun k hk => .inl (by have := (hr k hk).1; omega)), h.lt⟩

/-- What a round that goes on keeps. -/
def FoK (w : World) (N bb : Nat) (ρ : List Nat) (X Y : World) : Prop := bb + 2 ≤ X.heap.size ∧ Kp (fun j => FoR N ρ j ∨ (w.heap.size < j ∧ j ≠ bb + 1)) X Y
theorem FoK.trans {w X Y Z : World} {N bb : Nat} {ρ : List Nat} (h : FoK w N bb ρ X Y) (k : FoK w N bb ρ Y Z) : FoK w N bb ρ X Z := ⟨h.1, h.2.trans k.2⟩

/-- What a round may turn. -/
theorem FoI.kf {w : World} {vu vm vg ve vf gu ge D DF N T np bb gb cap : Nat} {tl : List Value} {ρ ρF : List Nat} {used emp L : List Bool} {FT M : List (List Bool)} {pre : List (Nat × Sy N T)} {W W' : World}
    (h : FoI w vu vm vg ve vf gu ge D DF N T np bb ρ ρF used emp L FT M gb cap tl pre W) (hk : Kp (fun j => j = bb ∨ j = w.heap.size + 1 ∨ FoR N ρ j ∨ j = gb) W W') : KeepsFrom (bb + 2) W W' ∧ FoK w N bb ρ W W' ∧ Kp (FoR N ρ) w W' := by
  have hbx := h.bx; have hg1 := h.g1; have hg3 := h.g3; have hkp := h.kp.size
  refine ⟨keepsFrom_of hk fun j hj => ?_, ⟨h.sz, hk.mono fun j hj hs => ?_⟩, ?_⟩
  · rcases hj with rfl | rfl | q | rfl
    · exact .inl (by omega)
    · exact .inl (by omega)
    · exact .inl (by have := h.lt j (.inr q); omega)
    · exact .inr ⟨_, _, h.bl⟩
  · rcases hs with rfl | rfl | q | rfl
    · exact .inr ⟨by omega, by omega⟩
    · exact .inr ⟨by omega, by omega⟩
    · exact .inl q
    · exact .inr ⟨by omega, by omega⟩
  · refine ⟨hk.os.trans h.kp.os, hk.tape.trans h.kp.tape, hk.output.trans h.kp.output, Nat.le_trans hkp hk.size, fun j hj hn => (hk.block j (Nat.lt_of_lt_of_le hj hkp) ?_).trans (h.kp.block j hj hn)⟩
    rintro (rfl | rfl | q | rfl)
    · omega
    · omega
    · exact hn q
    · omega
theorem Kp.step {S : Nat → Prop} {a w w' : World} {g : Nat} (h : Kp S a w) (k : Kp (fun j => j = g) w w') (hg : a.heap.size ≤ g ∨ S g) : Kp S a w' :=
  ⟨k.os.trans h.os, k.tape.trans h.tape, k.output.trans h.output, Nat.le_trans h.size k.size, fun i hi hs => (k.block i (Nat.lt_of_lt_of_le hi h.size) (fun e => by rcases hg with q | q; omega; exact hs (e ▸ q))).trans (h.block i hi hs)⟩
/-- A new row of untruths, and the variable that leads to it. -/
theorem fresh_row (W : World) (bb T : Nat) (v : Value) (h : Boxed W bb 38 v) :
    Boxed ((W.setCell ⟨bb, 0, none⟩ (.slice (some ⟨W.heap.size, 0, none⟩) (T + 1) (T + 1))).alloc (.cells (zs (.bool false) (T + 1)) 4)) bb 38 (.slice (some ⟨W.heap.size, 0, none⟩) (T + 1) (T + 1)) ∧
    BlT ((W.setCell ⟨bb, 0, none⟩ (.slice (some ⟨W.heap.size, 0, none⟩) (T + 1) (T + 1))).alloc (.cells (zs (.bool false) (T + 1)) 4)) W.heap.size (zT T) [] ∧
    Kp (fun j => j = bb) W ((W.setCell ⟨bb, 0, none⟩ (.slice (some ⟨W.heap.size, 0, none⟩) (T + 1) (T + 1))).alloc (.cells (zs (.bool false) (T + 1)) 4)) ∧
    ((W.setCell ⟨bb, 0, none⟩ (.slice (some ⟨W.heap.size, 0, none⟩) (T + 1) (T + 1))).alloc (.cells (zs (.bool false) (T + 1)) 4)).heap.size = W.heap.size + 1 := by
  have hlt := h.lt
  have e : (W.setCell ⟨bb, 0, none⟩ (.slice (some ⟨W.heap.size, 0, none⟩) (T + 1) (T + 1))).heap.size = W.heap.size := setCell_size _ _ _
  refine ⟨(h.set _).alloc _, ?_, ((Kp.refl (fun j => j = bb) W).set_ (p := ⟨bb, 0, none⟩) (.inr rfl) _).alloc _, by simp⟩
  have := Blk.made (W.setCell ⟨bb, 0, none⟩ (.slice (some ⟨W.heap.size, 0, none⟩) (T + 1) (T + 1))) 4 (.bool false) (T + 1)
  rw [bv_rep, e] at this
  exact BlT.of this

set_option maxHeartbeats 4000000 in
theorem follow1_used (i : Nat) (t : Nat) (r : List Int) (py : Int) (A' : Option Addr) (n' c' vu vm vg ve vf gu ge D DF N T np : Nat) (ρ ρF : List Nat) (used emp : List Bool) (FT M : List (List Bool)) (w : World) (B : Nat) (hB : B ≤ w.heap.size) (hN0 : 0 < N) (hN : N ≤ 300) (hT : T ≤ 300)
    (hr : RdI w B A' r) (hl : r.length = n') (hm : n' ≤ 20) (hf : FoSt w vu vm vg ve vf gu ge D DF N T np ρ ρF used emp FT M) (hBr : ∀ j, FoR N ρ j → B ≤ j)
    (h1 : t < N) (h2 : FitS N T r) (hi : i < np) (hu : bth used i = true) (hF : Rect N T FT) (hM : Rect N (T + 1) M) :
    Calls Try.prog 59 #[.int .i64 i, .agg #[.int .i64 t, .slice A' n' c', .int .i64 py], .pointer (some ⟨vu, 0, none⟩), .pointer (some ⟨vm, 0, none⟩), .pointer (some ⟨vg, 0, none⟩), .pointer (some ⟨ve, 0, none⟩), .pointer (some ⟨vf, 0, none⟩)] w fun e w' => e = .returned (.bool (goB emp FT T (rowB M t) r M).2) ∧ FoSt w' vu vm vg ve vf gu ge D DF N T np ρ ρF used emp FT (goB emp FT T (rowB M t) r M).1 ∧ Kp (FoR N ρ) w w' := by
  have hb0 : Below w.heap.size w (w.alloc (.cells #[.int .i64 t, .slice A' n' c', .int .i64 py] 50)) := (Below.refl _ _).alloc (Nat.le_refl _) _
  have zu := hf.u.c
  have zub := hf.u.b.bcell (k := i) (by rw [hf.u.l]; exact hi)
  rw [hu] at zub
  have zm := hf.c
  have zD := hf.m.cell h1
  have lu := hf.b vu (.inl (.inl rfl)); have lgu := hf.b gu (.inr (.inl (.inl rfl))); have lm := hf.b vm (.inl (.inr (.inl rfl))); have lD := hf.m.dl
  have HF0 := Lib.hid hf; have HR0 := Lib.hid hr; have HL := Lib.hid hl; have HB0 := Lib.hid hb0; have H2 := Lib.hid h2
  have HFF := Lib.hid hF; have HMM := Lib.hid hM
  clear hf hr hl hb0 h2 hF hM hu
  refine (callsIn_wide (n := 4)).1 ?_
  refine callsIn_of_wp_marks Try.func59 rfl trivial ?_ rfl
  simp only [Try.ntmps59, List.size_toArray, List.length_cons, List.length_nil, Nat.reduceAdd, Nat.reduceSub, Array.replicate_succ, Array.replicate_zero, List.push_toArray, List.append_toArray, List.nil_append, List.cons_append]
  gi_wp2_with fail
  have hs0 : (w.alloc (.cells #[.int .i64 t, .slice A' n' c', .int .i64 py] 50)).heap.size = w.heap.size + 1 := by simp
  have hx1 : (w.alloc (.cells #[.int .i64 t, .slice A' n' c', .int .i64 py] 50)).cell? ⟨w.heap.size, 1, none⟩ = some (.slice A' n' c') := by simp
  generalize hW0 : w.alloc (.cells #[.int .i64 t, .slice A' n' c', .int .i64 py] 50) = W0 at *
  have hmb : Boxed (W0.alloc (.cells #[.bool false] 4)) (w.heap.size + 1) 4 (.bool false) := by rw [← hs0]; exact Boxed.new _ _ _
  have hb1 : Below (w.heap.size + 1) W0 (W0.alloc (.cells #[.bool false] 4)) := (Below.refl _ _).alloc (by omega) _
  have hs1 : (W0.alloc (.cells #[.bool false] 4)).heap.size = w.heap.size + 2 := by simp [hs0]
  generalize W0.alloc (.cells #[.bool false] 4) = W1 at *
  have hb01 : Below w.heap.size w W1 := HB0.out.trans (hb1.mono (by omega))
  have hrow := (HF0.out.below hb01).m.rows t h1
  refine ⟨trivial, (callsIn_wide.2 (clone_any (nthN ρ t) (T + 1) (rowB M t) W1 (by omega) hrow.1 hrow.2 (by omega))).mono ?_⟩
  rintro e w2 ⟨g, cap, tl, rfl, hcap, hg, hbl, hb2⟩
  have hs2 := hb2.size
  rw [hs1] at hb2 hg hs2
  have hx2 := (hb2.cell (p := ⟨w.heap.size, 1, none⟩) (by show w.heap.size < _; omega)).trans ((hb1.cell (p := ⟨w.heap.size, 1, none⟩) (Nat.lt_succ_self _)).trans hx1)
  have hx3 : (w2.alloc (.cells #[.slice (some ⟨g, 0, none⟩) (T + 1) cap] 38)).cell? ⟨w.heap.size, 1, none⟩ = some (.slice A' n' c') := (((Below.refl w2.heap.size w2).alloc (Nat.le_refl _) _).cell (p := ⟨w.heap.size, 1, none⟩) (by show w.heap.size < _; omega)).trans hx2
  have hwlt : w.heap.size < w2.heap.size := by omega
  clear zu zub zm zD hx1 hx2 hrow
  gi_wp2_with fail
  refine ⟨trivial, (callsIn_wide.2 (backward_any _ _ _ _)).mono ?_⟩
  rintro e w3 ⟨rfl, rfl⟩
  gi_wp2_with fail
  obtain ⟨bb, hbb⟩ : ∃ bb, bb = w2.heap.size := ⟨_, rfl⟩
  rw [← hbb]
  have hsz1 : (w2.alloc (.cells #[.slice (some ⟨g, 0, none⟩) (T + 1) cap] 38)).heap.size = bb + 1 := by simp [hbb]
  have hsz2 : ((w2.alloc (.cells #[.slice (some ⟨g, 0, none⟩) (T + 1) cap] 38)).alloc (.cells #[.slice A' n' c'] 22)).heap.size = bb + 2 := by simp [hbb]
  have hbx1 : Boxed (w2.alloc (.cells #[.slice (some ⟨g, 0, none⟩) (T + 1) cap] 38)) bb 38 (.slice (some ⟨g, 0, none⟩) (T + 1) cap) := by rw [hbb]; exact Boxed.new _ _ _
  have hbx2 := hbx1.alloc (.cells #[.slice A' n' c'] 22)
  have hcs := new_cell (w2.alloc (.cells #[.slice (some ⟨g, 0, none⟩) (T + 1) cap] 38)) (bb + 1) hsz1 (.slice A' n' c') 22
  have hb24 : Below w2.heap.size w2 ((w2.alloc (.cells #[.slice (some ⟨g, 0, none⟩) (T + 1) cap] 38)).alloc (.cells #[.slice A' n' c'] 22)) := ((Below.refl _ _).alloc (Nat.le_refl _) _).alloc (by simp) _
  generalize ((w2.alloc (.cells #[.slice (some ⟨g, 0, none⟩) (T + 1) cap] 38)).alloc (.cells #[.slice A' n' c'] 22)) = WL at *
  have hb2L : Below (w.heap.size + 2) W1 WL := hb2.trans (hb24.mono (by omega))
  have hbL : Below w.heap.size w WL := hb01.trans (hb2L.mono (by omega))
  have hmo : Boxed WL (w.heap.size + 1) 4 (.bool false) := (hb2L.block _ (by omega)).trans hmb
  have hblL : BlT WL g (rowB M t) tl := (hb24.block _ hbl.lt).trans hbl
  have hgl := hbl.lt
  have hFr : RdI WL B A' r := HR0.out.below (hbL.mono hB)
  have hI0 : FoI w vu vm vg ve vf gu ge D DF N T np bb ρ ρF used emp (rowB M t) FT M g cap tl [] WL :=
    ⟨HF0.out.below hbL, hmo, hbx2, hcap, hblL, hg, by omega, by omega, by omega, by omega, Kp.of hbL, fun j hj => hj.elim (fun h => HF0.out.b j h) (fun h => HF0.out.rlt h)⟩
  have HI0 := Lib.hid hI0; have HCS := Lib.hid hcs; have HFR := Lib.hid hFr
  have hsk : w.heap.size + 2 ≤ bb := by omega
  clear hI0 hcs hFr hblL hmo hbL hb2L hb24 hbx1 hbx2 hb2 hbl hmb hb1 hb01 hx3 hwlt hsz1 hs2 hg hcap hgl hs1 hs0
  clear hbb
  have hnr : r.length = n' := HL.out
  have hfit : FitS N T r := H2.out
  have HMK := Lib.hid (fun w : World => mk_row elBg rfl .i64 .i64 (T + 1) ((T : Int) + 1) (by simp) (by omega) (by omega) w)
  have hst : SeqStopsK Fence.wide (4 - 1) Try.prog 77 #[.pointer (some ⟨bb + 1, 0, none⟩)] (fun x : Nat × Sy N T => #[.int .i64 (x.1 : Int), .int .i64 x.2.1]) (FoK w N bb ρ) (fun ys => ys = upto (syf hN0 r hfit) r.length 0) (fun pre => ∃ k, k ≤ r.length ∧ pre = upto (syf hN0 r hfit) r.length k) r.length WL :=
    backward_stops (syf hN0 r hfit) (fun x : Nat × Sy N T => #[.int .i64 (x.1 : Int), .int .i64 x.2.1]) Fence.wide _ trivial rfl (by omega) (bb + 1) B c' A' r (by omega) (fun k hk => by rw [syf_nth hk]; rfl) _
      (fun X Y hXY p hp => hXY.2.cell (by rcases hp with e | e <;> have := hXY.1 <;> omega) (fun q => by
        rcases q with q | ⟨q1, q2⟩
        · rcases hp with e | e
          · have := HF0.out.rlt q; omega
          · have := hBr _ q; omega
        · rcases hp with e | e <;> omega)) WL (by omega) (by omega) (by rw [HL.out]; exact HCS.out) HFR.out
  refine wpIn_rangeFunc_ownG rfl (by omega) (gf := 77) (lb := #[.pointer (some ⟨bb + 1, 0, none⟩)]) rfl trivial (enters_of Try.func77 (by kernel_rfl) rfl) hst
    (fun h k => h.trans k) (fun W l o o' hl ho _ _ => ⟨by have := (Array.getElem?_eq_some_iff.1 ho).1; omega, (kp_of_grownBy (grownBy_putObj' W l o')).mono (fun j _ e => by cases e; exact .inr ⟨by omega, by omega⟩)⟩) (Below.refl _ _) (fun _ => rfl)
    (fun pre W => ∃ gb cap tl, FoI w vu vm vg ve vf gu ge D DF N T np bb ρ ρF used emp (rowB M t) FT M gb cap tl pre W) (fun _ _ _ => False)
    (fun pre X Y row ⟨gb, cap, tl, h⟩ hg hr => ⟨gb, cap, tl, h.own hg (B1 := WL.heap.size) (by omega) hr⟩)
    (fun _ _ _ _ _ h _ _ => h)
    ⟨g, cap, tl, HI0.out⟩
    (fun x => { tmps := #[.int .i64 (i : Int), .agg #[.int .i64 (t : Int), .slice A' n' c', .int .i64 py], .pointer (some ⟨vu, 0, none⟩), .pointer (some ⟨vm, 0, none⟩), .pointer (some ⟨vg, 0, none⟩), .pointer (some ⟨ve, 0, none⟩), .pointer (some ⟨vf, 0, none⟩), undef, .pointer (some ⟨w.heap.size, 0, none⟩), .bool false, .pointer (some ⟨w.heap.size + 1, 0, none⟩), .pointer (some ⟨bb, 0, none⟩), undef, .int .i64 x.2.1, .slice (some ⟨gu, 0, none⟩) np np, .int .i64 (i : Int), .pointer (some ⟨gu, i, none⟩), .bool true, .bool false, .slice (some ⟨D, 0, none⟩) N N, .pointer (some ⟨w.heap.size, 0, none⟩), .int .i64 (t : Int), .pointer (some ⟨D, t, none⟩), .slice (some ⟨nthN ρ t, 0, none⟩) (T + 1) (T + 1), .slice (some ⟨g, 0, none⟩) (T + 1) cap, .pointer (some ⟨w.heap.size, 1, none⟩), .slice A' n' c', .func (.func 77) #[] #[.pointer (some ⟨bb + 1, 0, none⟩)], .int .i64 (x.1 : Int), .int .i64 x.2.1, undef, undef, undef, undef, undef, undef, undef, undef, undef, undef, undef, undef, undef, undef, undef, undef, undef, undef, undef, undef, undef, undef, undef, undef, undef, undef, undef, undef, undef, undef, undef, undef, undef, undef, undef, undef, undef], defers := [] }) ?assign ?body ?done ?stop
  case assign =>
    intro l x W K hK
    gi_wp2
    exact hK
  case body =>
    rintro l pre ⟨kx, s, hs⟩ W ⟨gb, cap', tl', hI⟩ _
    have hsz := hI.sz; have hg1 := hI.g1; have hg2 := hI.g2; have hg3 := hI.g3; have hbc := hI.bc
    have zvg := hI.st.g
    have zbe := hI.be.cell; have zfe := hI.be.frozen; have lbe := hI.be.lt
    have zmo := hI.mo.cell; have zfm := hI.mo.frozen; have lmo := hI.mo.lt
    have lvg := hI.lt vg (.inl (.inl (.inr (.inr (.inl rfl)))))
    dsimp only
    have HI := Lib.hid hI
    clear hI
    by_cases h0 : 0 ≤ s
    · as_aux_lemma =>
        have d1 : decide (0 ≤ s) = true := decide_eq_true h0
        obtain ⟨u, rfl⟩ := Int.eq_ofNat_of_zero_le h0
        have hu : u < T := by have := hs.2; omega
        have hmk := HMK.out
        gi_upto_region 9 with (fail)
        have hRB := restS_snoc pre (⟨kx, (u : Int), hs⟩ : Nat × Sy N T)
        obtain ⟨f1, f2, f3, f4⟩ := fresh_row W bb T _ HI.out.be
        clear hmk
        generalize ((W.setCell ⟨bb, 0, none⟩ (.slice (some ⟨W.heap.size, 0, none⟩) (T + 1) (T + 1))).alloc (.cells (zs (.bool false) (T + 1)) 4)) = W5 at *
        have y1 := f1.cell
        have y2 := f2.bcell (k := u) (by rw [zT_len]; omega)
        have y3 := f2.frozen u
        have f2b := f2.bset (k := u) (by rw [zT_len]; omega) true
        have f1b : Boxed (W5.setCell ⟨W.heap.size, u, none⟩ (.bool true)) bb 38 _ := Blk.far f1 (p := ⟨W.heap.size, u, none⟩) (by show bb ≠ W.heap.size; omega) _
        have f3b : Kp (fun j => j = bb) W (W5.setCell ⟨W.heap.size, u, none⟩ (.bool true)) := f3.set_ (.inl (Nat.le_refl _)) _
        obtain ⟨k1, k2, k3⟩ := HI.out.kf (f3b.mono fun j _ e => .inl e)
        have hst : FoSt (W5.setCell ⟨W.heap.size, u, none⟩ (.bool true)) vu vm vg ve vf gu ge D DF N T np ρ ρF used emp FT (goB emp FT T (rowB M t) (restS pre) M).1 :=
          HI.out.st.keep f3b (fun j hj e => by have := HI.out.lt j (.inl hj); omega) (fun j hj e => by have := HI.out.lt j (.inr hj); omega)
        have hmo : Boxed (W5.setCell ⟨W.heap.size, u, none⟩ (.bool true)) (w.heap.size + 1) 4 (.bool (goB emp FT T (rowB M t) (restS pre) M).2) := (f3b.block _ lmo (by omega)).trans HI.out.mo
        have hfin : FoI w vu vm vg ve vf gu ge D DF N T np bb ρ ρF used emp (rowB M t) FT M W.heap.size (T + 1) [] (pre ++ [(⟨kx, (u : Int), hs⟩ : Nat × Sy N T)]) (W5.setCell ⟨W.heap.size, u, none⟩ (.bool true)) := by
          have e1 : goB emp FT T (rowB M t) (restS (pre ++ [(⟨kx, (u : Int), hs⟩ : Nat × Sy N T)])) M = goB emp FT T (rowB M t) (restS pre) M := by rw [hRB, goB, if_pos h0]
          have e2 : behR emp FT T (restS (pre ++ [(⟨kx, (u : Int), hs⟩ : Nat × Sy N T)])) (rowB M t) = (zT T).set u true := by rw [hRB, behR, if_pos h0]; simp
          refine ⟨by rw [e1]; exact hst, by rw [e1]; exact hmo, f1b, Nat.le_refl _, by rw [e2]; exact f2b, by omega, by omega, by omega, by rw [setCell_size]; omega, HI.out.bx, k3, HI.out.lt⟩
        have HFIN := Lib.hid hfin; have K1 := Lib.hid k1; have K2 := Lib.hid k2
        clear hfin k1 k2 k3 hst hmo f1b f2b f3b f1 f2 f3 hRB zvg zbe zfe zmo zfm
        gi_wp2_with fail
        exact ⟨by rw [hsz2]; exact K1.out, K2.out, _, _, _, HFIN.out⟩
    · as_aux_lemma =>
        have d1 : decide (0 ≤ s) = false := decide_eq_false h0
        have hxN := hs.1 (by omega)
        obtain ⟨x, hx1⟩ : ∃ x : Nat, x = (-1 - s).toNat := ⟨_, rfl⟩
        rw [← hx1] at hxN
        have hts : -1 - s = (x : Int) := by omega
        have hgo : goB emp FT T (rowB M t) (restS (pre ++ [(⟨kx, s, hs⟩ : Nat × Sy N T)])) M = ((goB emp FT T (rowB M t) (restS pre) M).1.set x (orB (rowB (goB emp FT T (rowB M t) (restS pre) M).1 x) (behR emp FT T (restS pre) (rowB M t))), newB (rowB (goB emp FT T (rowB M t) (restS pre) M).1 x) (behR emp FT T (restS pre) (rowB M t)) || (goB emp FT T (rowB M t) (restS pre) M).2) := by
          rw [restS_snoc, goB, if_neg h0, ← hx1]
        have hbe : behR emp FT T (restS (pre ++ [(⟨kx, s, hs⟩ : Nat × Sy N T)])) (rowB M t) = orK (if bth emp x = true then behR emp FT T (restS pre) (rowB M t) else zT T) (rowB FT x) T := by
          rw [restS_snoc, behR, if_neg h0, ← hx1]
        have hcl : (behR emp FT T (restS pre) (rowB M t)).length = T + 1 := behR_len HFF.out (restS_fit pre) (HMM.out.2 t h1)
        have hal := (HI.out.st.m.rows x hxN).2
        have hab := (HI.out.st.m.rows x hxN).1
        have hS := HI.out.st
        have hbl := HI.out.bl
        have zvm := hS.c
        have zDx := hS.m.cell hxN
        have hgx : nthN ρ x ≠ gb := fun e => by have := HI.out.lt _ (.inr ⟨x, hxN, rfl⟩); omega
        have hadd := add_wide (nthN ρ x) gb (T + 1) (T + 1) (T + 1) cap' (rowB (goB emp FT T (rowB M t) (restS pre) M).1 x) (behR emp FT T (restS pre) (rowB M t)) [] tl' W.drew (Nat.le_refl _) (by omega) hgx (BlT.of hab.drew) hbl (Nat.le_refl _) hbc hal hcl
        rw [newK_all hal hcl, orK_all hal hcl] at hadd
        have hol : (orB (rowB (goB emp FT T (rowB M t) (restS pre) M).1 x) (behR emp FT T (restS pre) (rowB M t))).length = T + 1 := orB_len hal hcl
        have HBE := Lib.hid hbe; have HGO := Lib.hid hgo; have HCL := Lib.hid hcl; have HOL := Lib.hid hol
        clear hgo hbe hcl hab hS hbl hal hol
        generalize orB (rowB (goB emp FT T (rowB M t) (restS pre) M).1 x) (behR emp FT T (restS pre) (rowB M t)) = orr at *
        generalize newB (rowB (goB emp FT T (rowB M t) (restS pre) M).1 x) (behR emp FT T (restS pre) (rowB M t)) = nw at *
        have HADD := Lib.hid hadd
        clear hadd hx1
        gi_wp2_with fail
        refine wpIn_region_tail 6 (by kernel_rfl) (by kernel_rfl) (by kernel_rfl) ?_
        simp only [List.take_succ_cons, List.take_zero, List.drop_succ_cons, List.drop_zero]
        change wpStill _ _ W.drew (fun a' => wpList _ _ _ _ a' W.drew) _ _
        have hdr : Kp (fun j => j = bb ∨ j = w.heap.size + 1 ∨ FoR N ρ j ∨ j = gb) W W.drew := (Kp.refl _ _).draw
        obtain ⟨w4, hw4⟩ : ∃ w4, w4 = W.drew := ⟨_, rfl⟩
        rw [← hw4] at HADD hdr ⊢
        have hcl : ∀ p, w4.cell? p = W.cell? p := by intro p; rw [hw4]; rfl
        have hcf : ∀ p, w4.frozen? p = W.frozen? p := by intro p; rw [hw4]; rfl
        have hcb : ∀ k : Nat, w4.heap[k]? = W.heap[k]? := by intro p; rw [hw4]; rfl
        have hcs : w4.heap.size = W.heap.size := by rw [hw4]; rfl
        have y1 := (hcl _).trans zvm
        have y2 := (hcl _).trans zDx
        have y3 := (hcl _).trans zbe
        have HCB := Lib.hid hcb
        clear hcl hw4 zvm zDx zbe zmo zfm zfe zvg hcf hcb
        refine wpStill_of_quiet _ _ ?_
        repeat (first | go_big_quiet_skip | (go_big_quiet_want; go_big_quiet_op; go_big_quiet_on))
        refine wpQuiet_nil ?_
        go_wp2_with fail
        refine HADD.out.mono ?_
        rintro e w5 ⟨rfl, hb5, hk5⟩
        have hrw : FoSt w4 vu vm vg ve vf gu ge D DF N T np ρ ρF used emp FT (goB emp FT T (rowB M t) (restS pre) M).1 := HI.out.st.keep (S := fun _ => False) ⟨hdr.os, hdr.tape, hdr.output, hdr.size, fun k _ _ => HCB.out k⟩ (fun _ _ e => e) (fun _ _ e => e)
        have hS5 := hrw.row hxN HOL.out hk5 hb5.to
        have hlx := HI.out.lt _ (.inr ⟨x, hxN, rfl⟩)
        have hmo5 : Boxed w5 (w.heap.size + 1) 4 _ := (hk5.block _ (by omega) (by omega)).trans ((HCB.out _).trans HI.out.mo)
        have hbe5 : Boxed w5 bb 38 _ := (hk5.block _ (by omega) (by have := HI.out.bx; omega)).trans ((HCB.out _).trans HI.out.be)
        have hbl5 : BlT w5 gb _ tl' := (hk5.block _ (by have := HI.out.bl.lt; omega) (fun e => hgx e.symm)).trans ((HCB.out _).trans HI.out.bl)
        have hkp5 := hdr.trans (hk5.mono fun j _ e => .inr (.inr (.inl ⟨x, hxN, e⟩)))
        have z5 := hmo5.cell; have z6 := hmo5.frozen; have z7 := hmo5.lt
        have HS5 := Lib.hid hS5; have HM5 := Lib.hid hmo5; have HB5 := Lib.hid hbe5; have HL5 := Lib.hid hbl5; have HK5 := Lib.hid hkp5
        clear hb5 hk5 hrw hS5 hmo5 hbe5 hbl5 hkp5 y1 y2 y3 hdr HADD
        have hq2 : ∃ q2, q2 = (nw || (goB emp FT T (rowB M t) (restS pre) M).2) := ⟨_, rfl⟩
        generalize (goB emp FT T (rowB M t) (restS pre) M).2 = q at *
        obtain ⟨q2, hq2⟩ := hq2
        rw [← hq2] at HGO
        cases nw
        · simp only [Bool.false_or, Bool.true_or] at hq2
          subst hq2
          go_wp2_with fail
          refine ⟨rfl, ?_⟩
          have hM6 : Boxed (w5.setCell ⟨w.heap.size + 1, 0, none⟩ (.bool q2)) (w.heap.size + 1) 4 (.bool q2) := HM5.out.set _
          have hB6 : Boxed (w5.setCell ⟨w.heap.size + 1, 0, none⟩ (.bool q2)) bb 38 _ := Blk.far HB5.out (p := ⟨w.heap.size + 1, 0, none⟩) (by show bb ≠ w.heap.size + 1; omega) _
          have hL6 : BlT (w5.setCell ⟨w.heap.size + 1, 0, none⟩ (.bool q2)) gb _ tl' := Blk.far HL5.out (p := ⟨w.heap.size + 1, 0, none⟩) (by show gb ≠ w.heap.size + 1; omega) _
          have hK6 := HK5.out.set_ (p := ⟨w.heap.size + 1, 0, none⟩) (.inr (.inr (.inl rfl))) (.bool q2)
          have hS6 := HS5.out.keep (S := fun j => j = w.heap.size + 1) ((Kp.refl (fun j => j = w.heap.size + 1) w5).set_ (p := ⟨w.heap.size + 1, 0, none⟩) (.inr rfl) (.bool q2)) (fun j hj e => by have := HI.out.lt j (.inl hj); omega) (fun j hj e => by have := HI.out.lt j (.inr hj); omega)
          generalize w5.setCell ⟨w.heap.size + 1, 0, none⟩ (.bool q2) = w6 at *
          clear HM5 HB5 HL5 HK5 HS5 z5 z6 z7
          have zve := hS6.e.c
          have zeb := hS6.e.b.bcell (k := x) (by rw [hS6.e.l]; exact hxN)
          have hz6 := hK6.size
          have HS6 := Lib.hid hS6; have HK6 := Lib.hid hK6; have HM6 := Lib.hid hM6; have HB6 := Lib.hid hB6; have HL6 := Lib.hid hL6
          have zvg := hS6.g
          clear hS6 hK6 hM6 hB6 hL6
          generalize bth emp x = eb at *
          cases eb
          · have hmk := HMK.out
            have z1 := HB6.out.cell; have z2 := HB6.out.frozen; have z3 := HB6.out.lt
            have lvg6 : vg < w6.heap.size := by omega
            gi_upto_region 13 with (fail)
            obtain ⟨f1, f2, f3, f4⟩ := fresh_row w6 bb T _ HB6.out
            clear hmk z1 z2 z3 zve zeb zvg
            generalize ((w6.setCell ⟨bb, 0, none⟩ (.slice (some ⟨w6.heap.size, 0, none⟩) (T + 1) (T + 1))).alloc (.cells (zs (.bool false) (T + 1)) 4)) = w7 at *
            have hS7 := HS6.out.keep f3 (fun j hj e => by have := HI.out.lt j (.inl hj); omega) (fun j hj e => by have := HI.out.lt j (.inr hj); omega)
            have hM7 : Boxed w7 (w.heap.size + 1) 4 _ := (f3.block _ HM6.out.lt (by omega)).trans HM6.out
            have hK7 := HK6.out.trans (f3.mono fun j _ e => .inl e)
            have hA7 := HBE.out.trans (show _ = orK (zT T) (rowB FT x) T by rw [if_neg (by simp)])
            have hA7l : (zT T).length = T + 1 := zT_len
            have zA := f1.cell
            have zB := hS7.cf
            have zC := hS7.f.cell hxN
            have hFb := HI.out.lt _ (.inl (.inr (.inr ⟨x, hxN, rfl⟩) : FoB vu vm vg ve vf gu ge D DF N ρF (nthN ρF x)))
            have hadd := add_wide (w6.heap.size) (nthN ρF x) T (T + 1) (T + 1) T (zT T) (rowB FT x) ([]) [] w7.drew (by omega) (by omega) (by omega) f2 (BlT.of (hS7.f.rows x hxN).1) (by omega) (Nat.le_refl _) hA7l (hS7.f.rows x hxN).2
            have hk8 : Kp (fun j => j = bb ∨ j = w.heap.size + 1 ∨ FoR N ρ j ∨ j = gb) W w7.drew := hK7.draw
            have hs8 : FoSt w7.drew vu vm vg ve vf gu ge D DF N T np ρ ρF used emp FT _ := hS7.keep (S := fun _ => False) ((Kp.refl _ _).draw) (fun _ _ e => e) (fun _ _ e => e)
            have hm8 : Boxed w7.drew (w.heap.size + 1) 4 _ := hM7
            have hb8 : Boxed w7.drew bb 38 _ := f1
            have hl8 := hb8.lt; have hl9 := hm8.lt
            have hgb : (w6.heap.size) < w7.drew.heap.size := f2.lt
            have HADD := Lib.hid hadd; have HS8 := Lib.hid hs8; have HM8 := Lib.hid hm8; have HB8 := Lib.hid hb8; have HK8 := Lib.hid hk8; have HA7 := Lib.hid hA7
            clear hadd hs8 hm8 hb8 hk8 hS7 hM7 hK7 f1 f2 hA7 hA7l
            refine wpIn_region_tail 6 (by kernel_rfl) (by kernel_rfl) (by kernel_rfl) ?_
            simp only [List.take_succ_cons, List.take_zero, List.drop_succ_cons, List.drop_zero]
            change wpStill _ _ w7.drew (fun a' => wpList _ _ _ _ a' w7.drew) _ _
            have hcl : ∀ p, w7.drew.cell? p = w7.cell? p := fun _ => rfl
            have y1 := (hcl _).trans zA
            have y2 := (hcl _).trans zB
            have y3 := (hcl _).trans zC
            generalize w7.drew = w8 at *
            clear hcl zA zB zC
            refine wpStill_of_quiet _ _ ?_
            repeat (first | go_big_quiet_skip | (go_big_quiet_want; go_big_quiet_op; go_big_quiet_on))
            refine wpQuiet_nil ?_
            go_wp2_with fail
            refine HADD.out.mono ?_
            rintro e w9 ⟨rfl, hb9, hk9⟩
            have hk19 := HK8.out.step hk9 (by first | exact .inl hz6 | exact .inr (.inr (.inr (.inr rfl))))
            obtain ⟨k1, k2, k3⟩ := HI.out.kf hk19
            have hs9 := HS8.out.keep hk9 (fun j hj e => by have := HI.out.lt j (.inl hj); omega) (fun j hj e => by have := HI.out.lt j (.inr hj); omega)
            have hm9 : Boxed w9 (w.heap.size + 1) 4 _ := (hk9.block _ hl9 (by omega)).trans HM8.out
            have hb29 : Boxed w9 bb 38 _ := (hk9.block _ hl8 (by omega)).trans HB8.out
            have hsz9 := hk19.size
            have hfin : FoI w vu vm vg ve vf gu ge D DF N T np bb ρ ρF used emp (rowB M t) FT M (w6.heap.size) (T + 1) ([]) (pre ++ [(⟨kx, s, hs⟩ : Nat × Sy N T)]) w9 := by
              refine ⟨by rw [HGO.out]; exact hs9, by rw [HGO.out]; exact hm9, hb29, by omega, by rw [HA7.out]; exact hb9, by omega, by omega, by omega, by omega, HI.out.bx, k3, HI.out.lt⟩
            have HFIN := Lib.hid hfin; have K1 := Lib.hid k1; have K2 := Lib.hid k2
            clear hfin k1 k2 k3 hb29 hm9 hs9 hk19 hk9 hb9 y1 y2 y3
            go_wp2_with fail
            refine ⟨rfl, ?_⟩
            gi_wp2_with fail
            exact ⟨by rw [hsz2]; exact K1.out, K2.out, _, _, _, HFIN.out⟩
          · have hS7 := HS6.out; have hM7 := HM6.out; have hK7 := HK6.out; have f1 := HB6.out; have f2 := HL6.out
            have hA7 := HBE.out.trans (show _ = orK (behR emp FT T (restS pre) (rowB M t)) (rowB FT x) T by rw [if_pos rfl])
            have hA7l := HCL.out
            gi_upto_region 13 with (fail)
            obtain ⟨w7, hw7⟩ : ∃ w7, w7 = w6 := ⟨_, rfl⟩
            rw [← hw7] at hS7 hM7 hK7 f1 f2 ⊢
            clear hw7 zve zeb zvg HS6 HK6 HM6 HB6 HL6
            have zA := f1.cell
            have zB := hS7.cf
            have zC := hS7.f.cell hxN
            have hFb := HI.out.lt _ (.inl (.inr (.inr ⟨x, hxN, rfl⟩) : FoB vu vm vg ve vf gu ge D DF N ρF (nthN ρF x)))
            have hadd := add_wide (gb) (nthN ρF x) T (T + 1) (cap') T (behR emp FT T (restS pre) (rowB M t)) (rowB FT x) (tl') [] w7.drew (by omega) (by omega) (by omega) f2 (BlT.of (hS7.f.rows x hxN).1) (by omega) (Nat.le_refl _) hA7l (hS7.f.rows x hxN).2
            have hk8 : Kp (fun j => j = bb ∨ j = w.heap.size + 1 ∨ FoR N ρ j ∨ j = gb) W w7.drew := hK7.draw
            have hs8 : FoSt w7.drew vu vm vg ve vf gu ge D DF N T np ρ ρF used emp FT _ := hS7.keep (S := fun _ => False) ((Kp.refl _ _).draw) (fun _ _ e => e) (fun _ _ e => e)
            have hm8 : Boxed w7.drew (w.heap.size + 1) 4 _ := hM7
            have hb8 : Boxed w7.drew bb 38 _ := f1
            have hl8 := hb8.lt; have hl9 := hm8.lt
            have hgb : (gb) < w7.drew.heap.size := f2.lt
            have HADD := Lib.hid hadd; have HS8 := Lib.hid hs8; have HM8 := Lib.hid hm8; have HB8 := Lib.hid hb8; have HK8 := Lib.hid hk8; have HA7 := Lib.hid hA7
            clear hadd hs8 hm8 hb8 hk8 hS7 hM7 hK7 f1 f2 hA7 hA7l
            refine wpIn_region_tail 6 (by kernel_rfl) (by kernel_rfl) (by kernel_rfl) ?_
            simp only [List.take_succ_cons, List.take_zero, List.drop_succ_cons, List.drop_zero]
            change wpStill _ _ w7.drew (fun a' => wpList _ _ _ _ a' w7.drew) _ _
            have hcl : ∀ p, w7.drew.cell? p = w7.cell? p := fun _ => rfl
            have y1 := (hcl _).trans zA
            have y2 := (hcl _).trans zB
            have y3 := (hcl _).trans zC
            generalize w7.drew = w8 at *
            clear hcl zA zB zC
            refine wpStill_of_quiet _ _ ?_
            repeat (first | go_big_quiet_skip | (go_big_quiet_want; go_big_quiet_op; go_big_quiet_on))
            refine wpQuiet_nil ?_
            go_wp2_with fail
            refine HADD.out.mono ?_
            rintro e w9 ⟨rfl, hb9, hk9⟩
            have hk19 := HK8.out.step hk9 (by first | exact .inl hz6 | exact .inr (.inr (.inr (.inr rfl))))
            obtain ⟨k1, k2, k3⟩ := HI.out.kf hk19
            have hs9 := HS8.out.keep hk9 (fun j hj e => by have := HI.out.lt j (.inl hj); omega) (fun j hj e => by have := HI.out.lt j (.inr hj); omega)
            have hm9 : Boxed w9 (w.heap.size + 1) 4 _ := (hk9.block _ hl9 (by omega)).trans HM8.out
            have hb29 : Boxed w9 bb 38 _ := (hk9.block _ hl8 (by omega)).trans HB8.out
            have hsz9 := hk19.size
            have hfin : FoI w vu vm vg ve vf gu ge D DF N T np bb ρ ρF used emp (rowB M t) FT M (gb) (cap') (tl') (pre ++ [(⟨kx, s, hs⟩ : Nat × Sy N T)]) w9 := by
              refine ⟨by rw [HGO.out]; exact hs9, by rw [HGO.out]; exact hm9, hb29, by omega, by rw [HA7.out]; exact hb9, by omega, by omega, by omega, by omega, HI.out.bx, k3, HI.out.lt⟩
            have HFIN := Lib.hid hfin; have K1 := Lib.hid k1; have K2 := Lib.hid k2
            clear hfin k1 k2 k3 hb29 hm9 hs9 hk19 hk9 hb9 y1 y2 y3
            go_wp2_with fail
            refine ⟨rfl, ?_⟩
            gi_wp2_with fail
            exact ⟨by rw [hsz2]; exact K1.out, K2.out, _, _, _, HFIN.out⟩
        · simp only [Bool.false_or, Bool.true_or] at hq2
          subst hq2
          go_wp2_with fail
          refine ⟨rfl, ?_⟩
          have hM6 : Boxed (w5.setCell ⟨w.heap.size + 1, 0, none⟩ (.bool true)) (w.heap.size + 1) 4 (.bool true) := HM5.out.set _
          have hB6 : Boxed (w5.setCell ⟨w.heap.size + 1, 0, none⟩ (.bool true)) bb 38 _ := Blk.far HB5.out (p := ⟨w.heap.size + 1, 0, none⟩) (by show bb ≠ w.heap.size + 1; omega) _
          have hL6 : BlT (w5.setCell ⟨w.heap.size + 1, 0, none⟩ (.bool true)) gb _ tl' := Blk.far HL5.out (p := ⟨w.heap.size + 1, 0, none⟩) (by show gb ≠ w.heap.size + 1; omega) _
          have hK6 := HK5.out.set_ (p := ⟨w.heap.size + 1, 0, none⟩) (.inr (.inr (.inl rfl))) (.bool true)
          have hS6 := HS5.out.keep (S := fun j => j = w.heap.size + 1) ((Kp.refl (fun j => j = w.heap.size + 1) w5).set_ (p := ⟨w.heap.size + 1, 0, none⟩) (.inr rfl) (.bool true)) (fun j hj e => by have := HI.out.lt j (.inl hj); omega) (fun j hj e => by have := HI.out.lt j (.inr hj); omega)
          generalize w5.setCell ⟨w.heap.size + 1, 0, none⟩ (.bool true) = w6 at *
          clear HM5 HB5 HL5 HK5 HS5 z5 z6 z7
          have zve := hS6.e.c
          have zeb := hS6.e.b.bcell (k := x) (by rw [hS6.e.l]; exact hxN)
          have hz6 := hK6.size
          have HS6 := Lib.hid hS6; have HK6 := Lib.hid hK6; have HM6 := Lib.hid hM6; have HB6 := Lib.hid hB6; have HL6 := Lib.hid hL6
          have zvg := hS6.g
          clear hS6 hK6 hM6 hB6 hL6
          generalize bth emp x = eb at *
          cases eb
          · have hmk := HMK.out
            have z1 := HB6.out.cell; have z2 := HB6.out.frozen; have z3 := HB6.out.lt
            have lvg6 : vg < w6.heap.size := by omega
            gi_upto_region 13 with (fail)
            obtain ⟨f1, f2, f3, f4⟩ := fresh_row w6 bb T _ HB6.out
            clear hmk z1 z2 z3 zve zeb zvg
            generalize ((w6.setCell ⟨bb, 0, none⟩ (.slice (some ⟨w6.heap.size, 0, none⟩) (T + 1) (T + 1))).alloc (.cells (zs (.bool false) (T + 1)) 4)) = w7 at *
            have hS7 := HS6.out.keep f3 (fun j hj e => by have := HI.out.lt j (.inl hj); omega) (fun j hj e => by have := HI.out.lt j (.inr hj); omega)
            have hM7 : Boxed w7 (w.heap.size + 1) 4 _ := (f3.block _ HM6.out.lt (by omega)).trans HM6.out
            have hK7 := HK6.out.trans (f3.mono fun j _ e => .inl e)
            have hA7 := HBE.out.trans (show _ = orK (zT T) (rowB FT x) T by rw [if_neg (by simp)])
            have hA7l : (zT T).length = T + 1 := zT_len
            have zA := f1.cell
            have zB := hS7.cf
            have zC := hS7.f.cell hxN
            have hFb := HI.out.lt _ (.inl (.inr (.inr ⟨x, hxN, rfl⟩) : FoB vu vm vg ve vf gu ge D DF N ρF (nthN ρF x)))
            have hadd := add_wide (w6.heap.size) (nthN ρF x) T (T + 1) (T + 1) T (zT T) (rowB FT x) ([]) [] w7.drew (by omega) (by omega) (by omega) f2 (BlT.of (hS7.f.rows x hxN).1) (by omega) (Nat.le_refl _) hA7l (hS7.f.rows x hxN).2
            have hk8 : Kp (fun j => j = bb ∨ j = w.heap.size + 1 ∨ FoR N ρ j ∨ j = gb) W w7.drew := hK7.draw
            have hs8 : FoSt w7.drew vu vm vg ve vf gu ge D DF N T np ρ ρF used emp FT _ := hS7.keep (S := fun _ => False) ((Kp.refl _ _).draw) (fun _ _ e => e) (fun _ _ e => e)
            have hm8 : Boxed w7.drew (w.heap.size + 1) 4 _ := hM7
            have hb8 : Boxed w7.drew bb 38 _ := f1
            have hl8 := hb8.lt; have hl9 := hm8.lt
            have hgb : (w6.heap.size) < w7.drew.heap.size := f2.lt
            have HADD := Lib.hid hadd; have HS8 := Lib.hid hs8; have HM8 := Lib.hid hm8; have HB8 := Lib.hid hb8; have HK8 := Lib.hid hk8; have HA7 := Lib.hid hA7
            clear hadd hs8 hm8 hb8 hk8 hS7 hM7 hK7 f1 f2 hA7 hA7l
            refine wpIn_region_tail 6 (by kernel_rfl) (by kernel_rfl) (by kernel_rfl) ?_
            simp only [List.take_succ_cons, List.take_zero, List.drop_succ_cons, List.drop_zero]
            change wpStill _ _ w7.drew (fun a' => wpList _ _ _ _ a' w7.drew) _ _
            have hcl : ∀ p, w7.drew.cell? p = w7.cell? p := fun _ => rfl
            have y1 := (hcl _).trans zA
            have y2 := (hcl _).trans zB
            have y3 := (hcl _).trans zC
            generalize w7.drew = w8 at *
            clear hcl zA zB zC
            refine wpStill_of_quiet _ _ ?_
            repeat (first | go_big_quiet_skip | (go_big_quiet_want; go_big_quiet_op; go_big_quiet_on))
            refine wpQuiet_nil ?_
            go_wp2_with fail
            refine HADD.out.mono ?_
            rintro e w9 ⟨rfl, hb9, hk9⟩
            have hk19 := HK8.out.step hk9 (by first | exact .inl hz6 | exact .inr (.inr (.inr (.inr rfl))))
            obtain ⟨k1, k2, k3⟩ := HI.out.kf hk19
            have hs9 := HS8.out.keep hk9 (fun j hj e => by have := HI.out.lt j (.inl hj); omega) (fun j hj e => by have := HI.out.lt j (.inr hj); omega)
            have hm9 : Boxed w9 (w.heap.size + 1) 4 _ := (hk9.block _ hl9 (by omega)).trans HM8.out
            have hb29 : Boxed w9 bb 38 _ := (hk9.block _ hl8 (by omega)).trans HB8.out
            have hsz9 := hk19.size
            have hfin : FoI w vu vm vg ve vf gu ge D DF N T np bb ρ ρF used emp (rowB M t) FT M (w6.heap.size) (T + 1) ([]) (pre ++ [(⟨kx, s, hs⟩ : Nat × Sy N T)]) w9 := by
              refine ⟨by rw [HGO.out]; exact hs9, by rw [HGO.out]; exact hm9, hb29, by omega, by rw [HA7.out]; exact hb9, by omega, by omega, by omega, by omega, HI.out.bx, k3, HI.out.lt⟩
            have HFIN := Lib.hid hfin; have K1 := Lib.hid k1; have K2 := Lib.hid k2
            clear hfin k1 k2 k3 hb29 hm9 hs9 hk19 hk9 hb9 y1 y2 y3
            go_wp2_with fail
            refine ⟨rfl, ?_⟩
            gi_wp2_with fail
            exact ⟨by rw [hsz2]; exact K1.out, K2.out, _, _, _, HFIN.out⟩
          · have hS7 := HS6.out; have hM7 := HM6.out; have hK7 := HK6.out; have f1 := HB6.out; have f2 := HL6.out
            have hA7 := HBE.out.trans (show _ = orK (behR emp FT T (restS pre) (rowB M t)) (rowB FT x) T by rw [if_pos rfl])
            have hA7l := HCL.out
            gi_upto_region 13 with (fail)
            obtain ⟨w7, hw7⟩ : ∃ w7, w7 = w6 := ⟨_, rfl⟩
            rw [← hw7] at hS7 hM7 hK7 f1 f2 ⊢
            clear hw7 zve zeb zvg HS6 HK6 HM6 HB6 HL6
            have zA := f1.cell
            have zB := hS7.cf
            have zC := hS7.f.cell hxN
            have hFb := HI.out.lt _ (.inl (.inr (.inr ⟨x, hxN, rfl⟩) : FoB vu vm vg ve vf gu ge D DF N ρF (nthN ρF x)))
            have hadd := add_wide (gb) (nthN ρF x) T (T + 1) (cap') T (behR emp FT T (restS pre) (rowB M t)) (rowB FT x) (tl') [] w7.drew (by omega) (by omega) (by omega) f2 (BlT.of (hS7.f.rows x hxN).1) (by omega) (Nat.le_refl _) hA7l (hS7.f.rows x hxN).2
            have hk8 : Kp (fun j => j = bb ∨ j = w.heap.size + 1 ∨ FoR N ρ j ∨ j = gb) W w7.drew := hK7.draw
            have hs8 : FoSt w7.drew vu vm vg ve vf gu ge D DF N T np ρ ρF used emp FT _ := hS7.keep (S := fun _ => False) ((Kp.refl _ _).draw) (fun _ _ e => e) (fun _ _ e => e)
            have hm8 : Boxed w7.drew (w.heap.size + 1) 4 _ := hM7
            have hb8 : Boxed w7.drew bb 38 _ := f1
            have hl8 := hb8.lt; have hl9 := hm8.lt
            have hgb : (gb) < w7.drew.heap.size := f2.lt
            have HADD := Lib.hid hadd; have HS8 := Lib.hid hs8; have HM8 := Lib.hid hm8; have HB8 := Lib.hid hb8; have HK8 := Lib.hid hk8; have HA7 := Lib.hid hA7
            clear hadd hs8 hm8 hb8 hk8 hS7 hM7 hK7 f1 f2 hA7 hA7l
            refine wpIn_region_tail 6 (by kernel_rfl) (by kernel_rfl) (by kernel_rfl) ?_
            simp only [List.take_succ_cons, List.take_zero, List.drop_succ_cons, List.drop_zero]
            change wpStill _ _ w7.drew (fun a' => wpList _ _ _ _ a' w7.drew) _ _
            have hcl : ∀ p, w7.drew.cell? p = w7.cell? p := fun _ => rfl
            have y1 := (hcl _).trans zA
            have y2 := (hcl _).trans zB
            have y3 := (hcl _).trans zC
            generalize w7.drew = w8 at *
            clear hcl zA zB zC
            refine wpStill_of_quiet _ _ ?_
            repeat (first | go_big_quiet_skip | (go_big_quiet_want; go_big_quiet_op; go_big_quiet_on))
            refine wpQuiet_nil ?_
            go_wp2_with fail
            refine HADD.out.mono ?_
            rintro e w9 ⟨rfl, hb9, hk9⟩
            have hk19 := HK8.out.step hk9 (by first | exact .inl hz6 | exact .inr (.inr (.inr (.inr rfl))))
            obtain ⟨k1, k2, k3⟩ := HI.out.kf hk19
            have hs9 := HS8.out.keep hk9 (fun j hj e => by have := HI.out.lt j (.inl hj); omega) (fun j hj e => by have := HI.out.lt j (.inr hj); omega)
            have hm9 : Boxed w9 (w.heap.size + 1) 4 _ := (hk9.block _ hl9 (by omega)).trans HM8.out
            have hb29 : Boxed w9 bb 38 _ := (hk9.block _ hl8 (by omega)).trans HB8.out
            have hsz9 := hk19.size
            have hfin : FoI w vu vm vg ve vf gu ge D DF N T np bb ρ ρF used emp (rowB M t) FT M (gb) (cap') (tl') (pre ++ [(⟨kx, s, hs⟩ : Nat × Sy N T)]) w9 := by
              refine ⟨by rw [HGO.out]; exact hs9, by rw [HGO.out]; exact hm9, hb29, by omega, by rw [HA7.out]; exact hb9, by omega, by omega, by omega, by omega, HI.out.bx, k3, HI.out.lt⟩
            have HFIN := Lib.hid hfin; have K1 := Lib.hid k1; have K2 := Lib.hid k2
            clear hfin k1 k2 k3 hb29 hm9 hs9 hk19 hk9 hb9 y1 y2 y3
            go_wp2_with fail
            refine ⟨rfl, ?_⟩
            gi_wp2_with fail
            exact ⟨by rw [hsz2]; exact K1.out, K2.out, _, _, _, HFIN.out⟩
  case done =>
    rintro Dd ys W hD rfl ⟨gb, cap', tl', hI⟩ hK
    have hI2 := hI.own (grownBy_putObj' W Dd (.deferred none)) (B1 := WL.heap.size) (by omega) (fun j e => by cases e; exact ⟨hD, _, hK, rfl⟩)
    have hall := restS_all hN0 r hfit
    have h1 := hI2.st; have h2 := hI2.kp
    rw [hall] at h1
    have zmo := hI.mo.cell
    rw [hall] at zmo
    have H1 := Lib.hid h1; have H3 := Lib.hid h2
    clear hI hI2 h1 h2 hall
    gi_wp2
    refine ⟨by simp, .inl ⟨_, _, rfl, run_takeDeferred hK, ?_⟩⟩
    exact ⟨_, results_tmp rfl _ _ _, rfl, H1.out, H3.out⟩
  case stop =>
    rintro Dd c pre W _ _ h _
    exact h.elim
end Go.Proofs.Ytgfchgnebpogjaa
