/- The iterators, all of them. · count: how many trees a span has. · strconv.Itoa laid at this program: written by the kit's laying tool (lay-plain) for this seat, names turned. -/
import Derived.Test.YtiklbannoinioaaDoorQ23
import Derived.Test.YtiklbannoinioaaDoorQ24
import Derived.Test.YtiklbannoinioaaDoorQ21
import Derived.Test.YtiklbannoinioaaDoorQ6
import Derived.Shelf.Strings.Builder1
import Derived.Shelf.Strings.BuilderF
import Derived.Shelf.Strings.BuilderK
import Derived.Shelf.Strconv.Itoa0
import Derived.Shelf.Strconv.Itoa1
import Derived.Shelf.LaysM
import Derived.Shelf.Strconv.Itoa2
import Derived.Shelf.Strconv.Itoa3
import Derived.Shelf.Bits.Mul64
import Derived.Test.YtiklbannoinioaaDoorProg
namespace Go.Proofs.YtiklbannoinioaaDoor
open Go.RowKit Go.Shelf BigFrame Go.Maps
set_option linter.unusedVariables false
set_option linter.unusedSimpArgs false
set_option maxRecDepth 100000

/-- So many spans at most may yet be opened. -/
def Fuel (C : Ct) (f : Nat) (O : List K3) : Prop := ∀ M : List K3, M.Nodup → (∀ y ∈ M, y ∈ C.L ∧ y ∉ O) → M.length ≤ f
theorem Fuel.none {C : Ct} {O : List K3} {x : K3} (h : Fuel C 0 O) : x ∈ O ∨ x ∉ C.L := by
  by_cases h1 : x ∈ O
  · exact .inl h1
  · refine .inr fun h2 => ?_
    have := h [x] (by simp) (fun y hy => by rw [List.mem_singleton] at hy; subst hy; exact ⟨h2, h1⟩)
    simp at this
theorem Fuel.step {C : Ct} {f : Nat} {O : List K3} {x : K3} (h : Fuel C (f + 1) O) (h1 : x ∉ O) (h2 : x ∈ C.L) : Fuel C f (x :: O) := fun M hn hm => by
  have := h (x :: M) (List.nodup_cons.2 ⟨fun q => (hm x q).2 (by simp), hn⟩) (fun y hy => by
    rcases List.mem_cons.1 hy with rfl | hy
    · exact ⟨h2, h1⟩
    · exact ⟨(hm y hy).1, fun q => (hm y hy).2 (List.mem_cons_of_mem _ q)⟩)
  simp at this
  omega
theorem nodup_sub {α : Type} [DecidableEq α] : ∀ (M L : List α), M.Nodup → (∀ y ∈ M, y ∈ L) → M.length ≤ L.length
  | [], L, _, _ => Nat.zero_le _
  | x :: M, L, hn, hs => by
    obtain ⟨h1, h2⟩ := List.nodup_cons.1 hn
    have := nodup_sub M (L.erase x) h2 (fun y hy => (List.mem_erase_of_ne (a := y) (b := x) (fun e => h1 (by rw [← e]; exact hy))).2 (hs y (List.mem_cons_of_mem _ hy)))
    rw [List.length_erase_of_mem (hs x (by simp))] at this
    have hp : 0 < L.length := List.length_pos_of_mem (hs x (by simp))
    simp
    omega
theorem Fuel.start (C : Ct) (O : List K3) : Fuel C C.L.length O := fun M hn hm => nodup_sub M C.L hn (fun y hy => (hm y hy).1)

section
variable (m : Nat) (S : Nat → Prop) (B c : Nat) (G : Gr) (Ap Al As : Option Addr) (np cp nl cl ns cs : Nat) (Ai : Option Addr) (ni ci : Nat) (inp : List Int) (C : Ct)
theorem rows_iter (hk : GOk G) (O : List K3) (tr : K3 → List Tr) (p : Nat) (hp : p < np) (hpl : G.prods.length = np) (hn : ni ≤ 100)
    (hT : ∀ s, s ∈ rtN G p → s < 0 → ∀ i' j', i' ≤ j' → j' ≤ ni → ∀ bc bx, IterC Tryd.prog m (Opn m O) (OpnX m) VT (PreT m S B c G Ap Al As np cp nl cl ns cs Ai ni ci inp C bc bx ((-1 - s).toNat, i', j')) 25 #[.pointer (some ⟨bc, 0, none⟩), .pointer (some ⟨bx, 0, none⟩)] (tr ((-1 - s).toNat, i', j'))) :
    ∀ (d at_ : Nat), at_ + d = (rtN G p).length → ∀ (i j : Nat), i ≤ ni → j ≤ ni → ∀ (b1 b2 b3 b4 b5 : Nat),
    IterC Tryd.prog m (Opn m O) (OpnX m) (VL ((rtN G p).length - at_)) (PreR m S B c G Ap Al As np cp nl cl ns cs Ai ni ci inp C b1 b2 b3 b4 b5 p at_ i j) 37 #[.pointer (some ⟨b1, 0, none⟩), .pointer (some ⟨b2, 0, none⟩), .pointer (some ⟨b3, 0, none⟩), .pointer (some ⟨b4, 0, none⟩), .pointer (some ⟨b5, 0, none⟩)] (rowsT C inp (allOf tr) ((rtN G p).drop at_) i j) := by
  intro d
  induction d with
  | zero =>
    intro at_ hat i j hi hj b1 b2 b3 b4 b5
    exact rows_end m S B c G Ap Al As np cp nl cl ns cs Ai ni ci inp C hk O (allOf tr) p hp hn at_ (by omega) i j hi hj b1 b2 b3 b4 b5
  | succ d ih =>
    intro at_ hat i j hi hj b1 b2 b3 b4 b5
    refine rows_step m S B c G Ap Al As np cp nl cl ns cs Ai ni ci inp C hk O tr p hp hn at_ (by omega) i j hi hj b1 b2 b3 b4 b5 (fun h0 i' j' h1 h2 bc bx => hT _ ?_ h0 i' j' h1 h2 bc bx) (fun i' hi' b1 b2 b3 b4 b5 => ih (at_ + 1) (by omega) i' j hi' hj b1 b2 b3 b4 b5)
    rw [nth_get (by omega)]
    exact List.getElem_mem _
theorem trees_iter (hk : GOk G) (hpl : G.prods.length = np) (hn : ni ≤ 100) : ∀ (f : Nat) (O : List K3) (x : K3), Fuel C f O → O.length + f ≤ 1000000 → (x.1 : Int) < G.names → x.2.1 ≤ ni → x.2.2 ≤ ni → ∀ (bc bx : Nat),
    IterC Tryd.prog m (Opn m O) (OpnX m) VT (PreT m S B c G Ap Al As np cp nl cl ns cs Ai ni ci inp C bc bx x) 25 #[.pointer (some ⟨bc, 0, none⟩), .pointer (some ⟨bx, 0, none⟩)] (treesT C G inp f O x) := by
  intro f
  induction f with
  | zero =>
    intro O x hf hO h1 h2 h3 bc bx
    have := hk.n1
    rw [treesT]
    exact trees_none m S B c G Ap Al As np cp nl cl ns cs Ai ni ci inp C O x ⟨by omega, by omega, by omega⟩ hf.none bc bx
  | succ f ih =>
    intro O x hf hO h1 h2 h3 bc bx
    have := hk.n1
    rw [treesT]
    by_cases q : x ∈ O ∨ x ∉ C.L
    · rw [if_pos q]
      exact trees_none m S B c G Ap Al As np cp nl cl ns cs Ai ni ci inp C O x ⟨by omega, by omega, by omega⟩ q bc bx
    · rw [if_neg q]
      have q1 : x ∉ O := fun e => q (.inl e)
      have q2 : x ∈ C.L := Classical.byContradiction fun e => q (.inr e)
      refine trees_go m S B c G Ap Al As np cp nl cl ns cs Ai ni ci inp C hk hn O x ⟨by omega, by omega, by omega⟩ h1 h2 h3 (by omega) q1 q2 (treesT C G inp f (x :: O)) (fun p hp b1 b2 b3 b4 b5 => ?_) bc bx
      refine rows_iter m S B c G Ap Al As np cp nl cl ns cs Ai ni ci inp C hk (x :: O) (treesT C G inp f (x :: O)) p hp hpl hn (fun s hs h0 i' j' g1 g2 bc bx => ?_) (rtN G p).length 0 (by omega) x.2.1 x.2.2 h2 h3 b1 b2 b3 b4 b5
      have hsm := rtN_sym hk (p := p) (by omega) hs
      exact ih (x :: O) _ (hf.step q1 q2) (by simp; omega) (by simp only; omega) (by simp only; omega) (by simp only; omega) bc bx
end
end Go.Proofs.YtiklbannoinioaaDoor
namespace Go.Proofs.YtiklbannoinioaaDoor
open Go.RowKit BigFrame Go.Maps
set_option linter.unusedVariables false
set_option linter.unusedSimpArgs false
set_option maxRecDepth 100000

theorem lk_none' : ∀ {M : List (K3 × Nat)} {x : K3}, (∀ e ∈ M, e.1 ≠ x) → lkK M x = none
  | [], x, _ => rfl
  | e :: M, x, h => by
    rw [lkK, if_neg (fun q => h e (by simp) q.symm)]
    exact lk_none' (fun d hd => h d (List.mem_cons_of_mem _ hd))
section
variable (S : Nat → Prop) (B c m2 m3 N : Nat) (vs0 : List Value) (G : Gr) (Ap Al As : Option Addr) (np cp nl cl ns cs : Nat) (Ai : Option Addr) (ni ci : Nat) (inp : List Int) (C : Ct)
set_option maxHeartbeats 8000000 in
/-- What has no count yet, and is open, or too many came before. -/
theorem count_many (hk : GOk G) (hni : ni ≤ 7) (h7 : ∀ x ∈ C.L, x.2.2 ≤ ni) (hC : ∀ x ∈ C.L, x.2.1 ≤ x.2.2 ∧ x.1 < 8) (O : List K3) (σ : CS) (x : K3) (hx : x ∈ C.L) (w : World) (h : CtM w S B c m2 m3 N vs0 G Ap Al As np cp nl cl ns cs Ai ni ci inp C O σ) (hq : lkK σ.M x ≠ none ∨ x ∈ O ∨ σ.many = true) :
    Calls Tryd.prog 19 #[.pointer (some ⟨c, 0, none⟩), kV x] w fun e w' => ∃ v, e = .returned v ∧ NumV N w' v ((lkK σ.M x).getD 0) ∧ CtM w' S B c m2 m3 N vs0 G Ap Al As np cp nl cl ns cs Ai ni ci inp C O (if lkK σ.M x = none then ⟨σ.M, true⟩ else σ) ∧ Kp (Zct m2 m3 c) w w' := by
  have hxk : inK x := ⟨by have := (hC x hx).2; omega, by have := hC x hx; have := h7 x hx; omega, by have := h7 x hx; omega⟩
  obtain ⟨W1, hW1⟩ : ∃ W1, W1 = w.alloc (.cells #[.int .i64 x.1, .int .i64 x.2.1, .int .i64 x.2.2] 46) := ⟨_, rfl⟩
  have hb1 : Below w.heap.size w W1 := by rw [hW1]; exact (Below.refl _ _).alloc (Nat.le_refl _) _
  have hxb : Blk W1 w.heap.size 46 [.int .i64 x.1, .int .i64 x.2.1, .int .i64 x.2.2] := by rw [hW1]; exact Blk.new w _ _
  have h1 := h.bel hb1
  have hc10 := h1.c10
  have hxb0 := hxb.cell (i := 0) rfl
  have hxb1 := hxb.cell (i := 1) rfl
  have hxb2 := hxb.cell (i := 2) rfl
  have HW1 := Lib.hid hW1
  have HM1 := Lib.hid h1; have HB1 := Lib.hid hb1; have HXB := Lib.hid hxb; have HXK := Lib.hid hxk
  have HLK : Hid (∀ q, lkK σ.M x = none → (Instr.lookup 57 (.map (some m2)) (kV x) true).run Tryd.prog (W1.drewN q) = .ok (.tuple #[noneV, .bool false]) (W1.drewN q)) := Lib.hid (fun q hl => ((h1.bel (bel_dN (Below.refl _ _) q)).look hxk).1 hl)
  cases el : lkK σ.M x with
  | some k =>
    obtain ⟨u, hu, hlk⟩ := (h1.look hxk).2 k el
    obtain ⟨A, n, cp, l, rfl, -, -, -, -, -⟩ := hu.rd
    have HU := Lib.hid hu
    have hlk2 : ∀ q, (Instr.lookup 57 (.map (some m2)) (kV x) true).run Tryd.prog (W1.drewN q) = .ok (.tuple #[.slice A n cp, .bool true]) (W1.drewN q) := fun q => by
      obtain ⟨f, f1, f2⟩ := h1.mm
      have f1' : KMap 46 noneV (W1.drewN q) m2 σ.M.length f := f1
      have g1 := KMap.look2 (t := 57) (e := 52) f1' lawS3 (fun x => keyS3) Tryd.underlying57 (zero_num _) hxk
      have g0 := KMap.look2 (t := 57) (e := 52) f1 lawS3 (fun x => keyS3) Tryd.underlying57 (zero_num _) hxk
      rw [hlk] at g0
      injection g0 with g2 g3
      rw [← g2] at g1
      exact g1
    rw [if_neg (by simp)]
    simp only [Option.getD_some]
    unfold kV at hlk2 ⊢
    clear hW1 h h1 hb1 hxb hxk hlk hu hq el HLK
    go_enter Tryd.func19, Tryd.ntmps19
    go_upto_region 1 with (fail)
    rw [← HW1.out]
    go_quiet (fail)
    go_wp2_with fail
    go_ret
    exact ⟨_, rfl, HU.out.bel (bel_dN (Below.refl _ _) _), HM1.out.bel (bel_dN (Below.refl _ _) _), Kp.of (bel_dN HB1.out _)⟩
  | none =>
    have hlk2 := fun q => HLK.out q el
    have hq2 : x ∈ O ∨ σ.many = true := hq.elim (fun e => absurd el e) (fun e => e)
    have hc11 := h1.ch.op
    rw [if_pos rfl]
    simp only [Option.getD_none]
    have hop2 : ∀ W : World, Below W1.heap.size W1 W → ∀ q, (Instr.lookup 56 (.map (some m3)) (kV x) false).run Tryd.prog (W.drewN q) = .ok (.int .i64 (if x ∈ O then 1 else 0)) (W.drewN q) := fun W hb q => (h1.op.same (w' := W.drewN q) ((bel_dN hb q).block m3 h1.op.lt)).look hxk
    have HOP := Lib.hid hop2
    unfold kV at hlk2 ⊢
    unfold noneV at hlk2
    clear hW1 h h1 hb1 hxb hxk hq el HLK hop2
    go_enter Tryd.func19, Tryd.ntmps19
    go_upto_region 1 with (fail)
    rw [← HW1.out]
    go_quiet (fail)
    go_wp2_with fail
    obtain ⟨W2, hW2⟩ : ∃ W2, W2 = W1.drewN nq := ⟨_, rfl⟩
    have hb2 : Below W1.heap.size W1 W2 := by rw [hW2]; exact bel_dN (Below.refl _ _) _
    rw [← hW2]
    have h2 := HM1.out.bel hb2
    have hx2 := HXB.out.below' hb2
    have g11 := h2.ch.op
    have gx0 := hx2.cell (i := 0) rfl
    have gx1 := hx2.cell (i := 1) rfl
    have gx2 := hx2.cell (i := 2) rfl
    have hlo := fun q => HOP.out W2 hb2 q
    have HM2 := Lib.hid h2; have HB2 := Lib.hid (HB1.out.trans (hb2.mono HB1.out.size))
    clear h2 hx2 hW2 hlk2 hc10 hc11 hxb0 hxb1 hxb2 hb2
    by_cases qo : x ∈ O
    · simp only [if_pos qo] at hlo
      unfold kV at hlo
      clear hq2 qo
      go_quiet (fail)
      obtain ⟨W3, hW3⟩ : ∃ W3, W3 = W2.drewN nq := ⟨_, rfl⟩
      have hb3 : Below W2.heap.size W2 W3 := by rw [hW3]; exact bel_dN (Below.refl _ _) _
      rw [← hW3]
      have h3 := HM2.out.bel hb3
      have hfin := h3.setMany
      have v1 := h3.cB
      have v2 : (vs0.set 12 (.bool σ.many))[12]? = some (.bool σ.many) := List.getElem?_set_self h3.c12
      have y12 := v1.cell v2
      have f12 := v1.frozen 12
      have HB3 := Lib.hid (HB2.out.trans (hb3.mono HB2.out.size)); have HFN := Lib.hid hfin
      clear h3 hfin v1 v2 hW3 hlo g11 gx0 gx1 gx2 hb3
      go_wp2_with fail
      go_ret
      exact ⟨_, rfl, NumV.zero _ _, HFN.out.1, (Kp.of HB3.out).trans (HFN.out.2.mono (fun b _ e => .inr (.inr e)))⟩
    · simp only [if_neg qo] at hlo
      unfold kV at hlo
      have hmt : σ.many = true := hq2.elim (fun e => absurd e qo) (fun e => e)
      have hse : (⟨σ.M, true⟩ : CS) = σ := by rw [← hmt]
      have HSE := Lib.hid hse
      have hmt2 := hmt
      clear hq2 qo hmt hse
      go_quiet (fail)
      obtain ⟨W3, hW3⟩ : ∃ W3, W3 = W2.drewN nq := ⟨_, rfl⟩
      have hb3 : Below W2.heap.size W2 W3 := by rw [hW3]; exact bel_dN (Below.refl _ _) _
      rw [← hW3]
      have h3 := HM2.out.bel hb3
      have v1 := h3.cB
      have v2 : (vs0.set 12 (.bool σ.many))[12]? = some (.bool σ.many) := List.getElem?_set_self h3.c12
      rw [hmt2] at v1 v2
      have y12 := v1.cell v2
      have HB3 := Lib.hid (HB2.out.trans (hb3.mono HB2.out.size)); have HM3 := Lib.hid h3
      clear h3 v1 v2 hW3 hlo g11 gx0 gx1 gx2 hb3 hmt2
      go_wp2_with fail
      go_ret
      exact ⟨_, rfl, NumV.zero _ _, by rw [HSE.out]; exact HM3.out, Kp.of HB3.out⟩
set_option maxHeartbeats 8000000 in
/-- What has no count yet and is not open: its productions. -/
theorem count_go (hk : GOk G) (hni : ni ≤ 7) (hpl : G.prods.length = np) (hR : ∀ p, p < G.prods.length → (rtN G p).length ≤ 5) (hP : G.prods.length ≤ 14) (hN8 : G.names ≤ 8) (h7 : ∀ x ∈ C.L, x.2.2 ≤ ni) (hC : ∀ x ∈ C.L, x.2.1 ≤ x.2.2 ∧ x.1 < 8) (hCN : ∀ x ∈ C.L, (x.1 : Int) < G.names) (f : Nat) (O : List K3) (hO : O.length ≤ 1000000) (σ : CS) (x : K3) (hx : x ∈ C.L) (hb : BI O σ)
    (cnt : CS → K3 → CS × Nat) (hc : CB C (x :: O) cnt) (hcc : CntC S B c m2 m3 N vs0 G Ap Al As np cp nl cl ns cs Ai ni ci inp C (x :: O) cnt) (w : World) (h : CtM w S B c m2 m3 N vs0 G Ap Al As np cp nl cl ns cs Ai ni ci inp C O σ) (hq : lkK σ.M x = none) (hxO : x ∉ O) (hm : σ.many = false) (q : CS × Nat) (hfold : q = (byN G x.1).foldl (pStep C G inp cnt x) (σ, 0)) :
    Calls Tryd.prog 19 #[.pointer (some ⟨c, 0, none⟩), kV x] w fun e w' => ∃ v, e = .returned v ∧ NumV N w' v q.2 ∧ CtM w' S B c m2 m3 N vs0 G Ap Al As np cp nl cl ns cs Ai ni ci inp C O ⟨(x, q.2) :: q.1.M, q.1.many⟩ ∧ Kp (Zct m2 m3 c) w w' := by
  have hxk : inK x := ⟨by have := (hC x hx).2; omega, by have := hC x hx; have := h7 x hx; omega, by have := h7 x hx; omega⟩
  have hb2 : BI (x :: O) σ := ⟨hb.mb, fun e he h => by
    rcases List.mem_cons.1 h with h | h
    · exact lk_none hq e he h
    · exact hb.no e he h⟩
  obtain ⟨W1, hW1⟩ : ∃ W1, W1 = w.alloc (.cells #[.int .i64 x.1, .int .i64 x.2.1, .int .i64 x.2.2] 46) := ⟨_, rfl⟩
  have hb1 : Below w.heap.size w W1 := by rw [hW1]; exact (Below.refl _ _).alloc (Nat.le_refl _) _
  have hxb : Blk W1 w.heap.size 46 [.int .i64 x.1, .int .i64 x.2.1, .int .i64 x.2.2] := by rw [hW1]; exact Blk.new w _ _
  have h1 := h.bel hb1
  have hc10 := h1.c10
  have hxb0 := hxb.cell (i := 0) rfl
  have hxb1 := hxb.cell (i := 1) rfl
  have hxb2 := hxb.cell (i := 2) rfl
  have HW1 := Lib.hid hW1
  have HM1 := Lib.hid h1; have HB1 := Lib.hid hb1; have HXB := Lib.hid hxb; have HXK := Lib.hid hxk; have HSZ := Lib.hid h.sz
  have hlk2 : ∀ q, (Instr.lookup 57 (.map (some m2)) (kV x) true).run Tryd.prog (W1.drewN q) = .ok (.tuple #[noneV, .bool false]) (W1.drewN q) := fun q => ((h1.bel (bel_dN (Below.refl _ _) q)).look hxk).1 hq
  have hop2 : ∀ W : World, Below W1.heap.size W1 W → ∀ q, (Instr.lookup 56 (.map (some m3)) (kV x) false).run Tryd.prog (W.drewN q) = .ok (.int .i64 0) (W.drewN q) := fun W hb q => by
    have := (h1.op.same (w' := W.drewN q) ((bel_dN hb q).block m3 h1.op.lt)).look hxk
    rwa [if_neg hxO] at this
  have HOP := Lib.hid hop2; have HCC := Lib.hid hcc; have HHc := Lib.hid hc; have HBI := Lib.hid hb2; have HRL := Lib.hid hR; have HCL := Lib.hid hC; have H7 := Lib.hid h7; have HPL := Lib.hid hpl; have HF := Lib.hid hfold; have HXL := Lib.hid hx; have HXO := Lib.hid hxO; have HMF := Lib.hid hm; have HXN := Lib.hid (hCN x hx)
  have hx7 := h7 x hx
  have hx12 := (hC x hx).1
  unfold kV at hlk2 ⊢
  unfold noneV at hlk2
  clear hW1 h h1 hb1 hxb hxk hq hop2 hcc hc hb2 hb hR hC h7 hpl hfold hx hxO hm hCN
  go_enter Tryd.func19, Tryd.ntmps19
  go_upto_region 1 with (fail)
  rw [← HW1.out]
  go_quiet (fail)
  go_wp2_with fail
  obtain ⟨W2, hW2⟩ : ∃ W2, W2 = W1.drewN nq := ⟨_, rfl⟩
  have hb2 : Below W1.heap.size W1 W2 := by rw [hW2]; exact bel_dN (Below.refl _ _) _
  rw [← hW2]
  have h2 := HM1.out.bel hb2
  have hx2 := HXB.out.below' hb2
  have g11 := h2.ch.op
  have gx0 := hx2.cell (i := 0) rfl
  have gx1 := hx2.cell (i := 1) rfl
  have gx2 := hx2.cell (i := 2) rfl
  have hlo := fun q => HOP.out W2 hb2 q
  have HM2 := Lib.hid h2; have HX2 := Lib.hid hx2; have HB2 := Lib.hid (HB1.out.trans (hb2.mono HB1.out.size))
  unfold kV at hlo
  clear h2 hx2 hW2 hlk2 hc10 hxb0 hxb1 hxb2 hb2
  go_quiet (fail)
  obtain ⟨W3, hW3⟩ : ∃ W3, W3 = W2.drewN nq := ⟨_, rfl⟩
  have hb3 : Below W2.heap.size W2 W3 := by rw [hW3]; exact bel_dN (Below.refl _ _) _
  rw [← hW3]
  have h3 := HM2.out.bel hb3
  have hx3 := HX2.out.below' hb3
  have v1 := h3.cB
  have v2 : (vs0.set 12 (.bool σ.many))[12]? = some (.bool σ.many) := List.getElem?_set_self h3.c12
  rw [HMF.out] at v1 v2
  have y12 := v1.cell v2
  have y11 := h3.ch.op
  obtain ⟨W4, hW4⟩ : ∃ W4, W4 = W3.drew := ⟨_, rfl⟩
  have hb4 : Below W3.heap.size W3 W4 := by rw [hW4]; exact (Below.refl _ _).drew
  have h4 := h3.bel hb4
  have hx4 := hx3.below' hb4
  have u0 := hx4.cell (i := 0) rfl
  have u1 := hx4.cell (i := 1) rfl
  have u2 := hx4.cell (i := 2) rfl
  have u11 := h4.ch.op
  obtain ⟨W5, hput, hop5, hg5⟩ := h4.op.put HXK.out HXO.out hO
  have k45 : Kp (fun b => b = m3) W4 W5 := ⟨hg5.os, hg5.tape, hg5.output, hg5.size, fun b hb hn => hg5.block b hb (fun e => hn (by cases e; rfl))⟩
  have h5 := h4.map3 k45 hop5
  have hx5 : Blk W5 w.heap.size 46 [.int .i64 x.1, .int .i64 x.2.1, .int .i64 x.2.2] := blk_kp hx4 k45 (fun e => by have := h4.ne; have := HSZ.out; omega)
  have HM5 := Lib.hid h5; have HX5 := Lib.hid hx5; have HW4 := Lib.hid hW4
  have HB24 := Lib.hid (HB2.out.trans ((hb3.trans (hb4.mono hb3.size)).mono HB2.out.size))
  have HK5 := Lib.hid ((Kp.of HB24.out).trans (k45.mono (fun b _ e => (.inr (.inl e) : Zct m2 m3 c b))))
  unfold kV at hput
  clear h3 hx3 v1 v2 hb3 hb4 h4 hx4 hop5 hg5 k45 h5 hx5 hW3 hW4 hlo g11 gx0 gx1 gx2
  go_wp2_with fail
  refine wp_region_still_tail 5 (by kernel_rfl) (by kernel_rfl) ?_
  simp only [List.take_succ_cons, List.take_zero, List.drop_succ_cons, List.drop_zero]
  change wpStill _ _ W3.drew (fun a' => wpList _ _ _ _ a' W3.drew) _ _
  rw [← HW4.out]
  refine wpStill_of_quiet _ _ ?_
  repeat (first | go_big_quiet_skip | (go_big_quiet_want; go_big_quiet_op; go_big_quiet_on))
  refine wpQuiet_nil ?_
  go_wp2_with fail
  clear hput y12 y11 u0 u1 u2 u11
  obtain ⟨bn, nb, cb, t7, hnb, hcb1, hcb2, hSbn, hrows⟩ := HM5.out.ch.by_
  have hx1n := HXN.out
  obtain ⟨A', c', tr, hr1, hr2, hrs⟩ := hrows x.1 (by omega)
  have hxnb : x.1 < nb := by omega
  have t0 := HX5.out.cell (i := 0) rfl
  have t1 := HX5.out.cell (i := 1) rfl
  have t2 := HX5.out.cell (i := 2) rfl
  obtain ⟨ps, hps⟩ : ∃ ps, ps = byN G x.1 := ⟨_, rfl⟩
  rw [← hps] at tr hr1 hrs
  have hpm : ∀ p ∈ ps, p < np := fun p hp => by rw [hps] at hp; rw [← HPL.out]; exact (mem_byN.1 hp).1
  have hpl14 : ps.length ≤ 14 := by rw [hps]; exact byN_len hP x.1
  have HPS := Lib.hid hps; have HRS := Lib.hid hrs; have HPM := Lib.hid hpm
  unfold maxLen at hr2 hcb2
  clear hrows hps hrs hpm hnb
  go_quiet (fail)
  go_wp2_with fail
  obtain ⟨W6, hW6⟩ : ∃ W6, W6 = W5.drewN nq := ⟨_, rfl⟩
  have hb6 : Below W5.heap.size W5 W6 := by rw [hW6]; exact bel_dN (Below.refl _ _) _
  rw [← hW6]
  have HM6 := Lib.hid (HM5.out.bel hb6); have HX6 := Lib.hid (HX5.out.below' hb6); have HK6 := Lib.hid (HK5.out.trans (Kp.of hb6)); have HB56 := Lib.hid hb6
  clear hW6 hb6 t7 tr t0 t1 t2
  go_loopw [7, 50] (fun vn vk wr => ∃ (k : Nat) (σk : CS) (nk : Nat), vk = .int .i64 (k : Int) ∧ k ≤ ps.length ∧ Hid ((ps.take k).foldl (pStep C G inp cnt x) (σ, 0) = (σk, nk)) ∧ Hid (NumV N wr vn nk) ∧ Hid (CtM wr S B c m2 m3 N vs0 G Ap Al As np cp nl cl ns cs Ai ni ci inp C (x :: O) σk) ∧ Hid (Kp (Zct m2 m3 c) W6 wr)) (fun _ vk _ => ps.length - (intOf vk).toNat)
  case atStart => exact ⟨0, σ, 0, rfl, Nat.zero_le _, Lib.hid rfl, Lib.hid (NumV.zero _ _), HM6, Lib.hid (Kp.refl _ _)⟩
  case round =>
    obtain ⟨k, σk, nk, rfl, hkl, HFO, HNV, HMk, HKk⟩ := hrel
    obtain ⟨An, ln, cn, ll, rfl, -, -, -, -, hE⟩ := HNV.out.rd
    have hzN := HMk.out.zN
    have hxr : Blk wr w.heap.size 46 [.int .i64 x.1, .int .i64 x.2.1, .int .i64 x.2.2] := blk_kp HX6.out HKk.out (fun e => by have := hzN _ e; have := HSZ.out; omega)
    have hpb := pfold_bd (inp := inp) HCL.out HHc.out HRL.out (x := x) hx12 (by omega) (ps.take k) (σ, 0) (fun p hp => by have := HPM.out p (List.mem_of_mem_take hp); have := HPL.out; omega) HBI.out
    rw [HFO.out] at hpb
    have HPB := Lib.hid hpb
    have HXR := Lib.hid hxr
    clear hpb hxr hzN
    by_cases qk : k < ps.length
    · have dq : decide (k < ps.length) = true := decide_eq_true qk
      obtain ⟨p, hp⟩ : ∃ p, ps[k]? = some p := ⟨_, List.getElem?_eq_getElem qk⟩
      have hpn := HPM.out p (List.mem_of_getElem? hp)
      obtain ⟨rb, ro, rfl, hrb, hrc⟩ := HRS.out (by rw [List.length_map]; omega)
      have zp0 := hrc k (by rw [List.length_map]; exact qk)
      have e : nth (ps.map fun (p : Nat) => (p : Int)) k = (p : Int) := by unfold nth; rw [List.getD_eq_getElem?_getD, List.getElem?_map, hp]; rfl
      rw [e] at zp0
      have zp := HM5.out.stay HMk.out ((Kp.of HB56.out).trans HKk.out) hrb zp0 (fun x e => by cases e)
      obtain ⟨wd, hwd⟩ : ∃ wd, wd = wr.drew := ⟨_, rfl⟩
      have hbd : Below wr.heap.size wr wd := by rw [hwd]; exact (Below.refl _ _).drew
      have hMd := HMk.out.bel hbd
      obtain ⟨pb, po, A3, n3, c3, rfl, hpbB, w0, w1, e1, e2, e3, e4⟩ := hMd.ch.gi.p.rt hpn
      have w3 := hMd.ch.g3
      have hxd := HXR.out.below' hbd
      have x0 := hxd.cell (i := 0) rfl
      have x1 := hxd.cell (i := 1) rfl
      have x2 := hxd.cell (i := 2) rfl
      have hr5 := HRL.out p (by have := HPL.out; omega)
      have hsm : Sm nk := by
        obtain ⟨p1, _, _, p4⟩ := HPB.out
        have h4 := p4 8 (Nat.le_refl _) (p1.mb.sc _ _)
        refine ⟨Eb x.2.1 x.2.2 8 5 x.2.2 + 4, ?_, ?_⟩
        · have := Eb_top (i := x.2.1) (j := x.2.2) (K := 8) (at_ := 5) (tq := x.2.2) (by omega) (Nat.le_refl _) (Nat.le_refl _) hx12 (Nat.le_refl _)
          omega
        · rw [Nat.pow_add]
          have hp := Nat.two_pow_pos (Eb x.2.1 x.2.2 8 5 x.2.2)
          have hl : (ps.take k).length ≤ 14 := by rw [List.length_take]; omega
          have h14 := Nat.mul_le_mul_right (2 ^ Eb x.2.1 x.2.2 8 5 x.2.2 - 1) hl
          have h3 : ∀ P : Nat, P * 2 ^ 4 = 16 * P := fun P => by rw [Nat.mul_comm]
          rw [h3]
          dsimp only at h4
          generalize 2 ^ Eb x.2.1 x.2.2 8 5 x.2.2 = P at hp h14 h4 ⊢
          omega
      have hln := hE hsm
      have hwt := ways_top (inp := inp) (G := G) HCL.out HHc.out hx12 (by omega) p n3 x.2.2 σk hx12 (Nat.le_refl _) (by omega) HPB.out.1
      have hwy := ways_any S B c m2 m3 N vs0 G (some ⟨pb, po, none⟩) Al As np cp nl cl ns cs Ai ni ci inp C hk hni HPL.out HRL.out HCL.out H7.out (x :: O) cnt HHc.out HCC.out p hpn x.2.1 x.2.2 hx12 hx7 n3 x.2.2 σk (by omega) hx12 (Nat.le_refl _) HPB.out.1 wd hMd
      have hnext : (ps.take (k + 1)).foldl (pStep C G inp cnt x) (σ, 0) = ((waysP C G inp cnt p x.2.1 n3 x.2.2 σk).1, nk + (waysP C G inp cnt p x.2.1 n3 x.2.2 σk).2) := by
        rw [List.take_add_one, hp, List.foldl_append, HFO.out]
        show pStep C G inp cnt x (σk, nk) p = _
        unfold pStep
        rw [e1]
      have HWY := Lib.hid hwy; have HWT := Lib.hid hwt; have HNX := Lib.hid hnext; have HMD := Lib.hid hMd; have HXD := Lib.hid hxd
      have HND := Lib.hid (HNV.out.bel hbd); have HKD := Lib.hid (HKk.out.trans (Kp.of hbd)); have HSM := Lib.hid hsm; have HWD := Lib.hid hwd
      unfold maxLen at e3
      clear hE hwy hwt hnext hMd hxd hbd hwd zp0 e hrc hp hsm e4 w0
      go_wp2_with fail
      refine wp_region_moves 1 17 (by kernel_rfl) (by kernel_rfl) (by kernel_rfl) (fun _ _ d _ _ h => by cases d <;> exact h) ?_
      rw [← HWD.out]
      simp only [List.take_succ_cons, List.take_zero, List.drop_succ_cons, List.drop_zero]
      repeat (first | go_big_quiet_skip | (go_big_quiet_want; go_big_quiet_op; go_big_quiet_on))
      refine wpQuiet_nil ?_
      go_wp2_with fail
      refine HWY.out.mono ?_
      rintro e w6 ⟨v6, rfl, hv6, hm6, hk6⟩
      obtain ⟨A6, ln6, c6, l6, rfl, rd6, hl6, nm6, vb6, hE6⟩ := hv6.rd
      have hln6 := hE6 HWT.out.2
      obtain ⟨An', lnn', cn', ln', en', rdn, hln', nmn, vbn, -⟩ := (HND.out.kp hk6 HMD.out.zN).rd
      simp only [Value.slice.injEq] at en'
      obtain ⟨rfl, rfl, rfl⟩ := en'
      have hpl' := plus_u An A6 ln cn ln6 c6 ln' l6 w6 w6.heap.size (Nat.le_refl _) rdn hln' rd6 hl6 (by omega) (by omega) nmn nm6
      rw [vb6, vbn] at hpl'
      have HPU := Lib.hid hpl'
      have HM6b := Lib.hid hm6; have HK6b := Lib.hid (HKD.out.trans hk6)
      clear hpl' rd6 hl6 nm6 vb6 hE6 rdn hln' nmn vbn hv6 hm6 hk6 HWY
      go_wp2_with fail
      refine HPU.out.mono ?_
      rintro e w8 ⟨v8, l8, rfl, ow8, nm8, vb8, -, hb8⟩
      have hv8 := NumV.of_own (N := N) ow8 HM6b.out.sz nm8
      rw [vb8] at hv8
      have HV8 := Lib.hid hv8; have HM8 := Lib.hid (HM6b.out.bel hb8); have HK8 := Lib.hid (HK6b.out.trans (Kp.of hb8))
      clear hv8 ow8 nm8 vb8 hb8 HPU
      go_wp2_with fail
      go_roundw
      case rel => exact ⟨k + 1, _, _, by simp, by omega, HNX, HV8, HM8, HK8⟩
      case measure => simp [intOf]; omega
    · have dq : decide (k < ps.length) = false := decide_eq_false qk
      have hqe : q = (σk, nk) := by
        have h := HFO.out
        rw [List.take_of_length_le (by omega)] at h
        rw [HF.out, ← HPS.out]
        exact h
      have hnx : ∀ e ∈ σk.M, e.1 ≠ x := fun e he h => HPB.out.1.no e he (by rw [h]; simp)
      have HQE := Lib.hid hqe
      obtain ⟨W7, hW7⟩ : ∃ W7, W7 = wr.drew := ⟨_, rfl⟩
      have hb7 : Below wr.heap.size wr W7 := by rw [hW7]; exact (Below.refl _ _).drew
      have h7m := HMk.out.bel hb7
      have hx7 := HXR.out.below' hb7
      have u0 := hx7.cell (i := 0) rfl
      have u1 := hx7.cell (i := 1) rfl
      have u2 := hx7.cell (i := 2) rfl
      have u11 := h7m.ch.op
      obtain ⟨W8, hdel, hop8, hg8⟩ := h7m.op.del HXK.out HXO.out 0
      have k78 : Kp (fun b => b = m3) W7 W8 := ⟨hg8.os, hg8.tape, hg8.output, hg8.size, fun b hb hn => hg8.block b hb (fun e => hn (by cases e; rfl))⟩
      have h8 := h7m.map3 k78 hop8
      have hx8 : Blk W8 w.heap.size 46 [.int .i64 x.1, .int .i64 x.2.1, .int .i64 x.2.2] := blk_kp hx7 k78 (fun e => by have := h7m.ne; have := HSZ.out; omega)
      obtain ⟨W9, hW9⟩ : ∃ W9, W9 = W8.drew := ⟨_, rfl⟩
      have hb9 : Below W8.heap.size W8 W9 := by rw [hW9]; exact (Below.refl _ _).drew
      have h9 := h8.bel hb9
      have hx9 := hx8.below' hb9
      have y0 := hx9.cell (i := 0) rfl
      have y1 := hx9.cell (i := 1) rfl
      have y2 := hx9.cell (i := 2) rfl
      have y10 := h9.c10
      have hn9 := ((HNV.out.bel hb7).kp k78 (fun b e => by have := h7m.ne; omega)).bel hb9
      obtain ⟨W10, hput, h10, k910⟩ := h9.put HXK.out (lk_none' hnx) hn9 (by have := HPB.out.1.mb.len; dsimp only at this; omega)
      have hn10 := hn9.kp k910 (fun b e => by have := h9.ne; omega)
      have HM10 := Lib.hid h10; have HN10 := Lib.hid hn10; have HW7 := Lib.hid hW7; have HW9 := Lib.hid hW9
      have HK10 : Hid (Kp (Zct m2 m3 c) w W10) := Lib.hid ((((((HK6.out.trans HKk.out).trans (Kp.of hb7)).trans (k78.mono (fun b _ e => (.inr (.inl e) : Zct m2 m3 c b))))).trans (Kp.of hb9)).trans (k910.mono (fun b _ e => (.inl e : Zct m2 m3 c b))))
      unfold kV at hdel hput
      clear hqe hnx h7m hx7 hop8 hg8 k78 h8 hx8 h9 hx9 hn9 h10 k910 hn10 hW7 hW9 hb7 hb9 hE HPB
      go_wp2_with fail
      refine wp_region_still_tail 5 (by kernel_rfl) (by kernel_rfl) ?_
      simp only [List.take_succ_cons, List.take_zero, List.drop_succ_cons, List.drop_zero]
      change wpStill _ _ wr.drew (fun a' => wpList _ _ _ _ a' wr.drew) _ _
      rw [← HW7.out]
      refine wpStill_of_quiet _ _ ?_
      repeat (first | go_big_quiet_skip | (go_big_quiet_want; go_big_quiet_op; go_big_quiet_on))
      refine wpQuiet_nil ?_
      go_wp2_with fail
      refine wp_region_still_tail 6 (by kernel_rfl) (by kernel_rfl) ?_
      simp only [List.take_succ_cons, List.take_zero, List.drop_succ_cons, List.drop_zero]
      change wpStill _ _ W8.drew (fun a' => wpList _ _ _ _ a' W8.drew) _ _
      rw [← HW9.out]
      refine wpStill_of_quiet _ _ ?_
      repeat (first | go_big_quiet_skip | (go_big_quiet_want; go_big_quiet_op; go_big_quiet_on))
      refine wpQuiet_nil ?_
      go_wp2_with fail
      go_ret
      rw [HQE.out]
      exact ⟨_, rfl, HN10.out, HM10.out, HK10.out⟩
theorem count_any (hk : GOk G) (hni : ni ≤ 7) (hpl : G.prods.length = np) (hR : ∀ p, p < G.prods.length → (rtN G p).length ≤ 5) (hP : G.prods.length ≤ 14) (hN8 : G.names ≤ 8) (h7 : ∀ x ∈ C.L, x.2.2 ≤ ni) (hC : ∀ x ∈ C.L, x.2.1 ≤ x.2.2 ∧ x.1 < 8) (hCN : ∀ x ∈ C.L, (x.1 : Int) < G.names) :
    ∀ (f : Nat) (O : List K3), O.length + f ≤ 1000000 → Fuel C f O → CntC S B c m2 m3 N vs0 G Ap Al As np cp nl cl ns cs Ai ni ci inp C O (cntP C G inp f O)
  | 0, O, hO, hf => fun σ x hb hx w h => by
    have hxO : x ∈ O := hf.none.elim (fun e => e) (fun e => absurd hx e)
    refine (count_many S B c m2 m3 N vs0 G Ap Al As np cp nl cl ns cs Ai ni ci inp C hk hni h7 hC O σ x hx w h (.inr (.inl hxO))).mono ?_
    rintro e w' ⟨v, rfl, h1, h2, h3⟩
    refine ⟨v, rfl, ?_⟩
    rw [cntP]
    cases el : lkK σ.M x with
    | some k =>
      rw [el] at h1 h2
      rw [if_neg (by simp)] at h2
      exact ⟨h1, h2, h3⟩
    | none =>
      rw [el] at h1 h2
      rw [if_pos rfl] at h2
      exact ⟨h1, h2, h3⟩
  | f + 1, O, hO, hf => fun σ x hb hx w h => by
    by_cases q : lkK σ.M x ≠ none ∨ x ∈ O ∨ σ.many = true
    · refine (count_many S B c m2 m3 N vs0 G Ap Al As np cp nl cl ns cs Ai ni ci inp C hk hni h7 hC O σ x hx w h q).mono ?_
      rintro e w' ⟨v, rfl, h1, h2, h3⟩
      refine ⟨v, rfl, ?_⟩
      rw [cntP]
      cases el : lkK σ.M x with
      | some k =>
        rw [el] at h1 h2
        rw [if_neg (by simp)] at h2
        exact ⟨h1, h2, h3⟩
      | none =>
        rw [el] at h1 h2
        rw [if_pos rfl] at h2
        have q2 : x ∈ O ∨ σ.many = true := q.elim (fun e => absurd el e) (fun e => e)
        simp only [if_pos q2]
        exact ⟨h1, h2, h3⟩
    · have q1 : lkK σ.M x = none := Classical.byContradiction fun e => q (.inl e)
      have q2 : x ∉ O := fun e => q (.inr (.inl e))
      have q3 : σ.many = false := by
        cases e : σ.many with
        | false => rfl
        | true => exact absurd (.inr (.inr e)) q
      have h0 := count_go S B c m2 m3 N vs0 G Ap Al As np cp nl cl ns cs Ai ni ci inp C hk hni hpl hR hP hN8 h7 hC hCN f O (by omega) σ x hx hb (cntP C G inp f (x :: O)) (cnt_bd hC (fun x hx => by have := h7 x hx; omega) hR hP f (x :: O)) (count_any hk hni hpl hR hP hN8 h7 hC hCN f (x :: O) (by simp; omega) (hf.step q2 hx)) w h q1 q2 q3 _ rfl
      rw [cntP]
      simp only [q1, if_neg (show ¬ (x ∈ O ∨ σ.many = true) by rw [q3]; simp [q2])]
      exact h0
end
end Go.Proofs.YtiklbannoinioaaDoor
namespace Go.Proofs.YtiklbannoinioaaDoor
open Go.Shelf
def y_lays170_ren : Go.Shelf.Ren := ⟨fun | 170 => 47 | n => n, fun | 70 => 63 | 3 => 3 | 0 => 0 | 72 => 66 | 37 => 64 | 5 => 5 | n => n, fun | n => n⟩
theorem y_lays170 : Go.Proofs.Lays.n170 Tryd.prog y_lays170_ren := {
  mixed := by kernel_rfl
  f170 := Tryd.func47.trans (congrArg some (by kernel_rfl))
  t0 := Tryd.underlying0
  a0 := Tryd.isAgg0
  z0 := Tryd.sizeOf0
  v0 := Tryd.zeroValue0
  t3 := Tryd.underlying3
  a3 := Tryd.isAgg3
  z3 := Tryd.sizeOf3
  v3 := Tryd.zeroValue3
  t37 := Tryd.underlying64
  a37 := Tryd.isAgg64
  z37 := Tryd.sizeOf64
  v37 := Tryd.zeroValue64
  t70 := Tryd.underlying63
  a70 := Tryd.isAgg63
  z70 := Tryd.sizeOf63
  v70 := Tryd.zeroValue63
  t72 := Tryd.underlying66
  a72 := Tryd.isAgg66
  z72 := Tryd.sizeOf66
  v72 := Tryd.zeroValue66 }
open Go.RowKit in
/-- (*strings.Builder).Len: "Len returns the number of accumulated bytes; b.Len() == len(b.String()).": the world is as it was. (LAID: no walk: one application.) -/
theorem y_Builder_Len (B b : Nat) (bs : List Value) (w : World) (h : Lib.IsBuilder 66 5 B b bs w) :
    Calls Tryd.prog 47 #[.pointer (some ⟨b, 0, none⟩)] w fun e w' => e = .returned (.int .i64 bs.length) ∧ w' = w := Any.Builder_Len y_lays170 B b bs w h
def y_lays169_ren : Go.Shelf.Ren := ⟨fun | 169 => 23 | n => n, fun | 70 => 63 | 9 => 9 | 0 => 0 | 72 => 66 | 37 => 64 | 127 => 90 | 3 => 3 | 5 => 5 | n => n, fun | n => n⟩
theorem y_lays169 : Go.Proofs.Lays.n169 Tryd.prog y_lays169_ren := {
  mixed := by kernel_rfl
  f169 := Tryd.func23.trans (congrArg some (by kernel_rfl))
  t0 := Tryd.underlying0
  a0 := Tryd.isAgg0
  z0 := Tryd.sizeOf0
  v0 := Tryd.zeroValue0
  t3 := Tryd.underlying3
  a3 := Tryd.isAgg3
  z3 := Tryd.sizeOf3
  v3 := Tryd.zeroValue3
  t9 := Tryd.underlying9
  a9 := Tryd.isAgg9
  z9 := Tryd.sizeOf9
  v9 := Tryd.zeroValue9
  t37 := Tryd.underlying64
  a37 := Tryd.isAgg64
  z37 := Tryd.sizeOf64
  v37 := Tryd.zeroValue64
  t70 := Tryd.underlying63
  a70 := Tryd.isAgg63
  z70 := Tryd.sizeOf63
  v70 := Tryd.zeroValue63
  t72 := Tryd.underlying66
  a72 := Tryd.isAgg66
  z72 := Tryd.sizeOf66
  v72 := Tryd.zeroValue66
  t127 := Tryd.underlying90
  a127 := Tryd.isAgg90
  z127 := Tryd.sizeOf90
  v127 := Tryd.zeroValue90 }
theorem y_Builder_Extra_169 : Builder.Extra Tryd.prog y_lays169_ren := {
  sizeBuilder := by kernel_rfl
  liesBuilder := by kernel_rfl
  t5 := Tryd.underlying5
  a5 := Tryd.isAgg5
  z5 := Tryd.sizeOf5
  v5 := Tryd.zeroValue5
  infoByte := by kernel_rfl
  cellsByte := by kernel_rfl
  sizeByte := by kernel_rfl
  neB5 := by decide }
open Go.RowKit in
/-- (*strings.Builder).String: "String returns the accumulated string.": OF A BUILDER THAT HOLDS AT LEAST ONE BYTE. ✋ THE MODEL FREEZES THOSE BYTES IN THE BUFFER (unsafe.String): a later write INTO them ends the model's run without an answer; a later append BEHIND them goes on. The statement's order of evaluation is drawn: one draw. (LAID: no walk: one application.) -/
theorem y_Builder_String (B b : Nat) (l : List UInt8) (w : World) (h : Lib.IsBuilder 66 5 B b (Lib.byteCells l) w) (h0 : l ≠ []) :
    Calls Tryd.prog 23 #[.pointer (some ⟨b, 0, none⟩)] w fun e w' => e = .returned (.string ⟨l.toArray⟩) ∧ Below B w w' := Any.Builder_String y_lays169 y_Builder_Extra_169 B b l w h h0
open Go.RowKit in
/-- (*strings.Builder).String OF A BUILDER THAT HOLDS NO BYTE: the empty string. (Its buffer is nil, or a row of which it has taken nothing yet; where that row has NO capacity the model lays one new block for unsafe.SliceData's 'some address'.) One draw. (LAID: no walk: one application.) -/
theorem y_Builder_String_empty (B b : Nat) (w : World) (h : Lib.IsBuilder 66 5 B b [] w) (hBw : B ≤ w.heap.size) :
    Calls Tryd.prog 23 #[.pointer (some ⟨b, 0, none⟩)] w fun e w' => e = .returned (.string ⟨#[]⟩) ∧ Below B w w' := Any.Builder_String_empty y_lays169 y_Builder_Extra_169 B b w h hBw
open Go.RowKit in
/-- (*strings.Builder).String: "String returns the accumulated string.": WHATEVER THE BUILDER HOLDS. (LAID: no walk: one application.) -/
theorem y_Builder_String_any (B b : Nat) (l : List UInt8) (w : World) (h : Lib.IsBuilder 66 5 B b (Lib.byteCells l) w) (hBw : B ≤ w.heap.size) :
    Calls Tryd.prog 23 #[.pointer (some ⟨b, 0, none⟩)] w fun e w' => e = .returned (.string ⟨l.toArray⟩) ∧ Below B w w' := Any.Builder_String_any y_lays169 y_Builder_Extra_169 B b l w h hBw
open Go.RowKit in
/-- (*strings.Builder).Len: "Len returns the number of accumulated bytes; b.Len() == len(b.String()).": the world is as it was. (THE FORM '_f': 'Lib.IsBuilderF'.) (LAID: no walk: one application.) -/
theorem y_Builder_Len_f (B b : Nat) (bs : List Value) (w : World) (h : Lib.IsBuilderF 66 5 B b bs w) :
    Calls Tryd.prog 47 #[.pointer (some ⟨b, 0, none⟩)] w fun e w' => e = .returned (.int .i64 bs.length) ∧ w' = w := Any.Builder_Len_f y_lays170 B b bs w h
open Go.RowKit in
/-- (*strings.Builder).String: "String returns the accumulated string.": OF A BUILDER THAT HOLDS AT LEAST ONE BYTE. ✋ THE MODEL FREEZES THOSE BYTES IN THE BUFFER (unsafe.String): a later write INTO them ends the model's run without an answer; a later append BEHIND them goes on. The statement's order of evaluation is drawn: one draw. THE FORM '_f': IT SAYS BESIDES THAT THE BUILDER IS A BUILDER STILL ('Lib.IsBuilderF', the same bytes): SO IT CAN BE WRITTEN ON: 'b.WriteString(b.String()[:k])'. (LAID: no walk: one application.) -/
theorem y_Builder_String_f (B b : Nat) (l : List UInt8) (w : World) (h : Lib.IsBuilderF 66 5 B b (Lib.byteCells l) w) (h0 : l ≠ []) :
    Calls Tryd.prog 23 #[.pointer (some ⟨b, 0, none⟩)] w fun e w' => e = .returned (.string ⟨l.toArray⟩) ∧ (Lib.IsBuilderF 66 5 B b (Lib.byteCells l) w' ∧ Below B w w') := Any.Builder_String_f y_lays169 y_Builder_Extra_169 B b l w h h0
open Go.RowKit in
/-- (*strings.Builder).String OF A BUILDER THAT HOLDS NO BYTE: the empty string; THE FORM '_f': a builder still. (LAID: no walk: one application.) -/
theorem y_Builder_String_empty_f (B b : Nat) (w : World) (h : Lib.IsBuilderF 66 5 B b [] w) (hBw : B ≤ w.heap.size) :
    Calls Tryd.prog 23 #[.pointer (some ⟨b, 0, none⟩)] w fun e w' => e = .returned (.string ⟨#[]⟩) ∧ (Lib.IsBuilderF 66 5 B b [] w' ∧ Below B w w') := Any.Builder_String_empty_f y_lays169 y_Builder_Extra_169 B b w h hBw
open Go.RowKit in
/-- (*strings.Builder).String: "String returns the accumulated string.": WHATEVER THE BUILDER HOLDS; THE FORM '_f': OF A BUILDER THAT MAY HAVE BEEN READ BEFORE; AND IT IS A BUILDER STILL, holding the same bytes: it can be written on. (LAID: no walk: one application.) -/
theorem y_Builder_String_any_f (B b : Nat) (l : List UInt8) (w : World) (h : Lib.IsBuilderF 66 5 B b (Lib.byteCells l) w) (hBw : B ≤ w.heap.size) :
    Calls Tryd.prog 23 #[.pointer (some ⟨b, 0, none⟩)] w fun e w' => e = .returned (.string ⟨l.toArray⟩) ∧ (Lib.IsBuilderF 66 5 B b (Lib.byteCells l) w' ∧ Below B w w') := Any.Builder_String_any_f y_lays169 y_Builder_Extra_169 B b l w h hBw
open Go.RowKit in
/-- (*strings.Builder).String: "String returns the accumulated string.": OF A BUILDER THAT HOLDS AT LEAST ONE BYTE. ✋ THE MODEL FREEZES THOSE BYTES IN THE BUFFER (unsafe.String): a later write INTO them ends the model's run without an answer; a later append BEHIND them goes on. The statement's order of evaluation is drawn: one draw. THE FORM '_k': OVER 'Lib.IsBuilderF' (a builder that 'String()' may have read), AND WITH THE FRAME THAT REACHES ABOVE THE BUILDER: 'Lib.OthersKept': every block that is not b and is no row of uint8's stands as it stood: the iterator of a range among them. (LAID: no walk: one application.) -/
theorem y_Builder_String_k (B b : Nat) (l : List UInt8) (w : World) (h : Lib.IsBuilderF 66 5 B b (Lib.byteCells l) w) (h0 : l ≠ []) :
    Calls Tryd.prog 23 #[.pointer (some ⟨b, 0, none⟩)] w fun e w' => e = .returned (.string ⟨l.toArray⟩) ∧ (Lib.IsBuilderF 66 5 B b (Lib.byteCells l) w' ∧ Below B w w' ∧ Lib.OthersKept 5 (some b) w w') := Any.Builder_String_k y_lays169 y_Builder_Extra_169 B b l w h h0
open Go.RowKit in
/-- (*strings.Builder).String OF A BUILDER THAT HOLDS NO BYTE: the empty string; THE FORM '_k': OVER 'Lib.IsBuilderF' (a builder that 'String()' may have read), AND WITH THE FRAME THAT REACHES ABOVE THE BUILDER: 'Lib.OthersKept': every block that is not b and is no row of uint8's stands as it stood: the iterator of a range among them. (LAID: no walk: one application.) -/
theorem y_Builder_String_empty_k (B b : Nat) (w : World) (h : Lib.IsBuilderF 66 5 B b [] w) (hBw : B ≤ w.heap.size) :
    Calls Tryd.prog 23 #[.pointer (some ⟨b, 0, none⟩)] w fun e w' => e = .returned (.string ⟨#[]⟩) ∧ (Lib.IsBuilderF 66 5 B b [] w' ∧ Below B w w' ∧ Lib.OthersKept 5 (some b) w w') := Any.Builder_String_empty_k y_lays169 y_Builder_Extra_169 B b w h hBw
open Go.RowKit in
/-- (*strings.Builder).String: "String returns the accumulated string.": WHATEVER THE BUILDER HOLDS; THE FORM '_k': OVER 'Lib.IsBuilderF' (a builder that 'String()' may have read), AND WITH THE FRAME THAT REACHES ABOVE THE BUILDER: 'Lib.OthersKept': every block that is not b and is no row of uint8's stands as it stood: the iterator of a range among them. (LAID: no walk: one application.) -/
theorem y_Builder_String_any_k (B b : Nat) (l : List UInt8) (w : World) (h : Lib.IsBuilderF 66 5 B b (Lib.byteCells l) w) (hBw : B ≤ w.heap.size) :
    Calls Tryd.prog 23 #[.pointer (some ⟨b, 0, none⟩)] w fun e w' => e = .returned (.string ⟨l.toArray⟩) ∧ (Lib.IsBuilderF 66 5 B b (Lib.byteCells l) w' ∧ Below B w w' ∧ Lib.OthersKept 5 (some b) w w') := Any.Builder_String_any_k y_lays169 y_Builder_Extra_169 B b l w h hBw
def y_lays129_ren : Go.Shelf.Ren := ⟨fun | 129 => 60 | n => n, fun | 53 => 103 | 3 => 3 | 4 => 4 | 46 => 105 | 5 => 5 | 9 => 9 | n => n, fun | n => n⟩
theorem y_lays129 : Go.Proofs.Lays.n129 Tryd.prog y_lays129_ren := {
  mixed := by kernel_rfl
  f129 := Tryd.func60.trans (congrArg some (by kernel_rfl))
  t3 := Tryd.underlying3
  a3 := Tryd.isAgg3
  z3 := Tryd.sizeOf3
  v3 := Tryd.zeroValue3
  t4 := Tryd.underlying4
  a4 := Tryd.isAgg4
  z4 := Tryd.sizeOf4
  v4 := Tryd.zeroValue4
  t5 := Tryd.underlying5
  a5 := Tryd.isAgg5
  z5 := Tryd.sizeOf5
  v5 := Tryd.zeroValue5
  t9 := Tryd.underlying9
  a9 := Tryd.isAgg9
  z9 := Tryd.sizeOf9
  v9 := Tryd.zeroValue9
  t46 := Tryd.underlying105
  a46 := Tryd.isAgg105
  z46 := Tryd.sizeOf105
  v46 := Tryd.zeroValue105
  t53 := Tryd.underlying103
  a53 := Tryd.isAgg103
  z53 := Tryd.sizeOf103
  v53 := Tryd.zeroValue103 }
/-- bits.Len64: "Len64 returns the minimum number of bits required to represent x; the result is 0 for x == 0.": IT RETURNS 'Lib.bitLen x'; the world is as it was. ('h0', 'h1': x is a uint64.) (LAID: no walk: one application.) -/
theorem y_bits_Len64 (x : Int) (w : World) (h0 : 0 ≤ x) (h1 : x ≤ 18446744073709551615) :
    Calls Tryd.prog 60 #[.int .u64 x] w fun e w' => e = .returned (.int .i64 (Lib.bitLen x.toNat)) ∧ w' = w := Any.bits_Len64 y_lays129 x w h0 h1
def y_lays317_ren : Go.Shelf.Ren := ⟨fun | 317 => 59 | n => n, fun | 3 => 3 | 46 => 105 | n => n, fun | n => n⟩
theorem y_lays317 : Go.Proofs.Lays.n317 Tryd.prog y_lays317_ren := {
  mixed := by kernel_rfl
  f317 := Tryd.func59.trans (congrArg some (by kernel_rfl))
  t3 := Tryd.underlying3
  a3 := Tryd.isAgg3
  z3 := Tryd.sizeOf3
  v3 := Tryd.zeroValue3
  t46 := Tryd.underlying105
  a46 := Tryd.isAgg105
  z46 := Tryd.sizeOf105
  v46 := Tryd.zeroValue105 }
open Go.Lib in
/-- internal/strconv.log10Pow2: "log10Pow2(x) returns ⌊log₁₀ 2**x⌋ = ⌊x * log₁₀ 2⌋.": '(x * 78913) >> 18', at an x up to 64 (a length in bits). The world is as it was. (LAID: no walk: one application.) -/
theorem y_internal_strconv_log10Pow2 (x : Nat) (h : x ≤ 64) (w : World) :
    Calls Tryd.prog 59 #[.int .i64 x] w fun e w' => e = .returned (.int .i64 (Lib.l10 x)) ∧ w' = w := Any.internal_strconv_log10Pow2 y_lays317 x h w
def y_lays318_ren : Go.Shelf.Ren := ⟨fun | 318 => 61 | n => n, fun | 3 => 3 | 4 => 4 | n => n, fun | n => n⟩
theorem y_lays318 : Go.Proofs.Lays.n318 Tryd.prog y_lays318_ren := {
  mixed := by kernel_rfl
  f318 := Tryd.func61.trans (congrArg some (by kernel_rfl))
  t3 := Tryd.underlying3
  a3 := Tryd.isAgg3
  z3 := Tryd.sizeOf3
  v3 := Tryd.zeroValue3
  t4 := Tryd.underlying4
  a4 := Tryd.isAgg4
  z4 := Tryd.sizeOf4
  v4 := Tryd.zeroValue4 }
open Go.Lib in
/-- internal/strconv.bool2: "bool2 converts b to an integer: 1 for true, 0 for false." The world is as it was. (LAID: no walk: one application.) -/
theorem y_internal_strconv_bool2_int (b : Bool) (w : World) :
    Calls Tryd.prog 61 #[.bool b] w fun e w' => e = .returned (.int .i64 (if b then 1 else 0)) ∧ w' = w := Any.internal_strconv_bool2_int y_lays318 b w
def y_lays283_ren : Go.Shelf.Ren := ⟨fun | 283 => 54 | n => n, fun | 3 => 3 | 9 => 9 | 4 => 4 | n => n, fun | n => n⟩
theorem y_lays283 : Go.Proofs.Lays.n283 Tryd.prog y_lays283_ren := {
  mixed := by kernel_rfl
  f283 := Tryd.func54.trans (congrArg some (by kernel_rfl))
  t3 := Tryd.underlying3
  a3 := Tryd.isAgg3
  z3 := Tryd.sizeOf3
  v3 := Tryd.zeroValue3
  t4 := Tryd.underlying4
  a4 := Tryd.isAgg4
  z4 := Tryd.sizeOf4
  v4 := Tryd.zeroValue4
  t9 := Tryd.underlying9
  a9 := Tryd.isAgg9
  z9 := Tryd.sizeOf9
  v9 := Tryd.zeroValue9 }
open Go.Lib in
/-- internal/strconv.small: "small returns the string for an i with 0 <= i < nSmalls.": i's decimal numeral. The world is as it was. (LAID: no walk: one application.) -/
theorem y_internal_strconv_small (i : Nat) (h : i < 100) (w : World) :
    Calls Tryd.prog 54 #[.int .i64 i] w fun e w' => e = .returned (.string ⟨(Lib.decDigits i).toArray⟩) ∧ w' = w := Any.internal_strconv_small y_lays283 i h w
def y_laysM284_ren : Go.Shelf.Ren := ⟨fun | 284 => 55 | 129 => 60 | 317 => 59 | 318 => 61 | n => n, fun | 53 => 103 | 3 => 3 | 212 => 127 | 0 => 0 | 4 => 4 | 46 => 105 | 5 => 5 | 9 => 9 | n => n, fun | 17 => 0 | n => n⟩
theorem y_laysM284 : Go.Proofs.LaysM.n284 Tryd.prog y_laysM284_ren := {
  mixed := by kernel_rfl
  f129 := Tryd.func60.trans (congrArg some (by kernel_rfl))
  f284 := Tryd.func55.trans (congrArg some (by kernel_rfl))
  f317 := Tryd.func59.trans (congrArg some (by kernel_rfl))
  f318 := Tryd.func61.trans (congrArg some (by kernel_rfl))
  t0 := Tryd.underlying0
  a0 := Tryd.isAgg0
  z0 := Tryd.sizeOf0
  v0 := Tryd.zeroValue0
  t3 := Tryd.underlying3
  a3 := Tryd.isAgg3
  z3 := Tryd.sizeOf3
  v3 := Tryd.zeroValue3
  t4 := Tryd.underlying4
  a4 := Tryd.isAgg4
  z4 := Tryd.sizeOf4
  v4 := Tryd.zeroValue4
  t5 := Tryd.underlying5
  a5 := Tryd.isAgg5
  z5 := Tryd.sizeOf5
  v5 := Tryd.zeroValue5
  t9 := Tryd.underlying9
  a9 := Tryd.isAgg9
  z9 := Tryd.sizeOf9
  v9 := Tryd.zeroValue9
  t46 := Tryd.underlying105
  a46 := Tryd.isAgg105
  z46 := Tryd.sizeOf105
  v46 := Tryd.zeroValue105
  t53 := Tryd.underlying103
  a53 := Tryd.isAgg103
  z53 := Tryd.sizeOf103
  v53 := Tryd.zeroValue103
  t212 := Tryd.underlying127
  a212 := Tryd.isAgg127
  z212 := Tryd.sizeOf127
  v212 := Tryd.zeroValue127
  g17 := by kernel_rfl
  i0 := by kernel_rfl
  i3 := by kernel_rfl
  i4 := by kernel_rfl
  i5 := by kernel_rfl
  i9 := by kernel_rfl
  i46 := by kernel_rfl
  i53 := by kernel_rfl
  i212 := by kernel_rfl
  m17 := by kernel_rfl }
open Go.Lib in
/-- internal/strconv.numDigits, at a d that is not 0: THE NUMBER OF d's DECIMAL DIGITS. The world is as it was. (LAID: no walk: one application.) -/
theorem y_internal_strconv_numDigits (u : Nat) (h1 : 1 ≤ u) (h2 : u < 18446744073709551616) (w : World) (htab : Lib.TabIs Tryd.prog w "internal/strconv.uint64pow10" .u64 Lib.pow10Tab) :
    Calls Tryd.prog 55 #[.int .u64 u] w fun e w' => e = .returned (.int .i64 (Lib.nDigits u)) ∧ w' = w := Any.internal_strconv_numDigits y_laysM284 u h1 h2 w htab
def y_lays285_ren : Go.Shelf.Ren := ⟨fun | 285 => 56 | n => n, fun | 37 => 64 | 53 => 103 | 3 => 3 | 4 => 4 | 51 => 88 | 9 => 9 | 5 => 5 | 0 => 0 | n => n, fun | n => n⟩
theorem y_lays285 : Go.Proofs.Lays.n285 Tryd.prog y_lays285_ren := {
  mixed := by kernel_rfl
  f285 := Tryd.func56.trans (congrArg some (by kernel_rfl))
  t0 := Tryd.underlying0
  a0 := Tryd.isAgg0
  z0 := Tryd.sizeOf0
  v0 := Tryd.zeroValue0
  t3 := Tryd.underlying3
  a3 := Tryd.isAgg3
  z3 := Tryd.sizeOf3
  v3 := Tryd.zeroValue3
  t4 := Tryd.underlying4
  a4 := Tryd.isAgg4
  z4 := Tryd.sizeOf4
  v4 := Tryd.zeroValue4
  t5 := Tryd.underlying5
  a5 := Tryd.isAgg5
  z5 := Tryd.sizeOf5
  v5 := Tryd.zeroValue5
  t9 := Tryd.underlying9
  a9 := Tryd.isAgg9
  z9 := Tryd.sizeOf9
  v9 := Tryd.zeroValue9
  t37 := Tryd.underlying64
  a37 := Tryd.isAgg64
  z37 := Tryd.sizeOf64
  v37 := Tryd.zeroValue64
  t51 := Tryd.underlying88
  a51 := Tryd.isAgg88
  z51 := Tryd.sizeOf88
  v51 := Tryd.zeroValue88
  t53 := Tryd.underlying103
  a53 := Tryd.isAgg103
  z53 := Tryd.sizeOf103
  v53 := Tryd.zeroValue103 }
open Go.RowKit Go.Sort Go.Lib in
/-- internal/strconv.formatBase10: "formatBase10 formats the decimal representation of u into a. The caller is responsible for ensuring that a is big enough to hold u. If a is too big, leading zeros will be filled in as needed.": THE ROW HOLDS u's DIGITS ('FmtInv .. 0 ..': every place t holds 'dg u (len - 1 - t)'); all else is as it was but for the count of draws. (LAID: no walk: one application.) -/
theorem y_internal_strconv_formatBase10 (blk off cap : Nat) (u : Nat) (d : Array UInt8) (w : World) (hH : Holds (fun (b : UInt8) => Value.int .u8 (b.toNat : Int)) w blk off d) (hu : u < 10 ^ d.size) (hu64 : u < 18446744073709551616) (hsz : d.size < 4611686018427387904) :
    Calls Tryd.prog 56 #[.slice (some ⟨blk, off, none⟩) d.size cap, .int .u64 u] w fun e w' =>
      e = .returned (.tuple #[]) ∧ ∃ (n v' : Nat) (dk : Array UInt8), w' = (putRow (fun (b : UInt8) => Value.int .u8 (b.toNat : Int)) w blk off dk).drewN n ∧ FmtInv d.size u 0 v' dk := Any.internal_strconv_formatBase10 y_lays285 blk off cap u d w hH hu hu64 hsz
def y_laysM246_ren : Go.Shelf.Ren := ⟨fun | 246 => 49 | 283 => 54 | 284 => 55 | 285 => 56 | 286 => 57 | 129 => 60 | 317 => 59 | 318 => 61 | 319 => 62 | 320 => 63 | 337 => 64 | 338 => 65 | n => n, fun | 2 => 2 | 3 => 3 | 9 => 9 | 4 => 4 | 171 => 119 | 0 => 0 | 53 => 103 | 37 => 64 | 5 => 5 | 173 => 122 | 212 => 127 | 51 => 88 | 20 => 20 | 213 => 128 | 46 => 105 | 232 => 131 | 233 => 132 | n => n, fun | 17 => 0 | 18 => 2 | 19 => 3 | n => n⟩
theorem y_laysM246 : Go.Proofs.LaysM.n246 Tryd.prog y_laysM246_ren := {
  mixed := by kernel_rfl
  f129 := Tryd.func60.trans (congrArg some (by kernel_rfl))
  f246 := Tryd.func49.trans (congrArg some (by kernel_rfl))
  f283 := Tryd.func54.trans (congrArg some (by kernel_rfl))
  f284 := Tryd.func55.trans (congrArg some (by kernel_rfl))
  f285 := Tryd.func56.trans (congrArg some (by kernel_rfl))
  f286 := Tryd.func57.trans (congrArg some (by kernel_rfl))
  f317 := Tryd.func59.trans (congrArg some (by kernel_rfl))
  f318 := Tryd.func61.trans (congrArg some (by kernel_rfl))
  f319 := Tryd.func62.trans (congrArg some (by kernel_rfl))
  f320 := Tryd.func63.trans (congrArg some (by kernel_rfl))
  f337 := Tryd.func64.trans (congrArg some (by kernel_rfl))
  f338 := Tryd.func65.trans (congrArg some (by kernel_rfl))
  t0 := Tryd.underlying0
  a0 := Tryd.isAgg0
  z0 := Tryd.sizeOf0
  v0 := Tryd.zeroValue0
  t2 := Tryd.underlying2
  a2 := Tryd.isAgg2
  z2 := Tryd.sizeOf2
  v2 := Tryd.zeroValue2
  t3 := Tryd.underlying3
  a3 := Tryd.isAgg3
  z3 := Tryd.sizeOf3
  v3 := Tryd.zeroValue3
  t4 := Tryd.underlying4
  a4 := Tryd.isAgg4
  z4 := Tryd.sizeOf4
  v4 := Tryd.zeroValue4
  t5 := Tryd.underlying5
  a5 := Tryd.isAgg5
  z5 := Tryd.sizeOf5
  v5 := Tryd.zeroValue5
  t9 := Tryd.underlying9
  a9 := Tryd.isAgg9
  z9 := Tryd.sizeOf9
  v9 := Tryd.zeroValue9
  t20 := Tryd.underlying20
  a20 := Tryd.isAgg20
  z20 := Tryd.sizeOf20
  v20 := Tryd.zeroValue20
  t37 := Tryd.underlying64
  a37 := Tryd.isAgg64
  z37 := Tryd.sizeOf64
  v37 := Tryd.zeroValue64
  t46 := Tryd.underlying105
  a46 := Tryd.isAgg105
  z46 := Tryd.sizeOf105
  v46 := Tryd.zeroValue105
  t51 := Tryd.underlying88
  a51 := Tryd.isAgg88
  z51 := Tryd.sizeOf88
  v51 := Tryd.zeroValue88
  t53 := Tryd.underlying103
  a53 := Tryd.isAgg103
  z53 := Tryd.sizeOf103
  v53 := Tryd.zeroValue103
  t171 := Tryd.underlying119
  a171 := Tryd.isAgg119
  z171 := Tryd.sizeOf119
  v171 := Tryd.zeroValue119
  t173 := Tryd.underlying122
  a173 := Tryd.isAgg122
  z173 := Tryd.sizeOf122
  v173 := Tryd.zeroValue122
  t212 := Tryd.underlying127
  a212 := Tryd.isAgg127
  z212 := Tryd.sizeOf127
  v212 := Tryd.zeroValue127
  t213 := Tryd.underlying128
  a213 := Tryd.isAgg128
  z213 := Tryd.sizeOf128
  t232 := Tryd.underlying131
  a232 := Tryd.isAgg131
  z232 := Tryd.sizeOf131
  v232 := Tryd.zeroValue131
  t233 := Tryd.underlying132
  a233 := Tryd.isAgg132
  z233 := Tryd.sizeOf132
  v233 := Tryd.zeroValue132
  g17 := by kernel_rfl
  g18 := by kernel_rfl
  g19 := by kernel_rfl
  i0 := by kernel_rfl
  i2 := by kernel_rfl
  i3 := by kernel_rfl
  i4 := by kernel_rfl
  i5 := by kernel_rfl
  i9 := by kernel_rfl
  i20 := by kernel_rfl
  i37 := by kernel_rfl
  i46 := by kernel_rfl
  i51 := by kernel_rfl
  i53 := by kernel_rfl
  i171 := by kernel_rfl
  i173 := by kernel_rfl
  i212 := by kernel_rfl
  i232 := by kernel_rfl
  i233 := by kernel_rfl
  m17 := by kernel_rfl
  m18 := by kernel_rfl
  m19 := by kernel_rfl }
open Go.RowKit Go.Sort Go.Lib in
/-- internal/strconv.FormatInt: "FormatInt returns the string representation of i in the given base": AT BASE 10: i's decimal numeral, for every int64. The world behind the call: the world before it, new blocks behind the heap, draws. (LAID: no walk: one application.) -/
theorem y_internal_strconv_FormatInt_10 (n : Int) (h0 : -9223372036854775808 ≤ n) (h1 : n ≤ 9223372036854775807) (w : World) (htab : Lib.TabIs Tryd.prog w "internal/strconv.uint64pow10" .u64 Lib.pow10Tab) :
    Calls Tryd.prog 49 #[.int .i64 n, .int .i64 10] w fun e w' => e = .returned (.string ⟨(Lib.itoa n).toArray⟩) ∧ ∃ k os, w' = grow (w.drewN k) os := Any.internal_strconv_FormatInt_10 y_laysM246 n h0 h1 w htab
def y_lays246_ren : Go.Shelf.Ren := ⟨fun | 246 => 49 | 283 => 54 | 284 => 55 | 285 => 56 | 286 => 57 | 129 => 60 | 317 => 59 | 318 => 61 | 319 => 62 | 320 => 63 | 337 => 64 | 338 => 65 | n => n, fun | 2 => 2 | 3 => 3 | 9 => 9 | 4 => 4 | 171 => 119 | 0 => 0 | 53 => 103 | 37 => 64 | 5 => 5 | 173 => 122 | 212 => 127 | 51 => 88 | 20 => 20 | 213 => 128 | 46 => 105 | 232 => 131 | 233 => 132 | n => n, fun | 17 => 0 | 18 => 2 | 19 => 3 | n => n⟩
theorem y_lays246 : Go.Proofs.Lays.n246 Tryd.prog y_lays246_ren := {
  mixed := by kernel_rfl
  f129 := Tryd.func60.trans (congrArg some (by kernel_rfl))
  f246 := Tryd.func49.trans (congrArg some (by kernel_rfl))
  f283 := Tryd.func54.trans (congrArg some (by kernel_rfl))
  f284 := Tryd.func55.trans (congrArg some (by kernel_rfl))
  f285 := Tryd.func56.trans (congrArg some (by kernel_rfl))
  f286 := Tryd.func57.trans (congrArg some (by kernel_rfl))
  f317 := Tryd.func59.trans (congrArg some (by kernel_rfl))
  f318 := Tryd.func61.trans (congrArg some (by kernel_rfl))
  f319 := Tryd.func62.trans (congrArg some (by kernel_rfl))
  f320 := Tryd.func63.trans (congrArg some (by kernel_rfl))
  f337 := Tryd.func64.trans (congrArg some (by kernel_rfl))
  f338 := Tryd.func65.trans (congrArg some (by kernel_rfl))
  t0 := Tryd.underlying0
  a0 := Tryd.isAgg0
  z0 := Tryd.sizeOf0
  v0 := Tryd.zeroValue0
  t2 := Tryd.underlying2
  a2 := Tryd.isAgg2
  z2 := Tryd.sizeOf2
  v2 := Tryd.zeroValue2
  t3 := Tryd.underlying3
  a3 := Tryd.isAgg3
  z3 := Tryd.sizeOf3
  v3 := Tryd.zeroValue3
  t4 := Tryd.underlying4
  a4 := Tryd.isAgg4
  z4 := Tryd.sizeOf4
  v4 := Tryd.zeroValue4
  t5 := Tryd.underlying5
  a5 := Tryd.isAgg5
  z5 := Tryd.sizeOf5
  v5 := Tryd.zeroValue5
  t9 := Tryd.underlying9
  a9 := Tryd.isAgg9
  z9 := Tryd.sizeOf9
  v9 := Tryd.zeroValue9
  t20 := Tryd.underlying20
  a20 := Tryd.isAgg20
  z20 := Tryd.sizeOf20
  v20 := Tryd.zeroValue20
  t37 := Tryd.underlying64
  a37 := Tryd.isAgg64
  z37 := Tryd.sizeOf64
  v37 := Tryd.zeroValue64
  t46 := Tryd.underlying105
  a46 := Tryd.isAgg105
  z46 := Tryd.sizeOf105
  v46 := Tryd.zeroValue105
  t51 := Tryd.underlying88
  a51 := Tryd.isAgg88
  z51 := Tryd.sizeOf88
  v51 := Tryd.zeroValue88
  t53 := Tryd.underlying103
  a53 := Tryd.isAgg103
  z53 := Tryd.sizeOf103
  v53 := Tryd.zeroValue103
  t171 := Tryd.underlying119
  a171 := Tryd.isAgg119
  z171 := Tryd.sizeOf119
  v171 := Tryd.zeroValue119
  t173 := Tryd.underlying122
  a173 := Tryd.isAgg122
  z173 := Tryd.sizeOf122
  v173 := Tryd.zeroValue122
  t212 := Tryd.underlying127
  a212 := Tryd.isAgg127
  z212 := Tryd.sizeOf127
  v212 := Tryd.zeroValue127
  t213 := Tryd.underlying128
  a213 := Tryd.isAgg128
  z213 := Tryd.sizeOf128
  t232 := Tryd.underlying131
  a232 := Tryd.isAgg131
  z232 := Tryd.sizeOf131
  v232 := Tryd.zeroValue131
  t233 := Tryd.underlying132
  a233 := Tryd.isAgg132
  z233 := Tryd.sizeOf132
  v233 := Tryd.zeroValue132
  g17 := by kernel_rfl
  g18 := by kernel_rfl
  g19 := by kernel_rfl }
open Go.RowKit Go.Sort Go.Lib in
/-- THE ROAD WITHOUT THE TABLE: 0 <= i < 100: two constants are read, nothing is laid: no premise on the world, and the world is as it was. (LAID: no walk: one application.) -/
theorem y_internal_strconv_FormatInt_10_small (i : Nat) (hi : i < 100) (w : World) :
    Calls Tryd.prog 49 #[.int .i64 i, .int .i64 10] w fun e w' => e = .returned (.string ⟨(Lib.decDigits i).toArray⟩) ∧ w' = w := Any.internal_strconv_FormatInt_10_small y_lays246 i hi w
def y_laysM243_ren : Go.Shelf.Ren := ⟨fun | 243 => 43 | 246 => 49 | 283 => 54 | 284 => 55 | 285 => 56 | 286 => 57 | 129 => 60 | 317 => 59 | 318 => 61 | 319 => 62 | 320 => 63 | 337 => 64 | 338 => 65 | n => n, fun | 3 => 3 | 9 => 9 | 2 => 2 | 4 => 4 | 171 => 119 | 0 => 0 | 53 => 103 | 37 => 64 | 5 => 5 | 173 => 122 | 212 => 127 | 51 => 88 | 20 => 20 | 213 => 128 | 46 => 105 | 232 => 131 | 233 => 132 | n => n, fun | 17 => 0 | 18 => 2 | 19 => 3 | n => n⟩
theorem y_laysM243 : Go.Proofs.LaysM.n243 Tryd.prog y_laysM243_ren := {
  mixed := by kernel_rfl
  f129 := Tryd.func60.trans (congrArg some (by kernel_rfl))
  f243 := Tryd.func43.trans (congrArg some (by kernel_rfl))
  f246 := Tryd.func49.trans (congrArg some (by kernel_rfl))
  f283 := Tryd.func54.trans (congrArg some (by kernel_rfl))
  f284 := Tryd.func55.trans (congrArg some (by kernel_rfl))
  f285 := Tryd.func56.trans (congrArg some (by kernel_rfl))
  f286 := Tryd.func57.trans (congrArg some (by kernel_rfl))
  f317 := Tryd.func59.trans (congrArg some (by kernel_rfl))
  f318 := Tryd.func61.trans (congrArg some (by kernel_rfl))
  f319 := Tryd.func62.trans (congrArg some (by kernel_rfl))
  f320 := Tryd.func63.trans (congrArg some (by kernel_rfl))
  f337 := Tryd.func64.trans (congrArg some (by kernel_rfl))
  f338 := Tryd.func65.trans (congrArg some (by kernel_rfl))
  t0 := Tryd.underlying0
  a0 := Tryd.isAgg0
  z0 := Tryd.sizeOf0
  v0 := Tryd.zeroValue0
  t2 := Tryd.underlying2
  a2 := Tryd.isAgg2
  z2 := Tryd.sizeOf2
  v2 := Tryd.zeroValue2
  t3 := Tryd.underlying3
  a3 := Tryd.isAgg3
  z3 := Tryd.sizeOf3
  v3 := Tryd.zeroValue3
  t4 := Tryd.underlying4
  a4 := Tryd.isAgg4
  z4 := Tryd.sizeOf4
  v4 := Tryd.zeroValue4
  t5 := Tryd.underlying5
  a5 := Tryd.isAgg5
  z5 := Tryd.sizeOf5
  v5 := Tryd.zeroValue5
  t9 := Tryd.underlying9
  a9 := Tryd.isAgg9
  z9 := Tryd.sizeOf9
  v9 := Tryd.zeroValue9
  t20 := Tryd.underlying20
  a20 := Tryd.isAgg20
  z20 := Tryd.sizeOf20
  v20 := Tryd.zeroValue20
  t37 := Tryd.underlying64
  a37 := Tryd.isAgg64
  z37 := Tryd.sizeOf64
  v37 := Tryd.zeroValue64
  t46 := Tryd.underlying105
  a46 := Tryd.isAgg105
  z46 := Tryd.sizeOf105
  v46 := Tryd.zeroValue105
  t51 := Tryd.underlying88
  a51 := Tryd.isAgg88
  z51 := Tryd.sizeOf88
  v51 := Tryd.zeroValue88
  t53 := Tryd.underlying103
  a53 := Tryd.isAgg103
  z53 := Tryd.sizeOf103
  v53 := Tryd.zeroValue103
  t171 := Tryd.underlying119
  a171 := Tryd.isAgg119
  z171 := Tryd.sizeOf119
  v171 := Tryd.zeroValue119
  t173 := Tryd.underlying122
  a173 := Tryd.isAgg122
  z173 := Tryd.sizeOf122
  v173 := Tryd.zeroValue122
  t212 := Tryd.underlying127
  a212 := Tryd.isAgg127
  z212 := Tryd.sizeOf127
  v212 := Tryd.zeroValue127
  t213 := Tryd.underlying128
  a213 := Tryd.isAgg128
  z213 := Tryd.sizeOf128
  t232 := Tryd.underlying131
  a232 := Tryd.isAgg131
  z232 := Tryd.sizeOf131
  v232 := Tryd.zeroValue131
  t233 := Tryd.underlying132
  a233 := Tryd.isAgg132
  z233 := Tryd.sizeOf132
  v233 := Tryd.zeroValue132
  g17 := by kernel_rfl
  g18 := by kernel_rfl
  g19 := by kernel_rfl
  i0 := by kernel_rfl
  i2 := by kernel_rfl
  i3 := by kernel_rfl
  i4 := by kernel_rfl
  i5 := by kernel_rfl
  i9 := by kernel_rfl
  i20 := by kernel_rfl
  i37 := by kernel_rfl
  i46 := by kernel_rfl
  i51 := by kernel_rfl
  i53 := by kernel_rfl
  i171 := by kernel_rfl
  i173 := by kernel_rfl
  i212 := by kernel_rfl
  i232 := by kernel_rfl
  i233 := by kernel_rfl
  m17 := by kernel_rfl
  m18 := by kernel_rfl
  m19 := by kernel_rfl }
open Go.RowKit Go.Sort Go.Lib in
/-- internal/strconv.Itoa: "Itoa is equivalent to FormatInt(int64(i), 10).": i's decimal numeral, for every int. (LAID: no walk: one application.) -/
theorem y_internal_strconv_Itoa (n : Int) (h0 : -9223372036854775808 ≤ n) (h1 : n ≤ 9223372036854775807) (w : World) (htab : Lib.TabIs Tryd.prog w "internal/strconv.uint64pow10" .u64 Lib.pow10Tab) :
    Calls Tryd.prog 43 #[.int .i64 n] w fun e w' => e = .returned (.string ⟨(Lib.itoa n).toArray⟩) ∧ ∃ k os, w' = grow (w.drewN k) os := Any.internal_strconv_Itoa y_laysM243 n h0 h1 w htab
def y_lays243_ren : Go.Shelf.Ren := ⟨fun | 243 => 43 | 246 => 49 | 283 => 54 | 284 => 55 | 285 => 56 | 286 => 57 | 129 => 60 | 317 => 59 | 318 => 61 | 319 => 62 | 320 => 63 | 337 => 64 | 338 => 65 | n => n, fun | 3 => 3 | 9 => 9 | 2 => 2 | 4 => 4 | 171 => 119 | 0 => 0 | 53 => 103 | 37 => 64 | 5 => 5 | 173 => 122 | 212 => 127 | 51 => 88 | 20 => 20 | 213 => 128 | 46 => 105 | 232 => 131 | 233 => 132 | n => n, fun | 17 => 0 | 18 => 2 | 19 => 3 | n => n⟩
theorem y_lays243 : Go.Proofs.Lays.n243 Tryd.prog y_lays243_ren := {
  mixed := by kernel_rfl
  f129 := Tryd.func60.trans (congrArg some (by kernel_rfl))
  f243 := Tryd.func43.trans (congrArg some (by kernel_rfl))
  f246 := Tryd.func49.trans (congrArg some (by kernel_rfl))
  f283 := Tryd.func54.trans (congrArg some (by kernel_rfl))
  f284 := Tryd.func55.trans (congrArg some (by kernel_rfl))
  f285 := Tryd.func56.trans (congrArg some (by kernel_rfl))
  f286 := Tryd.func57.trans (congrArg some (by kernel_rfl))
  f317 := Tryd.func59.trans (congrArg some (by kernel_rfl))
  f318 := Tryd.func61.trans (congrArg some (by kernel_rfl))
  f319 := Tryd.func62.trans (congrArg some (by kernel_rfl))
  f320 := Tryd.func63.trans (congrArg some (by kernel_rfl))
  f337 := Tryd.func64.trans (congrArg some (by kernel_rfl))
  f338 := Tryd.func65.trans (congrArg some (by kernel_rfl))
  t0 := Tryd.underlying0
  a0 := Tryd.isAgg0
  z0 := Tryd.sizeOf0
  v0 := Tryd.zeroValue0
  t2 := Tryd.underlying2
  a2 := Tryd.isAgg2
  z2 := Tryd.sizeOf2
  v2 := Tryd.zeroValue2
  t3 := Tryd.underlying3
  a3 := Tryd.isAgg3
  z3 := Tryd.sizeOf3
  v3 := Tryd.zeroValue3
  t4 := Tryd.underlying4
  a4 := Tryd.isAgg4
  z4 := Tryd.sizeOf4
  v4 := Tryd.zeroValue4
  t5 := Tryd.underlying5
  a5 := Tryd.isAgg5
  z5 := Tryd.sizeOf5
  v5 := Tryd.zeroValue5
  t9 := Tryd.underlying9
  a9 := Tryd.isAgg9
  z9 := Tryd.sizeOf9
  v9 := Tryd.zeroValue9
  t20 := Tryd.underlying20
  a20 := Tryd.isAgg20
  z20 := Tryd.sizeOf20
  v20 := Tryd.zeroValue20
  t37 := Tryd.underlying64
  a37 := Tryd.isAgg64
  z37 := Tryd.sizeOf64
  v37 := Tryd.zeroValue64
  t46 := Tryd.underlying105
  a46 := Tryd.isAgg105
  z46 := Tryd.sizeOf105
  v46 := Tryd.zeroValue105
  t51 := Tryd.underlying88
  a51 := Tryd.isAgg88
  z51 := Tryd.sizeOf88
  v51 := Tryd.zeroValue88
  t53 := Tryd.underlying103
  a53 := Tryd.isAgg103
  z53 := Tryd.sizeOf103
  v53 := Tryd.zeroValue103
  t171 := Tryd.underlying119
  a171 := Tryd.isAgg119
  z171 := Tryd.sizeOf119
  v171 := Tryd.zeroValue119
  t173 := Tryd.underlying122
  a173 := Tryd.isAgg122
  z173 := Tryd.sizeOf122
  v173 := Tryd.zeroValue122
  t212 := Tryd.underlying127
  a212 := Tryd.isAgg127
  z212 := Tryd.sizeOf127
  v212 := Tryd.zeroValue127
  t213 := Tryd.underlying128
  a213 := Tryd.isAgg128
  z213 := Tryd.sizeOf128
  t232 := Tryd.underlying131
  a232 := Tryd.isAgg131
  z232 := Tryd.sizeOf131
  v232 := Tryd.zeroValue131
  t233 := Tryd.underlying132
  a233 := Tryd.isAgg132
  z233 := Tryd.sizeOf132
  v233 := Tryd.zeroValue132
  g17 := by kernel_rfl
  g18 := by kernel_rfl
  g19 := by kernel_rfl }
open Go.RowKit Go.Sort Go.Lib in
/-- THE ROAD WITHOUT THE TABLE: 0 <= i < 100. (LAID: no walk: one application.) -/
theorem y_internal_strconv_Itoa_small (i : Nat) (hi : i < 100) (w : World) :
    Calls Tryd.prog 43 #[.int .i64 i] w fun e w' => e = .returned (.string ⟨(Lib.decDigits i).toArray⟩) ∧ w' = w := Any.internal_strconv_Itoa_small y_lays243 i hi w
def y_laysM171_ren : Go.Shelf.Ren := ⟨fun | 171 => 31 | 243 => 43 | 246 => 49 | 283 => 54 | 284 => 55 | 285 => 56 | 286 => 57 | 129 => 60 | 317 => 59 | 318 => 61 | 319 => 62 | 320 => 63 | 337 => 64 | 338 => 65 | n => n, fun | 3 => 3 | 9 => 9 | 2 => 2 | 4 => 4 | 171 => 119 | 0 => 0 | 53 => 103 | 37 => 64 | 5 => 5 | 173 => 122 | 212 => 127 | 51 => 88 | 20 => 20 | 213 => 128 | 46 => 105 | 232 => 131 | 233 => 132 | n => n, fun | 17 => 0 | 18 => 2 | 19 => 3 | n => n⟩
theorem y_laysM171 : Go.Proofs.LaysM.n171 Tryd.prog y_laysM171_ren := {
  mixed := by kernel_rfl
  f129 := Tryd.func60.trans (congrArg some (by kernel_rfl))
  f171 := Tryd.func31.trans (congrArg some (by kernel_rfl))
  f243 := Tryd.func43.trans (congrArg some (by kernel_rfl))
  f246 := Tryd.func49.trans (congrArg some (by kernel_rfl))
  f283 := Tryd.func54.trans (congrArg some (by kernel_rfl))
  f284 := Tryd.func55.trans (congrArg some (by kernel_rfl))
  f285 := Tryd.func56.trans (congrArg some (by kernel_rfl))
  f286 := Tryd.func57.trans (congrArg some (by kernel_rfl))
  f317 := Tryd.func59.trans (congrArg some (by kernel_rfl))
  f318 := Tryd.func61.trans (congrArg some (by kernel_rfl))
  f319 := Tryd.func62.trans (congrArg some (by kernel_rfl))
  f320 := Tryd.func63.trans (congrArg some (by kernel_rfl))
  f337 := Tryd.func64.trans (congrArg some (by kernel_rfl))
  f338 := Tryd.func65.trans (congrArg some (by kernel_rfl))
  t0 := Tryd.underlying0
  a0 := Tryd.isAgg0
  z0 := Tryd.sizeOf0
  v0 := Tryd.zeroValue0
  t2 := Tryd.underlying2
  a2 := Tryd.isAgg2
  z2 := Tryd.sizeOf2
  v2 := Tryd.zeroValue2
  t3 := Tryd.underlying3
  a3 := Tryd.isAgg3
  z3 := Tryd.sizeOf3
  v3 := Tryd.zeroValue3
  t4 := Tryd.underlying4
  a4 := Tryd.isAgg4
  z4 := Tryd.sizeOf4
  v4 := Tryd.zeroValue4
  t5 := Tryd.underlying5
  a5 := Tryd.isAgg5
  z5 := Tryd.sizeOf5
  v5 := Tryd.zeroValue5
  t9 := Tryd.underlying9
  a9 := Tryd.isAgg9
  z9 := Tryd.sizeOf9
  v9 := Tryd.zeroValue9
  t20 := Tryd.underlying20
  a20 := Tryd.isAgg20
  z20 := Tryd.sizeOf20
  v20 := Tryd.zeroValue20
  t37 := Tryd.underlying64
  a37 := Tryd.isAgg64
  z37 := Tryd.sizeOf64
  v37 := Tryd.zeroValue64
  t46 := Tryd.underlying105
  a46 := Tryd.isAgg105
  z46 := Tryd.sizeOf105
  v46 := Tryd.zeroValue105
  t51 := Tryd.underlying88
  a51 := Tryd.isAgg88
  z51 := Tryd.sizeOf88
  v51 := Tryd.zeroValue88
  t53 := Tryd.underlying103
  a53 := Tryd.isAgg103
  z53 := Tryd.sizeOf103
  v53 := Tryd.zeroValue103
  t171 := Tryd.underlying119
  a171 := Tryd.isAgg119
  z171 := Tryd.sizeOf119
  v171 := Tryd.zeroValue119
  t173 := Tryd.underlying122
  a173 := Tryd.isAgg122
  z173 := Tryd.sizeOf122
  v173 := Tryd.zeroValue122
  t212 := Tryd.underlying127
  a212 := Tryd.isAgg127
  z212 := Tryd.sizeOf127
  v212 := Tryd.zeroValue127
  t213 := Tryd.underlying128
  a213 := Tryd.isAgg128
  z213 := Tryd.sizeOf128
  t232 := Tryd.underlying131
  a232 := Tryd.isAgg131
  z232 := Tryd.sizeOf131
  v232 := Tryd.zeroValue131
  t233 := Tryd.underlying132
  a233 := Tryd.isAgg132
  z233 := Tryd.sizeOf132
  v233 := Tryd.zeroValue132
  g17 := by kernel_rfl
  g18 := by kernel_rfl
  g19 := by kernel_rfl
  i0 := by kernel_rfl
  i2 := by kernel_rfl
  i3 := by kernel_rfl
  i4 := by kernel_rfl
  i5 := by kernel_rfl
  i9 := by kernel_rfl
  i20 := by kernel_rfl
  i37 := by kernel_rfl
  i46 := by kernel_rfl
  i51 := by kernel_rfl
  i53 := by kernel_rfl
  i171 := by kernel_rfl
  i173 := by kernel_rfl
  i212 := by kernel_rfl
  i232 := by kernel_rfl
  i233 := by kernel_rfl
  m17 := by kernel_rfl
  m18 := by kernel_rfl
  m19 := by kernel_rfl }
open Go.RowKit Go.Sort Go.Lib in
/-- strconv.Itoa: "Itoa is equivalent to FormatInt(int64(i), 10).": i's DECIMAL NUMERAL ('Lib.itoa': a '-' where i is negative, then the digits), FOR EVERY int. The world behind the call: the world before it, new blocks behind the heap (the library's 'var a [24]byte'), draws. (LAID: no walk: one application.) -/
theorem y_strconv_Itoa (n : Int) (h0 : -9223372036854775808 ≤ n) (h1 : n ≤ 9223372036854775807) (w : World) (htab : Lib.TabIs Tryd.prog w "internal/strconv.uint64pow10" .u64 Lib.pow10Tab) :
    Calls Tryd.prog 31 #[.int .i64 n] w fun e w' => e = .returned (.string ⟨(Lib.itoa n).toArray⟩) ∧ ∃ k os, w' = grow (w.drewN k) os := Any.strconv_Itoa y_laysM171 n h0 h1 w htab
def y_lays171_ren : Go.Shelf.Ren := ⟨fun | 171 => 31 | 243 => 43 | 246 => 49 | 283 => 54 | 284 => 55 | 285 => 56 | 286 => 57 | 129 => 60 | 317 => 59 | 318 => 61 | 319 => 62 | 320 => 63 | 337 => 64 | 338 => 65 | n => n, fun | 3 => 3 | 9 => 9 | 2 => 2 | 4 => 4 | 171 => 119 | 0 => 0 | 53 => 103 | 37 => 64 | 5 => 5 | 173 => 122 | 212 => 127 | 51 => 88 | 20 => 20 | 213 => 128 | 46 => 105 | 232 => 131 | 233 => 132 | n => n, fun | 17 => 0 | 18 => 2 | 19 => 3 | n => n⟩
theorem y_lays171 : Go.Proofs.Lays.n171 Tryd.prog y_lays171_ren := {
  mixed := by kernel_rfl
  f129 := Tryd.func60.trans (congrArg some (by kernel_rfl))
  f171 := Tryd.func31.trans (congrArg some (by kernel_rfl))
  f243 := Tryd.func43.trans (congrArg some (by kernel_rfl))
  f246 := Tryd.func49.trans (congrArg some (by kernel_rfl))
  f283 := Tryd.func54.trans (congrArg some (by kernel_rfl))
  f284 := Tryd.func55.trans (congrArg some (by kernel_rfl))
  f285 := Tryd.func56.trans (congrArg some (by kernel_rfl))
  f286 := Tryd.func57.trans (congrArg some (by kernel_rfl))
  f317 := Tryd.func59.trans (congrArg some (by kernel_rfl))
  f318 := Tryd.func61.trans (congrArg some (by kernel_rfl))
  f319 := Tryd.func62.trans (congrArg some (by kernel_rfl))
  f320 := Tryd.func63.trans (congrArg some (by kernel_rfl))
  f337 := Tryd.func64.trans (congrArg some (by kernel_rfl))
  f338 := Tryd.func65.trans (congrArg some (by kernel_rfl))
  t0 := Tryd.underlying0
  a0 := Tryd.isAgg0
  z0 := Tryd.sizeOf0
  v0 := Tryd.zeroValue0
  t2 := Tryd.underlying2
  a2 := Tryd.isAgg2
  z2 := Tryd.sizeOf2
  v2 := Tryd.zeroValue2
  t3 := Tryd.underlying3
  a3 := Tryd.isAgg3
  z3 := Tryd.sizeOf3
  v3 := Tryd.zeroValue3
  t4 := Tryd.underlying4
  a4 := Tryd.isAgg4
  z4 := Tryd.sizeOf4
  v4 := Tryd.zeroValue4
  t5 := Tryd.underlying5
  a5 := Tryd.isAgg5
  z5 := Tryd.sizeOf5
  v5 := Tryd.zeroValue5
  t9 := Tryd.underlying9
  a9 := Tryd.isAgg9
  z9 := Tryd.sizeOf9
  v9 := Tryd.zeroValue9
  t20 := Tryd.underlying20
  a20 := Tryd.isAgg20
  z20 := Tryd.sizeOf20
  v20 := Tryd.zeroValue20
  t37 := Tryd.underlying64
  a37 := Tryd.isAgg64
  z37 := Tryd.sizeOf64
  v37 := Tryd.zeroValue64
  t46 := Tryd.underlying105
  a46 := Tryd.isAgg105
  z46 := Tryd.sizeOf105
  v46 := Tryd.zeroValue105
  t51 := Tryd.underlying88
  a51 := Tryd.isAgg88
  z51 := Tryd.sizeOf88
  v51 := Tryd.zeroValue88
  t53 := Tryd.underlying103
  a53 := Tryd.isAgg103
  z53 := Tryd.sizeOf103
  v53 := Tryd.zeroValue103
  t171 := Tryd.underlying119
  a171 := Tryd.isAgg119
  z171 := Tryd.sizeOf119
  v171 := Tryd.zeroValue119
  t173 := Tryd.underlying122
  a173 := Tryd.isAgg122
  z173 := Tryd.sizeOf122
  v173 := Tryd.zeroValue122
  t212 := Tryd.underlying127
  a212 := Tryd.isAgg127
  z212 := Tryd.sizeOf127
  v212 := Tryd.zeroValue127
  t213 := Tryd.underlying128
  a213 := Tryd.isAgg128
  z213 := Tryd.sizeOf128
  t232 := Tryd.underlying131
  a232 := Tryd.isAgg131
  z232 := Tryd.sizeOf131
  v232 := Tryd.zeroValue131
  t233 := Tryd.underlying132
  a233 := Tryd.isAgg132
  z233 := Tryd.sizeOf132
  v233 := Tryd.zeroValue132
  g17 := by kernel_rfl
  g18 := by kernel_rfl
  g19 := by kernel_rfl }
open Go.RowKit Go.Sort Go.Lib in
/-- THE ROAD WITHOUT THE TABLE: 0 <= i < 100: NO PREMISE ON THE WORLD, AND THE WORLD IS AS IT WAS: a row that keeps its argument in that range need list no table ('laid = []'). (LAID: no walk: one application.) -/
theorem y_strconv_Itoa_small (i : Nat) (hi : i < 100) (w : World) :
    Calls Tryd.prog 31 #[.int .i64 i] w fun e w' => e = .returned (.string ⟨(Lib.decDigits i).toArray⟩) ∧ w' = w := Any.strconv_Itoa_small y_lays171 i hi w
def y_lays264_ren : Go.Shelf.Ren := ⟨fun | 264 => 51 | n => n, fun | 53 => 103 | 46 => 105 | n => n, fun | n => n⟩
theorem y_lays264 : Go.Proofs.Lays.n264 Tryd.prog y_lays264_ren := {
  mixed := by kernel_rfl
  f264 := Tryd.func51.trans (congrArg some (by kernel_rfl))
  t46 := Tryd.underlying105
  a46 := Tryd.isAgg105
  z46 := Tryd.sizeOf105
  v46 := Tryd.zeroValue105
  t53 := Tryd.underlying103
  a53 := Tryd.isAgg103
  z53 := Tryd.sizeOf103
  v53 := Tryd.zeroValue103 }
open Go.RowKit Go.Lib in
theorem y_bits_Mul64 (x y : Nat) (hx : x < 18446744073709551616) (hy : y < 18446744073709551616) (w : World) :
    Calls Tryd.prog 51 #[.int .u64 x, .int .u64 y] w fun e w' => e = .returned (.tuple #[.int .u64 ((x * y / 18446744073709551616 : Nat) : Int), .int .u64 ((x * y % 18446744073709551616 : Nat) : Int)]) ∧ w' = w := Any.bits_Mul64 y_lays264 x y hx hy w
def y_lays212_ren : Go.Shelf.Ren := ⟨fun | 212 => 44 | 263 => 50 | 264 => 51 | n => n, fun | 46 => 105 | 51 => 88 | 146 => 115 | 53 => 103 | 148 => 117 | n => n, fun | n => n⟩
theorem y_lays212 : Go.Proofs.Lays.n212 Tryd.prog y_lays212_ren := {
  mixed := by kernel_rfl
  f212 := Tryd.func44.trans (congrArg some (by kernel_rfl))
  f263 := Tryd.func50.trans (congrArg some (by kernel_rfl))
  f264 := Tryd.func51.trans (congrArg some (by kernel_rfl))
  t46 := Tryd.underlying105
  a46 := Tryd.isAgg105
  z46 := Tryd.sizeOf105
  v46 := Tryd.zeroValue105
  t51 := Tryd.underlying88
  a51 := Tryd.isAgg88
  z51 := Tryd.sizeOf88
  v51 := Tryd.zeroValue88
  t53 := Tryd.underlying103
  a53 := Tryd.isAgg103
  z53 := Tryd.sizeOf103
  v53 := Tryd.zeroValue103
  t146 := Tryd.underlying115
  a146 := Tryd.isAgg115
  z146 := Tryd.sizeOf115
  v146 := Tryd.zeroValue115
  t148 := Tryd.underlying117
  a148 := Tryd.isAgg117
  z148 := Tryd.sizeOf117
  v148 := Tryd.zeroValue117 }
open Go.RowKit Go.Lib in
/-- math/bits.Mul: "Mul returns the full-width product of x and y": on a machine of 64 bits: Mul64's. (LAID: no walk: one application.) -/
theorem y_bits_Mul (x y : Nat) (hx : x < 18446744073709551616) (hy : y < 18446744073709551616) (w : World) :
    Calls Tryd.prog 44 #[.int .u64 x, .int .u64 y] w fun e w' => e = .returned (.tuple #[.int .u64 ((x * y / 18446744073709551616 : Nat) : Int), .int .u64 ((x * y % 18446744073709551616 : Nat) : Int)]) ∧ w' = w := Any.bits_Mul y_lays212 x y hx hy w
end Go.Proofs.YtiklbannoinioaaDoor
