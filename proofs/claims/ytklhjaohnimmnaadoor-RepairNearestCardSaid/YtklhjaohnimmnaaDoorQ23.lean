/- grammar.Lives and grammar.Empty whole. · errors.Is at the errors of package api, bare or in a *api.Fault (after the kit's worked contracts of errors.Is, turned to this seat). -/
import Derived.Test.YtklhjaohnimmnaaDoorQ22
import Derived.Test.YtklhjaohnimmnaaDoorProg
import Derived.WalkKit
import Derived.LaidEql
import Derived.Stop.Asserts
import Derived.RowKitTokens
namespace Go.Proofs.YtklhjaohnimmnaaDoor
open Go.RowKit BigFrame
set_option linter.unusedVariables false
set_option linter.unusedSimpArgs false
set_option maxRecDepth 100000

theorem new_cell (w : World) (n : Nat) (hn : w.heap.size = n) (u : Value) (T : TypeId) : (w.alloc (.cells #[u] T)).cell? ⟨n, 0, none⟩ = some u := by subst hn; simp


set_option maxHeartbeats 1000000 in
theorem grownOfLives_any (G : Gr) (Ap Al As : Option Addr) (np cp nl cl ns cs : Nat) (w : World) (B N : Nat) (hB : B ≤ w.heap.size) (hG : GrIn w B G Ap Al As np cp nl cl ns cs) (hk : GOk G) (hN : G.names = N) :
    Calls Tryd.prog 22 #[.agg #[.int .i64 G.terms, .int .i64 G.names, .int .i64 G.start, .slice Ap np cp, .slice Al nl cl, .slice As ns cs], .func (.func 23) #[] #[], .func (.func 24) #[] #[]] w fun e w' => ∃ g n, e = .returned (.slice (some ⟨g, 0, none⟩) N N) ∧ w.heap.size ≤ g ∧ Blk w' g 4 (bv (rounds (stepG livS) G.prods n (b0 N))) ∧ (passF (stepG livS) 0 G.prods (rounds (stepG livS) G.prods n (b0 N))).2 = false ∧ Below w.heap.size w w' := by
  obtain ⟨hb0, hs0, gb⟩ := gbox w G Ap Al As np cp nl cl ns cs
  obtain ⟨hp1, hp2⟩ := hG.p.len
  have hl3 := hG.lm; have hl4 := hG.sm
  have hn1 := hk.n0; have hn2 := hk.n1
  have hNN : N ≤ 300 := by omega
  rw [hN] at hb0 hs0 gb
  have gz := gb.c3
  have HB0 := Lib.hid hb0; have HG := Lib.hid (hG.below (hb0.mono hB))
  have HK := Lib.hid hk; have HN := Lib.hid hN
  unfold maxLen at hp2 hl3 hl4
  clear hG hk hp1 hb0 hN gb
  have hmk : ∀ w : World, (Instr.makeSlice 43 (.int .i64 (N : Int)) (.int .i64 (N : Int))).run Tryd.prog w = .ok (.slice (some ⟨w.heap.size, 0, none⟩) N N) (w.alloc (.cells (zs (.bool false) N) 4)) := fun w =>
    mk_row elBg rfl .i64 .i64 N _ (by omega) (by omega) (by omega) w
  have hGN : G.names = (N : Int) := HN.out
  go_enter Tryd.func22, Tryd.ntmps22
  go_wp2_with fail
  clear hGN gz
  have hs5 : (((((w.alloc (.cells #[.int .i64 G.terms, .int .i64 (N : Int), .int .i64 G.start, .slice Ap np cp, .slice Al nl cl, .slice As ns cs] 25)).alloc (.cells #[.func (.func 23) #[] #[]] 69)).alloc (.cells #[.func (.func 24) #[] #[]] 70)).alloc (.cells (zs (.bool false) N) 4)).alloc (.cells #[.slice (some ⟨w.heap.size + 1 + 1 + 1, 0, none⟩) N N] 43)).heap.size = w.heap.size + 5 := by simp
  have hcs : (((((w.alloc (.cells #[.int .i64 G.terms, .int .i64 (N : Int), .int .i64 G.start, .slice Ap np cp, .slice Al nl cl, .slice As ns cs] 25)).alloc (.cells #[.func (.func 23) #[] #[]] 69)).alloc (.cells #[.func (.func 24) #[] #[]] 70)).alloc (.cells (zs (.bool false) N) 4)).alloc (.cells #[.slice (some ⟨w.heap.size + 1 + 1 + 1, 0, none⟩) N N] 43)).cell? ⟨w.heap.size + 1, 0, none⟩ = some (.func (.func 23) #[] #[]) := (Below.cell (B := w.heap.size + 1 + 1) (((((Below.refl _ ((w.alloc (.cells #[.int .i64 G.terms, .int .i64 (N : Int), .int .i64 G.start, .slice Ap np cp, .slice Al nl cl, .slice As ns cs] 25)).alloc (.cells #[.func (.func 23) #[] #[]] 69))).alloc (by simp) _).alloc (by simp) _).alloc (by simp) _)) (p := ⟨w.heap.size + 1, 0, none⟩) (by simp)).trans (new_cell (w.alloc (.cells #[.int .i64 G.terms, .int .i64 (N : Int), .int .i64 G.start, .slice Ap np cp, .slice Al nl cl, .slice As ns cs] 25)) (w.heap.size + 1) (by simp) _ _)
  have hcp : (((((w.alloc (.cells #[.int .i64 G.terms, .int .i64 (N : Int), .int .i64 G.start, .slice Ap np cp, .slice Al nl cl, .slice As ns cs] 25)).alloc (.cells #[.func (.func 23) #[] #[]] 69)).alloc (.cells #[.func (.func 24) #[] #[]] 70)).alloc (.cells (zs (.bool false) N) 4)).alloc (.cells #[.slice (some ⟨w.heap.size + 1 + 1 + 1, 0, none⟩) N N] 43)).cell? ⟨w.heap.size + 1 + 1, 0, none⟩ = some (.func (.func 24) #[] #[]) := (Below.cell (B := w.heap.size + 1 + 1 + 1) ((((Below.refl _ (((w.alloc (.cells #[.int .i64 G.terms, .int .i64 (N : Int), .int .i64 G.start, .slice Ap np cp, .slice Al nl cl, .slice As ns cs] 25)).alloc (.cells #[.func (.func 23) #[] #[]] 69)).alloc (.cells #[.func (.func 24) #[] #[]] 70))).alloc (by simp) _).alloc (by simp) _)) (p := ⟨w.heap.size + 1 + 1, 0, none⟩) (by simp)).trans (new_cell ((w.alloc (.cells #[.int .i64 G.terms, .int .i64 (N : Int), .int .i64 G.start, .slice Ap np cp, .slice Al nl cl, .slice As ns cs] 25)).alloc (.cells #[.func (.func 23) #[] #[]] 69)) (w.heap.size + 1 + 1) (by simp) _ _)
  have hcv : (((((w.alloc (.cells #[.int .i64 G.terms, .int .i64 (N : Int), .int .i64 G.start, .slice Ap np cp, .slice Al nl cl, .slice As ns cs] 25)).alloc (.cells #[.func (.func 23) #[] #[]] 69)).alloc (.cells #[.func (.func 24) #[] #[]] 70)).alloc (.cells (zs (.bool false) N) 4)).alloc (.cells #[.slice (some ⟨w.heap.size + 1 + 1 + 1, 0, none⟩) N N] 43)).cell? ⟨w.heap.size + 1 + 1 + 1 + 1, 0, none⟩ = some (.slice (some ⟨w.heap.size + 1 + 1 + 1, 0, none⟩) N N) := new_cell ((((w.alloc (.cells #[.int .i64 G.terms, .int .i64 (N : Int), .int .i64 G.start, .slice Ap np cp, .slice Al nl cl, .slice As ns cs] 25)).alloc (.cells #[.func (.func 23) #[] #[]] 69)).alloc (.cells #[.func (.func 24) #[] #[]] 70)).alloc (.cells (zs (.bool false) N) 4)) (w.heap.size + 1 + 1 + 1 + 1) (by simp) _ _
  have hblk : Blk (((((w.alloc (.cells #[.int .i64 G.terms, .int .i64 (N : Int), .int .i64 G.start, .slice Ap np cp, .slice Al nl cl, .slice As ns cs] 25)).alloc (.cells #[.func (.func 23) #[] #[]] 69)).alloc (.cells #[.func (.func 24) #[] #[]] 70)).alloc (.cells (zs (.bool false) N) 4)).alloc (.cells #[.slice (some ⟨w.heap.size + 1 + 1 + 1, 0, none⟩) N N] 43)) (w.heap.size + 1 + 1 + 1) 4 (bv (b0 N)) := by
    have := Blk.made (((w.alloc (.cells #[.int .i64 G.terms, .int .i64 (N : Int), .int .i64 G.start, .slice Ap np cp, .slice Al nl cl, .slice As ns cs] 25)).alloc (.cells #[.func (.func 23) #[] #[]] 69)).alloc (.cells #[.func (.func 24) #[] #[]] 70)) 4 (.bool false) N
    rw [show (((w.alloc (.cells #[.int .i64 G.terms, .int .i64 (N : Int), .int .i64 G.start, .slice Ap np cp, .slice Al nl cl, .slice As ns cs] 25)).alloc (.cells #[.func (.func 23) #[] #[]] 69)).alloc (.cells #[.func (.func 24) #[] #[]] 70)).heap.size = w.heap.size + 1 + 1 + 1 by simp] at this
    unfold b0
    rw [← bv_rep]; exact this.alloc _
  have hb5 : Below (w.heap.size + 1) (w.alloc (.cells #[.int .i64 G.terms, .int .i64 (N : Int), .int .i64 G.start, .slice Ap np cp, .slice Al nl cl, .slice As ns cs] 25)) (((((w.alloc (.cells #[.int .i64 G.terms, .int .i64 (N : Int), .int .i64 G.start, .slice Ap np cp, .slice Al nl cl, .slice As ns cs] 25)).alloc (.cells #[.func (.func 23) #[] #[]] 69)).alloc (.cells #[.func (.func 24) #[] #[]] 70)).alloc (.cells (zs (.bool false) N) 4)).alloc (.cells #[.slice (some ⟨w.heap.size + 1 + 1 + 1, 0, none⟩) N N] 43)) := ((((Below.refl _ _).alloc (by simp) _).alloc (by simp) _).alloc (by simp) _).alloc (by simp) _
  obtain ⟨vs, hvs⟩ : ∃ vs, vs = w.heap.size + 1 := ⟨_, rfl⟩
  obtain ⟨vp, hvp⟩ : ∃ vp, vp = vs + 1 := ⟨_, rfl⟩
  obtain ⟨g, hg⟩ : ∃ g, g = vp + 1 := ⟨_, rfl⟩
  obtain ⟨v, hv⟩ : ∃ v, v = g + 1 := ⟨_, rfl⟩
  rw [← hvs] at hs5 hcs hcp hcv hblk hb5 ⊢
  rw [← hvp] at hs5 hcs hcp hcv hblk hb5 ⊢
  rw [← hg] at hs5 hcs hcp hcv hblk hb5 ⊢
  rw [← hv] at hcv ⊢
  generalize ((((w.alloc (.cells #[.int .i64 G.terms, .int .i64 (N : Int), .int .i64 G.start, .slice Ap np cp, .slice Al nl cl, .slice As ns cs] 25)).alloc (.cells #[.func (.func 23) #[] #[]] 69)).alloc (.cells #[.func (.func 24) #[] #[]] 70)).alloc (.cells (zs (.bool false) N) 4)).alloc (.cells #[.slice (some ⟨g, 0, none⟩) N N] 43) = W5 at *
  have hP := (HG.out.below (hb5.mono (by omega : B ≤ vs))).p
  have hset := settled3 38 v vp vs (stepG livS) (fun w x => BlSt w v g N x ∧ v < w.heap.size ∧ w.cell? ⟨vp, 0, none⟩ = some (.func (.func 24) #[] #[]) ∧ w.cell? ⟨vs, 0, none⟩ = some (.func (.func 23) #[] #[])) (fun j => j = g) (fun x => x.length = N) muB B G.prods Ap np cp
    (fun _ _ => rfl) stepG_same
    (fun k p y hp hy => ⟨by rw [stepG_len]; exact hy, fun h => stepG_mu (by rw [hy]; exact (prFitg HK.out (mem_of_get hp) HN.out).2.1) h⟩)
    (fun w w' x h hb => ⟨h.1.below hb h.2.1 h.1.b.lt, Nat.lt_of_lt_of_le h.2.1 hb.size, (hb.cell (p := ⟨vp, 0, none⟩) (by have := h.2.1; simp; omega)).trans h.2.2.1, (hb.cell (p := ⟨vs, 0, none⟩) (by have := h.2.1; simp; omega)).trans h.2.2.2⟩)
    (fun k e => by omega)
    (fun k p A' n' c' w x hp hq hi hB hr hl hm => by
      obtain ⟨px, r, py⟩ := p
      obtain ⟨f1, f2, f3⟩ := prFitg HK.out (mem_of_get hp) HN.out
      have hvw := hi.2.1
      refine (grownLives_any k px r py A' n' c' v vp vs g N x w B hB hvw (by omega) (by omega) (by omega) hNN hr hl hm hi.1 hi.2.2.1 hi.2.2.2 f1 f2 f3 _ rfl).mono ?_
      rintro e w' ⟨rfl, h1, h2⟩
      exact ⟨rfl, ⟨h1, Nat.lt_of_lt_of_le hvw h2.size, (h2.cell (p := ⟨vp, 0, none⟩) (by simp; omega) (by simp; omega)).trans hi.2.2.1, (h2.cell (p := ⟨vs, 0, none⟩) (by simp; omega) (by simp; omega)).trans hi.2.2.2⟩, h2⟩)
    W5 (b0 N) (by omega) hP (by simp [b0]) ⟨⟨hcv, hblk, by simp [b0]⟩, by omega, hcp, hcs⟩
  refine hset.mono ?_
  rintro e w3 ⟨rfl, n, ⟨h1, h2, _⟩, h4, h5⟩
  have zv3 := h1.c
  have HB3 := Lib.hid h1.b; have H4 := Lib.hid h4
  have HK5 := Lib.hid (h5.bel (B := vs) (by omega) (fun j hj e => by omega))
  have HB5 := Lib.hid hb5
  have hgw : w.heap.size ≤ g := by omega
  have hvw : w.heap.size ≤ vs := by omega
  clear h1 h2 h4 h5 hset hP hcs hcp hcv hblk hb5 hs5 hv hg hvp hvs hmk
  go_wp2
  go_ret
  exact ⟨g, n, rfl, hgw, HB3.out, H4.out, HB0.out.trans ((HB5.out.trans HK5.out).mono hvw)⟩

theorem LivesT_bad (G : Gr) (Ap Al As : Option Addr) (np cp nl cl ns cs : Nat) (w : World) (B : Nat) (hB : B ≤ w.heap.size) (hG : GrIn w B G Ap Al As np cp nl cl ns cs) (hk : okB G = false) :
    Calls Tryd.prog 13 #[.agg #[.int .i64 G.terms, .int .i64 G.names, .int .i64 G.start, .slice Ap np cp, .slice Al nl cl, .slice As ns cs]] w fun e w' => e = .returned (.slice none 0 0) ∧ Below w.heap.size w w' := by
  obtain ⟨hb0, hs0, gb⟩ := gbox w G Ap Al As np cp nl cl ns cs
  obtain ⟨hp1, hp2⟩ := hG.p.len
  have hl3 := hG.lm; have hl4 := hG.sm
  have hcall := ok_any G Ap Al As np cp nl cl ns cs (w.alloc (.cells #[.int .i64 G.terms, .int .i64 G.names, .int .i64 G.start, .slice Ap np cp, .slice Al nl cl, .slice As ns cs] 25)) B (Nat.le_trans hB hb0.size) (hG.below (hb0.mono hB))
  rw [hk, hs0] at hcall
  have HC := Lib.hid hcall; have HB0 := Lib.hid hb0
  unfold maxLen at hp2 hl3 hl4
  clear hcall gb hG hk hp1 hb0 hs0
  go_enter Tryd.func13, Tryd.ntmps13
  go_wp2_with (go_at_call 11; refine HC.out.mono ?_; rintro e w' ⟨rfl, hb⟩)
  go_ret
  exact ⟨rfl, HB0.out.trans (hb.mono (Nat.le_succ _))⟩
theorem LivesT_good (G : Gr) (Ap Al As : Option Addr) (np cp nl cl ns cs : Nat) (w : World) (B N : Nat) (hB : B ≤ w.heap.size) (hG : GrIn w B G Ap Al As np cp nl cl ns cs) (hk : GOk G) (hN : G.names = N) :
    Calls Tryd.prog 13 #[.agg #[.int .i64 G.terms, .int .i64 G.names, .int .i64 G.start, .slice Ap np cp, .slice Al nl cl, .slice As ns cs]] w fun e w' => ∃ g, e = .returned (.slice (some ⟨g, 0, none⟩) N N) ∧ w.heap.size ≤ g ∧ Blk w' g 4 (bv (rounds (stepG livS) G.prods N (b0 N))) ∧ Below w.heap.size w w' := by
  obtain ⟨hb0, hs0, gb⟩ := gbox w G Ap Al As np cp nl cl ns cs
  obtain ⟨hp1, hp2⟩ := hG.p.len
  have hl3 := hG.lm; have hl4 := hG.sm
  have hcall := ok_any G Ap Al As np cp nl cl ns cs (w.alloc (.cells #[.int .i64 G.terms, .int .i64 G.names, .int .i64 G.start, .slice Ap np cp, .slice Al nl cl, .slice As ns cs] 25)) B (Nat.le_trans hB hb0.size) (hG.below (hb0.mono hB))
  rw [okB_t hk, hs0] at hcall
  have HC := Lib.hid hcall; have HB0 := Lib.hid hb0; have HGB := Lib.hid gb; have HG := Lib.hid (hG.below (hb0.mono hB))
  have HK := Lib.hid hk; have HN := Lib.hid hN
  unfold maxLen at hp2 hl3 hl4
  clear hcall gb hG hk hp1 hb0 hs0 hN
  go_enter Tryd.func13, Tryd.ntmps13
  go_wp2_with fail
  generalize w.alloc (.cells #[.int .i64 G.terms, .int .i64 G.names, .int .i64 G.start, .slice Ap np cp, .slice Al nl cl, .slice As ns cs] 25) = W0 at *
  refine HC.out.mono ?_
  rintro e w1 ⟨rfl, hb1⟩
  obtain ⟨c0, c1, c2, c3, c4, c5⟩ := HGB.out.below hb1 (Nat.lt_succ_self _)
  have hs1 := hb1.size
  have hw1 := HB0.out.trans (hb1.mono (Nat.le_succ _))
  have hz := hw1.size
  have HC2 := Lib.hid (grownOfLives_any G Ap Al As np cp nl cl ns cs w1 B N (by omega) (HG.out.below (hb1.mono (by omega))) HK.out HN.out)
  have HW1 := Lib.hid hw1
  clear HC hb1 hw1 HG HGB HB0 hs1
  go_wp2_with fail
  refine HC2.out.mono ?_
  rintro e w2 ⟨g, n, rfl, hg, hb, hf, hb2⟩
  have ha := grow_agree (f := livS) (fun p hp => (prFitg HK.out hp HN.out).2.1) hf
  rw [ha] at hb
  have HB := Lib.hid hb
  have HW2 := Lib.hid (HW1.out.trans (hb2.mono hz))
  have hgw : w.heap.size ≤ g := by omega
  clear hb hf ha hb2 HC2 hg
  go_wp2
  go_ret
  exact ⟨g, rfl, hgw, HB.out, HW2.out⟩
end Go.Proofs.YtklhjaohnimmnaaDoor
namespace Go.Proofs.YtklhjaohnimmnaaDoor
open Go.RowKit Go.Extern.Stop Go.Stop Go.Extern
set_option linter.unusedVariables false
set_option linter.unusedSimpArgs false
set_option maxRecDepth 100000

theorem isTypeOf (v : Value) (w : World) : (Extern.ReflectliteType.typeOf #[.iface 115 v]).run Tryd.prog w = .ok (.iface 99 (.agg #[.pointer (some ⟨8, 115, none⟩)])) w := by kernel_rfl
theorem isComparable (w : World) : ((Extern.ReflectliteType.method fun t => do Rtype.noPackHeld "Comparable" t; (fun a => Value.bool a.comparable) <$> typeInfo t) #[.agg #[.pointer (some ⟨8, 115, none⟩)]]).run Tryd.prog w = .ok (.bool true) w := by kernel_rfl
theorem isMethodComparable (v : Value) (w : World) : (Go.method 249 99 v "Comparable").run Tryd.prog w = .ok (73, v) w := by kernel_rfl
theorem isComp : (Tryd.prog.info? 115).map (·.comparable) = some true := by kernel_rfl
theorem isSize : (Tryd.prog.info? 137).map (·.size) = some 1 := by kernel_rfl
theorem noIsE (v : Value) (xT : TypeId) (w : World) : (Instr.typeAssert (.iface 115 v) xT 110 true).run Tryd.prog w = .ok (.tuple #[.nilIface, .bool false]) w := run_typeAssert_lacksB Tryd.underlying110 (by kernel_rfl) (by kernel_rfl) v xT w
theorem noUnwrapE (v : Value) (xT : TypeId) (w : World) : (Instr.typeAssert (.iface 115 v) xT 106 true).run Tryd.prog w = .ok (.tuple #[.nilIface, .bool false]) w := run_typeAssert_lacksB Tryd.underlying106 (by kernel_rfl) (by kernel_rfl) v xT w
theorem noUnwrapsE (v : Value) (xT : TypeId) (w : World) : (Instr.typeAssert (.iface 115 v) xT 108 true).run Tryd.prog w = .ok (.tuple #[.nilIface, .bool false]) w := run_typeAssert_lacksB Tryd.underlying108 (by kernel_rfl) (by kernel_rfl) v xT w
theorem noIsW (v : Value) (xT : TypeId) (w : World) : (Instr.typeAssert (.iface 54 v) xT 110 true).run Tryd.prog w = .ok (.tuple #[.nilIface, .bool false]) w := run_typeAssert_lacksB Tryd.underlying110 (by kernel_rfl) (by kernel_rfl) v xT w
theorem hasUnwrapW (v : Value) (xT : TypeId) (w : World) : (Instr.typeAssert (.iface 54 v) xT 106 true).run Tryd.prog w = .ok (.tuple #[.iface 54 v, .bool true]) w := run_typeAssert_hasB Tryd.underlying106 (by kernel_rfl) v xT w
theorem methodUnwrap (v : Value) (w : World) : (Go.method 249 54 v "Unwrap").run Tryd.prog w = .ok (67, v) w := by kernel_rfl

theorem is_same (a : Addr) (w : World) :
    Calls Tryd.prog 16 #[.iface 115 (.pointer (some a)), .iface 115 (.pointer (some a))] w fun e w' => e = .returned (.bool true) ∧ w' = w := by
  obtain ⟨i, hi, hcmp⟩ := Option.map_eq_some_iff.1 isComp
  obtain ⟨j, hj, hjs⟩ := Option.map_eq_some_iff.1 isSize
  have h8 := @run_callFunc_extern Tryd.prog 31 _ Extern.ReflectliteType.typeOf Tryd.func31 (by kernel_rfl) (by kernel_rfl) (by kernel_rfl) (by kernel_rfl)
  have h32 := @run_callFunc_extern Tryd.prog 73 _ (Extern.ReflectliteType.method fun t => do Rtype.noPackHeld "Comparable" t; pure (.bool (← typeInfo t).comparable)) Tryd.func73 (by kernel_rfl) (by kernel_rfl) (by kernel_rfl) (by kernel_rfl)
  have tT := isTypeOf
  have cT := isComparable
  have mR := isMethodComparable
  have heq := run_eql_iface_ptr_same (P := Tryd.prog) w a Tryd.underlying31 Tryd.underlying115 hi hcmp hj
  go_enter Tryd.func16, Tryd.ntmps16
  go_wp2
  refine wp_loop_rounds 1 ?_
  rw [rounds_succ]
  go_wp2
  go_ret
  exact ⟨rfl, rfl⟩

theorem is_other (a b : Addr) (ca cb : Array Value) (ta tb : TypeId) (w : World) (hne : a ≠ b) (ha : w.heap[a.block]? = some (.cells ca ta (0, 0))) (hb : w.heap[b.block]? = some (.cells cb tb (0, 0))) :
    Calls Tryd.prog 16 #[.iface 115 (.pointer (some a)), .iface 115 (.pointer (some b))] w fun e w' => e = .returned (.bool false) ∧ w' = w := by
  obtain ⟨i, hi, hcmp⟩ := Option.map_eq_some_iff.1 isComp
  obtain ⟨j, hj, hjs⟩ := Option.map_eq_some_iff.1 isSize
  have h8 := @run_callFunc_extern Tryd.prog 31 _ Extern.ReflectliteType.typeOf Tryd.func31 (by kernel_rfl) (by kernel_rfl) (by kernel_rfl) (by kernel_rfl)
  have h32 := @run_callFunc_extern Tryd.prog 73 _ (Extern.ReflectliteType.method fun t => do Rtype.noPackHeld "Comparable" t; pure (.bool (← typeInfo t).comparable)) Tryd.func73 (by kernel_rfl) (by kernel_rfl) (by kernel_rfl) (by kernel_rfl)
  have tT := isTypeOf
  have cT := isComparable
  have mR := isMethodComparable
  have nE := noIsE
  have uE := noUnwrapE
  have vE := noUnwrapsE
  have nW := noIsW
  have uW := hasUnwrapW
  have mU := methodUnwrap
  have heq := run_eql_iface_ptr_other (P := Tryd.prog) w Tryd.underlying31 Tryd.underlying115 hi hcmp hj (by rw [hjs]; decide) hne ha hb
  go_enter Tryd.func16, Tryd.ntmps16
  go_wp2
  refine wp_loop_rounds 1 ?_
  rw [rounds_succ]
  go_wp2
  go_ret
  exact ⟨rfl, rfl⟩

theorem is_wrap_same (pb po : Nat) (b : Addr) (w : World) (h1 : w.cell? ⟨pb, po, none⟩ = some (.iface 115 (.pointer (some b)))) :
    Calls Tryd.prog 16 #[.iface 54 (.pointer (some ⟨pb, po, none⟩)), .iface 115 (.pointer (some b))] w fun e w' => e = .returned (.bool true) ∧ w' = w := by
  obtain ⟨i, hi, hcmp⟩ := Option.map_eq_some_iff.1 isComp
  obtain ⟨j, hj, hjs⟩ := Option.map_eq_some_iff.1 isSize
  have h8 := @run_callFunc_extern Tryd.prog 31 _ Extern.ReflectliteType.typeOf Tryd.func31 (by kernel_rfl) (by kernel_rfl) (by kernel_rfl) (by kernel_rfl)
  have h32 := @run_callFunc_extern Tryd.prog 73 _ (Extern.ReflectliteType.method fun t => do Rtype.noPackHeld "Comparable" t; pure (.bool (← typeInfo t).comparable)) Tryd.func73 (by kernel_rfl) (by kernel_rfl) (by kernel_rfl) (by kernel_rfl)
  have tT := isTypeOf
  have cT := isComparable
  have mR := isMethodComparable
  have nE := noIsE
  have uE := noUnwrapE
  have vE := noUnwrapsE
  have nW := noIsW
  have uW := hasUnwrapW
  have mU := methodUnwrap
  have heq := run_eql_iface_ptr_same (P := Tryd.prog) w b Tryd.underlying31 Tryd.underlying115 hi hcmp hj
  have hty := run_eql_iface_types (P := Tryd.prog) 54 115 (.pointer (some ⟨pb, po, none⟩)) (.pointer (some b)) Tryd.underlying31 (by decide) w
  go_enter Tryd.func16, Tryd.ntmps16
  go_wp2
  refine wp_loop_rounds 2 ?_
  rw [rounds_succ]
  go_wp2
  rw [rounds_succ]
  go_wp2
  go_ret
  exact ⟨rfl, rfl⟩

theorem is_wrap_other (pb po : Nat) (b a : Addr) (ca cb : Array Value) (ta tb : TypeId) (w : World) (h1 : w.cell? ⟨pb, po, none⟩ = some (.iface 115 (.pointer (some a)))) (hne : a ≠ b) (ha : w.heap[a.block]? = some (.cells ca ta (0, 0))) (hb : w.heap[b.block]? = some (.cells cb tb (0, 0))) :
    Calls Tryd.prog 16 #[.iface 54 (.pointer (some ⟨pb, po, none⟩)), .iface 115 (.pointer (some b))] w fun e w' => e = .returned (.bool false) ∧ w' = w := by
  obtain ⟨i, hi, hcmp⟩ := Option.map_eq_some_iff.1 isComp
  obtain ⟨j, hj, hjs⟩ := Option.map_eq_some_iff.1 isSize
  have h8 := @run_callFunc_extern Tryd.prog 31 _ Extern.ReflectliteType.typeOf Tryd.func31 (by kernel_rfl) (by kernel_rfl) (by kernel_rfl) (by kernel_rfl)
  have h32 := @run_callFunc_extern Tryd.prog 73 _ (Extern.ReflectliteType.method fun t => do Rtype.noPackHeld "Comparable" t; pure (.bool (← typeInfo t).comparable)) Tryd.func73 (by kernel_rfl) (by kernel_rfl) (by kernel_rfl) (by kernel_rfl)
  have tT := isTypeOf
  have cT := isComparable
  have mR := isMethodComparable
  have nE := noIsE
  have uE := noUnwrapE
  have vE := noUnwrapsE
  have nW := noIsW
  have uW := hasUnwrapW
  have mU := methodUnwrap
  have heq := run_eql_iface_ptr_other (P := Tryd.prog) w Tryd.underlying31 Tryd.underlying115 hi hcmp hj (by rw [hjs]; decide) hne ha hb
  have hty := run_eql_iface_types (P := Tryd.prog) 54 115 (.pointer (some ⟨pb, po, none⟩)) (.pointer (some b)) Tryd.underlying31 (by decide) w
  go_enter Tryd.func16, Tryd.ntmps16
  go_wp2
  refine wp_loop_rounds 2 ?_
  rw [rounds_succ]
  go_wp2
  rw [rounds_succ]
  go_wp2
  go_ret
  exact ⟨rfl, rfl⟩
end Go.Proofs.YtklhjaohnimmnaaDoor
