/- grammar.settled with closures of three and of five captured variables. -/
import Derived.Test.YtgfchgnebpogjaaGrL
import Derived.Test.YtgfchgnebpogjaaCls
import Derived.Deep.LoopGhost
namespace Go.Proofs.Ytgfchgnebpogjaa
open Go.RowKit BigFrame
set_option linter.unusedVariables false
set_option linter.unusedSimpArgs false
set_option maxRecDepth 100000

set_option maxHeartbeats 1000000 in
theorem settled3 {σ : Type} (fid : FuncId) (v0 v1 v2 : Nat) (step : Nat → Prd → σ → σ × Bool) (I : World → σ → Prop) (S : Nat → Prop) (Q : σ → Prop) (μ : σ → Nat) (B : Nat) (PS : List Prd) (Ap : Option Addr) (np cp : Nat)
    (hrun : ∀ args w, (callFunc fid args).run Try.prog w = .ok (.enter fid args) w)
    (hsame : ∀ i p x, (step i p x).2 = false → (step i p x).1 = x)
    (hQ : ∀ k p y, PS[k]? = some p → Q y → Q (step k p y).1 ∧ ((step k p y).2 = true → μ (step k p y).1 < μ y))
    (hkeep : ∀ w w' x, I w x → Below w.heap.size w w' → I w' x)
    (hS : ∀ k, S k → B ≤ k)
    (hcall : ∀ (k : Nat) (p : Prd) A' n' c' w x, PS[k]? = some p → Q x → I w x → B ≤ w.heap.size → RdI w B A' p.2.1 → p.2.1.length = n' → n' ≤ maxLen →
      Calls Try.prog fid #[.int .i64 k, .agg #[.int .i64 p.1, .slice A' n' c', .int .i64 p.2.2], .pointer (some ⟨v0, 0, none⟩), .pointer (some ⟨v1, 0, none⟩), .pointer (some ⟨v2, 0, none⟩)] w fun e w' => e = .returned (.bool (step k p x).2) ∧ I w' (step k p x).1 ∧ Kp S w w')
    (w : World) (x : σ) (hB : B ≤ w.heap.size) (hP : RdP w B Ap np cp PS) (hx : Q x) (hI : I w x) :
    Calls Try.prog 39 #[.slice Ap np cp, .func (.func fid) #[] #[.pointer (some ⟨v0, 0, none⟩), .pointer (some ⟨v1, 0, none⟩), .pointer (some ⟨v2, 0, none⟩)]] w fun e w' => e = .returned (.tuple #[]) ∧ ∃ n, I w' (rounds step PS n x) ∧ (passF step 0 PS (rounds step PS n x)).2 = false ∧ Kp S w w' := by
  obtain ⟨hp1, hp2⟩ := hP.len
  unfold maxLen at hp2
  have HP1 := Lib.hid hp1; have HP := Lib.hid hP; have HI := Lib.hid hI; have HX := Lib.hid hx; have HSAME := Lib.hid hsame; have HQ := Lib.hid hQ; have HKEEP := Lib.hid hkeep; have HS := Lib.hid hS; have HCALL := Lib.hid hcall
  clear hp1 hP hI hx hsame hQ hkeep hS hcall
  go_enter Try.func39, Try.ntmps39
  go_wp2_with fail
  go_loopg [4] (μ x + 1) (fun gk ag wr => ∃ n : Nat, ∃ b : Bool, ag = .bool b ∧ gk = (if b then μ (rounds step PS n x) + 1 else 0) ∧ Hid (I wr (rounds step PS n x) ∧ Q (rounds step PS n x) ∧ Kp S w wr) ∧ Hid (b = false → (passF step 0 PS (rounds step PS n x)).2 = false))
  case atStart => exact ⟨0, true, rfl, rfl, ⟨HI.out, HX.out, Kp.refl _ _⟩, fun h => by cases h⟩
  case round =>
    obtain ⟨n, b, rfl, hgk, HR, HF⟩ := hrel
    obtain ⟨y, hy⟩ : ∃ y, y = rounds step PS n x := ⟨_, rfl⟩
    rw [← hy] at HR HF hgk
    have HY := Lib.hid hy; clear hy
    have HGK := Lib.hid hgk; clear hgk
    have HQY := Lib.hid HR.out.2.1
    cases b
    · go_wp2
      go_end0
      exact ⟨rfl, n, by rw [← HY.out]; exact ⟨HR.out.1, HF.out (by simp), HR.out.2.2⟩⟩
    · go_wp2_with fail
      go_loopw [4, 10] (fun ag i wr => ∃ k : Nat, ∃ b : Bool, k ≤ np ∧ i = .int .i64 k ∧ ag = .bool b ∧ Hid (b = (passF step 0 (PS.take k) y).2) ∧ Hid (I wr (passF step 0 (PS.take k) y).1 ∧ Q (passF step 0 (PS.take k) y).1 ∧ Kp S w wr)) (fun _ i _ => np - (intOf i).toNat)
      case atStart => exact ⟨0, false, Nat.zero_le _, rfl, rfl, rfl, HR.out⟩
      case round =>
        clear HR HF
        obtain ⟨k, b, hk, rfl, rfl, HB, HR⟩ := hrel
        by_cases hlt : k < np
        · have hbr : Below B w wr := HR.out.2.2.bel hB (fun j hj hs => by have := HS.out j hs; omega)
          have hBr : B ≤ wr.heap.size := Nat.le_trans hB HR.out.2.2.size
          obtain ⟨bb, off, rfl, hb, hc⟩ := (HP.out.below hbr).at_ (by omega)
          obtain ⟨px, r, py, A', n', c', hq, z0, z1, z2, g1, g2, g3, g4⟩ := hc k hlt
          have hx : Below wr.heap.size wr (wr.alloc (.cells #[.int .i64 px, .slice A' n' c', .int .i64 py] 50)) := (Below.refl _ _).alloc (Nat.le_refl _) _
          have hcl := HCALL.out k (px, r, py) A' n' c' _ _ hq HR.out.2.1 (HKEEP.out _ _ _ HR.out.1 hx) (Nat.le_trans hBr hx.size) (g4.below (hx.mono hBr)) g1 (by omega)
          have hps := passF_snoc step PS k (px, r, py) y hq
          have hq2 := HQ.out k (px, r, py) _ hq HR.out.2.1
          generalize hst : step k (px, r, py) (passF step 0 (PS.take k) y).1 = st at hcl hps hq2
          obtain ⟨s1, b1⟩ := st
          have HPS := Lib.hid hps; have HQ2 := Lib.hid hq2
          have HC := Lib.hid hcl
          have HX2 := Lib.hid hx
          clear hcl hps hq2 hst hc hq g1 g4 hx
          unfold maxLen at g3
          cases b1
          · go_wp2_with fail
            refine HC.out.mono ?_
            rintro e w1 ⟨rfl, hI1, hK1⟩
            go_wp2
            go_roundw
            case rel =>
              refine ⟨k + 1, b, by omega, by go_num, rfl, ?_, ?_⟩
              · show b = _; rw [HPS.out]; simp only [Bool.or_false]; exact HB.out
              · rw [HPS.out]; exact ⟨hI1, HQ2.out.1, (HR.out.2.2.alloc _).trans hK1⟩
            case measure => simp [intOf]; omega
          · go_wp2_with fail
            refine HC.out.mono ?_
            rintro e w1 ⟨rfl, hI1, hK1⟩
            go_wp2
            go_roundw
            case rel =>
              refine ⟨k + 1, true, by omega, by go_num, rfl, ?_, ?_⟩
              · show true = _; rw [HPS.out]; simp only [Bool.or_true]
              · rw [HPS.out]; exact ⟨hI1, HQ2.out.1, (HR.out.2.2.alloc _).trans hK1⟩
            case measure => simp [intOf]; omega
        · have he : PS.take k = PS := List.take_of_length_le (by rw [HP1.out]; omega)
          have hlow := pass_lowers (step := step) (μ := μ) (Q := Q) HSAME.out PS 0 y (fun k p z hp hz => by rw [Nat.zero_add]; exact HQ.out k p z hp hz) HQY.out
          rw [he] at HB HR
          have HHB := Lib.hid HB.out
          clear HB he
          have HLOW := Lib.hid hlow; clear hlow
          cases b
          · go_wp2
            go_roundg 0
            case measure => rw [HGK.out]; simp
            case rel =>
              refine ⟨n + 1, false, rfl, rfl, ?_, fun _ => ?_⟩
              · show Hid _; rw [rounds, ← HY.out]; exact HR
              · rw [rounds, ← HY.out, pass_same HSAME.out PS 0 y HHB.out.symm]; exact HHB.out.symm
          · have hμ : μ (passF step 0 PS y).1 < μ y := HLOW.out.2 HHB.out.symm
            have HM := Lib.hid hμ; clear hμ
            go_wp2
            go_roundg (μ (passF step 0 PS y).1 + 1)
            case measure => rw [HGK.out]; simp; exact HM.out
            case rel =>
              refine ⟨n + 1, true, rfl, ?_, ?_, fun h => by cases h⟩
              · rw [rounds, ← HY.out]; rfl
              · show Hid _; rw [rounds, ← HY.out]; exact HR

set_option maxHeartbeats 1000000 in
theorem settled5 {σ : Type} (fid : FuncId) (v0 v1 v2 v3 v4 : Nat) (step : Nat → Prd → σ → σ × Bool) (I : World → σ → Prop) (S : Nat → Prop) (Q : σ → Prop) (μ : σ → Nat) (B : Nat) (PS : List Prd) (Ap : Option Addr) (np cp : Nat)
    (hrun : ∀ args w, (callFunc fid args).run Try.prog w = .ok (.enter fid args) w)
    (hsame : ∀ i p x, (step i p x).2 = false → (step i p x).1 = x)
    (hQ : ∀ k p y, PS[k]? = some p → Q y → Q (step k p y).1 ∧ ((step k p y).2 = true → μ (step k p y).1 < μ y))
    (hkeep : ∀ w w' x, I w x → Below w.heap.size w w' → I w' x)
    (hS : ∀ k, S k → B ≤ k)
    (hcall : ∀ (k : Nat) (p : Prd) A' n' c' w x, PS[k]? = some p → Q x → I w x → B ≤ w.heap.size → RdI w B A' p.2.1 → p.2.1.length = n' → n' ≤ maxLen →
      Calls Try.prog fid #[.int .i64 k, .agg #[.int .i64 p.1, .slice A' n' c', .int .i64 p.2.2], .pointer (some ⟨v0, 0, none⟩), .pointer (some ⟨v1, 0, none⟩), .pointer (some ⟨v2, 0, none⟩), .pointer (some ⟨v3, 0, none⟩), .pointer (some ⟨v4, 0, none⟩)] w fun e w' => e = .returned (.bool (step k p x).2) ∧ I w' (step k p x).1 ∧ Kp S w w')
    (w : World) (x : σ) (hB : B ≤ w.heap.size) (hP : RdP w B Ap np cp PS) (hx : Q x) (hI : I w x) :
    Calls Try.prog 39 #[.slice Ap np cp, .func (.func fid) #[] #[.pointer (some ⟨v0, 0, none⟩), .pointer (some ⟨v1, 0, none⟩), .pointer (some ⟨v2, 0, none⟩), .pointer (some ⟨v3, 0, none⟩), .pointer (some ⟨v4, 0, none⟩)]] w fun e w' => e = .returned (.tuple #[]) ∧ ∃ n, I w' (rounds step PS n x) ∧ (passF step 0 PS (rounds step PS n x)).2 = false ∧ Kp S w w' := by
  obtain ⟨hp1, hp2⟩ := hP.len
  unfold maxLen at hp2
  have HP1 := Lib.hid hp1; have HP := Lib.hid hP; have HI := Lib.hid hI; have HX := Lib.hid hx; have HSAME := Lib.hid hsame; have HQ := Lib.hid hQ; have HKEEP := Lib.hid hkeep; have HS := Lib.hid hS; have HCALL := Lib.hid hcall
  clear hp1 hP hI hx hsame hQ hkeep hS hcall
  go_enter Try.func39, Try.ntmps39
  go_wp2_with fail
  go_loopg [4] (μ x + 1) (fun gk ag wr => ∃ n : Nat, ∃ b : Bool, ag = .bool b ∧ gk = (if b then μ (rounds step PS n x) + 1 else 0) ∧ Hid (I wr (rounds step PS n x) ∧ Q (rounds step PS n x) ∧ Kp S w wr) ∧ Hid (b = false → (passF step 0 PS (rounds step PS n x)).2 = false))
  case atStart => exact ⟨0, true, rfl, rfl, ⟨HI.out, HX.out, Kp.refl _ _⟩, fun h => by cases h⟩
  case round =>
    obtain ⟨n, b, rfl, hgk, HR, HF⟩ := hrel
    obtain ⟨y, hy⟩ : ∃ y, y = rounds step PS n x := ⟨_, rfl⟩
    rw [← hy] at HR HF hgk
    have HY := Lib.hid hy; clear hy
    have HGK := Lib.hid hgk; clear hgk
    have HQY := Lib.hid HR.out.2.1
    cases b
    · go_wp2
      go_end0
      exact ⟨rfl, n, by rw [← HY.out]; exact ⟨HR.out.1, HF.out (by simp), HR.out.2.2⟩⟩
    · go_wp2_with fail
      go_loopw [4, 10] (fun ag i wr => ∃ k : Nat, ∃ b : Bool, k ≤ np ∧ i = .int .i64 k ∧ ag = .bool b ∧ Hid (b = (passF step 0 (PS.take k) y).2) ∧ Hid (I wr (passF step 0 (PS.take k) y).1 ∧ Q (passF step 0 (PS.take k) y).1 ∧ Kp S w wr)) (fun _ i _ => np - (intOf i).toNat)
      case atStart => exact ⟨0, false, Nat.zero_le _, rfl, rfl, rfl, HR.out⟩
      case round =>
        clear HR HF
        obtain ⟨k, b, hk, rfl, rfl, HB, HR⟩ := hrel
        by_cases hlt : k < np
        · have hbr : Below B w wr := HR.out.2.2.bel hB (fun j hj hs => by have := HS.out j hs; omega)
          have hBr : B ≤ wr.heap.size := Nat.le_trans hB HR.out.2.2.size
          obtain ⟨bb, off, rfl, hb, hc⟩ := (HP.out.below hbr).at_ (by omega)
          obtain ⟨px, r, py, A', n', c', hq, z0, z1, z2, g1, g2, g3, g4⟩ := hc k hlt
          have hx : Below wr.heap.size wr (wr.alloc (.cells #[.int .i64 px, .slice A' n' c', .int .i64 py] 50)) := (Below.refl _ _).alloc (Nat.le_refl _) _
          have hcl := HCALL.out k (px, r, py) A' n' c' _ _ hq HR.out.2.1 (HKEEP.out _ _ _ HR.out.1 hx) (Nat.le_trans hBr hx.size) (g4.below (hx.mono hBr)) g1 (by omega)
          have hps := passF_snoc step PS k (px, r, py) y hq
          have hq2 := HQ.out k (px, r, py) _ hq HR.out.2.1
          generalize hst : step k (px, r, py) (passF step 0 (PS.take k) y).1 = st at hcl hps hq2
          obtain ⟨s1, b1⟩ := st
          have HPS := Lib.hid hps; have HQ2 := Lib.hid hq2
          have HC := Lib.hid hcl
          have HX2 := Lib.hid hx
          clear hcl hps hq2 hst hc hq g1 g4 hx
          unfold maxLen at g3
          cases b1
          · go_wp2_with fail
            refine HC.out.mono ?_
            rintro e w1 ⟨rfl, hI1, hK1⟩
            go_wp2
            go_roundw
            case rel =>
              refine ⟨k + 1, b, by omega, by go_num, rfl, ?_, ?_⟩
              · show b = _; rw [HPS.out]; simp only [Bool.or_false]; exact HB.out
              · rw [HPS.out]; exact ⟨hI1, HQ2.out.1, (HR.out.2.2.alloc _).trans hK1⟩
            case measure => simp [intOf]; omega
          · go_wp2_with fail
            refine HC.out.mono ?_
            rintro e w1 ⟨rfl, hI1, hK1⟩
            go_wp2
            go_roundw
            case rel =>
              refine ⟨k + 1, true, by omega, by go_num, rfl, ?_, ?_⟩
              · show true = _; rw [HPS.out]; simp only [Bool.or_true]
              · rw [HPS.out]; exact ⟨hI1, HQ2.out.1, (HR.out.2.2.alloc _).trans hK1⟩
            case measure => simp [intOf]; omega
        · have he : PS.take k = PS := List.take_of_length_le (by rw [HP1.out]; omega)
          have hlow := pass_lowers (step := step) (μ := μ) (Q := Q) HSAME.out PS 0 y (fun k p z hp hz => by rw [Nat.zero_add]; exact HQ.out k p z hp hz) HQY.out
          rw [he] at HB HR
          have HHB := Lib.hid HB.out
          clear HB he
          have HLOW := Lib.hid hlow; clear hlow
          cases b
          · go_wp2
            go_roundg 0
            case measure => rw [HGK.out]; simp
            case rel =>
              refine ⟨n + 1, false, rfl, rfl, ?_, fun _ => ?_⟩
              · show Hid _; rw [rounds, ← HY.out]; exact HR
              · rw [rounds, ← HY.out, pass_same HSAME.out PS 0 y HHB.out.symm]; exact HHB.out.symm
          · have hμ : μ (passF step 0 PS y).1 < μ y := HLOW.out.2 HHB.out.symm
            have HM := Lib.hid hμ; clear hμ
            go_wp2
            go_roundg (μ (passF step 0 PS y).1 + 1)
            case measure => rw [HGK.out]; simp; exact HM.out
            case rel =>
              refine ⟨n + 1, true, rfl, ?_, ?_, fun h => by cases h⟩
              · rw [rounds, ← HY.out]; rfl
              · show Hid _; rw [rounds, ← HY.out]; exact HR
end Go.Proofs.Ytgfchgnebpogjaa
