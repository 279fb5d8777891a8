/- Plain: the mender's solve: one pair of places settled, then all. No program here. · grammar.settled with closures of three and of five captured variables. -/
import Derived.Test.YtklhjaohnimmnaaDoorQ15
import Derived.Test.YtklhjaohnimmnaaDoorQ9
import Derived.Test.YtklhjaohnimmnaaDoorQ12
import Derived.Deep.LoopGhost
namespace Go.Proofs.YtklhjaohnimmnaaDoor
set_option linter.unusedVariables false
set_option linter.unusedSimpArgs false

section
variable (put leave : Int → Int) (inp : List Int) (f t : Nat)
/-- One production: its row, if it is better. -/
def stepV (_ : Nat) (p : Pr) (M : BCh) : BCh × Bool :=
  if betB (rwB put leave M inp p.2.1 f t) (M p.1.toNat f t) then (updB M p.1.toNat f t (rwB put leave M inp p.2.1 f t), true) else (M, false)
variable {put leave inp f t}
theorem stepV_yes {k : Nat} {p : Pr} {M : BCh} (h : betB (rwB put leave M inp p.2.1 f t) (M p.1.toNat f t) = true) : stepV put leave inp f t k p M = (updB M p.1.toNat f t (rwB put leave M inp p.2.1 f t), true) := by unfold stepV; rw [if_pos h]
theorem stepV_no {k : Nat} {p : Pr} {M : BCh} (h : betB (rwB put leave M inp p.2.1 f t) (M p.1.toNat f t) = false) : stepV put leave inp f t k p M = (M, false) := by unfold stepV; rw [if_neg (by rw [h]; simp)]
theorem stepV_same (k : Nat) (p : Pr) (M : BCh) (h : (stepV put leave inp f t k p M).2 = false) : (stepV put leave inp f t k p M).1 = M := by
  by_cases e : betB (rwB put leave M inp p.2.1 f t) (M p.1.toNat f t) = true
  · rw [stepV_yes e] at h; cases h
  · rw [stepV_no (by simpa using e)]
variable (put leave inp f t)
/-- What holds while a pair is settled. -/
structure SolI (ps : List Pr) (N : Nat) (M0 M : BCh) : Prop where
  snd : ChSnd put leave ps N inp M
  off : ∀ X a c, (a ≠ f ∨ c ≠ t) → M X a c = M0 X a c
variable {put leave inp f t}
theorem stepV_Q {ps : List Pr} {N : Nat} {M0 : BCh} (hf : Fits N ps) (hp : ∀ t, 0 ≤ put t) (hl : ∀ t, 0 ≤ leave t) (hb : ∀ t f u, lvS leave (sub inp f u) + put t ≤ farC) (hd : ∀ X s, Der ps X s → DigB s) (h1 : f ≤ t) (h2 : t ≤ inp.length)
    (k : Nat) (p : Pr) (M : BCh) (hm : p ∈ ps) (hQ : SolI put leave inp f t ps N M0 M) : SolI put leave inp f t ps N M0 (stepV put leave inp f t k p M).1 ∧ ((stepV put leave inp f t k p M).2 = true → muV wB N (stepV put leave inp f t k p M).1 f t < muV wB N M f t) := by
  have hX := (hf p hm).1
  have hr : Snd put leave (Der ps p.1.toNat) (sub inp f t) (rwB put leave M inp p.2.1 f t) := (row_snd hp hl hb hQ.snd h1 h2 (hf p hm).2).mono fun l h => Der.mk ps hm h
  by_cases e : betB (rwB put leave M inp p.2.1 f t) (M p.1.toNat f t) = true
  · rw [stepV_yes e]
    have ho := hQ.snd p.1.toNat f t hX h1 h2
    refine ⟨⟨fun X a c hX' ha hc => ?_, fun X a c hac => ?_⟩, fun _ => muV_upd hX (rk_lt (hr.num fun s h => hd _ s h) (ho.num fun s h => hd _ s h) hr.wf ho.wf e)⟩
    · by_cases q : X = p.1.toNat ∧ a = f ∧ c = t
      · obtain ⟨rfl, rfl, rfl⟩ := q
        dsimp only; rw [updB_at]; exact hr
      · dsimp only; rw [updB_off (by by_cases q1 : X = p.1.toNat; right; omega; exact .inl q1)]; exact hQ.snd X a c hX' ha hc
    · dsimp only; rw [updB_off (.inr hac)]; exact hQ.off X a c hac
  · rw [stepV_no (by simpa using e)]
    exact ⟨hQ, fun h => by cases h⟩
/-- When nothing is new any more. -/
theorem solved_fix {ps : List Pr} {M : BCh} (h : (passF (stepV put leave inp f t) 0 ps M).2 = false) : ∀ p ∈ ps, betB (rwB put leave M inp p.2.1 f t) (M p.1.toNat f t) = false := fun p hp => by
  obtain ⟨k, hk, e⟩ := List.getElem_of_mem hp
  have := pass_fixed stepV_same ps 0 M h k p (by rw [List.getElem?_eq_getElem hk, e])
  cases q : betB (rwB put leave M inp p.2.1 f t) (M p.1.toNat f t) with
  | false => rfl
  | true => rw [stepV_yes q] at this; cases this

/-- Rows look at no pair outside. -/
theorem symB_congr {M M' : BCh} {s : Int} {F T a c : Nat} (h : ∀ X a c, F ≤ a → a ≤ c → c ≤ T → M X a c = M' X a c) (h1 : F ≤ a) (h2 : a ≤ c) (h3 : c ≤ T) : symB put leave M inp s a c = symB put leave M' inp s a c := by
  unfold symB
  split
  · exact h _ a c h1 h2 h3
  · rfl
theorem rowF_congr {M M' : BCh} {F T : Nat} (h : ∀ X a c, F ≤ a → a ≤ c → c ≤ F + T → M X a c = M' X a c) : ∀ (r : List Int) (at_ at' : Nat → Bs), (∀ k, k ≤ T → at_ k = at' k) → ∀ k, k ≤ T → rowF put leave M inp F r at_ k = rowF put leave M' inp F r at' k
  | [], at_, at', ha, k, hk => ha k hk
  | s :: r, at_, at', ha, k, hk => by
    refine rowF_congr h r _ _ (fun k hk => ?_) k hk
    unfold midB'
    congr 1
    refine List.map_congr_left fun mid hm => ?_
    have hm2 := List.mem_range.1 hm
    rw [ha mid (by omega), symB_congr h (by omega) (by omega) (by omega)]
theorem rowB_congr {M M' : BCh} {r : List Int} {F T : Nat} (hFT : F ≤ T) (h : ∀ X a c, F ≤ a → a ≤ c → c ≤ T → M X a c = M' X a c) : rwB put leave M inp r F T = rwB put leave M' inp r F T := by
  cases r with
  | nil => rfl
  | cons s r =>
    refine rowF_congr (M' := M') (T := T - F) (fun X a c h1 h2 h3 => h X a c h1 h2 (by omega)) r _ _ (fun k hk => symB_congr h (Nat.le_refl _) (by omega) (by omega)) (T - F) (Nat.le_refl _)

/-- All pairs of less than n terminals, and of n those that begin ahead of F, are settled. -/
structure AllS (put leave : Int → Int) (inp : List Int) (ps : List Pr) (N : Nat) (M : BCh) (n F : Nat) : Prop where
  snd : ChSnd put leave ps N inp M
  none : ∀ X a c, a ≤ c → (n < c - a ∨ (c - a = n ∧ F ≤ a)) → M X a c = Option.none
  fix : ∀ a c, a ≤ c → c ≤ inp.length → (c - a < n ∨ (c - a = n ∧ a < F)) → ∀ p ∈ ps, betB (rwB put leave M inp p.2.1 a c) (M p.1.toNat a c) = false
theorem AllS.zero (ps : List Pr) (N : Nat) : AllS put leave inp ps N (fun _ _ _ => Option.none) 0 0 :=
  ⟨fun X a c _ _ _ => Snd.none _ _, fun _ _ _ _ _ => rfl, fun a c h1 h2 h3 => by omega⟩
theorem AllS.next {ps : List Pr} {N : Nat} {M : BCh} {n F : Nat} (h : AllS put leave inp ps N M n F) (hF : inp.length < F + n) : AllS put leave inp ps N M (n + 1) 0 := by
  refine ⟨h.snd, fun X a c h1 h2 => h.none X a c h1 (by omega), fun a c h1 h2 h3 => h.fix a c h1 h2 (by omega)⟩
theorem AllS.step {ps : List Pr} {N : Nat} {M M' : BCh} {n F : Nat} (h : AllS put leave inp ps N M n F) (hs : SolI put leave inp F (F + n) ps N M M') (hx : ∀ p ∈ ps, betB (rwB put leave M' inp p.2.1 F (F + n)) (M' p.1.toNat F (F + n)) = false) : AllS put leave inp ps N M' n (F + 1) := by
  refine ⟨hs.snd, fun X a c h1 h2 => ?_, fun a c h1 h2 h3 p hp => ?_⟩
  · rw [hs.off X a c (by omega)]; exact h.none X a c h1 (by omega)
  · by_cases e : a = F ∧ c = F + n
    · obtain ⟨rfl, rfl⟩ := e
      exact hx p hp
    · have e1 := rowB_congr (put := put) (leave := leave) (inp := inp) (M := M') (M' := M) (r := p.2.1) h1 (fun X a' c' q1 q2 q3 => hs.off X a' c' (by omega))
      rw [e1, hs.off _ a c (by omega)]
      exact h.fix a c h1 h2 (by omega) p hp
/-- When all pairs are settled, the chart is as good as can be. -/
theorem AllS.done {ps : List Pr} {N : Nat} {M : BCh} {n F : Nat} (h : AllS put leave inp ps N M n F) (hn : inp.length < n) (hf : Fits N ps) (hp : ∀ t, 0 ≤ put t) (hl : ∀ t, 0 ≤ leave t) (hb : ∀ t f u, lvS leave (sub inp f u) + put t ≤ farC) :
    ∀ a c, a ≤ c → c ≤ inp.length → ChCmp put leave N inp M (Der ps) a c ∧ ChIs N M (Der ps) a c := by
  have key : ∀ d a c, a ≤ c → c ≤ inp.length → c - a ≤ d → ChCmp put leave N inp M (Der ps) a c ∧ ChIs N M (Der ps) a c := by
    intro d
    induction d with
    | zero =>
      intro a c h1 h2 h3
      have e : a = c := by omega
      subst e
      exact ⟨bch_settled hf hp hl hb h.snd h1 h2 (fun f' t' q1 q2 q3 q4 => by omega) (h.fix a a h1 h2 (by omega)), bch_is hf hp hl hb h.snd h1 h2 (fun f' t' q1 q2 q3 q4 => by omega) (h.fix a a h1 h2 (by omega))⟩
    | succ d ih =>
      intro a c h1 h2 h3
      exact ⟨bch_settled hf hp hl hb h.snd h1 h2 (fun f' t' q1 q2 q3 q4 => (ih f' t' q2 (by omega) (by omega)).1) (h.fix a c h1 h2 (by omega)), bch_is hf hp hl hb h.snd h1 h2 (fun f' t' q1 q2 q3 q4 => (ih f' t' q2 (by omega) (by omega)).2) (h.fix a c h1 h2 (by omega))⟩
  intro a c h1 h2
  exact key (c - a) a c h1 h2 (Nat.le_refl _)
end
end Go.Proofs.YtklhjaohnimmnaaDoor
namespace Go.Proofs.YtklhjaohnimmnaaDoor
open Go.RowKit BigFrame
set_option linter.unusedVariables false
set_option linter.unusedSimpArgs false
set_option maxRecDepth 100000

set_option maxHeartbeats 1000000 in
theorem settled3 {σ : Type} (fid : FuncId) (v0 v1 v2 : Nat) (step : Nat → Prd → σ → σ × Bool) (I : World → σ → Prop) (S : Nat → Prop) (Q : σ → Prop) (μ : σ → Nat) (B : Nat) (PS : List Prd) (Ap : Option Addr) (np cp : Nat)
    (hrun : ∀ args w, (callFunc fid args).run Tryd.prog w = .ok (.enter fid args) w)
    (hsame : ∀ i p x, (step i p x).2 = false → (step i p x).1 = x)
    (hQ : ∀ k p y, PS[k]? = some p → Q y → Q (step k p y).1 ∧ ((step k p y).2 = true → μ (step k p y).1 < μ y))
    (hkeep : ∀ w w' x, I w x → Below w.heap.size w w' → I w' x)
    (hS : ∀ k, S k → B ≤ k)
    (hcall : ∀ (k : Nat) (p : Prd) A' n' c' w x, PS[k]? = some p → Q x → I w x → B ≤ w.heap.size → RdI w B A' p.2.1 → p.2.1.length = n' → n' ≤ maxLen →
      Calls Tryd.prog fid #[.int .i64 k, .agg #[.int .i64 p.1, .slice A' n' c', .int .i64 p.2.2], .pointer (some ⟨v0, 0, none⟩), .pointer (some ⟨v1, 0, none⟩), .pointer (some ⟨v2, 0, none⟩)] w fun e w' => e = .returned (.bool (step k p x).2) ∧ I w' (step k p x).1 ∧ Kp S w w')
    (w : World) (x : σ) (hB : B ≤ w.heap.size) (hP : RdP w B Ap np cp PS) (hx : Q x) (hI : I w x) :
    Calls Tryd.prog 37 #[.slice Ap np cp, .func (.func fid) #[] #[.pointer (some ⟨v0, 0, none⟩), .pointer (some ⟨v1, 0, none⟩), .pointer (some ⟨v2, 0, none⟩)]] w fun e w' => e = .returned (.tuple #[]) ∧ ∃ n, I w' (rounds step PS n x) ∧ (passF step 0 PS (rounds step PS n x)).2 = false ∧ Kp S w w' := by
  obtain ⟨hp1, hp2⟩ := hP.len
  unfold maxLen at hp2
  have HP1 := Lib.hid hp1; have HP := Lib.hid hP; have HI := Lib.hid hI; have HX := Lib.hid hx; have HSAME := Lib.hid hsame; have HQ := Lib.hid hQ; have HKEEP := Lib.hid hkeep; have HS := Lib.hid hS; have HCALL := Lib.hid hcall
  clear hp1 hP hI hx hsame hQ hkeep hS hcall
  go_enter Tryd.func37, Tryd.ntmps37
  go_wp2_with fail
  go_loopg [4] (μ x + 1) (fun gk ag wr => ∃ n : Nat, ∃ b : Bool, ag = .bool b ∧ gk = (if b then μ (rounds step PS n x) + 1 else 0) ∧ Hid (I wr (rounds step PS n x) ∧ Q (rounds step PS n x) ∧ Kp S w wr) ∧ Hid (b = false → (passF step 0 PS (rounds step PS n x)).2 = false))
  case atStart => exact ⟨0, true, rfl, rfl, ⟨HI.out, HX.out, Kp.refl _ _⟩, fun h => by cases h⟩
  case round =>
    obtain ⟨n, b, rfl, hgk, HR, HF⟩ := hrel
    obtain ⟨y, hy⟩ : ∃ y, y = rounds step PS n x := ⟨_, rfl⟩
    rw [← hy] at HR HF hgk
    have HY := Lib.hid hy; clear hy
    have HGK := Lib.hid hgk; clear hgk
    have HQY := Lib.hid HR.out.2.1
    cases b
    · go_wp2
      go_end0
      exact ⟨rfl, n, by rw [← HY.out]; exact ⟨HR.out.1, HF.out (by simp), HR.out.2.2⟩⟩
    · go_wp2_with fail
      go_loopw [4, 10] (fun ag i wr => ∃ k : Nat, ∃ b : Bool, k ≤ np ∧ i = .int .i64 k ∧ ag = .bool b ∧ Hid (b = (passF step 0 (PS.take k) y).2) ∧ Hid (I wr (passF step 0 (PS.take k) y).1 ∧ Q (passF step 0 (PS.take k) y).1 ∧ Kp S w wr)) (fun _ i _ => np - (intOf i).toNat)
      case atStart => exact ⟨0, false, Nat.zero_le _, rfl, rfl, rfl, HR.out⟩
      case round =>
        clear HR HF
        obtain ⟨k, b, hk, rfl, rfl, HB, HR⟩ := hrel
        by_cases hlt : k < np
        · have hbr : Below B w wr := HR.out.2.2.bel hB (fun j hj hs => by have := HS.out j hs; omega)
          have hBr : B ≤ wr.heap.size := Nat.le_trans hB HR.out.2.2.size
          obtain ⟨bb, off, rfl, hb, hc⟩ := (HP.out.below hbr).at_ (by omega)
          obtain ⟨px, r, py, A', n', c', hq, z0, z1, z2, g1, g2, g3, g4⟩ := hc k hlt
          have hx : Below wr.heap.size wr (wr.alloc (.cells #[.int .i64 px, .slice A' n' c', .int .i64 py] 41)) := (Below.refl _ _).alloc (Nat.le_refl _) _
          have hcl := HCALL.out k (px, r, py) A' n' c' _ _ hq HR.out.2.1 (HKEEP.out _ _ _ HR.out.1 hx) (Nat.le_trans hBr hx.size) (g4.below (hx.mono hBr)) g1 (by omega)
          have hps := passF_snoc step PS k (px, r, py) y hq
          have hq2 := HQ.out k (px, r, py) _ hq HR.out.2.1
          generalize hst : step k (px, r, py) (passF step 0 (PS.take k) y).1 = st at hcl hps hq2
          obtain ⟨s1, b1⟩ := st
          have HPS := Lib.hid hps; have HQ2 := Lib.hid hq2
          have HC := Lib.hid hcl
          have HX2 := Lib.hid hx
          clear hcl hps hq2 hst hc hq g1 g4 hx
          unfold maxLen at g3
          cases b1
          · go_wp2_with fail
            refine HC.out.mono ?_
            rintro e w1 ⟨rfl, hI1, hK1⟩
            go_wp2
            go_roundw
            case rel =>
              refine ⟨k + 1, b, by omega, by go_num, rfl, ?_, ?_⟩
              · show b = _; rw [HPS.out]; simp only [Bool.or_false]; exact HB.out
              · rw [HPS.out]; exact ⟨hI1, HQ2.out.1, (HR.out.2.2.alloc _).trans hK1⟩
            case measure => simp [intOf]; omega
          · go_wp2_with fail
            refine HC.out.mono ?_
            rintro e w1 ⟨rfl, hI1, hK1⟩
            go_wp2
            go_roundw
            case rel =>
              refine ⟨k + 1, true, by omega, by go_num, rfl, ?_, ?_⟩
              · show true = _; rw [HPS.out]; simp only [Bool.or_true]
              · rw [HPS.out]; exact ⟨hI1, HQ2.out.1, (HR.out.2.2.alloc _).trans hK1⟩
            case measure => simp [intOf]; omega
        · have he : PS.take k = PS := List.take_of_length_le (by rw [HP1.out]; omega)
          have hlow := pass_lowers (step := step) (μ := μ) (Q := Q) HSAME.out PS 0 y (fun k p z hp hz => by rw [Nat.zero_add]; exact HQ.out k p z hp hz) HQY.out
          rw [he] at HB HR
          have HHB := Lib.hid HB.out
          clear HB he
          have HLOW := Lib.hid hlow; clear hlow
          cases b
          · go_wp2
            go_roundg 0
            case measure => rw [HGK.out]; simp
            case rel =>
              refine ⟨n + 1, false, rfl, rfl, ?_, fun _ => ?_⟩
              · show Hid _; rw [rounds, ← HY.out]; exact HR
              · rw [rounds, ← HY.out, pass_same HSAME.out PS 0 y HHB.out.symm]; exact HHB.out.symm
          · have hμ : μ (passF step 0 PS y).1 < μ y := HLOW.out.2 HHB.out.symm
            have HM := Lib.hid hμ; clear hμ
            go_wp2
            go_roundg (μ (passF step 0 PS y).1 + 1)
            case measure => rw [HGK.out]; simp; exact HM.out
            case rel =>
              refine ⟨n + 1, true, rfl, ?_, ?_, fun h => by cases h⟩
              · rw [rounds, ← HY.out]; rfl
              · show Hid _; rw [rounds, ← HY.out]; exact HR

set_option maxHeartbeats 1000000 in
theorem settled5 {σ : Type} (fid : FuncId) (v0 v1 v2 v3 v4 : Nat) (step : Nat → Prd → σ → σ × Bool) (I : World → σ → Prop) (S : Nat → Prop) (Q : σ → Prop) (μ : σ → Nat) (B : Nat) (PS : List Prd) (Ap : Option Addr) (np cp : Nat)
    (hrun : ∀ args w, (callFunc fid args).run Tryd.prog w = .ok (.enter fid args) w)
    (hsame : ∀ i p x, (step i p x).2 = false → (step i p x).1 = x)
    (hQ : ∀ k p y, PS[k]? = some p → Q y → Q (step k p y).1 ∧ ((step k p y).2 = true → μ (step k p y).1 < μ y))
    (hkeep : ∀ w w' x, I w x → Below w.heap.size w w' → I w' x)
    (hS : ∀ k, S k → B ≤ k)
    (hcall : ∀ (k : Nat) (p : Prd) A' n' c' w x, PS[k]? = some p → Q x → I w x → B ≤ w.heap.size → RdI w B A' p.2.1 → p.2.1.length = n' → n' ≤ maxLen →
      Calls Tryd.prog fid #[.int .i64 k, .agg #[.int .i64 p.1, .slice A' n' c', .int .i64 p.2.2], .pointer (some ⟨v0, 0, none⟩), .pointer (some ⟨v1, 0, none⟩), .pointer (some ⟨v2, 0, none⟩), .pointer (some ⟨v3, 0, none⟩), .pointer (some ⟨v4, 0, none⟩)] w fun e w' => e = .returned (.bool (step k p x).2) ∧ I w' (step k p x).1 ∧ Kp S w w')
    (w : World) (x : σ) (hB : B ≤ w.heap.size) (hP : RdP w B Ap np cp PS) (hx : Q x) (hI : I w x) :
    Calls Tryd.prog 37 #[.slice Ap np cp, .func (.func fid) #[] #[.pointer (some ⟨v0, 0, none⟩), .pointer (some ⟨v1, 0, none⟩), .pointer (some ⟨v2, 0, none⟩), .pointer (some ⟨v3, 0, none⟩), .pointer (some ⟨v4, 0, none⟩)]] w fun e w' => e = .returned (.tuple #[]) ∧ ∃ n, I w' (rounds step PS n x) ∧ (passF step 0 PS (rounds step PS n x)).2 = false ∧ Kp S w w' := by
  obtain ⟨hp1, hp2⟩ := hP.len
  unfold maxLen at hp2
  have HP1 := Lib.hid hp1; have HP := Lib.hid hP; have HI := Lib.hid hI; have HX := Lib.hid hx; have HSAME := Lib.hid hsame; have HQ := Lib.hid hQ; have HKEEP := Lib.hid hkeep; have HS := Lib.hid hS; have HCALL := Lib.hid hcall
  clear hp1 hP hI hx hsame hQ hkeep hS hcall
  go_enter Tryd.func37, Tryd.ntmps37
  go_wp2_with fail
  go_loopg [4] (μ x + 1) (fun gk ag wr => ∃ n : Nat, ∃ b : Bool, ag = .bool b ∧ gk = (if b then μ (rounds step PS n x) + 1 else 0) ∧ Hid (I wr (rounds step PS n x) ∧ Q (rounds step PS n x) ∧ Kp S w wr) ∧ Hid (b = false → (passF step 0 PS (rounds step PS n x)).2 = false))
  case atStart => exact ⟨0, true, rfl, rfl, ⟨HI.out, HX.out, Kp.refl _ _⟩, fun h => by cases h⟩
  case round =>
    obtain ⟨n, b, rfl, hgk, HR, HF⟩ := hrel
    obtain ⟨y, hy⟩ : ∃ y, y = rounds step PS n x := ⟨_, rfl⟩
    rw [← hy] at HR HF hgk
    have HY := Lib.hid hy; clear hy
    have HGK := Lib.hid hgk; clear hgk
    have HQY := Lib.hid HR.out.2.1
    cases b
    · go_wp2
      go_end0
      exact ⟨rfl, n, by rw [← HY.out]; exact ⟨HR.out.1, HF.out (by simp), HR.out.2.2⟩⟩
    · go_wp2_with fail
      go_loopw [4, 10] (fun ag i wr => ∃ k : Nat, ∃ b : Bool, k ≤ np ∧ i = .int .i64 k ∧ ag = .bool b ∧ Hid (b = (passF step 0 (PS.take k) y).2) ∧ Hid (I wr (passF step 0 (PS.take k) y).1 ∧ Q (passF step 0 (PS.take k) y).1 ∧ Kp S w wr)) (fun _ i _ => np - (intOf i).toNat)
      case atStart => exact ⟨0, false, Nat.zero_le _, rfl, rfl, rfl, HR.out⟩
      case round =>
        clear HR HF
        obtain ⟨k, b, hk, rfl, rfl, HB, HR⟩ := hrel
        by_cases hlt : k < np
        · have hbr : Below B w wr := HR.out.2.2.bel hB (fun j hj hs => by have := HS.out j hs; omega)
          have hBr : B ≤ wr.heap.size := Nat.le_trans hB HR.out.2.2.size
          obtain ⟨bb, off, rfl, hb, hc⟩ := (HP.out.below hbr).at_ (by omega)
          obtain ⟨px, r, py, A', n', c', hq, z0, z1, z2, g1, g2, g3, g4⟩ := hc k hlt
          have hx : Below wr.heap.size wr (wr.alloc (.cells #[.int .i64 px, .slice A' n' c', .int .i64 py] 41)) := (Below.refl _ _).alloc (Nat.le_refl _) _
          have hcl := HCALL.out k (px, r, py) A' n' c' _ _ hq HR.out.2.1 (HKEEP.out _ _ _ HR.out.1 hx) (Nat.le_trans hBr hx.size) (g4.below (hx.mono hBr)) g1 (by omega)
          have hps := passF_snoc step PS k (px, r, py) y hq
          have hq2 := HQ.out k (px, r, py) _ hq HR.out.2.1
          generalize hst : step k (px, r, py) (passF step 0 (PS.take k) y).1 = st at hcl hps hq2
          obtain ⟨s1, b1⟩ := st
          have HPS := Lib.hid hps; have HQ2 := Lib.hid hq2
          have HC := Lib.hid hcl
          have HX2 := Lib.hid hx
          clear hcl hps hq2 hst hc hq g1 g4 hx
          unfold maxLen at g3
          cases b1
          · go_wp2_with fail
            refine HC.out.mono ?_
            rintro e w1 ⟨rfl, hI1, hK1⟩
            go_wp2
            go_roundw
            case rel =>
              refine ⟨k + 1, b, by omega, by go_num, rfl, ?_, ?_⟩
              · show b = _; rw [HPS.out]; simp only [Bool.or_false]; exact HB.out
              · rw [HPS.out]; exact ⟨hI1, HQ2.out.1, (HR.out.2.2.alloc _).trans hK1⟩
            case measure => simp [intOf]; omega
          · go_wp2_with fail
            refine HC.out.mono ?_
            rintro e w1 ⟨rfl, hI1, hK1⟩
            go_wp2
            go_roundw
            case rel =>
              refine ⟨k + 1, true, by omega, by go_num, rfl, ?_, ?_⟩
              · show true = _; rw [HPS.out]; simp only [Bool.or_true]
              · rw [HPS.out]; exact ⟨hI1, HQ2.out.1, (HR.out.2.2.alloc _).trans hK1⟩
            case measure => simp [intOf]; omega
        · have he : PS.take k = PS := List.take_of_length_le (by rw [HP1.out]; omega)
          have hlow := pass_lowers (step := step) (μ := μ) (Q := Q) HSAME.out PS 0 y (fun k p z hp hz => by rw [Nat.zero_add]; exact HQ.out k p z hp hz) HQY.out
          rw [he] at HB HR
          have HHB := Lib.hid HB.out
          clear HB he
          have HLOW := Lib.hid hlow; clear hlow
          cases b
          · go_wp2
            go_roundg 0
            case measure => rw [HGK.out]; simp
            case rel =>
              refine ⟨n + 1, false, rfl, rfl, ?_, fun _ => ?_⟩
              · show Hid _; rw [rounds, ← HY.out]; exact HR
              · rw [rounds, ← HY.out, pass_same HSAME.out PS 0 y HHB.out.symm]; exact HHB.out.symm
          · have hμ : μ (passF step 0 PS y).1 < μ y := HLOW.out.2 HHB.out.symm
            have HM := Lib.hid hμ; clear hμ
            go_wp2
            go_roundg (μ (passF step 0 PS y).1 + 1)
            case measure => rw [HGK.out]; simp; exact HM.out
            case rel =>
              refine ⟨n + 1, true, rfl, ?_, ?_, fun h => by cases h⟩
              · rw [rounds, ← HY.out]; rfl
              · show Hid _; rw [rounds, ← HY.out]; exact HR
end Go.Proofs.YtklhjaohnimmnaaDoor
