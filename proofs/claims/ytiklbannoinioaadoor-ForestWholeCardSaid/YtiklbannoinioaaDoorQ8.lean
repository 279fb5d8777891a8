/- The document's GrammarOk. · The program's rest: do the symbols from a place on stand for what lies between? · begin: the productions of a name, at their beginning. -/
import Derived.Test.YtiklbannoinioaaDoorQ4
import Derived.Test.YtiklbannoinioaaDoorQ6
import Derived.Test.YtiklbannoinioaaDoorQ7
namespace Go.Proofs.YtiklbannoinioaaDoor
open Go.RowKit
set_option linter.unusedVariables false
set_option linter.unusedSimpArgs false
set_option maxRecDepth 100000

structure PrOk (G : Gr) (p : Prd) : Prop where
  l0 : 0 ≤ p.1
  l1 : p.1 < G.names
  v0 : 0 ≤ p.2.2
  v1 : p.2.2 ≤ G.sides.length
  r : p.2.1.length ≤ 20
  s : ∀ s ∈ p.2.1, -G.names ≤ s ∧ s < G.terms
structure GOk (G : Gr) : Prop where
  t0 : 0 ≤ G.terms
  t1 : G.terms ≤ 300
  n0 : 1 ≤ G.names
  n1 : G.names ≤ 300
  s0 : 0 ≤ G.start
  s1 : G.start < G.names
  p : G.prods.length ≤ 400
  l : G.levels.length = 0 ∨ (G.levels.length : Int) = G.terms
  s : G.sides.length ≤ 50
  sd : ∀ x ∈ G.sides, 1 ≤ x ∧ x ≤ 3
  lv : ∀ x ∈ G.levels, 0 ≤ x ∧ x ≤ G.sides.length
  pr : ∀ p ∈ G.prods, PrOk G p
open Classical in
noncomputable def okB (G : Gr) : Bool := decide (GOk G)
theorem okB_t {G : Gr} (h : GOk G) : okB G = true := by unfold okB; simp [h]
theorem okB_f {G : Gr} (h : ¬ GOk G) : okB G = false := by unfold okB; simp [h]
theorem okB_iff {G : Gr} : okB G = true ↔ GOk G := by unfold okB; simp
theorem getI {l : List Int} {k n : Nat} (hl : l.length = n) (h : k < n) : l[k]? = some (nth l k) := nth_some (by omega)

end Go.Proofs.YtiklbannoinioaaDoor
namespace Go.Proofs.YtiklbannoinioaaDoor
open Go.RowKit BigFrame Go.Maps
set_option linter.unusedVariables false
set_option linter.unusedSimpArgs false
set_option maxRecDepth 100000

theorem mem_rtN {G : Gr} (hk : GOk G) {p : Nat} (hp : p < G.prods.length) : PrOk G (prodAt G (p : Int)) := by
  unfold prodAt
  rw [List.getD_eq_getElem?_getD, Int.toNat_natCast, List.getElem?_eq_getElem hp]
  exact hk.pr _ (List.getElem_mem hp)
theorem rtN_len {G : Gr} (hk : GOk G) {p : Nat} (hp : p < G.prods.length) : (rtN G p).length ≤ 20 := (mem_rtN hk hp).r
theorem rtN_sym {G : Gr} (hk : GOk G) {p : Nat} (hp : p < G.prods.length) {s : Int} (hs : s ∈ rtN G p) : -300 ≤ s ∧ s < 300 ∧ -G.names ≤ s ∧ s < G.terms := by
  have h := (mem_rtN hk hp).s s hs
  have h1 := hk.t1
  have h2 := hk.n1
  omega
/-- Production p as it lies in memory. -/
theorem RdP.rt {w : World} {B : Nat} {A : Option Addr} {n c : Nat} {G : Gr} (h : RdP w B A n c G.prods) {p : Nat} (hp : p < n) :
    ∃ b off A' n' c', A = some ⟨b, off, none⟩ ∧ b < B ∧ w.cell? ⟨b, off + p * 3, none⟩ = some (.int .i64 (lfN G p)) ∧ w.cell? ⟨b, off + p * 3 + 1, none⟩ = some (.slice A' n' c') ∧ (rtN G p).length = n' ∧ n' ≤ c' ∧ c' ≤ maxLen ∧ RdI w B A' (rtN G p) := by
  obtain ⟨b, off, e, hb, hc⟩ := h.at_ (by omega)
  obtain ⟨x, r, y, A', n', c', q, z1, z2, _, q1, q2, q3, q4⟩ := hc p hp
  have e1 : prodAt G (p : Int) = (x, r, y) := by unfold prodAt; rw [List.getD_eq_getElem?_getD, Int.toNat_natCast, q]; rfl
  refine ⟨b, off, A', n', c', e, hb, ?_, z2, ?_, q2, q3, ?_⟩
  · unfold lfN; rw [e1]; exact z1
  · unfold rtN; rw [e1]; exact q1
  · unfold rtN; rw [e1]; exact q4

theorem restB_step (C : Ct) (inp : List Int) (s : Int) (r : List Int) (i j : Nat) : restB C inp (s :: r) i j = (mids i j).any fun m => stB C inp s i m && restB C inp r m j := by rw [restB]
theorem ChIn.bel {G : Gr} {Ap Al As : Option Addr} {np cp nl cl ns cs : Nat} {Ai : Option Addr} {ni ci : Nat} {inp : List Int} {C : Ct} {w w' : World} {S : Nat → Prop} {B c m : Nat} (h : ChIn w S B c m G Ap Al As np cp nl cl ns cs Ai ni ci inp C) (hS : ∀ b, S b → b < w.heap.size) (hb : Below w.heap.size w w') : ChIn w' S B c m G Ap Al As np cp nl cl ns cs Ai ni ci inp C :=
  h.kp (Kp.of (S := fun _ => False) hb) hS (fun _ _ q => q)

section
variable (G : Gr) (Ap Al As : Option Addr) (np cp nl cl ns cs : Nat) (Ai : Option Addr) (ni ci : Nat) (inp : List Int) (C : Ct)
set_option maxHeartbeats 4000000 in
theorem rest_any (hk : GOk G) (S : Nat → Prop) (B c m p : Nat) (hp : p < np) (hn : ni ≤ 100) : ∀ (d at_ : Nat), at_ + d = (rtN G p).length → ∀ (i j : Nat), i ≤ ni → j ≤ ni → ∀ (w : World), B ≤ w.heap.size → (∀ b, S b → b < w.heap.size) → ChIn w S B c m G Ap Al As np cp nl cl ns cs Ai ni ci inp C →
    Calls Tryd.prog 39 #[.pointer (some ⟨c, 0, none⟩), .int .i64 p, .int .i64 at_, .int .i64 i, .int .i64 j] w fun e w' => e = .returned (.bool (restB C inp ((rtN G p).drop at_) i j)) ∧ Below w.heap.size w w' := by
  intro d
  induction d with
  | zero =>
    intro at_ hat i j hi hj w hB hS h
    have hpl : G.prods.length = np := h.gi.p.len.1
    obtain ⟨b, off, A', n', c', rfl, hb, z0, z1, e1, e2, e3, e4⟩ := h.gi.p.rt hp
    have z3 := h.g3
    obtain rfl : at_ = n' := by omega
    have hl := rtN_len hk (p := p) (by omega)
    by_cases q : i = j
    · rw [show restB C inp ((rtN G p).drop at_) i j = true by rw [List.drop_eq_nil_of_le (by omega), restB]; exact decide_eq_true q]
      subst q
      clear h e4 z0
      go_enter Tryd.func39, Tryd.ntmps39
      go_wp2_with fail
      go_ret
      exact ⟨rfl, Below.refl _ _⟩
    · rw [show restB C inp ((rtN G p).drop at_) i j = false by rw [List.drop_eq_nil_of_le (by omega), restB]; exact decide_eq_false q]
      have d1 : ((i : Int) == (j : Int)) = false := by simp; omega
      clear q h e4 z0
      go_enter Tryd.func39, Tryd.ntmps39
      go_wp2_with fail
      go_ret
      exact ⟨rfl, Below.refl _ _⟩
  | succ d ih =>
    intro at_ hat i j hi hj w hB hS h
    have hpl : G.prods.length = np := h.gi.p.len.1
    obtain ⟨b, off, A', n', c', rfl, hb, z0, z1, e1, e2, e3, e4⟩ := h.gi.p.rt hp
    have z3 := h.g3
    have hl := rtN_len hk (p := p) (by omega)
    obtain ⟨rb, ro, rfl, hrb, hrc⟩ := e4.at_ (by omega)
    have zs0 := hrc at_ (by omega)
    have hsm := rtN_sym hk (p := p) (by omega) (s := nth (rtN G p) at_) (by rw [nth_get (by omega)]; exact List.getElem_mem _)
    have hdr : (rtN G p).drop at_ = nth (rtN G p) at_ :: (rtN G p).drop (at_ + 1) := by rw [List.drop_eq_getElem_cons (by omega), nth_get (by omega)]
    obtain ⟨s, hs⟩ : ∃ s, s = nth (rtN G p) at_ := ⟨_, rfl⟩
    rw [← hs] at zs0 hsm hdr
    rw [hdr]
    have HIH := Lib.hid ih; have HH := Lib.hid h; have HS := Lib.hid hS
    have hne : ¬ at_ = n' := by omega
    have d0 : ((at_ : Int) == (n' : Int)) = false := by simp; omega
    have hlt : at_ < n' := by omega
    unfold maxLen at e3
    clear ih h hS z0 hrc hdr hs e4
    go_enter Tryd.func39, Tryd.ntmps39
    go_wp2_with fail
    go_loopw [12] (fun v wr => ∃ k : Nat, v = .int .i64 ((i + k : Nat) : Int) ∧ k ≤ j + 1 - i ∧ Hid (∀ m, m ∈ midsTo i k → (stB C inp s i m && restB C inp ((rtN G p).drop (at_ + 1)) m j) = false) ∧ Hid (Below w.heap.size w wr)) (fun v _ => j + 1 - (intOf v).toNat)
    case atStart => exact ⟨0, rfl, Nat.zero_le _, Lib.hid (fun m hm => by simp [midsTo] at hm), Lib.hid (Below.refl _ _)⟩
    case round =>
      obtain ⟨k, rfl, hk1, HA, HB⟩ := hrel
      obtain ⟨mm, hmm⟩ : ∃ mm, mm = i + k := ⟨_, rfl⟩
      rw [← hmm]
      have HMM := Lib.hid hmm
      have hmk : mm ≤ i + k := by omega
      have hmk2 : i ≤ mm := by omega
      have hik : i + k ≤ mm := by omega
      clear hmm
      have hw := HB.out
      have hcr := HH.out.bel HS.out hw
      have hSr : ∀ b, S b → b < wr.heap.size := fun b q => Nat.lt_of_lt_of_le (HS.out b q) hw.size
      by_cases q : mm ≤ j
      · have dq : decide (mm ≤ j) = true := decide_eq_true q
        obtain ⟨P1, P2⟩ := partStands_any _ _ _ _ _ _ _ _ _ _ Ai ni ci inp C S B c m s i mm (by omega) (by omega) (by omega) hn wr (Nat.le_trans hB hw.size) hSr hcr
        have zs := (hw.cell (p := ⟨rb, ro + at_, none⟩) (lt_cell zs0)).trans zs0
        have HO := Lib.hid (of_any s i mm (by omega) wr)
        have HQ := Lib.hid (show mm ∈ mids i j by rw [mem_mids]; omega)
        have HIJ : Hid (∀ w', Below wr.heap.size wr w' → Calls Tryd.prog 39 #[.pointer (some ⟨c, 0, none⟩), .int .i64 p, .int .i64 ((at_ : Int) + 1), .int .i64 mm, .int .i64 j] w' fun e w'' => e = .returned (.bool (restB C inp ((rtN G p).drop (at_ + 1)) mm j)) ∧ Below w'.heap.size w' w'') := Lib.hid (fun w' hb' => by
          have := HIH.out (at_ + 1) (by omega) mm j (by omega) hj w' (by have := hb'.size; have := hw.size; omega) (fun b q => Nat.lt_of_lt_of_le (hSr b q) hb'.size) (hcr.bel hSr hb')
          exact this)
        have hbs := restB_step C inp s ((rtN G p).drop (at_ + 1)) i j
        have HBS := Lib.hid hbs
        clear hcr hw HIH hbs
        have finT : stB C inp s i mm = true → restB C inp ((rtN G p).drop (at_ + 1)) mm j = true → restB C inp (s :: (rtN G p).drop (at_ + 1)) i j = true := fun e1 e2 => by
          rw [HBS.out, List.any_eq_true]
          exact ⟨mm, HQ.out, by rw [e1, e2]; rfl⟩
        have finF : (stB C inp s i mm && restB C inp ((rtN G p).drop (at_ + 1)) mm j) = false → ∀ m, m ∈ midsTo i (k + 1) → (stB C inp s i m && restB C inp ((rtN G p).drop (at_ + 1)) m j) = false := fun e m hm => by
          rw [midsTo_succ, List.mem_append, List.mem_singleton, ← HMM.out] at hm
          rcases hm with hm | rfl
          · exact HA.out m hm
          · exact e
        have FT := Lib.hid finT; have FF := Lib.hid finF
        clear finT finF
        by_cases q0 : 0 ≤ s
        · obtain ⟨ev, hst⟩ := P1 q0
          rw [ev] at HO
          have HST := Lib.hid hst
          clear P1 P2 hst ev q0
          cases e1 : stB C inp s i mm with
          | false =>
            as_aux_lemma =>
              rw [e1] at HST FF
              go_wp2_with fail
              refine HO.out.mono ?_
              rintro e w' ⟨rfl, rfl⟩
              go_wp2_with fail
              refine HST.out.mono ?_
              rintro e w' ⟨rfl, hb⟩
              go_wp2_with fail
              go_roundw
              case rel => exact ⟨k + 1, by rw [HMM.out]; rfl, by omega, Lib.hid (FF.out rfl), Lib.hid (HB.out.trans (hb.mono HB.out.size))⟩
              case measure => simp [intOf]; omega
          | true =>
            as_aux_lemma =>
              rw [e1] at HST FF FT
              cases e2 : restB C inp ((rtN G p).drop (at_ + 1)) mm j with
              | false =>
                rw [e2] at HIJ FF
                go_wp2_with fail
                refine HO.out.mono ?_
                rintro e w' ⟨rfl, rfl⟩
                go_wp2_with fail
                refine HST.out.mono ?_
                rintro e w' ⟨rfl, hb⟩
                have HIK := Lib.hid (HIJ.out w' hb)
                go_wp2_with fail
                refine HIK.out.mono ?_
                rintro e w'' ⟨rfl, hb2⟩
                go_wp2_with fail
                go_roundw
                case rel => exact ⟨k + 1, by rw [HMM.out]; rfl, by omega, Lib.hid (FF.out rfl), Lib.hid (HB.out.trans ((hb.trans (hb2.mono hb.size)).mono HB.out.size))⟩
                case measure => simp [intOf]; omega
              | true =>
                rw [e2] at HIJ FT
                have FV := Lib.hid (FT.out rfl rfl)
                clear FT
                go_wp2_with fail
                refine HO.out.mono ?_
                rintro e w' ⟨rfl, rfl⟩
                go_wp2_with fail
                refine HST.out.mono ?_
                rintro e w' ⟨rfl, hb⟩
                have HIK := Lib.hid (HIJ.out w' hb)
                go_wp2_with fail
                refine HIK.out.mono ?_
                rintro e w'' ⟨rfl, hb2⟩
                go_wp2_with fail
                go_ret
                exact ⟨ret_eq (by rw [FV.out]; rfl), HB.out.trans ((hb.trans (hb2.mono hb.size)).mono HB.out.size)⟩
        · obtain ⟨a, HAA, ev, hst⟩ := P2 q0
          rw [ev] at HO
          have HST := Lib.hid hst
          clear P1 P2 hst ev q0
          cases e1 : stB C inp s i mm with
          | false =>
            as_aux_lemma =>
              rw [e1] at HST FF
              go_wp2_with fail
              refine HO.out.mono ?_
              rintro e w' ⟨rfl, rfl⟩
              go_wp2_with fail
              refine HST.out.mono ?_
              rintro e w' ⟨rfl, hb⟩
              go_wp2_with fail
              go_roundw
              case rel => exact ⟨k + 1, by rw [HMM.out]; rfl, by omega, Lib.hid (FF.out rfl), Lib.hid (HB.out.trans (hb.mono HB.out.size))⟩
              case measure => simp [intOf]; omega
          | true =>
            as_aux_lemma =>
              rw [e1] at HST FF FT
              cases e2 : restB C inp ((rtN G p).drop (at_ + 1)) mm j with
              | false =>
                rw [e2] at HIJ FF
                go_wp2_with fail
                refine HO.out.mono ?_
                rintro e w' ⟨rfl, rfl⟩
                go_wp2_with fail
                refine HST.out.mono ?_
                rintro e w' ⟨rfl, hb⟩
                have HIK := Lib.hid (HIJ.out w' hb)
                go_wp2_with fail
                refine HIK.out.mono ?_
                rintro e w'' ⟨rfl, hb2⟩
                go_wp2_with fail
                go_roundw
                case rel => exact ⟨k + 1, by rw [HMM.out]; rfl, by omega, Lib.hid (FF.out rfl), Lib.hid (HB.out.trans ((hb.trans (hb2.mono hb.size)).mono HB.out.size))⟩
                case measure => simp [intOf]; omega
              | true =>
                rw [e2] at HIJ FT
                have FV := Lib.hid (FT.out rfl rfl)
                clear FT
                go_wp2_with fail
                refine HO.out.mono ?_
                rintro e w' ⟨rfl, rfl⟩
                go_wp2_with fail
                refine HST.out.mono ?_
                rintro e w' ⟨rfl, hb⟩
                have HIK := Lib.hid (HIJ.out w' hb)
                go_wp2_with fail
                refine HIK.out.mono ?_
                rintro e w'' ⟨rfl, hb2⟩
                go_wp2_with fail
                go_ret
                exact ⟨ret_eq (by rw [FV.out]; rfl), HB.out.trans ((hb.trans (hb2.mono hb.size)).mono HB.out.size)⟩
      · have dq : decide (mm ≤ j) = false := decide_eq_false q
        have HF := Lib.hid (show restB C inp (s :: (rtN G p).drop (at_ + 1)) i j = false by
          rw [restB_step, List.any_eq_false]
          intro m hm
          have := HA.out m (by
            rw [mem_mids] at hm
            unfold midsTo
            rw [List.mem_map]
            exact ⟨m - i, by rw [List.mem_range]; omega, by omega⟩)
          rw [this]; simp)
        clear hcr q hw
        go_wp2_with fail
        go_ret
        exact ⟨ret_eq (by rw [HF.out]; rfl), HB.out⟩
end
end Go.Proofs.YtiklbannoinioaaDoor
namespace Go.Proofs.YtiklbannoinioaaDoor
open Go.RowKit BigFrame Go.Maps
set_option linter.unusedVariables false
set_option linter.unusedSimpArgs false
set_option maxRecDepth 100000

/-- The items of a place, and those still to do, when one more comes. -/
def stP (q : List K3 × List K3) (x : K3) : List K3 × List K3 := if x ∈ q.1 then q else (q.1 ++ [x], q.2 ++ [x])
theorem stP_fst (l todo : List K3) (x : K3) : (stP (l, todo) x).1 = insI l x := by unfold stP insI; split <;> rfl
theorem stP_snd (l todo : List K3) (x : K3) : (stP (l, todo) x).2 = if x ∈ l then todo else todo ++ [x] := by unfold stP; split <;> rfl
theorem stP_len (q : List K3 × List K3) (x : K3) : (stP q x).1.length ≤ q.1.length + 1 ∧ (stP q x).2.length ≤ q.2.length + 1 := by unfold stP; split <;> simp
theorem foldP_len : ∀ (xs : List K3) (q : List K3 × List K3), (xs.foldl stP q).1.length ≤ q.1.length + xs.length ∧ (xs.foldl stP q).2.length ≤ q.2.length + xs.length
  | [], q => ⟨Nat.le_refl _, Nat.le_refl _⟩
  | x :: xs, q => by
    have h1 := stP_len q x
    have h2 := foldP_len xs (stP q x)
    simp only [List.foldl_cons, List.length_cons]
    omega
theorem own_cell3 {w : World} {N : Nat} {v : Value} {l : List K3} {g : Nat} (h : w.ownsRow N 92 3 v l.length (itC l)) (hg : v.ownBlock = some g) {j : Nat} {x : K3} (hx : l[j]? = some x) :
    w.cell? ⟨g, j * 3, none⟩ = some (.int .i64 (x.1 : Int)) ∧ w.cell? ⟨g, j * 3 + 1, none⟩ = some (.int .i64 (x.2.1 : Int)) ∧ w.cell? ⟨g, j * 3 + 2, none⟩ = some (.int .i64 (x.2.2 : Int)) := by
  obtain ⟨e1, e2, e3⟩ := itC_get hx
  rcases h.2 with ⟨rfl, _⟩ | ⟨g', cap, cur, rfl, q⟩
  · simp [Value.ownBlock] at hg
  · simp only [Value.ownBlock, Option.some.injEq] at hg
    subst hg
    have hadd : ∀ o, (⟨g', 0, none⟩ : Addr).add o = ⟨g', o, none⟩ := fun o => by unfold Addr.add; split <;> simp_all
    have c := h.cells (g := g') rfl
    have c0 := c _ _ e1
    have c1 := c _ _ e2
    have c2 := c _ _ e3
    rw [hadd] at c0 c1 c2
    exact ⟨c0, c1, c2⟩
/-- A row that a loop reads, while what is put may turn the set's row behind it. -/
structure Snp (w : World) (s mk tb : Nat) (lv tv : Value) (n g o : Nat) (l1 : List K3) : Prop where
  cells : ∀ (j : Nat) (y : K3), l1[j]? = some y → w.cell? ⟨g, o + j * 3, none⟩ = some (.int .i64 (y.1 : Int)) ∧ w.cell? ⟨g, o + j * 3 + 1, none⟩ = some (.int .i64 (y.2.1 : Int)) ∧ w.cell? ⟨g, o + j * 3 + 2, none⟩ = some (.int .i64 (y.2.2 : Int))
  lt : g < w.heap.size
  ne : g ≠ s ∧ g ≠ mk ∧ g ≠ tb
  own : lv.ownBlock = some g → o = 0 ∧ l1.length ≤ n
  tne : tv.ownBlock ≠ some g
theorem Snp.quiet {w w' : World} {s mk tb n g o : Nat} {lv tv : Value} {l1 : List K3} (h : Snp w s mk tb lv tv n g o l1) (hb : Below w.heap.size w w') : Snp w' s mk tb lv tv n g o l1 :=
  ⟨fun j y hy => by
    obtain ⟨h1, h2, h3⟩ := h.cells j y hy
    exact ⟨(hb.cell (p := ⟨g, o + j * 3, none⟩) h.lt).trans h1, (hb.cell (p := ⟨g, o + j * 3 + 1, none⟩) h.lt).trans h2, (hb.cell (p := ⟨g, o + j * 3 + 2, none⟩) h.lt).trans h3⟩, Nat.lt_of_lt_of_le h.lt hb.size, h.ne, h.own, h.tne⟩
theorem Snp.put {w w' : World} {s mk tb n n' g o : Nat} {lv tv lv' tv' : Value} {l1 : List K3} (h : Snp w s mk tb lv tv n g o l1) (e : PutE s mk tb lv tv n w lv' tv' w') (hn : n ≤ n') : Snp w' s mk tb lv' tv' n' g o l1 := by
  have key : ∀ q, q < l1.length * 3 → w'.cell? ⟨g, o + q, none⟩ = w.cell? ⟨g, o + q, none⟩ := fun q ho => by
    by_cases q1 : lv.ownBlock = some g
    · obtain ⟨e1, e2⟩ := h.own q1
      exact e.pre g q1 (o + q) (by omega)
    · exact e.kp.cell (p := ⟨g, o + q, none⟩) h.lt (fun e2 => by
        rcases e2 with e2 | e2 | e2 | e2 | e2
        · exact h.ne.1 e2
        · exact h.ne.2.1 e2
        · exact h.ne.2.2 e2
        · exact q1 e2
        · exact h.tne e2)
  refine ⟨fun j y hy => ?_, Nat.lt_of_lt_of_le h.lt e.kp.size, h.ne, fun q => ?_, fun q => ?_⟩
  · obtain ⟨h1, h2, h3⟩ := h.cells j y hy
    have hj := (List.getElem?_eq_some_iff.1 hy).1
    exact ⟨(key (j * 3) (by omega)).trans h1, (key (j * 3 + 1) (by omega)).trans h2, (key (j * 3 + 2) (by omega)).trans h3⟩
  · rcases e.lo with q2 | ⟨g', q2, q3⟩
    · obtain ⟨e1, e2⟩ := h.own (q2 ▸ q)
      exact ⟨e1, Nat.le_trans e2 hn⟩
    · rw [q2] at q
      cases q
      have := h.lt
      omega
  · rcases e.too with q2 | ⟨g', q2, q3⟩
    · exact h.tne (q2 ▸ q)
    · rw [q2] at q
      cases q
      have := h.lt
      omega
/-- What fill has at hand: nothing but the set of its place, its map, the map of spans and what came of late has turned since w0; its boxes. -/
structure FiEnv (w0 w : World) (s mk ms c tq cb tob tb pbx ns : Nat) (L : List K3) : Prop where
  kp : Kp (fun k => k = s ∨ k = mk ∨ k = ms ∨ w0.heap.size ≤ k) w0 w
  cB : Blk w cb 42 [.pointer (some ⟨c, 0, none⟩)]
  tO : Blk w tob 3 [.int .i64 (tq : Int)]
  sp : SpM w ms ns L
  mm : ms ≠ mk
  pB : Blk w pbx 94 [.func (.func 33) #[] #[.pointer (some ⟨cb, 0, none⟩), .pointer (some ⟨tob, 0, none⟩), .pointer (some ⟨tb, 0, none⟩)]]
section
variable {w0 w w' : World} {N s mk ms c tq cb tob tb pbx n ns : Nat} {L l todo : List K3} {lv tv lv' tv' : Value}
theorem FiEnv.put (h : FiEnv w0 w s mk ms c tq cb tob tb pbx ns L) (hF : FiSt w N s mk tb l todo lv tv) (hN : w0.heap.size ≤ N) (htb : w0.heap.size ≤ tb) (e : PutE s mk tb lv tv n w lv' tv' w') : FiEnv w0 w' s mk ms c tq cb tob tb pbx ns L := by
  have a := hF.apart
  obtain ⟨f, hm, _⟩ := hF.im
  have far : ∀ (g : Nat) (t : TypeId) (vs : List Value), Blk w g t vs → t ≠ 72 → t ≠ 70 → t ≠ 92 → Blk w' g t vs := fun g t vs hb h1 h2 h3 => blk_kp hb e.kp (fun q => by
    rcases q with q | q | q | q | q
    · exact blk_ne hb hF.sb h1 q
    · exact hm.ne hb q.symm
    · exact blk_ne hb hF.tB h2 q
    · obtain ⟨us, hu⟩ := own_blk hF.ol q
      exact blk_ne hb hu h3 rfl
    · obtain ⟨us, hu⟩ := own_blk hF.ot q
      exact blk_ne hb hu h3 rfl)
  refine ⟨h.kp.trans (e.kp.mono ?_), far _ _ _ h.cB (by decide) (by decide) (by decide), far _ _ _ h.tO (by decide) (by decide) (by decide), ?_, h.mm, far _ _ _ h.pB (by decide) (by decide) (by decide)⟩
  rotate_left
  · refine KMap.keep h.sp e.kp (fun q => ?_)
    rcases q with q | q | q | q | q
    · exact KMap.ne h.sp hF.sb q
    · exact h.mm q
    · exact KMap.ne h.sp hF.tB q
    · obtain ⟨us, hu⟩ := own_blk hF.ol q
      exact KMap.ne h.sp hu rfl
    · obtain ⟨us, hu⟩ := own_blk hF.ot q
      exact KMap.ne h.sp hu rfl
  intro k hk q
  rcases q with q | q | q | q | q
  · exact .inl q
  · exact .inr (.inl q)
  · exact .inr (.inr (.inr (by omega)))
  · have := (hF.ol.lt k q).1
    exact .inr (.inr (.inr (by omega)))
  · have := (hF.ot.lt k q).1
    exact .inr (.inr (.inr (by omega)))
theorem FiEnv.quiet (h : FiEnv w0 w s mk ms c tq cb tob tb pbx ns L) (hb : Below w.heap.size w w') : FiEnv w0 w' s mk ms c tq cb tob tb pbx ns L :=
  ⟨h.kp.trans ((Kp.of (S := fun _ => False) hb).mono fun _ _ q => q.elim), h.cB.below' hb, h.tO.below' hb, KMap.keep h.sp (Kp.of (S := fun _ => False) hb) (fun q => q), h.mm, h.pB.below' hb⟩
end
/-- The chart as it is being filled: what stays as it is, of blocks of S. -/
structure ChD (w : World) (S : Nat → Prop) (B c bi ms : Nat) (sf : Nat → Nat) (G : Gr) (Ap Al As : Option Addr) (np cp nl cl ns cs : Nat) (Ai : Option Addr) (ni ci : Nat) (inp : List Int) : Prop where
  lo : ∀ k, k < B → S k
  cS : S c
  g0 : w.cell? ⟨c, 0, none⟩ = some (.int .i64 G.terms)
  g1 : w.cell? ⟨c, 1, none⟩ = some (.int .i64 G.names)
  g2 : w.cell? ⟨c, 2, none⟩ = some (.int .i64 G.start)
  g3 : w.cell? ⟨c, 3, none⟩ = some (.slice Ap np cp)
  gi : GrIn w B G Ap Al As np cp nl cl ns cs
  c6 : w.cell? ⟨c, 6, none⟩ = some (.slice Ai ni ci)
  li : inp.length = ni
  mi : ni ≤ ci ∧ ci ≤ maxLen
  ri : RdI w B Ai inp
  by_ : ∃ bn nb cb, w.cell? ⟨c, 7, none⟩ = some (.slice (some ⟨bn, 0, none⟩) nb cb) ∧ (nb : Int) = G.names ∧ nb ≤ cb ∧ cb ≤ maxLen ∧ S bn ∧ ∀ a, a < nb → ∃ A' c', w.cell? ⟨bn, a, none⟩ = some (.slice A' (byN G a).length c') ∧ (byN G a).length ≤ c' ∧ c' ≤ maxLen ∧ RdS w S A' ((byN G a).map fun (p : Nat) => (p : Int))
  i8 : ∃ cb, w.cell? ⟨c, 8, none⟩ = some (.slice (some ⟨bi, 0, none⟩) (ni + 1) cb) ∧ ni + 1 ≤ cb ∧ cb ≤ maxLen
  biS : S bi
  sp : ∀ k, k ≤ ni → w.cell? ⟨bi, k, none⟩ = some (.pointer (some ⟨sf k, 0, none⟩))
  c9 : w.cell? ⟨c, 9, none⟩ = some (.map (some ms))
section
variable {w w' : World} {S : Nat → Prop} {B c bi ms : Nat} {sf : Nat → Nat} {G : Gr} {Ap Al As : Option Addr} {np cp nl cl ns cs : Nat} {Ai : Option Addr} {ni ci : Nat} {inp : List Int}
theorem ChD.keep (h : ChD w S B c bi ms sf G Ap Al As np cp nl cl ns cs Ai ni ci inp) (hk : ∀ b, S b → w'.heap[b]? = w.heap[b]?) (ho : w'.os = w.os) (ht : w'.tape = w.tape) (hp : w'.output = w.output) (hs : w.heap.size ≤ w'.heap.size) : ChD w' S B c bi ms sf G Ap Al As np cp nl cl ns cs Ai ni ci inp := by
  have kc : ∀ (a : Addr), S a.block → w'.cell? a = w.cell? a := fun a q => World.cell?_of_block (hk a.block q)
  have hb : Below B w w' := ⟨ho, ht, hp, hs, fun k q => hk k (h.lo k q)⟩
  refine ⟨h.lo, h.cS, (kc ⟨c, 0, none⟩ h.cS).trans h.g0, (kc ⟨c, 1, none⟩ h.cS).trans h.g1, (kc ⟨c, 2, none⟩ h.cS).trans h.g2, (kc ⟨c, 3, none⟩ h.cS).trans h.g3, h.gi.below hb, (kc ⟨c, 6, none⟩ h.cS).trans h.c6, h.li, h.mi, h.ri.below hb, ?_, ?_, h.biS, fun k q => (kc ⟨bi, k, none⟩ h.biS).trans (h.sp k q), (kc ⟨c, 9, none⟩ h.cS).trans h.c9⟩
  · obtain ⟨bn, nb, cb, e, e1, e2, e3, hS, hr⟩ := h.by_
    refine ⟨bn, nb, cb, (kc ⟨c, 7, none⟩ h.cS).trans e, e1, e2, e3, hS, fun a ha => ?_⟩
    obtain ⟨A', c', z, q1, q2, r⟩ := hr a ha
    exact ⟨A', c', (kc ⟨bn, a, none⟩ hS).trans z, q1, q2, r.keep hk⟩
  · obtain ⟨cb, e, e1⟩ := h.i8
    exact ⟨cb, (kc ⟨c, 8, none⟩ h.cS).trans e, e1⟩
theorem ChD.kp {X : Nat → Prop} (h : ChD w S B c bi ms sf G Ap Al As np cp nl cl ns cs Ai ni ci inp) (hk : Kp X w w') (hl : ∀ b, S b → b < w.heap.size ∧ ¬ X b) : ChD w' S B c bi ms sf G Ap Al As np cp nl cl ns cs Ai ni ci inp :=
  h.keep (fun b q => hk.block b (hl b q).1 (hl b q).2) hk.os hk.tape hk.output hk.size
end
section
variable (S : Nat → Prop) (B c bi ms : Nat) (sf : Nat → Nat) (G : Gr) (Ap Al As : Option Addr) (np cp nl cl ns cs : Nat) (Ai : Option Addr) (ni ci : Nat) (inp : List Int)
/-- The productions of a, begun at a place. -/
def begL (G : Gr) (a tq : Nat) : List K3 := (byN G a).map fun p => (p, 0, tq)
set_option maxHeartbeats 4000000 in
theorem begin_any (hk : GOk G) (w0 : World) (hn : ni ≤ 100) (s mk : Nat) (hS : ∀ b, S b → b < w0.heap.size ∧ b ≠ s ∧ b ≠ mk ∧ b ≠ ms) (hD : ChD w0 S B c bi ms sf G Ap Al As np cp nl cl ns cs Ai ni ci inp) (a tq : Nat) (ha : (a : Int) < G.names) (hto : tq ≤ ni) (hsf : sf tq = s)
    (cb tob tb pbx N ns : Nat) (L l todo : List K3) (lv tv : Value) (w : World) (hE : FiEnv w0 w s mk ms c tq cb tob tb pbx ns L) (hF : FiSt w N s mk tb l todo lv tv) (hN0 : w0.heap.size ≤ N) (hN : N ≤ w.heap.size) (htb : w0.heap.size ≤ tb) (hl : l.length + 400 ≤ 10000000) (ht : todo.length + 400 ≤ 10000000) :
    Calls Tryd.prog 35 #[.int .i64 a, .pointer (some ⟨cb, 0, none⟩), .pointer (some ⟨pbx, 0, none⟩), .pointer (some ⟨tob, 0, none⟩)] w fun e w' => e = .returned (.tuple #[]) ∧
      ∃ lv' tv', FiSt w' N s mk tb ((begL G a tq).foldl stP (l, todo)).1 ((begL G a tq).foldl stP (l, todo)).2 lv' tv' ∧ FiEnv w0 w' s mk ms c tq cb tob tb pbx ns L ∧ w.heap.size ≤ w'.heap.size ∧
        ∀ g o l1, Snp w s mk tb lv tv l.length g o l1 → Snp w' s mk tb lv' tv' ((begL G a tq).foldl stP (l, todo)).1.length g o l1 := by
  have hpl : G.prods.length = np := hD.gi.p.len.1
  obtain ⟨bn, nb, cb7, z7, hnb, hcb1, hcb2, hSbn, hrows⟩ := hD.by_
  obtain ⟨A', c', yr, hr1, hr2, hrs⟩ := hrows a (by omega)
  obtain ⟨cb8, z8, q1, q2⟩ := hD.i8
  have z4 := hD.sp tq hto
  have hcS := hS c hD.cS
  have hbnS := hS bn hSbn
  have hbiS := hS bi hD.biS
  have stay : ∀ (wr : World), FiEnv w0 wr s mk ms c tq cb tob tb pbx ns L → ∀ (q : Addr) (v : Value), w0.cell? q = some v → S q.block → wr.cell? q = some v := fun wr h q v h1 h2 => by
    obtain ⟨h3, h4, h5, h6⟩ := hS q.block h2
    exact (h.kp.cell (p := q) h3 (fun e => by rcases e with e | e | e | e; exact h4 e; exact h5 e; exact h6 e; omega)).trans h1
  have y7 := stay w hE ⟨c, 7, none⟩ _ z7 hD.cS
  have yr' := stay w hE ⟨bn, a, none⟩ _ yr hSbn
  have yb := hE.cB.cell (i := 0) rfl
  have hlen : (byN G a).length ≤ 400 := by
    have := List.length_filter_le (fun p => decide (lfN G p = (a : Int))) (List.range G.prods.length)
    have h2 := hk.p
    unfold byN
    simp at this ⊢
    omega
  obtain ⟨ps, hps⟩ : ∃ ps, ps = byN G a := ⟨_, rfl⟩
  have hpm : ∀ p ∈ ps, p ≤ 400 := fun p hp => by rw [hps] at hp; have := (mem_byN.1 hp).1; have := hk.p; omega
  have hanb : a < nb := by omega
  unfold begL
  rw [← hps] at yr' hr1 hrs hlen ⊢
  have HSTAY := Lib.hid stay; have HRS := Lib.hid hrs; have HE := Lib.hid hE; have HF := Lib.hid hF; have HPM := Lib.hid hpm; have HZ := Lib.hid (And.intro z8 z4); have HDD := Lib.hid hD
  unfold maxLen at hr2 hcb2 q2
  clear stay hrs hE hF hpm hps yr z7 z8 z4 hD hrows hnb
  obtain ⟨lv0, hlv0⟩ : ∃ lv0, lv0 = lv := ⟨_, rfl⟩
  obtain ⟨tv0, htv0⟩ : ∃ tv0, tv0 = tv := ⟨_, rfl⟩
  rw [← hlv0, ← htv0]
  have HLV := Lib.hid hlv0; have HTV := Lib.hid htv0
  clear hlv0 htv0
  go_enter Tryd.func35, Tryd.ntmps35
  go_wp2_with fail
  go_loopw [15] (fun v wr => ∃ (k : Nat) (lv tv : Value), v = .int .i64 (k : Int) ∧ k ≤ ps.length ∧ Hid (FiSt wr N s mk tb (((ps.take k).map fun p => (p, 0, tq)).foldl stP (l, todo)).1 (((ps.take k).map fun p => (p, 0, tq)).foldl stP (l, todo)).2 lv tv) ∧ Hid (FiEnv w0 wr s mk ms c tq cb tob tb pbx ns L) ∧ Hid (w.heap.size ≤ wr.heap.size) ∧ Hid (∀ g o l1, Snp w s mk tb lv0 tv0 l.length g o l1 → Snp wr s mk tb lv tv (((ps.take k).map fun p => (p, 0, tq)).foldl stP (l, todo)).1.length g o l1)) (fun v _ => ps.length - (intOf v).toNat)
  case atStart => exact ⟨0, lv, tv, rfl, Nat.zero_le _, by simpa using HF, HE, Lib.hid (Nat.le_refl _), Lib.hid (fun g o l1 h => by rw [HLV.out, HTV.out] at h; exact h)⟩
  case round =>
    obtain ⟨k, lv1, tv1, rfl, hkl, HF1, HE1, HW1, HP1⟩ := hrel
    by_cases q : k < ps.length
    · have dq : decide (k < ps.length) = true := decide_eq_true q
      obtain ⟨p, hp⟩ : ∃ p, ps[k]? = some p := ⟨_, List.getElem?_eq_getElem q⟩
      have hpl4 := HPM.out p (List.mem_of_getElem? hp)
      obtain ⟨rb, ro, rfl, hrb, hrc⟩ := HRS.out (by rw [List.length_map]; omega)
      have zp0 := hrc k (by rw [List.length_map]; exact q)
      have e : nth (ps.map fun (p : Nat) => (p : Int)) k = (p : Int) := by unfold nth; rw [List.getD_eq_getElem?_getD, List.getElem?_map, hp]; rfl
      rw [e] at zp0
      have v1 := HSTAY.out wr HE1.out ⟨rb, ro + k, none⟩ _ zp0 hrb
      have v2 := HE1.out.pB.cell (i := 0) rfl
      have v3 := HE1.out.tO.cell (i := 0) rfl
      have hfl := foldP_len ((ps.take k).map fun p => (p, 0, tq)) (l, todo)
      rw [List.length_map, List.length_take] at hfl
      have hput := put_any cb tob tb c tq s mk bi (ni + 1) cb8 N _ _ lv1 tv1 (p, 0, tq) ⟨by simp only; omega, by simp only; omega, by simp only; omega⟩ wr HF1.out (Nat.le_trans hN HW1.out) (HE1.out.cB.cell (i := 0) rfl) (HE1.out.tO.cell (i := 0) rfl) (HSTAY.out wr HE1.out ⟨c, 8, none⟩ _ HZ.out.1 HDD.out.cS) (by rw [← hsf]; exact HSTAY.out wr HE1.out ⟨bi, tq, none⟩ _ HZ.out.2 HDD.out.biS) (by omega) q1 (by omega) (by simp only at hfl ⊢; omega) (by simp only at hfl ⊢; omega)
      have HPUT := Lib.hid hput; have HP := Lib.hid hp
      unfold kV at HPUT
      clear hput e hrc zp0 hp hfl
      go_wp2_with fail
      refine HPUT.out.mono ?_
      rintro e w3 ⟨rfl, lv2, tv2, hF2, hPE⟩
      have hE3 := HE1.out.put HF1.out hN0 htb hPE
      have hsz := hPE.kp.size
      have hfold : ((ps.take (k + 1)).map fun p => (p, 0, tq)).foldl stP (l, todo) = stP (((ps.take k).map fun p => (p, 0, tq)).foldl stP (l, todo)) (p, 0, tq) := by
        rw [List.take_add_one, HP.out, List.map_append, List.foldl_append]
        rfl
      have HF2 : Hid (FiSt w3 N s mk tb (((ps.take (k + 1)).map fun p => (p, 0, tq)).foldl stP (l, todo)).1 (((ps.take (k + 1)).map fun p => (p, 0, tq)).foldl stP (l, todo)).2 lv2 tv2) := Lib.hid (by
        rw [hfold]
        have h1 := stP_fst (((ps.take k).map fun p => (p, 0, tq)).foldl stP (l, todo)).1 (((ps.take k).map fun p => (p, 0, tq)).foldl stP (l, todo)).2 (p, 0, tq)
        have h2 := stP_snd (((ps.take k).map fun p => (p, 0, tq)).foldl stP (l, todo)).1 (((ps.take k).map fun p => (p, 0, tq)).foldl stP (l, todo)).2 (p, 0, tq)
        rw [h1, h2]
        exact hF2)
      have HP3 : Hid (∀ g o l1, Snp w s mk tb lv0 tv0 l.length g o l1 → Snp w3 s mk tb lv2 tv2 (((ps.take (k + 1)).map fun p => (p, 0, tq)).foldl stP (l, todo)).1.length g o l1) := Lib.hid (fun g o l1 h => (HP1.out g o l1 h).put hPE (by
        rw [hfold]
        unfold stP
        split <;> simp))
      have HE3 := Lib.hid hE3; have HW3 := Lib.hid (Nat.le_trans HW1.out hsz)
      clear hF2 hPE hE3 hsz hfold HPUT
      go_wp2_with fail
      go_roundw
      case rel => exact ⟨k + 1, lv2, tv2, by simp, by omega, HF2, HE3, HW3, HP3⟩
      case measure => simp [intOf]; omega
    · have dq : decide (k < ps.length) = false := decide_eq_false q
      have HQ := Lib.hid q
      clear q
      go_wp2_with fail
      go_end0
      have h := HF1.out
      have h2 := HP1.out
      rw [List.take_of_length_le (by have := HQ.out; omega)] at h h2
      exact ⟨rfl, lv1, tv1, h, HE1.out, HW1.out, h2⟩
end
end Go.Proofs.YtiklbannoinioaaDoor
