/- The document's table: rows of truths, appended. · The document's numbers: lists of lists, appended. · The contract of grammarsmithlaw1.sameInts. · A grammar that came in as an argument of a statement; lists held against each other. -/
import Derived.Test.YtgfchgnebpogjaaZ10
import Derived.Test.YtgfchgnebpogjaaZ12
import Derived.Test.YtgfchgnebpogjaaProg
import Derived.Test.YtgfchgnebpogjaaZ1
import Derived.WalkSpells
import Derived.WalkLawsBesides
import Derived.Handy
import Derived.Deep.QuietTactic
import Derived.BigQuiet
import Derived.Test.YtgfchgnebpogjaaZ4
namespace Go.Proofs.Ytgfchgnebpogjaa
open Go.RowKit BigFrame
set_option linter.unusedVariables false
set_option linter.unusedSimpArgs false
set_option maxRecDepth 100000

theorem own_blk {w : World} {base : Nat} {e : TypeId} {sz : Nat} {v : Value} {n : Nat} {xs : List Value} (h : w.ownsRow base e sz v n xs) {g : Nat} (hg : v.ownBlock = some g) : ∃ vs, Blk w g e vs := by
  rcases h.2 with ⟨rfl, _⟩ | ⟨g', cap, cur, rfl, _, hh, _⟩
  · simp [Value.ownBlock] at hg
  · simp [Value.ownBlock] at hg
    subst hg
    exact ⟨cur.toList, by unfold Blk; rw [hh]⟩
theorem elSs : ElTy Try.prog 60 38 1 24 (.slice none 0 0) := ⟨Try.underlying60, by kernel_rfl, rfl, by decide⟩
def rwv (T b : Nat) : Value := .slice (some ⟨b, 0, none⟩) T T

set_option maxHeartbeats 2000000 in
theorem rTable_any (N T : Nat) (w : World) (hN0 : 0 < N) (hN : N ≤ 300) (hT : T ≤ 301) :
    Calls Try.prog 64 #[.int .i64 (N : Int), .int .i64 (T : Int)] w fun e w' => ∃ D c ρ, e = .returned (.slice (some ⟨D, 0, none⟩) N c) ∧ N ≤ c ∧ c ≤ maxLen ∧ w.heap.size ≤ D ∧ (∀ k, k < N → w.heap.size ≤ nthN ρ k) ∧ MtSt w' D N T ρ (m0 N T) ∧ Below w.heap.size w w' := by
  have hmk2 : ∀ w : World, (Instr.makeSlice 38 (.int .i64 (T : Int)) (.int .i64 (T : Int))).run Try.prog w = .ok (.slice (some ⟨w.heap.size, 0, none⟩) T T) (w.alloc (.cells (zs (.bool false) T) 4)) := fun w =>
    mk_row elBg rfl .i64 .i64 T _ (by omega) (by omega) (by omega) w
  go_enter Try.func64, Try.ntmps64
  go_wp2_with fail
  go_loopw [5, 6] (fun v i wr => ∃ k : Nat, k ≤ N ∧ i = .int .i64 k ∧ Kp (fun _ => False) w wr ∧ ∃ (ρ : List Nat), Hid (ρ.length = k ∧ wr.ownsRow w.heap.size 38 1 v k (ρ.map (rwv T)) ∧ (∀ i, i < k → w.heap.size ≤ nthN ρ i ∧ Blk wr (nthN ρ i) 4 (bv (List.replicate T false))) ∧ (∀ i j, i < k → j < k → nthN ρ i = nthN ρ j → i = j))) (fun _ i _ => N - (intOf i).toNat)
  case atStart => exact ⟨0, Nat.zero_le _, rfl, Kp.refl _ _, [], rfl, World.ownsRow_nil _ _ _ _, fun i h => absurd h (by omega), fun i j h => absurd h (by omega)⟩
  case round =>
    obtain ⟨k, hk, rfl, hkr, ρ, HR⟩ := hrel
    have hsz := hkr.size
    by_cases hlt : k < N
    · have hown := (HR.out.2.1).alloc (.cells (zs (.bool false) T) 4)
      have hsa : (wr.alloc (.cells (zs (.bool false) T) 4)).heap.size = wr.heap.size + 1 := by simp
      have HO := Lib.hid hown
      clear hown
      go_wp2_with (at_builtin; refine wpList_app elSs rfl (.tmp 12) (.tmp 15) rfl w.heap.size _ k 1 _ [.slice (some ⟨wr.heap.size, 0, none⟩) T T] rfl HO.out (by rw [hsa]; rfl) rfl (by simp [Value.oneCell']) (by omega) (by omega) (by omega) ?_; intro v1 w1 hown1 hg1 hat1; have HG1 := Lib.hid hg1; have HO1 := Lib.hid hown1; clear hown1 hg1 hat1)
      go_roundw
      case rel =>
        obtain ⟨r1, r2, r3, r4⟩ := HR.out
        have hne : ∀ i, i < k → nthN ρ i < wr.heap.size := fun i hi => (r3 i hi).2.lt
        have hgr : ∀ (g : Nat) (vs : List Value), Blk (wr.alloc (.cells (zs (.bool false) T) 4)) g 4 vs → Blk w1 g 4 vs := fun g vs hb => hb.grown HG1.out (fun e => by
          obtain ⟨us, hu⟩ := own_blk HO.out e.symm
          exact absurd (Blk.type_eq hb hu) (by decide))
        refine ⟨k + 1, by omega, by go_num, (hkr.alloc _).grown HG1.out (fun b hb => .inl (HO.out.lt b hb).1), ρ ++ [wr.heap.size], by rw [List.length_append, r1]; rfl, by rw [List.map_append]; exact HO1.out, fun i hi => ?_, fun i j hi hj => ?_⟩
        · rw [nthN_snoc, r1]
          by_cases e : i < k
          · rw [if_pos e]
            exact ⟨(r3 i e).1, hgr _ _ ((r3 i e).2.alloc _)⟩
          · have e2 : i = k := by omega
            subst e2
            rw [if_neg (by omega), if_pos rfl]
            refine ⟨hsz, hgr _ _ ?_⟩
            have := Blk.made wr 4 (.bool false) T
            rw [← bv_rep]; exact this
        · rw [nthN_snoc, nthN_snoc, r1]
          intro h
          by_cases e1 : i < k
          · by_cases e2 : j < k
            · rw [if_pos e1, if_pos e2] at h; exact r4 i j e1 e2 h
            · rw [if_pos e1, if_neg e2, if_pos (by omega)] at h
              have := hne i e1; omega
          · by_cases e2 : j < k
            · rw [if_neg e1, if_pos (by omega), if_pos e2] at h
              have := hne j e2; omega
            · omega
      case measure => simp [intOf]; omega
    · have hkN : k = N := by omega
      subst hkN
      obtain ⟨r1, r2, r3, r4⟩ := HR.out
      rcases r2.2 with ⟨_, h0⟩ | ⟨g, cap, cur, rfl, hb, hg, hn, hc, hs, ht⟩
      · omega
      · go_wp2
        go_ret
        have hgne : ∀ i, i < k → nthN ρ i ≠ g := fun i hi e => by
          have hx := (r3 i hi).2
          rw [e] at hx
          have hy : Blk wr g 38 cur.toList := by unfold Blk; rw [hg]
          exact absurd (Blk.type_eq hx hy) (by decide)
        refine ⟨g, cap, ρ, rfl, hn, hc, hb, fun i hi => (r3 i hi).1, ⟨(Array.getElem?_eq_some_iff.1 hg).1, fun i hi => ?_, r1, by simp [m0], r4, hgne, fun i hi => by rw [rowB_m0 hi]; exact ⟨(r3 i hi).2, List.length_replicate⟩⟩, hkr.bel (Nat.le_refl _) (fun _ _ h => h)⟩
        have := r2.cells (g := g) rfl i (rwv T (nthN ρ i)) (by rw [List.getElem?_map, List.getElem?_eq_getElem (by omega), ← nthN_get (by omega)]; rfl)
        unfold rwv at this
        have ha : (⟨g, 0, none⟩ : Addr).add i = ⟨g, i, none⟩ := by simp [Addr.add]; intro h; exact h.symm
        rw [ha] at this
        exact this
end Go.Proofs.Ytgfchgnebpogjaa
namespace Go.Proofs.Ytgfchgnebpogjaa
open Go.RowKit BigFrame
set_option linter.unusedVariables false
set_option linter.unusedSimpArgs false
set_option maxRecDepth 100000

/-- Lists of integers, to be read: a row of slices at D. -/
def LsR (w : World) (B D N : Nat) (L : Nat → List Int) : Prop :=
  D < B ∧ ∀ k, k < N → ∃ A c, w.cell? ⟨D, k, none⟩ = some (.slice A (L k).length c) ∧ (L k).length ≤ c ∧ c ≤ maxLen ∧ RdI w B A (L k)
theorem LsR.below {w w' : World} {B D N : Nat} {L : Nat → List Int} (h : LsR w B D N L) (hb : Below B w w') : LsR w' B D N L :=
  ⟨h.1, fun k hk => by
    obtain ⟨A, c, h1, h2, h3, h4⟩ := h.2 k hk
    exact ⟨A, c, (hb.cell (p := ⟨D, k, none⟩) h.1).trans h1, h2, h3, h4.below hb⟩⟩
theorem own_down {w : World} {base base' : Nat} {e : TypeId} {sz : Nat} {v : Value} {n : Nat} {xs : List Value} (h : w.ownsRow base e sz v n xs) (hb : base' ≤ base) : w.ownsRow base' e sz v n xs :=
  ⟨h.1, h.2.imp id (fun ⟨g, cap, cur, q1, q2, q3⟩ => ⟨g, cap, cur, q1, Nat.le_trans hb q2, q3⟩)⟩
theorem own_one {w : World} {base : Nat} {e : TypeId} {sz : Nat} {v : Value} {n : Nat} {xs : List Value} (h : w.ownsRow base e sz v n xs) : v.oneCell' = true := by
  rcases h.2 with ⟨rfl, _⟩ | ⟨g', cap, cur, rfl, _⟩ <;> rfl
theorem elLl : ElTy Try.prog 40 22 1 24 (.slice none 0 0) := ⟨Try.underlying40, by kernel_rfl, rfl, by decide⟩
/-- Rows appended so far. -/
structure NmSt (w : World) (base : Nat) (v : Value) (k : Nat) (L : Nat → List Int) (vs : List Value) : Prop where
  o : w.ownsRow base 22 1 v k vs
  l : vs.length = k
  r : ∀ j, j < k → ∃ u, vs[j]? = some u ∧ w.ownsRow base 3 1 u (L j).length (iv (L j))
theorem NmSt.keep {w w' : World} {base : Nat} {v : Value} {k : Nat} {L : Nat → List Int} {vs : List Value} (h : NmSt w base v k L vs) (hk : Kp (fun _ => False) w w') : NmSt w' base v k L vs :=
  have hg : w.grownBy w' none := ⟨hk.os, hk.tape, hk.output, hk.size, fun k h1 _ => hk.block k h1 (fun e => e)⟩
  have hn : ∀ u : Value, u.ownBlock = none ∨ u.ownBlock ≠ none := fun u => by cases u.ownBlock <;> simp
  ⟨h.o.kept hg (hn _), h.l, fun j hj => by obtain ⟨u, h1, h2⟩ := h.r j hj; exact ⟨u, h1, h2.kept hg (hn _)⟩⟩

set_option maxHeartbeats 2000000 in
theorem rNums_any (E N T cE : Nat) (ρ : List Nat) (M : List (List Bool)) (w : World) (hN0 : 0 < N) (hN : N ≤ 300) (hT : T ≤ 301) (hM : MtSt w E N T ρ M) (hcE : N ≤ cE) :
    Calls Try.prog 66 #[.slice (some ⟨E, 0, none⟩) N cE] w fun e w' => ∃ D c, e = .returned (.slice (some ⟨D, 0, none⟩) N c) ∧ w.heap.size ≤ D ∧ N ≤ c ∧ c ≤ maxLen ∧ LsR w' w'.heap.size D N (fun k => nums (rowB M k)) ∧ Below w.heap.size w w' := by
  have hmt : ∀ wr, Kp (fun _ => False) w wr → MtSt wr E N T ρ M := fun wr h => hM.keep h (fun e => e) (fun k hk e => e)
  have HMT := Lib.hid hmt
  have hrl : ∀ k, k < N → (rowB M k).length = T := fun k hk => (hM.rows k hk).2
  have HRL := Lib.hid hrl
  clear hM hmt hrl
  go_enter Try.func66, Try.ntmps66
  go_wp2_with fail
  go_loopw [3, 4] (fun v i wr => ∃ k : Nat, k ≤ N ∧ i = .int .i64 k ∧ Kp (fun _ => False) w wr ∧ ∃ vs : List Value, Hid (NmSt wr w.heap.size v k (fun k => nums (rowB M k)) vs)) (fun _ i _ => N - (intOf i).toNat)
  case atStart => exact ⟨0, Nat.zero_le _, rfl, Kp.refl _ _, [], World.ownsRow_nil _ _ _ _, rfl, fun j h => absurd h (by omega)⟩
  case round =>
    obtain ⟨k, hk, rfl, hkr, vs, HV⟩ := hrel
    obtain ⟨wo, rfl⟩ : ∃ wo : World, wo = wr := ⟨_, rfl⟩
    have hsz := hkr.size
    by_cases hlt : k < N
    · have zE := (HMT.out _ hkr).cell hlt
      go_wp2_with fail
      go_loopw [5, 6] (fun v i wr => ∃ j : Nat, j ≤ T ∧ i = .int .i64 j ∧ Kp (fun _ => False) wo wr ∧ Hid (wr.ownsRow wo.heap.size 3 1 v (numsK (rowB M k) j).length (iv (numsK (rowB M k) j)))) (fun _ i _ => T - (intOf i).toNat)
      case atStart => exact ⟨0, Nat.zero_le _, rfl, Kp.refl _ _, World.ownsRow_nil _ _ _ _⟩
      case round =>
        as_aux_lemma =>
          obtain ⟨j, hj, rfl, hkj, HVV⟩ := hrel
          have zE := (HMT.out _ (hkr.trans hkj)).cell hlt
          have hsz2 := hkj.size
          by_cases hjt : j < T
          · as_aux_lemma =>
              have hrw := ((HMT.out _ (hkr.trans hkj)).rows k hlt)
              have zr := hrw.1.bcell (k := j) (by rw [hrw.2]; exact hjt)
              have hsn := numsK_snoc (r := rowB M k) (k := j)
              clear hrw
              cases hbj : bth (rowB M k) j
              · rw [hbj] at zr hsn
                have HSN : Hid (numsK (rowB M k) (j + 1) = numsK (rowB M k) j) := Lib.hid (by rw [hsn]; simp)
                clear hsn hbj
                go_wp2
                go_roundw
                case rel => exact ⟨j + 1, by omega, by go_num, hkj, by show wr.ownsRow _ _ _ _ _ _; rw [HSN.out]; exact HVV.out⟩
                case measure => simp [intOf]; omega
              · rw [hbj] at zr hsn
                have HSN : Hid (numsK (rowB M k) (j + 1) = numsK (rowB M k) j ++ [(j : Int)]) := Lib.hid (by rw [hsn]; simp)
                clear hsn hbj
                have hlen := numsK_len (rowB M k) j
                have hown := HVV.out
                obtain ⟨na, hna⟩ : ∃ na, na = (numsK (rowB M k) j).length := ⟨_, rfl⟩
                rw [← hna] at hown hlen
                have HO := Lib.hid hown; have HNA := Lib.hid hna
                clear hown hna
                go_wp2_with (at_builtin; refine wpList_app elIs rfl (.tmp 29) (.tmp 31) rfl wo.heap.size _ na 1 _ [.int .i64 (j : Int)] rfl HO.out rfl rfl (by simp [Value.oneCell']) (by omega) (by omega) hsz2 ?_; intro v1 w1 hown1 hg1 hat1; have HG1 := Lib.hid hg1; have HO1 : Hid (w1.ownsRow wo.heap.size 3 1 v1 (na + 1) (iv (numsK (rowB M k) j ++ [(j : Int)]))) := Lib.hid (by rw [show iv (numsK (rowB M k) j ++ [(j : Int)]) = iv (numsK (rowB M k) j) ++ iv [(j : Int)] from List.map_append]; exact hown1); clear hown1 hg1 hat1)
                go_roundw
                case rel => exact ⟨j + 1, by omega, by go_num, hkj.grown HG1.out (fun b hb => .inl (HO.out.lt b hb).1), by show w1.ownsRow _ _ _ _ _ _; rw [HSN.out, List.length_append, ← HNA.out]; exact HO1.out⟩
                case measure => simp [intOf]; omega
          · as_aux_lemma =>
              have hjT : j = T := by omega
              have hnm : numsK (rowB M k) j = nums (rowB M k) := by unfold nums; rw [HRL.out k hlt, hjT]
              have hvv := HVV.out
              rw [hnm] at hvv
              have hst := HV.out.keep hkj
              obtain ⟨_, A1, c1, e1, _, _, _⟩ := own_RdF hvv
              subst e1
              have HO := Lib.hid hst; have HU := Lib.hid hvv
              clear hvv hst hnm hjT HVV
              go_wp2_with (at_builtin; refine wpList_app (w0 := wr) elLl rfl (.tmp 33) (.tmp 35) rfl w.heap.size u3 k 1 vs [.slice A1 (nums (rowB M k)).length c1] rfl HO.out.o rfl rfl (by intro u hu; rw [List.mem_singleton] at hu; subst hu; exact own_one HU.out) (by omega) (by omega) (by omega) ?_; intro v1 w1 hown1 hg1 hat1; have HG1 := Lib.hid hg1; have HO1 := Lib.hid hown1; clear hown1 hg1 hat1)
              go_roundw
              case rel =>
                have hne : ∀ (u : Value) (n : Nat) (xs : List Value), wr.ownsRow w.heap.size 3 1 u n xs → w1.ownsRow w.heap.size 3 1 u n xs := fun u n xs hu => hu.kept HG1.out (by
                  cases hob : u.ownBlock with
                  | none => exact .inl rfl
                  | some b =>
                    right
                    intro e
                    obtain ⟨us, h1⟩ := own_blk hu hob
                    obtain ⟨us2, h2⟩ := own_blk HO.out.o e.symm
                    exact absurd (Blk.type_eq h1 h2) (by decide))
                refine ⟨k + 1, by omega, by go_num, (hkr.trans hkj).grown HG1.out (fun b hb => .inl (HO.out.o.lt b hb).1), _, HO1.out, by rw [List.length_append, HO.out.l]; rfl, fun i hi => ?_⟩
                by_cases e : i < k
                · obtain ⟨u, h1, h2⟩ := HO.out.r i e
                  exact ⟨u, by rw [List.getElem?_append_left (by rw [HO.out.l]; exact e)]; exact h1, hne _ _ _ h2⟩
                · have e2 : i = k := by omega
                  subst e2
                  exact ⟨_, by rw [List.getElem?_append_right (by rw [HO.out.l]; omega), HO.out.l, Nat.sub_self]; rfl, hne _ _ _ (own_down HU.out hsz)⟩
              case measure => simp [intOf]; omega
    · have hkN : k = N := by omega
      subst hkN
      have HO := HV.out
      rcases HO.o.2 with ⟨_, h0⟩ | ⟨g, cap, cur, rfl, hb, hg, hn, hc, hs, ht⟩
      · omega
      · have HV2 := Lib.hid HO
        clear HO
        go_wp2
        go_ret
        have hgl : g < wo.heap.size := (Array.getElem?_eq_some_iff.1 hg).1
        refine ⟨g, cap, rfl, hb, hn, hc, ⟨hgl, fun i hi => ?_⟩, hkr.bel (Nat.le_refl _) (fun _ _ h => h)⟩
        obtain ⟨u, h1, h2⟩ := HV2.out.r i hi
        obtain ⟨_, A, c, rfl, q2, q3, q4⟩ := own_RdF h2
        have := HV2.out.o.cells (g := g) rfl i _ h1
        have ha : (⟨g, 0, none⟩ : Addr).add i = ⟨g, i, none⟩ := by simp [Addr.add]; intro h; exact h.symm
        rw [ha] at this
        exact ⟨A, c, this, q2, q3, q4.rdI⟩
end Go.Proofs.Ytgfchgnebpogjaa
namespace Go.Proofs.Ytgfchgnebpogjaa
open Go.RowKit
set_option linter.unusedVariables false
set_option linter.unusedSimpArgs false

theorem take_more {l l' : List Int} {k : Nat} (h : l.take k = l'.take k) (hk : k < l.length) (hk' : k < l'.length) (he : nth l k = nth l' k) : l.take (k + 1) = l'.take (k + 1) := by
  rw [List.take_succ_eq_append_getElem hk, List.take_succ_eq_append_getElem hk', h, ← nth_get hk, ← nth_get hk', he]

theorem sameInts_len (A A' : Option Addr) (c c' n : Nat) (l l' : List Int) (w : World) (B : Nat) (h : RdI w B A l) (h' : RdI w B A' l') (hl : l.length = n) (hl' : l'.length = n) (hm : n ≤ maxLen) :
    Calls Try.prog 15 #[.slice A n c, .slice A' n c'] w fun e w' => e = .returned (.bool (decide (l = l'))) ∧ ∃ n, w' = w.drewN n := by
  unfold maxLen at hm
  have Hl := Lib.hid hl; clear hl
  have Hl' := Lib.hid hl'; clear hl'
  have e' : ((n : Int) != (n : Int)) = false := by simp
  go_enter Try.func15, Try.ntmps15
  go_wp2
  go_loopw [5] (fun i wr => ∃ k : Nat, k ≤ n ∧ i = .int .i64 k ∧ Hid (l.take k = l'.take k) ∧ ∃ d, wr = w.drewN d) (fun i _ => n - (intOf i).toNat)
  case atStart => exact ⟨0, Nat.zero_le _, rfl, rfl, 0, rfl⟩
  case round =>
    obtain ⟨k, hk, rfl, HE, d, rfl⟩ := hrel
    by_cases hlt : k < n
    · obtain ⟨b, off, rfl, hb, hc⟩ := h.at_ (by rw [Hl.out]; omega)
      obtain ⟨b', off', rfl, hb', hc'⟩ := h'.at_ (by rw [Hl'.out]; omega)
      have c1 := hc k (by rw [Hl.out]; omega)
      have c2 := hc' k (by rw [Hl'.out]; omega)
      clear hc hc'
      by_cases hd : nth l k = nth l' k
      · have hB : (nth l k != nth l' k) = false := by simp [hd]
        have Hd := Lib.hid hd; clear hd
        go_wp2
        go_quiet (fail)
        go_wp2
        go_roundw
        case rel => exact ⟨k + 1, by omega, by go_num, take_more HE.out (by rw [Hl.out]; omega) (by rw [Hl'.out]; omega) Hd.out, _, rfl⟩
        case measure => simp [intOf]; omega
      · have hB : (nth l k != nth l' k) = true := by simp [hd]
        have Hd := Lib.hid hd; clear hd
        go_wp2
        go_quiet (fail)
        go_wp2
        go_ret
        exact ⟨ret_eq (by simp; intro h; exact Hd.out (by rw [h])), _, World.drewN_drewN _ _ _⟩
    · go_wp2
      go_ret
      refine ⟨ret_eq ?_, _, rfl⟩
      have := HE.out
      rw [List.take_of_length_le (by rw [Hl.out]; omega), List.take_of_length_le (by rw [Hl'.out]; omega)] at this
      simp [this]

theorem sameInts_any (A A' : Option Addr) (c c' n n' : Nat) (l l' : List Int) (w : World) (B : Nat) (h : RdI w B A l) (h' : RdI w B A' l') (hl : l.length = n) (hl' : l'.length = n') (hm : n ≤ maxLen) :
    Calls Try.prog 15 #[.slice A n c, .slice A' n' c'] w fun e w' => e = .returned (.bool (decide (l = l'))) ∧ ∃ n, w' = w.drewN n := by
  by_cases e : n = n'
  · subst e
    exact sameInts_len A A' c c' n l l' w B h h' hl hl' hm
  · have e' : ((n : Int) != (n' : Int)) = true := by simp; omega
    have hne : decide (l = l') = false := by simp; intro h; subst h; omega
    have Hn := Lib.hid hne; clear hne
    have Hl := Lib.hid hl; clear hl
    have Hl' := Lib.hid hl'; clear hl'
    go_enter Try.func15, Try.ntmps15
    go_wp2
    go_ret
    exact ⟨by rw [Hn.out]; rfl, 0, rfl⟩
end Go.Proofs.Ytgfchgnebpogjaa
namespace Go.Proofs.Ytgfchgnebpogjaa
open Go.RowKit
set_option linter.unusedVariables false
set_option linter.unusedSimpArgs false
set_option maxRecDepth 100000

theorem opens_Ints : Opens Try.prog 22 (shL shInt) := opens_slice Try.underlying22 (by kernel_rfl) (by decide) (opens_int Try.underlying3 (by kernel_rfl))
theorem opens_Prod : Opens Try.prog 50 shProd :=
  opens_struct Try.underlying50 (by kernel_rfl) (opF_cons rfl (opens_int Try.underlying3 (by kernel_rfl)) (opF_cons rfl opens_Ints (opF_one rfl (opens_int Try.underlying3 (by kernel_rfl)))))
theorem opens_Prods : Opens Try.prog 28 (shL shProd) := opens_slice Try.underlying28 (by kernel_rfl) (by decide) opens_Prod
theorem opens_Grammar : Opens Try.prog 30 (shP shInt (shP shInt (shP shInt (shP (shL shProd) (shP (shL shInt) (shL shInt)))))) :=
  opens_struct Try.underlying30 (by kernel_rfl) (opF_cons rfl (opens_int Try.underlying3 (by kernel_rfl)) (opF_cons rfl (opens_int Try.underlying3 (by kernel_rfl)) (opF_cons rfl (opens_int Try.underlying3 (by kernel_rfl)) (opF_cons rfl opens_Prods (opF_cons rfl opens_Ints (opF_one rfl opens_Ints))))))

/-- A grammar that came in. -/
def IsGrammar (W : World) (v : Value) : Prop := ∃ (G : Gr) (Ap : Option Addr) (Al : Option Addr) (As : Option Addr) (np : Nat) (cp : Nat) (nl : Nat) (cl : Nat) (ns : Nat) (cs : Nat), v = .agg #[.int .i64 G.terms, .int .i64 G.names, .int .i64 G.start, .slice Ap np cp, .slice Al nl cl, .slice As ns cs] ∧ GrIn W W.heap.size G Ap Al As np cp nl cl ns cs
theorem open_IsGrammar {H : Type} {enc : TypeId × Value → H} {W : World} {base : Nat} {r : Reach} {b0 : Nat} {v : Value} {d : DataW H} {p : List MemPlace} {held : Bool}
    (hv : Value.okWide Try.prog W r b0 30 v) (h : DataW.Trod enc Try.prog W base (fun _ => true) held 30 v d p) : IsGrammar W v := by
  obtain ⟨cs, rfl, hsz⟩ := Go.WideShapes.okWide_struct Try.underlying30 hv
  obtain ⟨⟨x, y, z, Q, L, S⟩, c1, d1, e1, h1, c2, d2, e2, h2, c3, d3, e3, h3, c4, d4, e4, h4, c5, c6, e5, h5, h6⟩ := isIn_of opens_Grammar h
  obtain ⟨rfl, _⟩ := h1
  obtain ⟨rfl, _⟩ := h2
  obtain ⟨rfl, _⟩ := h3
  obtain ⟨A4, k4, q4, f4, g4⟩ := shL_form h4
  obtain ⟨A5, k5, q5, f5, g5⟩ := shL_form h5
  obtain ⟨A6, k6, q6, f6, g6⟩ := shL_form h6
  subst q4 q5 q6
  obtain ⟨_, _, m5, r5⟩ := rdI_sh h5
  obtain ⟨_, _, m6, r6⟩ := rdI_sh h6
  refine ⟨⟨x, y, z, Q, L, S⟩, A4, A5, A6, _, k4, _, k5, _, k6, ?_, ⟨h4, r5, rfl, Nat.le_trans f5 g5, r6, rfl, Nat.le_trans f6 g6⟩⟩
  have e' : cs = #[.int .i64 x, .int .i64 y, .int .i64 z, .slice A4 Q.length k4, .slice A5 L.length k5, .slice A6 S.length k6] := by
    apply Array.ext'
    subst e5 e4 e3 e2
    simpa [Value.cells] using e1
  rw [e']

/-- The grammar's box kept. -/
theorem gkeep {w0 w1 : World} {B g : Nat} {G : Gr} {Ap Al As : Option Addr} {np cp nl cl ns cs : Nat} (gb : GrBox w0 g G Ap Al As np cp nl cl ns cs) (hG : GrIn w0 B G Ap Al As np cp nl cl ns cs) (hb : Below (g + 1) w0 w1) (hB : B ≤ g + 1) : GrBox w1 g G Ap Al As np cp nl cl ns cs ∧ GrIn w1 B G Ap Al As np cp nl cl ns cs :=
  ⟨gb.below hb (Nat.lt_succ_self _), hG.below (hb.mono hB)⟩

theorem LsSt.toR {w : World} {D N : Nat} {L : Nat → List Int} (h : LsSt w D N L) : LsR w w.heap.size D N L := by
  obtain ⟨vs, hl, hb, hv⟩ := h.b
  exact ⟨hb.lt, fun k hk => by
    obtain ⟨A, c, h1, h2, h3, h4⟩ := hv k hk
    exact ⟨A, c, hb.cell h1, h2, h3, h4.rdI⟩⟩
theorem LsR.more {w : World} {B B' D N : Nat} {L : Nat → List Int} (h : LsR w B D N L) (hB : B ≤ B') : LsR w B' D N L :=
  ⟨Nat.lt_of_lt_of_le h.1 hB, fun k hk => by
    obtain ⟨A, c, h1, h2, h3, h4⟩ := h.2 k hk
    exact ⟨A, c, h1, h2, h3, h4.more hB⟩⟩
theorem LsR.drewN {w : World} {B D N : Nat} {L : Nat → List Int} (h : LsR w B D N L) (d : Nat) : LsR (w.drewN d) B D N L := h.below ⟨rfl, rfl, rfl, Nat.le_refl _, fun _ _ => rfl⟩
theorem drewN_below (w : World) (d : Nat) : Below w.heap.size w (w.drewN d) := ⟨rfl, rfl, rfl, Nat.le_refl _, fun _ _ => rfl⟩

theorem sameBools_eq (g g' n c c' : Nat) (l : List Bool) (w : World) (h : Blk w g 4 (bv l)) (h' : Blk w g' 4 (bv l)) (hl : l.length = n) (hn : n ≤ 100000) :
    Calls Try.prog 26 #[.slice (some ⟨g, 0, none⟩) n c, .slice (some ⟨g', 0, none⟩) n c'] w fun e w' => e = .returned (.bool true) ∧ Below w.heap.size w w' := by
  have H := Lib.hid h; have H' := Lib.hid h'; have HL := Lib.hid hl
  have e' : ((n : Int) != (n : Int)) = false := by simp
  clear h h' hl
  go_enter Try.func26, Try.ntmps26
  go_wp2
  go_loopw [5] (fun i wr => ∃ k : Nat, k ≤ n ∧ i = .int .i64 k ∧ ∃ d, wr = w.drewN d) (fun i _ => n - (intOf i).toNat)
  case atStart => exact ⟨0, Nat.zero_le _, rfl, 0, rfl⟩
  case round =>
    obtain ⟨k, hk, rfl, d, rfl⟩ := hrel
    by_cases hlt : k < n
    · have c1 := H.out.bcell (k := k) (by rw [HL.out]; exact hlt)
      have c2 := H'.out.bcell (k := k) (by rw [HL.out]; exact hlt)
      generalize bth l k = v at *
      cases v
      all_goals
        go_wp2
        go_quiet (fail)
        go_wp2
        go_roundw
        case rel => exact ⟨k + 1, by omega, by go_num, _, rfl⟩
        case measure => simp [intOf]; omega
    · go_wp2
      go_ret
      exact ⟨rfl, drewN_below w d⟩

theorem sameLists_eq (D D' n c c' B : Nat) (L : Nat → List Int) (w : World) (hB : B ≤ w.heap.size) (h : LsR w B D n L) (h' : LsR w B D' n L) (hn : n ≤ 100000) :
    Calls Try.prog 31 #[.slice (some ⟨D, 0, none⟩) n c, .slice (some ⟨D', 0, none⟩) n c'] w fun e w' => e = .returned (.bool true) ∧ Below w.heap.size w w' := by
  have H := Lib.hid h; have H' := Lib.hid h'
  have e' : ((n : Int) != (n : Int)) = false := by simp
  clear h h'
  go_enter Try.func31, Try.ntmps31
  go_wp2
  go_loopw [5] (fun i wr => ∃ k : Nat, k ≤ n ∧ i = .int .i64 k ∧ Below w.heap.size w wr) (fun i _ => n - (intOf i).toNat)
  case atStart => exact ⟨0, Nat.zero_le _, rfl, Below.refl _ _⟩
  case round =>
    obtain ⟨k, hk, rfl, hb⟩ := hrel
    by_cases hlt : k < n
    · obtain ⟨A1, c1, q1, q2, q3, q4⟩ := (H.out.below (hb.mono hB)).2 k hlt
      obtain ⟨A2, c2, r1, r2, r3, r4⟩ := (H'.out.below (hb.mono hB)).2 k hlt
      have hs : ∀ d, Calls Try.prog 15 #[.slice A1 (L k).length c1, .slice A2 (L k).length c2] (wr.drewN d) fun e w' => e = .returned (.bool true) ∧ ∃ m, w' = (wr.drewN d).drewN m := fun d => by
        have := sameInts_any A1 A2 c1 c2 (L k).length (L k).length (L k) (L k) (wr.drewN d) B (q4.below ⟨rfl, rfl, rfl, Nat.le_refl _, fun _ _ => rfl⟩) (r4.below ⟨rfl, rfl, rfl, Nat.le_refl _, fun _ _ => rfl⟩) rfl rfl (Nat.le_trans q2 q3)
        rwa [decide_eq_true rfl] at this
      clear q2 q3 q4 r2 r3 r4
      generalize (L k).length = m at *
      have HS := Lib.hid hs; have HB := Lib.hid hb
      clear hs hb
      go_wp2
      go_quiet ((go_at_call 15; exact Calls.quiet_of (HS.out _)))
      go_wp2
      go_roundw
      case rel => exact ⟨k + 1, by omega, by go_num, HB.out.trans ⟨rfl, rfl, rfl, Nat.le_refl _, fun _ _ => rfl⟩⟩
      case measure => simp [intOf]; omega
    · have HB := Lib.hid hb
      clear hb
      go_wp2
      go_ret
      exact ⟨rfl, HB.out⟩
end Go.Proofs.Ytgfchgnebpogjaa
