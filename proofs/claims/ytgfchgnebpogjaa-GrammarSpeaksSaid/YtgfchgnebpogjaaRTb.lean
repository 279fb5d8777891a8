/- The document's table: rows of truths, appended. -/
import Derived.Test.YtgfchgnebpogjaaRWh
import Derived.Test.YtgfchgnebpogjaaFt
namespace Go.Proofs.Ytgfchgnebpogjaa
open Go.RowKit BigFrame
set_option linter.unusedVariables false
set_option linter.unusedSimpArgs false
set_option maxRecDepth 100000

theorem own_blk {w : World} {base : Nat} {e : TypeId} {sz : Nat} {v : Value} {n : Nat} {xs : List Value} (h : w.ownsRow base e sz v n xs) {g : Nat} (hg : v.ownBlock = some g) : ∃ vs, Blk w g e vs := by
  rcases h.2 with ⟨rfl, _⟩ | ⟨g', cap, cur, rfl, _, hh, _⟩
  · simp [Value.ownBlock] at hg
  · simp [Value.ownBlock] at hg
    subst hg
    exact ⟨cur.toList, by unfold Blk; rw [hh]⟩
theorem elSs : ElTy Try.prog 60 38 1 24 (.slice none 0 0) := ⟨Try.underlying60, by kernel_rfl, rfl, by decide⟩
def rwv (T b : Nat) : Value := .slice (some ⟨b, 0, none⟩) T T

set_option maxHeartbeats 2000000 in
theorem rTable_any (N T : Nat) (w : World) (hN0 : 0 < N) (hN : N ≤ 300) (hT : T ≤ 301) :
    Calls Try.prog 64 #[.int .i64 (N : Int), .int .i64 (T : Int)] w fun e w' => ∃ D c ρ, e = .returned (.slice (some ⟨D, 0, none⟩) N c) ∧ N ≤ c ∧ c ≤ maxLen ∧ w.heap.size ≤ D ∧ (∀ k, k < N → w.heap.size ≤ nthN ρ k) ∧ MtSt w' D N T ρ (m0 N T) ∧ Below w.heap.size w w' := by
  have hmk2 : ∀ w : World, (Instr.makeSlice 38 (.int .i64 (T : Int)) (.int .i64 (T : Int))).run Try.prog w = .ok (.slice (some ⟨w.heap.size, 0, none⟩) T T) (w.alloc (.cells (zs (.bool false) T) 4)) := fun w =>
    mk_row elBg rfl .i64 .i64 T _ (by omega) (by omega) (by omega) w
  go_enter Try.func64, Try.ntmps64
  go_wp2_with fail
  go_loopw [5, 6] (fun v i wr => ∃ k : Nat, k ≤ N ∧ i = .int .i64 k ∧ Kp (fun _ => False) w wr ∧ ∃ (ρ : List Nat), Hid (ρ.length = k ∧ wr.ownsRow w.heap.size 38 1 v k (ρ.map (rwv T)) ∧ (∀ i, i < k → w.heap.size ≤ nthN ρ i ∧ Blk wr (nthN ρ i) 4 (bv (List.replicate T false))) ∧ (∀ i j, i < k → j < k → nthN ρ i = nthN ρ j → i = j))) (fun _ i _ => N - (intOf i).toNat)
  case atStart => exact ⟨0, Nat.zero_le _, rfl, Kp.refl _ _, [], rfl, World.ownsRow_nil _ _ _ _, fun i h => absurd h (by omega), fun i j h => absurd h (by omega)⟩
  case round =>
    obtain ⟨k, hk, rfl, hkr, ρ, HR⟩ := hrel
    have hsz := hkr.size
    by_cases hlt : k < N
    · have hown := (HR.out.2.1).alloc (.cells (zs (.bool false) T) 4)
      have hsa : (wr.alloc (.cells (zs (.bool false) T) 4)).heap.size = wr.heap.size + 1 := by simp
      have HO := Lib.hid hown
      clear hown
      go_wp2_with (at_builtin; refine wpList_app elSs rfl (.tmp 12) (.tmp 15) rfl w.heap.size _ k 1 _ [.slice (some ⟨wr.heap.size, 0, none⟩) T T] rfl HO.out (by rw [hsa]; rfl) rfl (by simp [Value.oneCell']) (by omega) (by omega) (by omega) ?_; intro v1 w1 hown1 hg1 hat1; have HG1 := Lib.hid hg1; have HO1 := Lib.hid hown1; clear hown1 hg1 hat1)
      go_roundw
      case rel =>
        obtain ⟨r1, r2, r3, r4⟩ := HR.out
        have hne : ∀ i, i < k → nthN ρ i < wr.heap.size := fun i hi => (r3 i hi).2.lt
        have hgr : ∀ (g : Nat) (vs : List Value), Blk (wr.alloc (.cells (zs (.bool false) T) 4)) g 4 vs → Blk w1 g 4 vs := fun g vs hb => hb.grown HG1.out (fun e => by
          obtain ⟨us, hu⟩ := own_blk HO.out e.symm
          exact absurd (Blk.type_eq hb hu) (by decide))
        refine ⟨k + 1, by omega, by go_num, (hkr.alloc _).grown HG1.out (fun b hb => .inl (HO.out.lt b hb).1), ρ ++ [wr.heap.size], by rw [List.length_append, r1]; rfl, by rw [List.map_append]; exact HO1.out, fun i hi => ?_, fun i j hi hj => ?_⟩
        · rw [nthN_snoc, r1]
          by_cases e : i < k
          · rw [if_pos e]
            exact ⟨(r3 i e).1, hgr _ _ ((r3 i e).2.alloc _)⟩
          · have e2 : i = k := by omega
            subst e2
            rw [if_neg (by omega), if_pos rfl]
            refine ⟨hsz, hgr _ _ ?_⟩
            have := Blk.made wr 4 (.bool false) T
            rw [← bv_rep]; exact this
        · rw [nthN_snoc, nthN_snoc, r1]
          intro h
          by_cases e1 : i < k
          · by_cases e2 : j < k
            · rw [if_pos e1, if_pos e2] at h; exact r4 i j e1 e2 h
            · rw [if_pos e1, if_neg e2, if_pos (by omega)] at h
              have := hne i e1; omega
          · by_cases e2 : j < k
            · rw [if_neg e1, if_pos (by omega), if_pos e2] at h
              have := hne j e2; omega
            · omega
      case measure => simp [intOf]; omega
    · have hkN : k = N := by omega
      subst hkN
      obtain ⟨r1, r2, r3, r4⟩ := HR.out
      rcases r2.2 with ⟨_, h0⟩ | ⟨g, cap, cur, rfl, hb, hg, hn, hc, hs, ht⟩
      · omega
      · go_wp2
        go_ret
        have hgne : ∀ i, i < k → nthN ρ i ≠ g := fun i hi e => by
          have hx := (r3 i hi).2
          rw [e] at hx
          have hy : Blk wr g 38 cur.toList := by unfold Blk; rw [hg]
          exact absurd (Blk.type_eq hx hy) (by decide)
        refine ⟨g, cap, ρ, rfl, hn, hc, hb, fun i hi => (r3 i hi).1, ⟨(Array.getElem?_eq_some_iff.1 hg).1, fun i hi => ?_, r1, by simp [m0], r4, hgne, fun i hi => by rw [rowB_m0 hi]; exact ⟨(r3 i hi).2, List.length_replicate⟩⟩, hkr.bel (Nat.le_refl _) (fun _ _ h => h)⟩
        have := r2.cells (g := g) rfl i (rwv T (nthN ρ i)) (by rw [List.getElem?_map, List.getElem?_eq_getElem (by omega), ← nthN_get (by omega)]; rfl)
        unfold rwv at this
        have ha : (⟨g, 0, none⟩ : Addr).add i = ⟨g, i, none⟩ := by simp [Addr.add]; intro h; exact h.symm
        rw [ha] at this
        exact this
end Go.Proofs.Ytgfchgnebpogjaa
