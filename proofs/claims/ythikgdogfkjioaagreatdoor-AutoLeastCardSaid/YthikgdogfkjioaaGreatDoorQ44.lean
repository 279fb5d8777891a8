/- auto.live, walked. -/
import Derived.Test.YthikgdogfkjioaaGreatDoorQ38
import Derived.Test.YthikgdogfkjioaaGreatDoorQ43
import Derived.Deep.LoopGhost
namespace Go.Proofs.YthikgdogfkjioaaGreatDoor
open Go.RowKit BigFrame
set_option linter.unusedVariables false
set_option linter.unusedSimpArgs false
set_option maxRecDepth 100000

theorem elBo : ElTy Tryz.prog 57 4 1 1 (.bool false) := ⟨Tryz.underlying57, by kernel_rfl, rfl, by decide⟩
theorem mk_bls {n : Nat} (hn : n ≤ 1000000) (w : World) : (Instr.makeSlice 57 (.int .i64 (n : Int)) (.int .i64 (n : Int))).run Tryz.prog w = .ok (.slice (some ⟨w.heap.size, 0, none⟩) n n) (w.alloc (.cells (zs (.bool false) n) 4)) :=
  mk_row elBo rfl .i64 .i64 n _ (by omega) (by omega) (by omega) w

theorem rep_nil {N t : Nat} {u : Value} (h : (List.replicate N (Value.slice none 0 0))[t]? = some u) : u = .slice none 0 0 := by
  rw [List.getElem?_replicate] at h
  split at h
  · simp only [Option.some.injEq] at h; exact h.symm
  · cases h
set_option maxHeartbeats 8000000 in
theorem live_any (Ar Am : Option Addr) (N K cr cm : Nat) (RU : List Int) (MV : List (List Int)) (ru : Nat → Int) (mv : Nat → Nat → Nat) (w : World) (B : Nat) (hB : B ≤ w.heap.size) (hR : RdI w B Ar RU) (hM : RdM w B Am MV) (hD : Dn RU MV N K ru mv)
    (hcr : N ≤ cr ∧ cr ≤ maxLen) (hcm : N ≤ cm ∧ cm ≤ maxLen) (hN : 0 < N) (hN2 : N ≤ 60) (hK : K ≤ 1000) :
    Calls Tryz.prog 22 #[.agg #[.int .i64 (K : Int), .slice Ar N cr, .slice Am N cm]] w fun e w' => ∃ gl A, e = .returned (.slice (some ⟨gl, 0, none⟩) N N) ∧ Blk w' gl 4 (bv A) ∧ A.length = N ∧ (∀ s, s < N → (bAt A s = true ↔ Live ru mv (· < K) s)) ∧ w.heap.size ≤ gl ∧ Below w.heap.size w w' := by
  obtain ⟨g, hg⟩ : ∃ g, g = w.heap.size := ⟨_, rfl⟩
  obtain ⟨W0, hW0⟩ : ∃ W0, W0 = w.alloc (.cells #[.int .i64 (K : Int), .slice Ar N cr, .slice Am N cm] 43) := ⟨_, rfl⟩
  obtain ⟨W1, hW1⟩ : ∃ W1, W1 = (W0.alloc (.cells (zs (.bool false) N) 4)).alloc (.cells (zs (.slice none 0 0) N) 34) := ⟨_, rfl⟩
  have hs0 : W0.heap.size = g + 1 := by rw [hW0, hg]; simp
  have hs1 : W1.heap.size = g + 1 + 1 + 1 := by rw [hW1]; simp [hs0]
  have hb0 : Below g w W0 := by rw [hW0, hg]; exact (Below.refl _ _).alloc (Nat.le_refl _) _
  have hb1 : Below (g + 1) W0 W1 := by rw [hW1]; exact ((Below.refl _ _).alloc (by omega) _).alloc (by rw [World.size_alloc]; omega) _
  have hkd : Blk W0 g 43 [.int .i64 (K : Int), .slice Ar N cr, .slice Am N cm] := by rw [hW0, hg]; exact Blk.new w _ _
  have hkl : Blk W1 (g + 1) 4 (bv (List.replicate N false)) := by
    have := (Blk.made W0 4 (.bool false) N).alloc (.cells (zs (.slice none 0 0) N) 34)
    rw [hs0] at this
    rw [hW1]
    rw [show bv (List.replicate N false) = List.replicate N (.bool false) by simp [bv]]
    exact this
  have hkb : Blk W1 (g + 1 + 1) 34 (List.replicate N (.slice none 0 0)) := by
    have := Blk.made (W0.alloc (.cells (zs (.bool false) N) 4)) 34 (.slice none 0 0) N
    rw [show (W0.alloc (.cells (zs (.bool false) N) 4)).heap.size = g + 1 + 1 by simp [hs0]] at this
    rw [hW1]; exact this
  have HLV : Hid (Lv W1 W1 (g + 1) (g + 1 + 1) N (List.replicate N false) (List.replicate N (.slice none 0 0)) (fun _ => []) (.slice none 0 0) []) := Lib.hid ⟨Kp.refl _ _, hkl, hkb, (by simp), (fun t u h => by have e := rep_nil h; subst e; exact World.ownsRow_nil _ _ _ _), World.ownsRow_nil _ _ _ _, (fun t t' u u' q _ h _ e => by have e2 := rep_nil h; subst e2; cases e), (fun t u q h e => by have e2 := rep_nil h; subst e2; cases e), (by omega), (by omega), (by omega)⟩
  have HKD := Lib.hid (hkd.below hb1 (Nat.lt_succ_self g))
  have HDN := Lib.hid hD
  have hbw : Below g w W1 := hb0.trans (hb1.mono (by omega))
  have HRI : Hid (RdI W1 B Ar RU) := Lib.hid (RdI.below hR (hbw.mono (by omega)))
  have HRM : Hid (RdM W1 B Am MV) := Lib.hid (hM.below (hbw.mono (by omega)))
  have HBW := Lib.hid hbw; have HG := Lib.hid hg; have HS1 := Lib.hid hs1
  have hBg : B ≤ g := by omega
  have z1 := hkd.cell (i := 1) rfl
  have z2 := hkd.cell (i := 2) rfl
  have hml := fun w => mk_bls (n := N) (by omega) w
  have hmm := fun w => mk_rows (n := N) (by omega) w
  have hbm : Below W0.heap.size W0 (W0.alloc (.cells (zs (.bool false) N) 4)) := (Below.refl _ _).alloc (Nat.le_refl _) _
  obtain ⟨hcr1, hcr2⟩ := hcr
  obtain ⟨hcm1, hcm2⟩ := hcm
  unfold maxLen at hcr2 hcm2
  clear hR hM hD hb0 hkd hb1 hkl hkb hbw
  go_enter Tryz.func22, Tryz.ntmps22
  go_wp2_with fail
  rw [← hW0, ← hW1, ← hg]
  clear hW0 hW1 hg hml hmm hbm z1 z2
  go_loopw [5, 24] (fun tv ix wr => ∃ (i : Nat) (A : List Bool) (vs : List Value) (bk : Nat → List Nat) (T : List Nat), i ≤ N ∧ ix = .int .i64 (i : Int) ∧ Hid (Lv W1 wr (g + 1) (g + 1 + 1) N A vs bk tv T) ∧ Hid (BkI mv K N bk i 0) ∧ Hid (∀ t, t < N → (bk t).length ≤ i * K) ∧ Hid (L1 ru N A T i)) (fun _ ix _ => N - (intOf ix).toNat)
  case atStart => exact ⟨0, _, _, _, _, Nat.zero_le _, rfl, HLV, Lib.hid ⟨fun t _ s h => by simp at h, fun s _ d _ q => by omega⟩, Lib.hid (fun t _ => by simp), Lib.hid L1.start⟩
  case round =>
    as_aux_lemma =>
      clear HLV
      obtain ⟨i, A, vs, bk, T, hi, rfl, HL, HB, HS, H1⟩ := hrel
      have hs1 := HS1.out
      have hsz := HL.out.le
      have HCX : Hid (∀ q : Addr, q.block < W1.heap.size → q.block ≠ g + 1 → q.block ≠ g + 1 + 1 → wr.cell? q = W1.cell? q) := Lib.hid (fun q h1 h2 h3 => HL.out.kp.cell h1 (fun e => by rcases e with e | e; exact h2 e; exact h3 e))
      by_cases hlt : i < N
      · as_aux_lemma =>
          have d1 : decide ((i : Int) < (N : Int)) = true := decide_eq_true (by omega)
          have y1 := (HCX.out ⟨g, 1, none⟩ (show g < _ by omega) (show g ≠ g + 1 by omega) (show g ≠ g + 1 + 1 by omega)).trans (HKD.out.cell (i := 1) rfl)
          obtain ⟨mb, mo, rfl, hmb, hmc⟩ := HRM.out (by rw [HDN.out.lm]; exact hN)
          obtain ⟨Ar', cr', z1, z2, z3, z4⟩ := hmc i (by rw [HDN.out.lm]; exact hlt)
          rw [HDN.out.row _ hlt] at z1 z2
          have y2 := (HCX.out ⟨mb, mo + i, none⟩ (show mb < _ by omega) (show mb ≠ g + 1 by omega) (show mb ≠ g + 1 + 1 by omega)).trans z1
          have HR4 := Lib.hid z4
          unfold maxLen at z3
          clear z1 z4 hmc
          go_wp2_with fail
          obtain ⟨wo, rfl⟩ : ∃ wo : World, wo = wr := ⟨_, rfl⟩
          have hiK : i * K ≤ 60 * 1000 := Nat.mul_le_mul (by omega) hK
          go_loopw [31] (fun cx wr => ∃ (c : Nat) (vs : List Value) (bk : Nat → List Nat), c ≤ K ∧ cx = .int .i64 (c : Int) ∧ Hid (Lv W1 wr (g + 1) (g + 1 + 1) N A vs bk u5 T) ∧ Hid (BkI mv K N bk i c) ∧ Hid (∀ t, t < N → (bk t).length ≤ i * K + c)) (fun cx _ => K - (intOf cx).toNat)
          case atStart => exact ⟨0, vs, bk, Nat.zero_le _, rfl, HL, HB, Lib.hid (fun t ht => by have := HS.out t ht; omega)⟩
          case round =>
            as_aux_lemma =>
              clear HL HB HS HCX y1 y2 hsz
              obtain ⟨c, vs, bk, hc, rfl, HL, HB, HS⟩ := hrel
              have hsz := HL.out.le
              have HCX : Hid (∀ q : Addr, q.block < W1.heap.size → q.block ≠ g + 1 → q.block ≠ g + 1 + 1 → wr.cell? q = W1.cell? q) := Lib.hid (fun q h1 h2 h3 => HL.out.kp.cell h1 (fun e => by rcases e with e | e; exact h2 e; exact h3 e))
              by_cases hcK : c < K
              · as_aux_lemma =>
                  have d2 : decide ((c : Int) < (K : Int)) = true := decide_eq_true (by omega)
                  obtain ⟨rb, ro, rfl, hrb, hrc⟩ := HR4.out.at_ (by rw [HDN.out.row i hlt]; omega)
                  have z5 := hrc c (by rw [HDN.out.row i hlt]; exact hcK)
                  rw [(HDN.out.mv i c hlt hcK).1] at z5
                  have y3 := (HCX.out ⟨rb, ro + c, none⟩ (show rb < _ by omega) (show rb ≠ g + 1 by omega) (show rb ≠ g + 1 + 1 by omega)).trans z5
                  have hte := (HDN.out.mv i c hlt hcK).2
                  have hB2 := HB.out.push hlt hcK hte
                  obtain ⟨tt, htt⟩ : ∃ tt, tt = mv i c := ⟨_, rfl⟩
                  rw [← htt] at y3 hte hB2
                  have htv : tt < vs.length := by rw [HL.out.lm]; exact hte
                  obtain ⟨u, hu⟩ : ∃ u, vs[tt]? = some u := ⟨_, List.getElem?_eq_getElem htv⟩
                  have y4 := HL.out.mm.cell hu
                  have hrow := HL.out.rows tt u hu
                  have hbl := HS.out tt hte
                  obtain ⟨ln, hln⟩ : ∃ ln, ln = (bk tt).length := ⟨_, rfl⟩
                  rw [← hln] at hrow hbl
                  obtain ⟨Au, cu, rfl, hu2, hu3, -⟩ := own_nform hrow hln
                  have HROW := Lib.hid hrow; have HU := Lib.hid hu; have HLN := Lib.hid hln
                  have HB2 := Lib.hid hB2
                  have HS2 : Hid (∀ t, t < N → ((fun x => if x = tt then bk x ++ [i] else bk x) t).length ≤ i * K + (c + 1)) := Lib.hid (fun t ht => by
                    have h1 := HS.out t ht
                    simp only
                    split
                    · rw [List.length_append]; simp; omega
                    · omega)
                  unfold maxLen at hu3
                  clear hrc z5 hB2 htt htv hu hrow hln
                  go_wp2_with (at_builtin; go_must (refine wpList_app elIn rfl (.tmp 40) (.tmp 42) rfl W1.heap.size (.slice Au ln cu) ln 1 (nv (bk tt)) [.int .i64 (i : Int)] rfl HROW.out rfl rfl (by simp [Value.oneCell']) (by omega) (by omega) hsz ?_); intro v5 w5 hown5 hg5 hat5; go_must (obtain ⟨A5, c5, rfl, -, -⟩ := own_len hown5); go_must (have hmm5 := HL.out.mm.grown hg5 (fun e => by have h1 := (HROW.out.lt _ e.symm).1; have h2 := HL.out.hb; omega)); have e1 := hmm5.cell HU.out; have e2 := hmm5.frozen tt; have HL5 := Lib.hid (HL.out.push HU.out hg5 (by rw [← HLN.out]; exact hown5) hat5); clear hown5 hg5 hat5 hmm5)
                  go_roundw
                  case rel => exact ⟨c + 1, _, _, by omega, by go_num, HL5, HB2, HS2⟩
                  case measure => simp [intOf]; omega
              · as_aux_lemma =>
                  have d2 : decide ((c : Int) < (K : Int)) = false := decide_eq_false (by omega)
                  have ecK : c = K := by omega
                  have hB2 := HB.out
                  have hS2 := HS.out
                  rw [ecK] at hB2 hS2
                  have HB2 := Lib.hid hB2.next
                  have HS2 : Hid (∀ t, t < N → (bk t).length ≤ (i + 1) * K) := Lib.hid (fun t ht => by have := hS2 t ht; rw [Nat.succ_mul]; exact this)
                  have y1 := (HCX.out ⟨g, 1, none⟩ (show g < _ by omega) (show g ≠ g + 1 by omega) (show g ≠ g + 1 + 1 by omega)).trans (HKD.out.cell (i := 1) rfl)
                  obtain ⟨rb, ro, rfl, hrb, hrc⟩ := HRI.out.at_ (by rw [HDN.out.lr]; exact hN)
                  have z5 := hrc i (by rw [HDN.out.lr]; exact hlt)
                  rw [HDN.out.eq i hlt] at z5
                  have y2 := (HCX.out ⟨rb, ro + i, none⟩ (show rb < _ by omega) (show rb ≠ g + 1 by omega) (show rb ≠ g + 1 + 1 by omega)).trans z5
                  have hAl : A.length = N := H1.out.len
                  have htl := H1.out.sz
                  clear hrc z5 ecK hB2 hS2 HB HS
                  by_cases hr0 : 0 ≤ ru i
                  · as_aux_lemma =>
                      have d3 : decide (0 ≤ ru i) = true := decide_eq_true hr0
                      have H12 := Lib.hid (H1.out.yes hlt hr0)
                      have y3 := HL.out.l.bcell (k := i) (by rw [hAl]; exact hlt)
                      have y4 := HL.out.l.frozen i
                      have HL2 := Lib.hid (HL.out.mark i)
                      have hsz2 := HL2.out.le
                      generalize ru i = rr at *
                      generalize bth A i = o1 at *
                      obtain ⟨ln, hln⟩ : ∃ ln, ln = T.length := ⟨_, rfl⟩
                      have hrow := HL2.out.todo
                      rw [← hln] at hrow htl
                      have HROW := Lib.hid hrow; have HLN := Lib.hid hln
                      clear hrow hln
                      go_wp2_with (at_builtin; go_must (refine wpList_app elIn rfl (.tmp 55) (.tmp 57) rfl W1.heap.size u5 ln 1 (nv T) [.int .i64 (i : Int)] rfl HROW.out (by rw [setCell_size]; rfl) rfl (by simp [Value.oneCell']) (by omega) (by omega) hsz2 ?_); intro v5 w5 hown5 hg5 hat5; have HL5 := Lib.hid (HL2.out.todo_push hg5 (by rw [← HLN.out]; exact hown5) hat5); clear hown5 hg5 hat5)
                      go_roundw
                      case rel => exact ⟨i + 1, _, vs, bk, _, by omega, by go_num, HL5, HB2, HS2, H12⟩
                      case measure => simp [intOf]; omega
                  · as_aux_lemma =>
                      have d3 : decide (0 ≤ ru i) = false := decide_eq_false hr0
                      have H12 := Lib.hid (H1.out.no hr0)
                      generalize ru i = rr at *
                      go_wp2_with fail
                      go_roundw
                      case rel => exact ⟨i + 1, _, vs, bk, _, by omega, by go_num, HL, HB2, HS2, H12⟩
                      case measure => simp [intOf]; omega
      · as_aux_lemma =>
          have d1 : decide ((i : Int) < (N : Int)) = false := decide_eq_false (by omega)
          have eiN : i = N := by omega
          have h1 := H1.out
          have hB0 := HB.out
          have hS0 := HS.out
          rw [eiN] at h1 hB0 hS0
          have HBK := Lib.hid hB0
          have hNK : N * K ≤ 60 * 1000 := Nat.mul_le_mul (by omega) hK
          have HBL : Hid (∀ t, t < N → (bk t).length ≤ 60000) := Lib.hid (fun t ht => by have := hS0 t ht; omega)
          have HAL := Lib.hid h1.alive
          have HI0 := Lib.hid (h1.done (mv := mv) (K := K) (bk := bk))
          have hcnt : T.length + A.count false ≤ 120 := by have h2 := h1.sz; have h3 := h1.len; have h4 := List.count_le_length (a := false) (l := A); omega
          clear eiN h1 hB0 hS0 H1 HB HS HCX
          go_wp2_with fail
          obtain ⟨wo, rfl⟩ : ∃ wo : World, wo = wr := ⟨_, rfl⟩
          go_loopg [5] (T.length + A.count false) (fun M tv wr => ∃ (A : List Bool) (T : List Nat), M ≤ 120 ∧ Hid (∀ t ∈ T, bAt A t = true) ∧ Hid (Lv W1 wr (g + 1) (g + 1 + 1) N A vs bk tv T) ∧ Hid (LvI ru mv K N bk M A T N 0))
          case atStart => exact ⟨A, T, hcnt, HAL, HL, HI0⟩
          case round =>
            as_aux_lemma =>
              clear HL HI0 hcnt HAL
              obtain ⟨A, T, hM, HAL, HL, HI⟩ := hrel
              have hsz := HL.out.le
              obtain ⟨n, hn⟩ : ∃ n, n = T.length := ⟨_, rfl⟩
              have hnM : n ≤ gk := by have := HI.out.sz; omega
              by_cases h0 : 0 < n
              · as_aux_lemma =>
                  obtain ⟨T', tt, rfl⟩ : ∃ T' tt, T = T' ++ [tt] := snoc_of_pos (by omega)
                  obtain ⟨n', hn'⟩ : ∃ n', n' = T'.length := ⟨_, rfl⟩
                  have en : n = n' + 1 := by rw [hn, hn', List.length_append]; rfl
                  obtain ⟨M', rfl⟩ : ∃ M', gk = M' + 1 := ⟨gk - 1, by omega⟩
                  have hrow := HL.out.todo
                  rw [← hn] at hrow
                  obtain ⟨Ao, co, rfl, ho1, ho2, hoc⟩ := own_nform hrow hn
                  obtain ⟨ob, rfl, hob1, hob2, hobc⟩ := hoc (by omega)
                  have y0 := hobc n' (by omega)
                  rw [show nAt (T' ++ [tt]) n' = tt by unfold nAt; rw [List.getD_eq_getElem?_getD, hn', List.getElem?_append_right (Nat.le_refl _)]; simp] at y0
                  have htN : tt < N := HI.out.ts tt (by simp)
                  have hLp := HL.out
                  rw [en] at hLp
                  have HL2 := Lib.hid hLp.todo_pop
                  have HI2 := Lib.hid HI.out.pop
                  have htv : tt < vs.length := by rw [HL.out.lm]; exact htN
                  obtain ⟨u, hu⟩ : ∃ u, vs[tt]? = some u := ⟨_, List.getElem?_eq_getElem htv⟩
                  have y1 := HL.out.mm.cell hu
                  have hr2 := HL.out.rows tt u hu
                  have hbl := HBL.out tt htN
                  obtain ⟨ln, hln⟩ : ∃ ln, ln = (bk tt).length := ⟨_, rfl⟩
                  rw [← hln] at hr2 hbl
                  obtain ⟨Au, cu, rfl, hu2, hu3, -⟩ := own_nform hr2 hln
                  have HU := Lib.hid hu; have HLN := Lib.hid hln
                  have HAT := Lib.hid (HAL.out tt (by simp))
                  have HAL2 : Hid (∀ t ∈ T', bAt A t = true) := Lib.hid (fun t ht => HAL.out t (by simp [ht]))
                  rw [en] at ho1 hn hnM ⊢
                  unfold maxLen at ho2 hu3
                  clear hrow hoc hobc hLp HL HI hu hr2 hln htv en h0 hn hn' HAL
                  go_wp2_with fail
                  obtain ⟨wi, rfl⟩ : ∃ wi : World, wi = wr := ⟨_, rfl⟩
                  go_loopw [5, 79] (fun tv jx wr => ∃ (j : Nat) (A : List Bool) (T : List Nat), j ≤ ln ∧ jx = .int .i64 (j : Int) ∧ Hid (∀ t ∈ T, bAt A t = true) ∧ Hid (bAt A tt = true) ∧ Hid (Lv W1 wr (g + 1) (g + 1 + 1) N A vs bk tv T) ∧ Hid (LvI ru mv K N bk M' A T tt j)) (fun _ jx _ => ln - (intOf jx).toNat)
                  case atStart => exact ⟨0, A, T', Nat.zero_le _, rfl, HAL2, HAT, HL2, HI2⟩
                  case round =>
                    as_aux_lemma =>
                      clear HAL2 HAT HL2 HI2 y0 y1 hnM ho1 ho2 hob1 hob2
                      obtain ⟨j, A, T, hj, rfl, HAL, HAT, HL, HI⟩ := hrel
                      have hsz := HL.out.le
                      by_cases hjl : j < ln
                      · as_aux_lemma =>
                          have d2 : decide ((j : Int) < (ln : Int)) = true := decide_eq_true (by omega)
                          have hr2 := HL.out.rows tt _ HU.out
                          rw [← HLN.out] at hr2
                          obtain ⟨Au2, cu2, e, -, -, hrc⟩ := own_nform hr2 HLN.out
                          simp only [Value.slice.injEq] at e
                          obtain ⟨rfl, -, rfl⟩ := e
                          obtain ⟨rb, rfl, hrb1, hrb2, hrbc⟩ := hrc (by omega)
                          have y0 := hrbc j hjl
                          have hjl2 : j < (bk tt).length := by rw [← HLN.out]; exact hjl
                          have hbN := (HBK.out.fr tt htN _ (nAt_mem hjl2)).1
                          have y1 := HL.out.l.bcell (k := nAt (bk tt) j) (by rw [HI.out.len]; exact hbN)
                          have hbb : bth A (nAt (bk tt) j) = bAt A (nAt (bk tt) j) := rfl
                          rw [hbb] at y1
                          have HMK : Hid (bAt A (nAt (bk tt) j) = false → LvI ru mv K N bk M' (A.set (nAt (bk tt) j) true) (T ++ [nAt (bk tt) j]) tt (j + 1)) := Lib.hid (fun q => HI.out.mark HBK.out htN HAT.out hjl2 q)
                          have HSN : Hid (bAt A (nAt (bk tt) j) = true → LvI ru mv K N bk M' A T tt (j + 1)) := Lib.hid (fun q => HI.out.seen q)
                          have HAS : Hid (∀ t ∈ T ++ [nAt (bk tt) j], bAt (A.set (nAt (bk tt) j) true) t = true) := Lib.hid (alive_set (by rw [HI.out.len]; exact hbN) HAL.out)
                          have HAT2 : Hid (bAt (A.set (nAt (bk tt) j) true) tt = true) := Lib.hid (by rw [bAt_set (by rw [HI.out.len]; exact hbN)]; split; rfl; exact HAT.out)
                          have hTl : T.length ≤ 120 := by have := HI.out.sz; omega
                          generalize nAt (bk tt) j = b at *
                          clear hr2 hrc hrbc hbb
                          cases hb : bAt A b with
                          | true =>
                            as_aux_lemma =>
                              rw [hb] at y1
                              have HI2 := Lib.hid (HSN.out hb)
                              clear hb
                              go_wp2_with fail
                              go_roundw
                              case rel => exact ⟨j + 1, A, T, by omega, by go_num, HAL, HAT, HL, HI2⟩
                              case measure => simp [intOf]; omega
                          | false =>
                            as_aux_lemma =>
                              rw [hb] at y1
                              have HI2 := Lib.hid (HMK.out hb)
                              have y2 := HL.out.l.frozen b
                              have HL2 := Lib.hid (HL.out.mark b)
                              have hrow := HL2.out.todo
                              obtain ⟨tn, htn⟩ : ∃ tn, tn = T.length := ⟨_, rfl⟩
                              rw [← htn] at hrow hTl
                              have hsz2 := HL2.out.le
                              have HROW := Lib.hid hrow; have HTN := Lib.hid htn
                              clear hb hrow htn
                              go_wp2_with (at_builtin; go_must (refine wpList_app elIn rfl (.tmp 91) (.tmp 93) rfl W1.heap.size u5 tn 1 (nv T) [.int .i64 (b : Int)] rfl HROW.out (by rw [setCell_size]; rfl) rfl (by simp [Value.oneCell']) (by omega) (by omega) hsz2 ?_); intro v5 w5 hown5 hg5 hat5; have HL5 := Lib.hid (HL2.out.todo_push hg5 (by rw [← HTN.out]; exact hown5) hat5); clear hown5 hg5 hat5)
                              go_roundw
                              case rel => exact ⟨j + 1, _, _, by omega, by go_num, HAS, HAT2, HL5, HI2⟩
                              case measure => simp [intOf]; omega
                      · as_aux_lemma =>
                          have d2 : decide ((j : Int) < (ln : Int)) = false := decide_eq_false (by omega)
                          have ejl : j = (bk tt).length := by rw [← HLN.out]; omega
                          have hI := HI.out
                          rw [ejl] at hI
                          have HI2 := Lib.hid hI.end_
                          clear ejl hI HI
                          go_wp2_with fail
                          go_roundg M'
                          case measure => simp
                          case rel => exact ⟨A, T, by omega, HAL, HL, HI2⟩
              · as_aux_lemma =>
                  have hT0 : T = [] := List.eq_nil_of_length_eq_zero (by omega)
                  have hI := HI.out
                  rw [hT0] at hI
                  have hmvN : ∀ s c, s < N → c < K → mv s c < N := fun s c h1 h2 => (HDN.out.mv s c h1 h2).2
                  have HDONE : Hid (∀ s, s < N → (bAt A s = true ↔ Live ru mv (· < K) s)) := Lib.hid (fun s hs => hI.done HBK.out hmvN hs)
                  obtain ⟨a, c, rfl, -, -, -⟩ := own_nform HL.out.todo rfl
                  have hn0 : n = 0 := by omega
                  rw [hn0] at hn
                  rw [← hn]
                  clear hI hT0 hn hn0 h0 hnM
                  go_wp2_with fail
                  go_ret
                  have hbr : Below g W1 wr := HL.out.kp.bel (by have := HS1.out; omega) (fun q h1 h2 => by omega)
                  have hg := HG.out
                  exact ⟨g + 1, A, rfl, HL.out.l, HI.out.len, HDONE.out, by omega, hg ▸ HBW.out.trans hbr⟩
end Go.Proofs.YthikgdogfkjioaaGreatDoor
