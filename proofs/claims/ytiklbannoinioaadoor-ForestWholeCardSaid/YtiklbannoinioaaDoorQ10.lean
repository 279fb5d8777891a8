/- fill. · The program's Ok. · newChart's memory: the productions by name, the empty sets, the sets filled so far. -/
import Derived.Test.YtiklbannoinioaaDoorQ9
import Derived.Test.YtiklbannoinioaaDoorQ7
import Derived.Deep.Cut
import Derived.Deep.CutRange
import Derived.Deep.LoopGhost
import Derived.Laws.EntriesVeiled
import Derived.Test.YtiklbannoinioaaDoorQ8
namespace Go.Proofs.YtiklbannoinioaaDoor
open Go.RowKit BigFrame Go.Maps
set_option linter.unusedVariables false
set_option linter.unusedSimpArgs false
set_option maxRecDepth 100000

section
variable (S : Nat → Prop) (B c bi ms : Nat) (sf : Nat → Nat) (G : Gr) (Ap Al As : Option Addr) (np cp nl cl ns cs : Nat) (Ai : Option Addr) (ni ci : Nat) (inp : List Int)
set_option maxHeartbeats 2000000 in
theorem fill_any (hk : GOk G) (w : World) (hn : ni ≤ 100) (s mk tq nz : Nat) (L : List K3) (Ip : Nat → List K3) (hS : ∀ b, S b → b < w.heap.size ∧ b ≠ s ∧ b ≠ mk ∧ b ≠ ms) (hB : B ≤ w.heap.size) (hD : ChD w S B c bi ms sf G Ap Al As np cp nl cl ns cs Ai ni ci inp) (hto : tq ≤ ni) (hsf : sf tq = s)
    (hsb : Blk w s 72 [.slice none 0 0, .map (some mk)]) (hmk : KMap 92 zeroV w mk 0 (fun _ => none)) (hms : SpM w ms nz L) (hne : ms ≠ mk) (hIp : ∀ k, k < tq → SetR w S (sf k) (Ip k) ∧ ∀ y ∈ Ip k, ItOk G k y) (hns : nz ≤ 1000000000) :
    Calls Tryd.prog 24 #[.pointer (some ⟨c, 0, none⟩), .int .i64 tq] w fun e w' => e = .returned (.tuple #[]) ∧
      ∃ l' L' lv' nz', RunsTo G Ip tq ((startL G inp Ip tq).foldl stP ([], [])).1 ((startL G inp Ip tq).foldl stP ([], [])).2 L l' L' ∧ VI G tq (l', []) ∧ Blk w' s 72 [lv', .map (some mk)] ∧ w'.ownsRow w.heap.size 92 3 lv' l'.length (itC l') ∧
        (∃ f, KMap 92 zeroV w' mk l'.length f ∧ ∀ x, inK x → (f x).isSome = decide (x ∈ l')) ∧ SpM w' ms nz' L' ∧ nz' ≤ nz + 1696800 ∧ Kp (fun k => k = s ∨ k = mk ∨ k = ms) w w' := by
  obtain ⟨W1, hW1⟩ : ∃ W1, W1 = w.alloc (.cells #[.pointer (some ⟨c, 0, none⟩)] 42) := ⟨_, rfl⟩
  obtain ⟨W2, hW2⟩ : ∃ W2, W2 = W1.alloc (.cells #[.int .i64 (tq : Int)] 3) := ⟨_, rfl⟩
  obtain ⟨W3, hW3⟩ : ∃ W3, W3 = W2.alloc (.cells #[.slice none 0 0] 70) := ⟨_, rfl⟩
  obtain ⟨W4, hW4⟩ : ∃ W4, W4 = W3.alloc (.cells #[.func (.func 33) #[] #[.pointer (some ⟨w.heap.size, 0, none⟩), .pointer (some ⟨w.heap.size + 1, 0, none⟩), .pointer (some ⟨w.heap.size + 2, 0, none⟩)]] 94) := ⟨_, rfl⟩
  have s1 : W1.heap.size = w.heap.size + 1 := by rw [hW1]; simp
  have s2 : W2.heap.size = w.heap.size + 2 := by rw [hW2]; simp [s1]
  have s3 : W3.heap.size = w.heap.size + 3 := by rw [hW3]; simp [s2]
  have s4 : W4.heap.size = w.heap.size + 4 := by rw [hW4]; simp [s3]
  have b1 : Below w.heap.size w W1 := by rw [hW1]; exact (Below.refl _ _).alloc (Nat.le_refl _) _
  have b2 : Below W1.heap.size W1 W2 := by rw [hW2]; exact (Below.refl _ _).alloc (Nat.le_refl _) _
  have b3 : Below W2.heap.size W2 W3 := by rw [hW3]; exact (Below.refl _ _).alloc (Nat.le_refl _) _
  have b4 : Below W3.heap.size W3 W4 := by rw [hW4]; exact (Below.refl _ _).alloc (Nat.le_refl _) _
  have x1 : Blk W1 w.heap.size 42 [.pointer (some ⟨c, 0, none⟩)] := by rw [hW1]; exact Blk.new w _ _
  have x2 : Blk W2 (w.heap.size + 1) 3 [.int .i64 (tq : Int)] := by rw [hW2, ← s1]; exact Blk.new W1 _ _
  have x3 : Blk W3 (w.heap.size + 2) 70 [.slice none 0 0] := by rw [hW3, ← s2]; exact Blk.new W2 _ _
  have x4 : Blk W4 (w.heap.size + 3) 94 [.func (.func 33) #[] #[.pointer (some ⟨w.heap.size, 0, none⟩), .pointer (some ⟨w.heap.size + 1, 0, none⟩), .pointer (some ⟨w.heap.size + 2, 0, none⟩)]] := by rw [hW4, ← s3]; exact Blk.new W3 _ _
  have b04 : Below w.heap.size w W4 := b1.trans ((b2.mono (by omega)).trans ((b3.mono (by omega)).trans (b4.mono (by omega))))
  have hE4 : FiEnv w W4 s mk ms c tq w.heap.size (w.heap.size + 1) (w.heap.size + 2) (w.heap.size + 3) nz L :=
    ⟨Kp.of b04, ((x1.below' b2).below' b3).below' b4, (x2.below' b3).below' b4, KMap.keep hms (Kp.of (S := fun _ => False) b04) (fun q => q), hne, x4⟩
  have hF4 : FiSt W4 w.heap.size s mk (w.heap.size + 2) [] [] (.slice none 0 0) (.slice none 0 0) :=
    ⟨hsb.below' b04, World.ownsRow_nil _ _ _ _, ⟨_, KMap.keep hmk (Kp.of (S := fun _ => False) b04) (fun q => q), fun x _ => by simp⟩, x3.below' b4, World.ownsRow_nil _ _ _ _, fun g e => by simp [Value.ownBlock] at e⟩
  have hpl : G.prods.length = np := hD.gi.p.len.1
  have HDr : Hid (∀ wr nz L, FiEnv w wr s mk ms c tq w.heap.size (w.heap.size + 1) (w.heap.size + 2) (w.heap.size + 3) nz L → ChD wr S B c bi ms sf G Ap Al As np cp nl cl ns cs Ai ni ci inp) := Lib.hid (fun wr nz L h => hD.kp h.kp (fun b q => ⟨(hS b q).1, fun e => by
    obtain ⟨h1, h2, h3, h4⟩ := hS b q
    rcases e with e | e | e | e
    · exact h2 e
    · exact h3 e
    · exact h4 e
    · omega⟩))
  have HSET : Hid (∀ wr nz L, FiEnv w wr s mk ms c tq w.heap.size (w.heap.size + 1) (w.heap.size + 2) (w.heap.size + 3) nz L → ∀ b, S b → wr.heap[b]? = w.heap[b]?) := Lib.hid (fun wr nz L h b q => h.kp.block b (hS b q).1 (fun e => by
    obtain ⟨h1, h2, h3, h4⟩ := hS b q
    rcases e with e | e | e | e
    · exact h2 e
    · exact h3 e
    · exact h4 e
    · omega))
  have HE4 := Lib.hid hE4; have HF4 := Lib.hid hF4; have HIP := Lib.hid hIp; have HS := Lib.hid hS; have HD := Lib.hid hD
  have HV0 : Hid (VI G tq ([], [])) := Lib.hid ⟨List.nodup_nil, (fun x q => by cases q), List.nodup_nil, (fun x q => by cases q)⟩
  have y1 := hE4.cB.cell (i := 0) rfl
  have y2 := hE4.tO.cell (i := 0) rfl
  have y4 := hE4.pB.cell (i := 0) rfl
  have z2 := (HDr.out W4 nz L hE4).g2
  have HW4 := Lib.hid (show W4 = (((w.alloc (.cells #[.pointer (some ⟨c, 0, none⟩)] 42)).alloc (.cells #[.int .i64 (tq : Int)] 3)).alloc (.cells #[.slice none 0 0] 70)).alloc (.cells #[.func (.func 33) #[] #[.pointer (some ⟨w.heap.size, 0, none⟩), .pointer (some ⟨w.heap.size + 1, 0, none⟩), .pointer (some ⟨w.heap.size + 1 + 1, 0, none⟩)]] 94) by rw [hW4, hW3, hW2, hW1])
  clear hE4 hF4 hIp hS hD x1 x2 x3 x4 b1 b2 b3 b4 b04 hsb hmk hms s1 s2 s3 hW4 hW3 hW2 hW1
  go_enter Tryd.func24, Tryd.ntmps24
  go_upto_region 4 with (fail)
  rw [← HW4.out]
  go_upto_if 22 with (fail)
  go_cut [] from 22 to 79 (fun wx => ∃ l todo lv tv, Hid (FiSt wx w.heap.size s mk (w.heap.size + 2) l todo lv tv) ∧ Hid (FiEnv w wx s mk ms c tq w.heap.size (w.heap.size + 1) (w.heap.size + 2) (w.heap.size + 3) nz L) ∧ Hid ((l, todo) = (startL G inp Ip tq).foldl stP ([], [])) ∧ Hid (VI G tq (l, todo)))
  case first =>
    as_aux_lemma =>
      obtain ⟨st, hst⟩ : ∃ st : Nat, G.start = (st : Int) := ⟨G.start.toNat, by have := hk.s0; omega⟩
      have hs1 := hk.s1
      rw [hst] at z2 hs1
      have HST := Lib.hid hst
      clear hst
      by_cases q : tq = 0
      · have d0 : ((tq : Int) == 0) = true := by simp; omega
        have HQ := Lib.hid q
        clear q
        go_wp2_with fail
        refine (begin_any S B c bi ms sf G Ap Al As np cp nl cl ns cs Ai ni ci inp hk w hn s mk HS.out HD.out st tq hs1 hto hsf w.heap.size (w.heap.size + 1) (w.heap.size + 2) (w.heap.size + 3) w.heap.size nz L [] [] _ _ W4 HE4.out HF4.out (Nat.le_refl _) (by omega) (by omega) (by simp) (by simp)).mono ?_
        rintro e w5 ⟨rfl, lv, tv, hF, hE, hsz⟩
        have hsl : startL G inp Ip tq = begL G st tq := by unfold startL; rw [if_pos HQ.out, HST.out]; rfl
        have HF5 := Lib.hid hF; have HE5 := Lib.hid hE; have HSL := Lib.hid hsl
        clear hF hE hsz hsl
        go_wp2_with fail
        go_meet
        case rel => exact ⟨_, _, lv, tv, HF5, HE5, Lib.hid (by rw [HSL.out]), Lib.hid (HV0.out.fold _ beg_ok)⟩
      · have d0 : ((tq : Int) == 0) = false := by simp; omega
        obtain ⟨t1, ht1⟩ : ∃ t1, tq = t1 + 1 := ⟨tq - 1, by omega⟩
        have hw1 : IntKind.i64.wrap ((tq : Int) - 1) = (t1 : Int) := by rw [IntWalk.i64_in _ (by omega)]; omega
        obtain ⟨hSR, hIO⟩ := HIP.out t1 (by omega)
        obtain ⟨hSs, A, cc, zc, hc1, hc2, hrk⟩ := hSR
        have hsl : startL G inp Ip tq = scanL G inp (Ip t1) tq := by unfold startL; rw [if_neg q, ht1]; rfl
        have hcd := HDr.out W4 nz L HE4.out
        obtain ⟨cb8, z8, q81, q82⟩ := hcd.i8
        have zsp := hcd.sp t1 (by omega)
        have zc4 : W4.cell? ⟨sf t1, 0, none⟩ = some (.slice A (Ip t1).length cc) := (World.cell?_of_block (a := ⟨sf t1, 0, none⟩) (HSET.out W4 nz L HE4.out _ hSs)).trans zc
        have ht1n : t1 < ni + 1 := by omega
        have ht1i : t1 < ni := by omega
        obtain ⟨ib, io, hAi, hib, hic⟩ := hcd.ri.at_ (by have := hcd.li; omega)
        have zin : ∀ wr nz L, FiEnv w wr s mk ms c tq w.heap.size (w.heap.size + 1) (w.heap.size + 2) (w.heap.size + 3) nz L → wr.cell? ⟨c, 6, none⟩ = some (.slice (some ⟨ib, io, none⟩) ni ci) ∧ wr.cell? ⟨ib, io + t1, none⟩ = some (.int .i64 (nth inp t1)) := fun wr nz L h => by
          have h2 := HDr.out wr nz L h
          rw [← hAi]
          refine ⟨h2.c6, ?_⟩
          obtain ⟨ib', io', e1, _, h3⟩ := h2.ri.at_ (by have := h2.li; omega)
          rw [hAi] at e1
          cases e1
          exact h3 t1 (by have := h2.li; omega)
        obtain ⟨m1, m2⟩ := hcd.mi
        have HZIN := Lib.hid zin; have HT1 := Lib.hid ht1; have HSL := Lib.hid hsl; have HRK := Lib.hid hrk; have HIO := Lib.hid hIO
        unfold maxLen at hc2 q82 m2
        obtain ⟨prev, hprev⟩ : ∃ prev, prev = Ip t1 := ⟨_, rfl⟩
        rw [← hprev] at zc4 hc1 HRK HIO HSL
        clear zin ht1 hsl hrk hIO hcd zc hprev hic hib hAi q
        rw [d0]
        go_wp2_with fail
        go_quiet (fail)
        go_wp2_with fail
        go_loopw [42] (fun v wr => ∃ (k : Nat) (l todo : List K3) (lv tv : Value), v = .int .i64 (k : Int) ∧ k ≤ prev.length ∧ Hid (FiSt wr w.heap.size s mk (w.heap.size + 2) l todo lv tv) ∧ Hid (FiEnv w wr s mk ms c tq w.heap.size (w.heap.size + 1) (w.heap.size + 2) (w.heap.size + 3) nz L) ∧ Hid ((l, todo) = (scanL G inp (prev.take k) tq).foldl stP ([], [])) ∧ Hid (VI G tq (l, todo))) (fun v _ => prev.length - (intOf v).toNat)
        case atStart => exact ⟨0, [], [], _, _, rfl, Nat.zero_le _, Lib.hid (HF4.out.quiet (Kp.of (S := fun _ => False) (bel_dN (Below.refl _ _) _)) (fun _ q => q.elim)), Lib.hid (HE4.out.quiet (bel_dN (Below.refl _ _) _)), Lib.hid (by simp [scanL]), HV0⟩
        case round =>
          obtain ⟨k, l, todo, lv, tv, rfl, hkl, HF1, HE1, HL1, HV1⟩ := hrel
          by_cases q : k < prev.length
          · have dq : decide (k < prev.length) = true := decide_eq_true q
            obtain ⟨x, hx⟩ : ∃ x, prev[k]? = some x := ⟨_, List.getElem?_eq_getElem q⟩
            have hxo := HIO.out x (List.mem_of_getElem? hx)
            obtain ⟨rb, ro, rfl, hrb, hrc⟩ := HRK.out (by omega)
            obtain ⟨c0, c1, c2⟩ := hrc k x hx
            have stay : ∀ o v, w.cell? ⟨rb, o, none⟩ = some v → wr.cell? ⟨rb, o, none⟩ = some v := fun o v h => (World.cell?_of_block (a := ⟨rb, o, none⟩) (HSET.out wr nz L HE1.out rb hrb)).trans h
            have c0' := stay _ _ c0
            have c1' := stay _ _ c1
            have c2' := stay _ _ c2
            have v1 := HE1.out.cB.cell (i := 0) rfl
            have hb21 : x.2.1 ≤ 1000 := (hxo.key hk (show t1 ≤ 100 by omega)).2.1
            have hfin : ∀ l' todo', (l', todo') = (scanL G inp [x] tq).foldl stP (l, todo) → (l', todo') = (scanL G inp (prev.take (k + 1)) tq).foldl stP ([], []) := fun l' todo' e => by
              rw [List.take_add_one, hx]
              show _ = (scanL G inp (prev.take k ++ [x]) tq).foldl stP ([], [])
              rw [scanL_snoc, List.foldl_append, ← HL1.out]
              exact e
            have HFIN := Lib.hid hfin; have HX := Lib.hid hx
            have hB1 : B ≤ wr.heap.size := Nat.le_trans hB HE1.out.kp.size
            obtain ⟨W6, hW6⟩ : ∃ W6, W6 = wr.alloc (.cells #[.int .i64 (x.1 : Int), .int .i64 (x.2.1 : Int), .int .i64 (x.2.2 : Int)] 92) := ⟨_, rfl⟩
            have hb6 : Below wr.heap.size wr W6 := by rw [hW6]; exact (Below.refl _ _).alloc (Nat.le_refl _) _
            have hz6 : W6.heap.size = wr.heap.size + 1 := by rw [hW6]; simp
            have hbx : Blk W6 wr.heap.size 92 [.int .i64 (x.1 : Int), .int .i64 (x.2.1 : Int), .int .i64 (x.2.2 : Int)] := by rw [hW6]; exact Blk.new wr _ _
            have hE6 := HE1.out.quiet hb6
            have hF6 := HF1.out.quiet (Kp.of (S := fun _ => False) hb6) (fun _ q => q.elim)
            have hD6 := HDr.out W6 nz L hE6
            have HA := Lib.hid (ahead_any G Ap Al As np cp nl cl ns cs hk B c t1 x hxo (by omega) W6 (by omega) hD6.g3 hD6.gi)
            have e0 := hbx.cell (i := 0) rfl
            have e1 := hbx.cell (i := 1) rfl
            have e2 := hbx.cell (i := 2) rfl
            have e3 := hE6.cB.cell (i := 0) rfl
            have HW6 := Lib.hid hW6; have HE6 := Lib.hid hE6; have HF6 := Lib.hid hF6; have HBX := Lib.hid hbx
            unfold kV at HA
            clear hE6 hF6 hD6 hbx hW6 hb6 hfin hx stay c0 c1 c2
            go_upto_region 9 with (fail)
            rw [← HW6.out]
            go_wp2_with fail
            refine HA.out.mono ?_
            rintro e w7 ⟨rfl, hb7⟩
            have hE7 := HE6.out.quiet hb7
            have hF7 := HF6.out.quiet (Kp.of (S := fun _ => False) hb7) (fun _ q => q.elim)
            have hbx7 : Blk w7 wr.heap.size 92 [.int .i64 (x.1 : Int), .int .i64 (x.2.1 : Int), .int .i64 (x.2.2 : Int)] := HBX.out.below' hb7
            obtain ⟨n6, n7⟩ := HZIN.out w7 nz L hE7
            have g1 := hE7.cB.cell (i := 0) rfl
            have g2 := hE7.tO.cell (i := 0) rfl
            have HE7 := Lib.hid hE7; have HF7 := Lib.hid hF7; have HBX7 := Lib.hid hbx7
            clear hE7 hF7 hbx7 hb7 HA e0 e1 e2 e3 c0' c1' c2' v1
            cases hao : aheadO G x with
            | none =>
              as_aux_lemma =>
                have hav : aheadV G x = .tuple #[.int .i64 0, .bool false] := by unfold aheadV; rw [hao]
                have HAO := Lib.hid hao
                rw [hav]
                clear hav hao
                go_wp2_with fail
                go_quiet (fail)
                go_wp2_with fail
                go_roundw
                case rel => exact ⟨k + 1, l, todo, lv, tv, by simp, by omega, Lib.hid (HF7.out.quiet (Kp.of (S := fun _ => False) (bel_dN (Below.refl _ _) _)) (fun _ q => q.elim)), Lib.hid (HE7.out.quiet (bel_dN (Below.refl _ _) _)), Lib.hid (HFIN.out l todo (by rw [scanL_none HAO.out]; rfl)), HV1⟩
                case measure => simp [intOf]; omega
            | some u =>
              have hav : aheadV G x = .tuple #[.int .i64 u, .bool true] := by unfold aheadV; rw [hao]
              have HAO := Lib.hid hao
              rw [hav]
              clear hav hao
              by_cases r1 : 0 ≤ u
              rotate_left
              · have dr : decide (0 ≤ u) = false := decide_eq_false r1
                have HR1 := Lib.hid r1
                clear r1
                as_aux_lemma =>
                  go_wp2_with fail
                  go_quiet (fail)
                  go_wp2_with fail
                  go_roundw
                  case rel => exact ⟨k + 1, l, todo, lv, tv, by simp, by omega, Lib.hid (HF7.out.quiet (Kp.of (S := fun _ => False) (bel_dN (Below.refl _ _) _)) (fun _ q => q.elim)), Lib.hid (HE7.out.quiet (bel_dN (Below.refl _ _) _)), Lib.hid (HFIN.out l todo (by rw [scanL_no HAO.out (fun e => by have := HR1.out; omega)]; rfl)), HV1⟩
                  case measure => simp [intOf]; omega
              · have dr : decide (0 ≤ u) = true := decide_eq_true r1
                have HR1 := Lib.hid r1
                by_cases r2 : u = nth inp t1
                rotate_left
                · have dr2 : (u == nth inp t1) = false := by simpa using r2
                  have HR2 : Hid (¬ u = nth inp (tq - 1)) := Lib.hid (by rw [HT1.out]; exact r2)
                  clear r2
                  generalize nth inp t1 = sy at *
                  as_aux_lemma =>
                    go_wp2_with fail
                    go_quiet (fail)
                    go_wp2_with fail
                    go_roundw
                    case rel => exact ⟨k + 1, l, todo, lv, tv, by simp, by omega, Lib.hid (HF7.out.quiet (Kp.of (S := fun _ => False) (bel_dN (Below.refl _ _) _)) (fun _ q => q.elim)), Lib.hid (HE7.out.quiet (bel_dN (Below.refl _ _) _)), Lib.hid (HFIN.out l todo (by rw [scanL_no HAO.out (fun e => HR2.out e.2)]; rfl)), HV1⟩
                    case measure => simp [intOf]; omega
                · have dr2 : (u == nth inp t1) = true := by simpa using r2
                  have HR2 : Hid (u = nth inp (tq - 1)) := Lib.hid (by rw [HT1.out]; exact r2)
                  clear r2
                  generalize nth inp t1 = sy at *
                  go_wp2_with fail
                  go_quiet (fail)
                  obtain ⟨W8, hW8⟩ : ∃ W8, W8 = w7.drewN nq := ⟨_, rfl⟩
                  have hb78 : Below w7.heap.size w7 W8 := by rw [hW8]; exact bel_dN (Below.refl _ _) _
                  have hE8 := HE7.out.quiet hb78
                  have hF8 := HF7.out.quiet (Kp.of (S := fun _ => False) hb78) (fun _ q => q.elim)
                  have hbx8 := HBX7.out.below' hb78
                  have i0 := hbx8.cell (i := 0) rfl
                  have i1 := hbx8.cell (i := 1) rfl
                  have i2 := hbx8.cell (i := 2) rfl
                  have i3 := hE8.pB.cell (i := 0) rfl
                  have hvl : l.length ≤ 848400 ∧ todo.length ≤ l.length := HV1.out.len hk (show tq ≤ 100 by omega)
                  have hD8 := HDr.out W8 nz L hE8
                  have hao2 := adv_ok (hm := show t1 ≤ tq by have := HT1.out; omega) hxo HAO.out
                  have HPUT : Hid (Calls Tryd.prog 33 #[.agg #[.int .i64 (x.1 : Int), .int .i64 ((x.2.1 : Int) + 1), .int .i64 (x.2.2 : Int)], .pointer (some ⟨w.heap.size, 0, none⟩), .pointer (some ⟨w.heap.size + 1, 0, none⟩), .pointer (some ⟨w.heap.size + 2, 0, none⟩)] W8 _) := Lib.hid (put_any w.heap.size (w.heap.size + 1) (w.heap.size + 2) c tq s mk bi (ni + 1) cb8 w.heap.size l todo lv tv (advI x) (hao2.key hk (by omega)) W8 hF8 hE8.kp.size (hE8.cB.cell (i := 0) rfl) (hE8.tO.cell (i := 0) rfl) ((World.cell?_of_block (a := ⟨c, 8, none⟩) ((HSET.out W8 nz L hE8 c HD.out.cS).trans (HSET.out W4 nz L HE4.out c HD.out.cS).symm)).trans z8) (by rw [← hsf]; exact hD8.sp tq hto) (by omega) q81 (by omega) (by omega) (by omega))
                  have HP := Lib.hid (fun (lv2 tv2 : Value) (w9 : World) (hPE : PutE s mk (w.heap.size + 2) lv tv l.length W8 lv2 tv2 w9) => hE8.put hF8 (Nat.le_refl _) (by omega) hPE)
                  have HAO2 := Lib.hid hao2
                  rw [← hW8]
                  clear hE8 hF8 hbx8 hb78 hD8 hW8 hvl hao2
                  go_wp2_with fail
                  refine HPUT.out.mono ?_
                  rintro e w9 ⟨rfl, lv2, tv2, hF9, hPE⟩
                  have HE9 := Lib.hid (HP.out lv2 tv2 w9 hPE)
                  have HF9 : Hid (FiSt w9 w.heap.size s mk (w.heap.size + 2) (stP (l, todo) (advI x)).1 (stP (l, todo) (advI x)).2 lv2 tv2) := Lib.hid (by rw [stP_fst, stP_snd]; exact hF9)
                  have HV9 := Lib.hid (HV1.out.put HAO2.out)
                  have HL9 : Hid (((stP (l, todo) (advI x)).1, (stP (l, todo) (advI x)).2) = (scanL G inp (prev.take (k + 1)) tq).foldl stP ([], [])) := Lib.hid (HFIN.out _ _ (by rw [scanL_yes HAO.out ⟨HR1.out, HR2.out⟩]; rfl))
                  clear hF9 hPE HPUT HP i0 i1 i2 i3
                  go_wp2_with fail
                  go_roundw
                  case rel => exact ⟨k + 1, _, _, lv2, tv2, by simp, by omega, HF9, HE9, HL9, HV9⟩
                  case measure => simp [intOf]; omega
          · have dq : decide (k < prev.length) = false := decide_eq_false q
            have HQ := Lib.hid q
            clear q
            go_wp2_with fail
            go_meet
            case rel => exact ⟨l, todo, lv, tv, HF1, HE1, Lib.hid (by
              have h := HL1.out
              rw [List.take_of_length_le (by have := HQ.out; omega)] at h
              rw [HSL.out]; exact h), HV1⟩
  case rest =>
    as_aux_lemma =>
      obtain ⟨l0, todo0, lv0, tv0, HF0, HE0, HL0, HV0b⟩ := hcut
      have HIPok : Hid (∀ k, k < tq → ∀ y ∈ Ip k, ItOk G k y) := Lib.hid (fun k q => (HIP.out k q).2)
      have ht100 : tq ≤ 100 := by omega
      clear HF4 HE4 HV0 HW4 y1 y2 y4 z2
      go_wp2_with fail
      go_loopg [] (meaS (l0, todo0)) (fun gk wr => ∃ (l todo : List K3) (lv tv : Value) (L2 : List K3) (nz2 : Nat), Hid (gk = meaS (l, todo)) ∧ Hid (FiSt wr w.heap.size s mk (w.heap.size + 2) l todo lv tv) ∧ Hid (FiEnv w wr s mk ms c tq w.heap.size (w.heap.size + 1) (w.heap.size + 2) (w.heap.size + 3) nz2 L2) ∧ Hid (∀ l' L', RunsTo G Ip tq l todo L2 l' L' → RunsTo G Ip tq l0 todo0 L l' L') ∧ Hid (VI G tq (l, todo)) ∧ Hid (nz2 + gk ≤ nz + 1696800))
      case atStart => exact ⟨l0, todo0, lv0, tv0, L, nz, Lib.hid rfl, HF0, HE0, Lib.hid (fun _ _ h => h), HV0b, Lib.hid (by have h := HV0b.out.len hk ht100; simp only at h; unfold meaS; simp only; omega)⟩
      case round =>
        obtain ⟨l, todo, lv, tv, L2, nz2, HGK, HF1, HE1, HR1, HV1, HN1⟩ := hrel
        obtain ⟨At, ct, rfl, hct1, hct2, -⟩ := own_form HF1.out.ot
        have hvl := HV1.out.len hk ht100
        simp only at hvl
        obtain ⟨h1, h2⟩ := hvl
        by_cases h0 : 0 < todo.length
        rotate_left
        · as_aux_lemma =>
            obtain rfl : todo = [] := List.eq_nil_of_length_eq_zero (by omega)
            have g1 := HF1.out.tB.cell (i := 0) rfl
            simp only [List.length_nil] at g1
            have HFIN := Lib.hid (HR1.out _ _ (RunsTo.done _ _))
            have hnz : nz2 ≤ nz + 1696800 := by have := HN1.out; omega
            clear h0 h1 h2 hct1 hct2
            go_wp2_with fail
            go_end0
            refine ⟨rfl, l, L2, lv, nz2, by rw [← HL0.out]; exact HFIN.out, HV1.out, HF1.out.sb, HF1.out.ol, HF1.out.im, HE1.out.sp, hnz, HE1.out.kp.mono (fun k hk q => ?_)⟩
            rcases q with q | q | q | q
            · exact .inl q
            · exact .inr (.inl q)
            · exact .inr (.inr q)
            · omega
        · obtain ⟨t, x, rfl⟩ := snoc_posK h0
          obtain ⟨-, g, rfl, hcap, -⟩ := HF1.out.pop
          have hxo := HV1.out.ok x (HV1.out.sb x (by simp))
          have hb21 : x.2.1 ≤ 1000 := (hxo.key hk ht100).2.1
          have hb1 : x.1 ≤ 1000 := (hxo.key hk ht100).1
          have hb22 : x.2.2 ≤ tq := hxo.2.2
          obtain ⟨c0, c1, c2⟩ := own_cell3 HF1.out.ot rfl (j := t.length) (x := x) (by simp)
          have v0 := HE1.out.cB.cell (i := 0) rfl
          have v1 := HF1.out.tB.cell (i := 0) rfl
          have f1 := HF1.out.tB.frozen 0
          have hlen : (t ++ [x]).length = t.length + 1 := by simp
          rw [hlen] at v1 h2 hct1 h0
          unfold maxLen at hct2
          have HXO := Lib.hid hxo
          have HXL := Lib.hid (HV1.out.sb x (by simp))
          have HOB : Hid ((∀ g', lv.ownBlock = some g' → g' < wr.heap.size) ∧ g < wr.heap.size) := Lib.hid ⟨fun g' e => (HF1.out.apart.ls g' e).2.2.2, (HF1.out.apart.ts g rfl).2.2.2⟩
          obtain ⟨W6, hW6⟩ : ∃ W6, W6 = wr.alloc (.cells #[.int .i64 (x.1 : Int), .int .i64 (x.2.1 : Int), .int .i64 (x.2.2 : Int)] 92) := ⟨_, rfl⟩
          have hb6 : Below wr.heap.size wr W6 := by rw [hW6]; exact (Below.refl _ _).alloc (Nat.le_refl _) _
          have hz6 : W6.heap.size = wr.heap.size + 1 := by rw [hW6]; simp
          have hbx : Blk W6 wr.heap.size 92 [.int .i64 (x.1 : Int), .int .i64 (x.2.1 : Int), .int .i64 (x.2.2 : Int)] := by rw [hW6]; exact Blk.new wr _ _
          have hE6 := HE1.out.quiet hb6
          have hF6 := HF1.out.quiet (Kp.of (S := fun _ => False) hb6) (fun _ q => q.elim)
          obtain ⟨W7, hW7⟩ : ∃ W7, W7 = W6.setCell ⟨w.heap.size + 2, 0, none⟩ (.slice (some ⟨g, 0, none⟩) t.length ct) := ⟨_, rfl⟩
          have k67 : Kp (fun k => k = w.heap.size + 2) W6 W7 := by rw [hW7]; exact (Kp.refl (fun k => k = w.heap.size + 2) W6).set_ (p := ⟨w.heap.size + 2, 0, none⟩) (.inr rfl) _
          have hz7 : W7.heap.size = wr.heap.size + 1 := by rw [hW7]; simp [hz6]
          obtain ⟨-, g', hg', -, hF7⟩ := hF6.pop
          rw [← hW7] at hF7
          have hE7 := hE6.own hF6.tB (by omega) k67
          have hbx7 : Blk W7 wr.heap.size 92 [.int .i64 (x.1 : Int), .int .i64 (x.2.1 : Int), .int .i64 (x.2.2 : Int)] := blk_kp hbx k67 (blk_ne hbx hF6.tB (by decide))
          have hD7 := HDr.out W7 nz2 L2 hE7
          have hB7 : B ≤ W7.heap.size := by have := HE1.out.kp.size; omega
          have HA := Lib.hid (ahead_any G Ap Al As np cp nl cl ns cs hk B c tq x hxo ht100 W7 hB7 hD7.g3 hD7.gi)
          have e0 := hbx7.cell (i := 0) rfl
          have e1 := hbx7.cell (i := 1) rfl
          have e2 := hbx7.cell (i := 2) rfl
          have e3 := hE7.cB.cell (i := 0) rfl
          have n1 := hF6.tB.cell (i := 0) rfl
          rw [hlen] at n1
          have n2 := hF6.tB.frozen 0
          have HW6 := Lib.hid hW6
          have HW7 := Lib.hid (show W7 = W6.setCell ⟨w.heap.size + 1 + 1, 0, none⟩ (.slice (some ⟨g, 0, none⟩) t.length ct) from hW7); have HE7 := Lib.hid hE7; have HF7 := Lib.hid hF7; have HBX7 := Lib.hid hbx7
          unfold kV at HA
          clear hE6 hF6 hE7 hF7 hD7 hbx hbx7 hW6 hW7 hb6 hxo hg' k67 hz6 hB7 HF1 HE1 HF0 HE0 HV0b hlen
          go_upto_region 15 with (fail)
          rw [← HW6.out]
          clear HW6 c0 c1 c2 v0 v1 f1
          go_upto_region 16 with (fail)
          rw [← HW7.out]
          go_wp2_with fail
          refine HA.out.mono ?_
          rintro e w8 ⟨rfl, hb8⟩
          have hE8 := HE7.out.quiet hb8
          have hF8 := HF7.out.quiet (Kp.of (S := fun _ => False) hb8) (fun _ q => q.elim)
          have hbx8 : Blk w8 wr.heap.size 92 [.int .i64 (x.1 : Int), .int .i64 (x.2.1 : Int), .int .i64 (x.2.2 : Int)] := HBX7.out.below' hb8
          have HE8 := Lib.hid hE8; have HF8 := Lib.hid hF8; have HBX8 := Lib.hid hbx8
          have hz8 : wr.heap.size < w8.heap.size := hbx8.lt
          clear hE8 hF8 hbx8 hb8 HA e0 e1 e2 e3 n1 n2 HE7 HF7 HBX7
          obtain ⟨wo, rfl⟩ : ∃ wo : World, wo = wr := ⟨_, rfl⟩
          obtain ⟨tv, htv⟩ : ∃ tv, tv = Value.slice (some ⟨g, 0, none⟩) t.length ct := ⟨_, rfl⟩
          rw [← htv] at HF8
          have HTV := Lib.hid htv
          clear htv
          cases hao : aheadO G x with
          | none =>
            as_aux_lemma =>
              have hav : aheadV G x = .tuple #[.int .i64 0, .bool false] := by unfold aheadV; rw [hao]
              have HAO := Lib.hid hao
              rw [hav]
              clear hav hao
              obtain ⟨nm, hnm⟩ : ∃ nm : Nat, lfN G x.1 = (nm : Int) := ⟨(lfN G x.1).toNat, by have := (left_ok hk HXO.out).1; omega⟩
              have hnm3 : nm < 300 := by have h := (left_ok hk HXO.out).2; have := hk.n1; omega
              have hD8 := HDr.out w8 nz2 L2 HE8.out
              have hx1 : x.1 < np := by have := HXO.out.1; omega
              obtain ⟨pb, po, A', n', c', hAp, hpb, zl, -, -, -, -, -⟩ := hD8.gi.p.rt (p := x.1) hx1
              rw [hnm] at zl
              have z3 := hD8.g3
              rw [hAp] at z3
              clear hAp
              have HNM := Lib.hid hnm
              have i0 := HBX8.out.cell (i := 0) rfl
              have i3 := HE8.out.cB.cell (i := 0) rfl
              clear hD8 hnm
              go_wp2_with fail
              go_quiet (fail)
              go_wp2_with fail
              obtain ⟨W10, hW10⟩ : ∃ W10, W10 = (w8.drewN nq).drew := ⟨_, rfl⟩
              have hb10 : Below w8.heap.size w8 W10 := by rw [hW10]; exact (bel_dN (Below.refl _ _) _).drew
              have hE10 := HE8.out.quiet hb10
              have hF10 := HF8.out.quiet (Kp.of (S := fun _ => False) hb10) (fun _ q => q.elim)
              have hbx10 := HBX8.out.below' hb10
              have hD10 := HDr.out W10 nz2 L2 hE10
              have j0 := hE10.cB.cell (i := 0) rfl
              have j1 := hE10.tO.cell (i := 0) rfl
              have j2 := hbx10.cell (i := 2) rfl
              have j3 := hD10.c9
              obtain ⟨W11, nz3, hput, hS11, hnz3, hg11⟩ := hE10.sp.put (x := (nm, x.2.2, tq)) ⟨by simp only; omega, by simp only; omega, by simp only; omega⟩ (by have := HN1.out; omega)
              have k11 : Kp (fun k => k = ms) W10 W11 := ⟨hg11.os, hg11.tape, hg11.output, hg11.size, fun k hk hn => hg11.block k hk (fun e => hn (by cases e; rfl))⟩
              have hE11 := hE10.span k11 hS11
              have hF11 := hF10.span hE10.sp hE10.mm k11
              have hbx11 := blk_kp hbx10 k11 (fun e => KMap.ne hE10.sp hbx10 e.symm)
              unfold kV at hput
              have HE11 := Lib.hid hE11; have HF11 := Lib.hid hF11; have HBX11 := Lib.hid hbx11
              clear hE10 hF10 hbx10 hD10 hS11 hg11 k11 hE11 hF11 hbx11 hb10 zl z3 i0 i3
              refine wp_region_still_tail 9 (by kernel_rfl) (by kernel_rfl) ?_
              simp only [List.take_succ_cons, List.take_zero, List.drop_succ_cons, List.drop_zero]
              change wpStill _ _ (w8.drewN nq).drew (fun a' => wpList _ _ _ _ a' (w8.drewN nq).drew) _ _
              rw [← hW10]
              clear hW10
              refine wpStill_of_quiet _ _ ?_
              repeat (first | go_big_quiet_skip | (go_big_quiet_want; go_big_quiet_op; go_big_quiet_on))
              refine wpQuiet_nil ?_
              go_wp2_with fail
              clear hput j0 j1 j2 j3
              obtain ⟨l1, hl1⟩ : ∃ l1, l1 = if x.2.2 = tq then l else Ip x.2.2 := ⟨_, rfl⟩
              have hrow : ∃ A1 c1 gg oo, W11.cell? ⟨sf x.2.2, 0, none⟩ = some (.slice A1 l1.length c1) ∧ l1.length ≤ c1 ∧ c1 ≤ maxLen ∧ (0 < l1.length → A1 = some ⟨gg, oo, none⟩) ∧ (0 < l1.length → Snp W11 s mk (w.heap.size + 2) lv tv l.length gg oo l1) ∧ ∀ y ∈ l1, ItOk G tq y := by
                by_cases q : x.2.2 = tq
                · rw [if_pos q] at hl1
                  subst hl1
                  rw [q, hsf]
                  rcases HF11.out.ol.2 with ⟨e, q5⟩ | ⟨gg, cap, cur, e, q1, q2, q3, q4, q5⟩
                  · exfalso
                    have := List.length_pos_of_mem HXL.out
                    omega
                  · exact ⟨_, cap, gg, 0, by rw [← e]; exact HF11.out.sb.cell (i := 0) rfl, q3, q4, fun _ => rfl, fun _ => HF11.out.snp (by rw [e]; rfl), HV1.out.ok⟩
                · have q' : x.2.2 < tq := by omega
                  rw [if_neg q] at hl1
                  subst hl1
                  obtain ⟨⟨hSs, A, cc, zc, q1, q2, hrk⟩, hIO⟩ := HIP.out x.2.2 q'
                  have zc11 := (World.cell?_of_block (a := ⟨sf x.2.2, 0, none⟩) (HSET.out W11 _ _ HE11.out _ hSs)).trans zc
                  by_cases q3 : 0 < (Ip x.2.2).length
                  · obtain ⟨rb, ro, rfl, hrb, hrc⟩ := hrk q3
                    have stay : ∀ o v, w.cell? ⟨rb, o, none⟩ = some v → W11.cell? ⟨rb, o, none⟩ = some v := fun o v h => (World.cell?_of_block (a := ⟨rb, o, none⟩) (HSET.out W11 _ _ HE11.out rb hrb)).trans h
                    obtain ⟨a1, a2, a3, a4⟩ := HS.out rb hrb
                    exact ⟨_, cc, rb, ro, zc11, q1, q2, fun _ => rfl, fun _ => HF11.out.snpS (fun j y hy => by
                      obtain ⟨h1, h2, h3⟩ := hrc j y hy
                      exact ⟨stay _ _ h1, stay _ _ h2, stay _ _ h3⟩) a1 (Nat.lt_of_lt_of_le a1 HE11.out.kp.size) ⟨a2, a3⟩ (by omega), fun y hy => (hIO y hy).mono (by omega)⟩
                  · exact ⟨A, cc, 0, 0, zc11, q1, q2, fun h => absurd h q3, fun h => absurd h q3, fun y hy => (hIO y hy).mono (by omega)⟩
              obtain ⟨A1, c1, gg, oo, zrow, hc1, hc2, hA1, hsn, hyo⟩ := hrow
              have hD11 := HDr.out W11 _ _ HE11.out
              obtain ⟨cb8, z8, q81, q82⟩ := hD11.i8
              have zsp := hD11.sp x.2.2 (by omega)
              have m0 := HE11.out.cB.cell (i := 0) rfl
              have m2 := HBX11.out.cell (i := 2) rfl
              unfold maxLen at hc2 q82
              have hx2n : x.2.2 < ni + 1 := by omega
              have Z8 := Lib.hid z8
              have HL1 := Lib.hid hl1; have HSN0 := Lib.hid hsn; have HYO := Lib.hid hyo
              clear hl1 hsn hyo hD11
              go_quiet (fail)
              go_wp2_with fail
              clear zrow z8 zsp m0 m2
              go_loopw [134] (fun v wr => ∃ (k : Nat) (l3 t3 : List K3) (lv3 tv3 : Value), v = .int .i64 (k : Int) ∧ k ≤ l1.length ∧ Hid (FiSt wr w.heap.size s mk (w.heap.size + 2) l3 t3 lv3 tv3) ∧ Hid (FiEnv w wr s mk ms c tq w.heap.size (w.heap.size + 1) (w.heap.size + 2) (w.heap.size + 3) nz3 (insL L2 (nm, x.2.2, tq))) ∧ Hid ((l3, t3) = (compL G nm (l1.take k)).foldl stP (l, t)) ∧ Hid (VI G tq (l3, t3)) ∧ Hid (0 < l1.length → Snp wr s mk (w.heap.size + 2) lv3 tv3 l3.length gg oo l1)) (fun v _ => l1.length - (intOf v).toNat)
              case atStart => exact ⟨0, l, t, lv, tv, rfl, Nat.zero_le _, Lib.hid (HF11.out.quiet (Kp.of (S := fun _ => False) (bel_dN (Below.refl _ _) _)) (fun _ q => q.elim)), Lib.hid (HE11.out.quiet (bel_dN (Below.refl _ _) _)), Lib.hid (by simp [compL]), Lib.hid HV1.out.init, Lib.hid (fun h => (HSN0.out h).quiet (bel_dN (Below.refl _ _) _))⟩
              case round =>
                obtain ⟨k, l3, t3, lv3, tv3, rfl, hkl, HF12, HE12, HL12, HV12, HSN⟩ := hrel
                by_cases q : k < l1.length
                · have dq : decide (k < l1.length) = true := decide_eq_true q
                  obtain ⟨y, hy⟩ : ∃ y, l1[k]? = some y := ⟨_, List.getElem?_eq_getElem q⟩
                  have hyo := HYO.out y (List.mem_of_getElem? hy)
                  obtain rfl := hA1 (by omega)
                  obtain ⟨c0, c1, c2⟩ := (HSN.out (by omega)).cells k y hy
                  have v1 := HE12.out.cB.cell (i := 0) rfl
                  have hb21y : y.2.1 ≤ 1000 := (hyo.key hk ht100).2.1
                  have hfin : ∀ l' t', (l', t') = (compL G nm [y]).foldl stP (l3, t3) → (l', t') = (compL G nm (l1.take (k + 1))).foldl stP (l, t) := fun l' t' e => by
                    rw [List.take_add_one, hy]
                    show _ = (compL G nm (l1.take k ++ [y])).foldl stP (l, t)
                    rw [compL_snoc, List.foldl_append, ← HL12.out]
                    exact e
                  have HFIN := Lib.hid hfin; have HY := Lib.hid hy; have HYY := Lib.hid hyo
                  obtain ⟨W13, hW13⟩ : ∃ W13, W13 = wr.alloc (.cells #[.int .i64 (y.1 : Int), .int .i64 (y.2.1 : Int), .int .i64 (y.2.2 : Int)] 92) := ⟨_, rfl⟩
                  have hb13 : Below wr.heap.size wr W13 := by rw [hW13]; exact (Below.refl _ _).alloc (Nat.le_refl _) _
                  have hz13 : W13.heap.size = wr.heap.size + 1 := by rw [hW13]; simp
                  have hby : Blk W13 wr.heap.size 92 [.int .i64 (y.1 : Int), .int .i64 (y.2.1 : Int), .int .i64 (y.2.2 : Int)] := by rw [hW13]; exact Blk.new wr _ _
                  have hE13 := HE12.out.quiet hb13
                  have hF13 := HF12.out.quiet (Kp.of (S := fun _ => False) hb13) (fun _ q => q.elim)
                  have HS13 : Hid (Snp W13 s mk (w.heap.size + 2) lv3 tv3 l3.length gg oo l1) := Lib.hid ((HSN.out (by omega)).quiet hb13)
                  have hD13 := HDr.out W13 _ _ hE13
                  have HA := Lib.hid (ahead_any G Ap Al As np cp nl cl ns cs hk B c tq y hyo ht100 W13 (by have := hE13.kp.size; omega) hD13.g3 hD13.gi)
                  have e0 := hby.cell (i := 0) rfl
                  have e1 := hby.cell (i := 1) rfl
                  have e2 := hby.cell (i := 2) rfl
                  have e3 := hE13.cB.cell (i := 0) rfl
                  have HW13 := Lib.hid hW13; have HE13 := Lib.hid hE13; have HF13 := Lib.hid hF13; have HBY := Lib.hid hby
                  unfold kV at HA
                  clear hE13 hF13 hD13 hby hW13 hb13 hfin hy hyo HSN
                  go_upto_region 23 with (fail)
                  rw [← HW13.out]
                  clear c0 c1 c2 v1
                  go_wp2_with fail
                  refine HA.out.mono ?_
                  rintro e w14 ⟨rfl, hb14⟩
                  have hE14 := HE13.out.quiet hb14
                  have hF14 := HF13.out.quiet (Kp.of (S := fun _ => False) hb14) (fun _ q => q.elim)
                  have hby14 : Blk w14 wr.heap.size 92 [.int .i64 (y.1 : Int), .int .i64 (y.2.1 : Int), .int .i64 (y.2.2 : Int)] := HBY.out.below' hb14
                  have HS14 := Lib.hid (HS13.out.quiet hb14)
                  have HE14 := Lib.hid hE14; have HF14 := Lib.hid hF14; have HBY14 := Lib.hid hby14
                  clear hE14 hF14 hby14 hb14 HA e0 e1 e2 e3
                  cases hao : aheadO G y with
                  | none =>
                    as_aux_lemma =>
                      have hav : aheadV G y = .tuple #[.int .i64 0, .bool false] := by unfold aheadV; rw [hao]
                      have HAOY := Lib.hid hao
                      rw [hav]
                      clear hav hao
                      go_wp2_with fail
                      go_roundw
                      case rel => exact ⟨k + 1, l3, t3, lv3, tv3, by simp, by omega, HF14, HE14, Lib.hid (HFIN.out l3 t3 (by rw [compL_no (by rw [HAOY.out]; simp)]; rfl)), HV12, Lib.hid (fun _ => HS14.out)⟩
                      case measure => simp [intOf]; omega
                  | some z =>
                    have hav : aheadV G y = .tuple #[.int .i64 z, .bool true] := by unfold aheadV; rw [hao]
                    have HAOY := Lib.hid hao
                    have hzb := ahead_sym hk HYY.out hao
                    rw [hav]
                    clear hav hao
                    by_cases r2 : z = -1 - (nm : Int)
                    rotate_left
                    · have dr2 : (z == -1 - (nm : Int)) = false := by simpa using r2
                      have HR2 := Lib.hid r2
                      clear r2
                      as_aux_lemma =>
                        go_wp2_with fail
                        go_roundw
                        case rel => exact ⟨k + 1, l3, t3, lv3, tv3, by simp, by omega, HF14, HE14, Lib.hid (HFIN.out l3 t3 (by rw [compL_no (by rw [HAOY.out]; intro e; cases e; exact HR2.out rfl)]; rfl)), HV12, Lib.hid (fun _ => HS14.out)⟩
                        case measure => simp [intOf]; omega
                    · have dr2 : (z == -1 - (nm : Int)) = true := by simpa using r2
                      have HR2 := Lib.hid r2
                      clear r2
                      as_aux_lemma =>
                        have i0 := HBY14.out.cell (i := 0) rfl
                        have i1 := HBY14.out.cell (i := 1) rfl
                        have i2 := HBY14.out.cell (i := 2) rfl
                        have i3 := HE14.out.pB.cell (i := 0) rfl
                        have hvl3 := HV12.out.len hk ht100
                        simp only at hvl3
                        have hD14 := HDr.out w14 _ _ HE14.out
                        have hao2 : ItOk G tq (advI y) := adv_ok HYY.out (Nat.le_refl _) HAOY.out
                        have HPUT : Hid (Calls Tryd.prog 33 #[.agg #[.int .i64 (y.1 : Int), .int .i64 ((y.2.1 : Int) + 1), .int .i64 (y.2.2 : Int)], .pointer (some ⟨w.heap.size, 0, none⟩), .pointer (some ⟨w.heap.size + 1, 0, none⟩), .pointer (some ⟨w.heap.size + 2, 0, none⟩)] w14 _) := Lib.hid (put_any w.heap.size (w.heap.size + 1) (w.heap.size + 2) c tq s mk bi (ni + 1) cb8 w.heap.size l3 t3 lv3 tv3 (advI y) (hao2.key hk ht100) w14 HF14.out HE14.out.kp.size (HE14.out.cB.cell (i := 0) rfl) (HE14.out.tO.cell (i := 0) rfl) ((World.cell?_of_block (a := ⟨c, 8, none⟩) ((HSET.out w14 _ _ HE14.out c HD.out.cS).trans (HSET.out W11 _ _ HE11.out c HD.out.cS).symm)).trans Z8.out) (by rw [← hsf]; exact hD14.sp tq hto) (by omega) q81 (by omega) (by omega) (by omega))
                        have HP := Lib.hid (fun (lv2 tv2 : Value) (w9 : World) (hPE : PutE s mk (w.heap.size + 2) lv3 tv3 l3.length w14 lv2 tv2 w9) => HE14.out.put HF14.out (Nat.le_refl _) (by omega) hPE)
                        have HAO2 := Lib.hid hao2
                        clear hD14 hvl3 hao2
                        go_wp2_with fail
                        refine HPUT.out.mono ?_
                        rintro e w15 ⟨rfl, lv2, tv2, hF15, hPE⟩
                        have HE15 := Lib.hid (HP.out lv2 tv2 w15 hPE)
                        have HF15 : Hid (FiSt w15 w.heap.size s mk (w.heap.size + 2) (stP (l3, t3) (advI y)).1 (stP (l3, t3) (advI y)).2 lv2 tv2) := Lib.hid (by rw [stP_fst, stP_snd]; exact hF15)
                        have HV15 := Lib.hid (HV12.out.put HAO2.out)
                        have HL15 : Hid (((stP (l3, t3) (advI y)).1, (stP (l3, t3) (advI y)).2) = (compL G nm (l1.take (k + 1))).foldl stP (l, t)) := Lib.hid (HFIN.out _ _ (by rw [compL_yes (by rw [HAOY.out, HR2.out])]; rfl))
                        have HS15 : Hid (Snp w15 s mk (w.heap.size + 2) lv2 tv2 (stP (l3, t3) (advI y)).1.length gg oo l1) := Lib.hid (HS14.out.put hPE (by unfold stP; split <;> simp))
                        clear hF15 hPE HPUT HP i0 i1 i2 i3
                        go_wp2_with fail
                        go_roundw
                        case rel => exact ⟨k + 1, _, _, lv2, tv2, by simp, by omega, HF15, HE15, HL15, HV15, Lib.hid (fun _ => HS15.out)⟩
                        case measure => simp [intOf]; omega
                · as_aux_lemma =>
                    have dq : decide (k < l1.length) = false := decide_eq_false q
                    have HQ := Lib.hid q
                    clear q
                    have HPOP : Hid (popS G Ip tq l t L2 x = (l3, t3, insL L2 (nm, x.2.2, tq))) := Lib.hid (by
                      have h := HL12.out
                      rw [List.take_of_length_le (by have := HQ.out; omega)] at h
                      rw [pop_done HAO.out HNM.out HL1.out, ← h])
                    have HPF := Lib.hid (pop_fin hk ht100 HIPok.out HV1.out HR1.out HPOP.out)
                    clear HPOP
                    go_wp2_with fail
                    go_roundg (meaS (l3, t3))
                    case rel => exact ⟨l3, t3, lv3, tv3, insL L2 (nm, x.2.2, tq), nz3, Lib.hid rfl, HF12, HE12, Lib.hid HPF.out.1, Lib.hid HPF.out.2.1, Lib.hid (by have h1 := HN1.out; have h2 := HGK.out; have h3 := HPF.out.2.2; omega)⟩
                    case measure => have h2 := HGK.out; have h3 := HPF.out.2.2; omega
          | some u =>
            have hav : aheadV G x = .tuple #[.int .i64 u, .bool true] := by unfold aheadV; rw [hao]
            have HAO := Lib.hid hao
            obtain ⟨u1, u2, u3, u4⟩ := ahead_sym hk HXO.out hao
            rw [hav]
            clear hav hao
            by_cases r1 : u < 0
            rotate_left
            · as_aux_lemma =>
                have dr : decide (u < 0) = false := decide_eq_false r1
                have HPF := Lib.hid (pop_fin hk ht100 HIPok.out HV1.out HR1.out (pop_term HAO.out r1))
                clear r1
                go_wp2_with fail
                go_roundg (meaS (l, t))
                case rel => exact ⟨l, t, lv, tv, L2, nz2, Lib.hid rfl, HF8, HE8, Lib.hid HPF.out.1, Lib.hid HPF.out.2.1, Lib.hid (by have h1 := HN1.out; have h2 := HGK.out; have h3 := HPF.out.2.2; omega)⟩
                case measure => have h2 := HGK.out; have h3 := HPF.out.2.2; omega
            · as_aux_lemma =>
                obtain ⟨nm, hnm⟩ : ∃ nm : Nat, -1 - u = (nm : Int) := ⟨(-1 - u).toNat, by omega⟩
                have hw1 : IntKind.i64.wrap (-1 - u) = (nm : Int) := by rw [IntWalk.i64_in _ (by omega)]; exact hnm
                have hnm3 : nm < 300 := by omega
                have hnmN : (nm : Int) < G.names := by omega
                have dr : decide (u < 0) = true := decide_eq_true r1
                have HNM := Lib.hid hnm; have HR1N := Lib.hid r1
                have HSNX : Hid (Snp w8 s mk (w.heap.size + 2) lv tv l.length wo.heap.size 0 [x]) := Lib.hid (by
                  have a := HF8.out.apart
                  obtain ⟨fx, hmx, _⟩ := HF8.out.im
                  refine ⟨fun j y hy => ?_, hz8, ⟨blk_ne HBX8.out HF8.out.sb (by decide), fun e => hmx.ne HBX8.out e.symm, blk_ne HBX8.out HF8.out.tB (by decide)⟩, fun e => ?_, fun e => ?_⟩
                  · match j with
                    | 0 =>
                      simp only [List.getElem?_cons_zero, Option.some.injEq] at hy
                      subst hy
                      exact ⟨HBX8.out.cell (i := 0) rfl, HBX8.out.cell (i := 1) rfl, HBX8.out.cell (i := 2) rfl⟩
                    | j + 1 => simp at hy
                  · have := HOB.out.1 _ e; omega
                  · rw [HTV.out] at e
                    simp only [Value.ownBlock, Option.some.injEq] at e
                    have := HOB.out.2
                    omega)
                clear r1 hnm
                go_wp2_with fail
                refine (begin_any S B c bi ms sf G Ap Al As np cp nl cl ns cs Ai ni ci inp hk w hn s mk HS.out HD.out nm tq hnmN hto hsf w.heap.size (w.heap.size + 1) (w.heap.size + 2) (w.heap.size + 3) w.heap.size nz2 L2 l t lv tv w8 HE8.out HF8.out (Nat.le_refl _) HE8.out.kp.size (by omega) (by omega) (by omega)).mono ?_
                rintro e w9 ⟨rfl, lv2, tv2, hF9, hE9, hsz9, hsn9⟩
                have HS9 := Lib.hid (hsn9 _ _ _ HSNX.out)
                have HST := Lib.hid (standsS_any c ms nz2 L2 (nm, tq, tq) ⟨by simp only; omega, by simp only; omega, by simp only; omega⟩ w9 (HDr.out w9 _ _ hE9).c9 hE9.sp)
                have g0 := hE9.cB.cell (i := 0) rfl
                have g1 := hE9.tO.cell (i := 0) rfl
                obtain ⟨l3, hl3⟩ : ∃ l3, l3 = ((begL G nm tq).foldl stP (l, t)).1 := ⟨_, rfl⟩
                obtain ⟨t3, ht3⟩ : ∃ t3, t3 = ((begL G nm tq).foldl stP (l, t)).2 := ⟨_, rfl⟩
                rw [← hl3] at hF9 HS9
                rw [← ht3] at hF9
                have HV9 : Hid (VI G tq (l3, t3)) := Lib.hid (by rw [hl3, ht3]; exact HV1.out.init.fold _ beg_ok)
                have HE9 := Lib.hid hE9; have HF9 := Lib.hid hF9; have HL3 := Lib.hid hl3; have HT3 := Lib.hid ht3
                unfold kV at HST
                clear hF9 hE9 hsz9 hsn9 hl3 ht3 HSNX
                by_cases r3 : (nm, tq, tq) ∈ L2
                rotate_left
                · as_aux_lemma =>
                    rw [decide_eq_false r3] at HST
                    have HPF := Lib.hid (pop_fin (l3 := l3) (t3 := t3) (L3 := L2) hk ht100 HIPok.out HV1.out HR1.out (by rw [pop_beg HAO.out HR1N.out HNM.out, if_neg r3, ← HL3.out, ← HT3.out]))
                    clear r3
                    go_wp2_with fail
                    refine HST.out.mono ?_
                    rintro e w10 ⟨rfl, hb10⟩
                    have HF10 := Lib.hid (HF9.out.quiet (Kp.of (S := fun _ => False) hb10) (fun _ q => q.elim))
                    have HE10 := Lib.hid (HE9.out.quiet hb10)
                    clear hb10 g0 g1 HST
                    go_wp2_with fail
                    go_roundg (meaS (l3, t3))
                    case rel => exact ⟨l3, t3, lv2, tv2, L2, nz2, Lib.hid rfl, HF10, HE10, Lib.hid HPF.out.1, Lib.hid HPF.out.2.1, Lib.hid (by have h1 := HN1.out; have h2 := HGK.out; have h3 := HPF.out.2.2; omega)⟩
                    case measure => have h2 := HGK.out; have h3 := HPF.out.2.2; omega
                · as_aux_lemma =>
                    rw [decide_eq_true r3] at HST
                    have HPF := Lib.hid (pop_fin (l3 := (stP (l3, t3) (advI x)).1) (t3 := (stP (l3, t3) (advI x)).2) (L3 := L2) hk ht100 HIPok.out HV1.out HR1.out (by rw [pop_beg HAO.out HR1N.out HNM.out, if_pos r3, HL3.out, HT3.out]))
                    clear r3
                    go_wp2_with fail
                    refine HST.out.mono ?_
                    rintro e w10 ⟨rfl, hb10⟩
                    have hF10 := HF9.out.quiet (Kp.of (S := fun _ => False) hb10) (fun _ q => q.elim)
                    have hE10 := HE9.out.quiet hb10
                    have hS10 := HS9.out.quiet hb10
                    obtain ⟨i0, i1, i2⟩ := hS10.cells 0 x rfl
                    simp only [Nat.zero_mul, Nat.add_zero, Nat.zero_add] at i0 i1 i2
                    have i3 := hE10.pB.cell (i := 0) rfl
                    have hvl3 := HV9.out.len hk ht100
                    simp only at hvl3
                    have hD10 := HDr.out w10 _ _ hE10
                    have hao2 : ItOk G tq (advI x) := adv_ok HXO.out (Nat.le_refl _) HAO.out
                    obtain ⟨cb8, z8, q81, q82⟩ := hD10.i8
                    have HPUT : Hid (Calls Tryd.prog 33 #[.agg #[.int .i64 (x.1 : Int), .int .i64 ((x.2.1 : Int) + 1), .int .i64 (x.2.2 : Int)], .pointer (some ⟨w.heap.size, 0, none⟩), .pointer (some ⟨w.heap.size + 1, 0, none⟩), .pointer (some ⟨w.heap.size + 2, 0, none⟩)] w10 _) := Lib.hid (put_any w.heap.size (w.heap.size + 1) (w.heap.size + 2) c tq s mk bi (ni + 1) cb8 w.heap.size l3 t3 lv2 tv2 (advI x) (hao2.key hk ht100) w10 hF10 hE10.kp.size (hE10.cB.cell (i := 0) rfl) (hE10.tO.cell (i := 0) rfl) z8 (by rw [← hsf]; exact hD10.sp tq hto) (by omega) q81 (by omega) (by omega) (by omega))
                    have HP := Lib.hid (fun (lv9 tv9 : Value) (w9 : World) (hPE : PutE s mk (w.heap.size + 2) lv2 tv2 l3.length w10 lv9 tv9 w9) => hE10.put hF10 (Nat.le_refl _) (by omega) hPE)
                    clear hF10 hE10 hS10 hD10 hvl3 hao2 z8 hb10 g0 g1 HST
                    go_wp2_with fail
                    refine HPUT.out.mono ?_
                    rintro e w11 ⟨rfl, lv4, tv4, hF11, hPE⟩
                    have HE11 := Lib.hid (HP.out lv4 tv4 w11 hPE)
                    have HF11 : Hid (FiSt w11 w.heap.size s mk (w.heap.size + 2) (stP (l3, t3) (advI x)).1 (stP (l3, t3) (advI x)).2 lv4 tv4) := Lib.hid (by rw [stP_fst, stP_snd]; exact hF11)
                    clear hF11 hPE HPUT HP i0 i1 i2 i3
                    go_wp2_with fail
                    go_roundg (meaS ((stP (l3, t3) (advI x)).1, (stP (l3, t3) (advI x)).2))
                    case rel => exact ⟨_, _, lv4, tv4, L2, nz2, Lib.hid rfl, HF11, HE11, Lib.hid HPF.out.1, Lib.hid HPF.out.2.1, Lib.hid (by have h1 := HN1.out; have h2 := HGK.out; have h3 := HPF.out.2.2; omega)⟩
                    case measure => have h2 := HGK.out; have h3 := HPF.out.2.2; omega
end
end Go.Proofs.YtiklbannoinioaaDoor
namespace Go.Proofs.YtiklbannoinioaaDoor
open Go.RowKit
set_option linter.unusedVariables false
set_option linter.unusedSimpArgs false
set_option maxRecDepth 100000

theorem level_any (x : Int) (As : Option Addr) (ns cs g : Nat) (w : World) (hm : ns ≤ maxLen) (h : w.cell? ⟨g, 5, none⟩ = some (.slice As ns cs)) (b : Bool) (hb : b = decide (0 ≤ x ∧ x ≤ ns)) :
    Calls Tryd.prog 14 #[.int .i64 x, .pointer (some ⟨g, 0, none⟩)] w fun e w' => e = .returned (.bool b) ∧ w = w' := by
  unfold maxLen at hm
  by_cases h1 : 0 ≤ x
  · have d1 : decide (0 ≤ x) = true := decide_eq_true h1
    by_cases h2 : x ≤ ns
    · have d2 : decide (x ≤ (ns : Int)) = true := decide_eq_true h2
      have HF : Hid (b = true) := Lib.hid (by rw [hb]; simp [h1, h2])
      clear hb
      go_enter Tryd.func14, Tryd.ntmps14
      go_wp2
      go_ret
      exact ⟨ret_eq (by rw [HF.out]; rfl), rfl⟩
    · have d2 : decide (x ≤ (ns : Int)) = false := decide_eq_false h2
      have HF : Hid (b = false) := Lib.hid (by rw [hb]; simp [h1, h2])
      clear hb
      go_enter Tryd.func14, Tryd.ntmps14
      go_wp2
      go_ret
      exact ⟨ret_eq (by rw [HF.out]; rfl), rfl⟩
  · have d1 : decide (0 ≤ x) = false := decide_eq_false h1
    have HF : Hid (b = false) := Lib.hid (by rw [hb]; simp [h1])
    clear hb
    go_enter Tryd.func14, Tryd.ntmps14
    go_wp2
    go_ret
    exact ⟨ret_eq (by rw [HF.out]; rfl), rfl⟩

set_option maxHeartbeats 4000000 in
theorem ok_any (G : Gr) (Ap Al As : Option Addr) (np cp nl cl ns cs : Nat) (w : World) (B : Nat) (hB : B ≤ w.heap.size) (hG : GrIn w B G Ap Al As np cp nl cl ns cs) :
    Calls Tryd.prog 6 #[.agg #[.int .i64 G.terms, .int .i64 G.names, .int .i64 G.start, .slice Ap np cp, .slice Al nl cl, .slice As ns cs]] w fun e w' => e = .returned (.bool (okB G)) ∧ Below w.heap.size w w' := by
  obtain ⟨hb0, hs0, gb⟩ := gbox w G Ap Al As np cp nl cl ns cs
  obtain ⟨hp1, hp2⟩ := hG.p.len
  have hl1 := hG.ll; have hl2 := hG.sl; have hl3 := hG.lm; have hl4 := hG.sm
  have hl4' := hG.sm
  have hG0 := hG.below (hb0.mono hB)
  unfold maxLen at hp2 hl3 hl4
  by_cases q1 : G.terms < 0
  · have dq1 : decide (G.terms < 0) = true := decide_eq_true q1
    have HF := Lib.hid (okB_f (G := G) (fun h => by have := h.t0; omega))
    clear hp1 hl1 hl2 hG0 gb hG
    go_enter Tryd.func6, Tryd.ntmps6
    go_wp2
    go_ret
    exact ⟨ret_eq (by rw [HF.out]; rfl), hb0⟩
  have dq1 : decide (G.terms < 0) = false := decide_eq_false q1
  by_cases q2 : 300 < G.terms
  · have dq2 : decide (300 < G.terms) = true := decide_eq_true q2
    have HF := Lib.hid (okB_f (G := G) (fun h => by have := h.t1; omega))
    clear hp1 hl1 hl2 hG0 gb hG
    go_enter Tryd.func6, Tryd.ntmps6
    go_wp2
    go_ret
    exact ⟨ret_eq (by rw [HF.out]; rfl), hb0⟩
  have dq2 : decide (300 < G.terms) = false := decide_eq_false q2
  by_cases q3 : G.names < 1
  · have dq3 : decide (G.names < 1) = true := decide_eq_true q3
    have HF := Lib.hid (okB_f (G := G) (fun h => by have := h.n0; omega))
    clear hp1 hl1 hl2 hG0 gb hG
    go_enter Tryd.func6, Tryd.ntmps6
    go_wp2
    go_ret
    exact ⟨ret_eq (by rw [HF.out]; rfl), hb0⟩
  have dq3 : decide (G.names < 1) = false := decide_eq_false q3
  by_cases q4 : 300 < G.names
  · have dq4 : decide (300 < G.names) = true := decide_eq_true q4
    have HF := Lib.hid (okB_f (G := G) (fun h => by have := h.n1; omega))
    clear hp1 hl1 hl2 hG0 gb hG
    go_enter Tryd.func6, Tryd.ntmps6
    go_wp2
    go_ret
    exact ⟨ret_eq (by rw [HF.out]; rfl), hb0⟩
  have dq4 : decide (300 < G.names) = false := decide_eq_false q4
  by_cases q5 : G.start < 0
  · have dq5 : decide (G.start < 0) = true := decide_eq_true q5
    have HF := Lib.hid (okB_f (G := G) (fun h => by have := h.s0; omega))
    clear hp1 hl1 hl2 hG0 gb hG
    go_enter Tryd.func6, Tryd.ntmps6
    go_wp2
    go_ret
    exact ⟨ret_eq (by rw [HF.out]; rfl), hb0⟩
  have dq5 : decide (G.start < 0) = false := decide_eq_false q5
  by_cases q6 : G.names ≤ G.start
  · have dq6 : decide (G.names ≤ G.start) = true := decide_eq_true q6
    have HF := Lib.hid (okB_f (G := G) (fun h => by have := h.s1; omega))
    clear hp1 hl1 hl2 hG0 gb hG
    go_enter Tryd.func6, Tryd.ntmps6
    go_wp2
    go_ret
    exact ⟨ret_eq (by rw [HF.out]; rfl), hb0⟩
  have dq6 : decide (G.names ≤ G.start) = false := decide_eq_false q6
  by_cases q7 : 400 < (np : Int)
  · have dq7 : decide (400 < (np : Int)) = true := decide_eq_true q7
    have HF := Lib.hid (okB_f (G := G) (fun h => by have := h.p; omega))
    clear hp1 hl1 hl2 hG0 gb hG
    go_enter Tryd.func6, Tryd.ntmps6
    go_wp2
    go_ret
    exact ⟨ret_eq (by rw [HF.out]; rfl), hb0⟩
  have dq7 : decide (400 < (np : Int)) = false := decide_eq_false q7
  by_cases q8 : 50 < (ns : Int)
  · have dq8 : decide (50 < (ns : Int)) = true := decide_eq_true q8
    have HF := Lib.hid (okB_f (G := G) (fun h => by have := h.s; omega))
    clear hp1 hl1 hl2 hG0 gb hG
    by_cases q9 : (nl : Int) = 0
    · have d9 : ((nl : Int) != 0) = false := by rw [bne_eq_false_iff_eq]; exact q9
      clear q9
      go_enter Tryd.func6, Tryd.ntmps6
      go_wp2
      go_ret
      exact ⟨ret_eq (by rw [HF.out]; rfl), hb0⟩
    · have d9 : ((nl : Int) != 0) = true := by rw [bne_iff_ne]; exact q9
      cases d10 : ((nl : Int) != G.terms)
      all_goals
        go_enter Tryd.func6, Tryd.ntmps6
        go_wp2
        go_ret
        exact ⟨ret_eq (by rw [HF.out]; rfl), hb0⟩
  have dq8 : decide (50 < (ns : Int)) = false := decide_eq_false q8
  by_cases q9 : (nl : Int) = 0
  · have d9 : ((nl : Int) != 0) = false := by rw [bne_eq_false_iff_eq]; exact q9
    have HLT := Lib.hid (show G.levels.length = 0 ∨ (G.levels.length : Int) = G.terms from .inl (by omega))
    have q9' : nl ≤ 0 := by omega
    clear q9
    have HP := Lib.hid hp1; have HS := Lib.hid hl2; have HL := Lib.hid hl1; clear hp1 hl1 hl2
    have HG := Lib.hid hG0; clear hG0 hG
    have GB := Lib.hid gb; clear gb
    have HB0 := Lib.hid hb0; clear hb0
    have HM := Lib.hid hl4'; clear hl4'
    go_enter Tryd.func6, Tryd.ntmps6
    go_wp2_with fail
    generalize w.alloc (.cells #[.int .i64 G.terms, .int .i64 G.names, .int .i64 G.start, .slice Ap np cp, .slice Al nl cl, .slice As ns cs] 25) = W0 at *
    clear dq1 dq2 dq3 dq4 dq5 dq6 dq7 dq8
    go_loop [70] (fun i => ∃ k : Nat, k ≤ ns ∧ i = .int .i64 k ∧ Hid (∀ (j : Nat) (y : Int), j < k → G.sides[j]? = some y → 1 ≤ y ∧ y ≤ 3)) (fun i => ns - (intOf i).toNat)
    case atStart => exact ⟨0, Nat.zero_le _, rfl, fun j y h => absurd h (by omega)⟩
    case round =>
      as_aux_lemma =>
        obtain ⟨k, hk, rfl, HE⟩ := hrel
        by_cases hlt : k < ns
        · as_aux_lemma =>
            obtain ⟨b, off, rfl, hb, hc⟩ := HG.out.s.at_ (by rw [HS.out]; omega)
            have z := hc k (by rw [HS.out]; omega)
            have HQ := Lib.hid (getI HS.out hlt)
            clear hc
            generalize nth G.sides k = x at z HQ
            by_cases a1 : x < 1
            · have d1 : decide (x < 1) = true := decide_eq_true a1
              have HF := Lib.hid (okB_f (G := G) (fun h => by have := h.sd _ (mem_of_get HQ.out); omega))
              go_wp2
              go_ret
              exact ⟨ret_eq (by rw [HF.out]; rfl), HB0.out⟩
            have d1 : decide (x < 1) = false := decide_eq_false a1
            by_cases a2 : 3 < x
            · have d2 : decide (3 < x) = true := decide_eq_true a2
              have HF := Lib.hid (okB_f (G := G) (fun h => by have := h.sd _ (mem_of_get HQ.out); omega))
              go_wp2
              go_ret
              exact ⟨ret_eq (by rw [HF.out]; rfl), HB0.out⟩
            have d2 : decide (3 < x) = false := decide_eq_false a2
            go_wp2
            go_round
            case rel => exact ⟨k + 1, by omega, by go_num, all_step HE.out HQ.out (by omega)⟩
            case measure => simp [intOf]; omega
        · as_aux_lemma =>
            have HSD := Lib.hid (all_done HE.out (by have := HS.out; omega)); clear HE
            have gb4 := GB.out.c4
            go_wp2_with fail
            go_loop [84] (fun i => ∃ k : Nat, k ≤ nl ∧ i = .int .i64 k ∧ Hid (∀ (j : Nat) (y : Int), j < k → G.levels[j]? = some y → 0 ≤ y ∧ y ≤ G.sides.length)) (fun i => nl - (intOf i).toNat)
            case atStart => exact ⟨0, Nat.zero_le _, rfl, fun j y h => absurd h (by omega)⟩
            case round =>
              as_aux_lemma =>
                clear gb4 hlt
                obtain ⟨k, hk, rfl, HE⟩ := hrel
                by_cases hlt : k < nl
                · exact absurd hlt (by omega)
                · as_aux_lemma =>
                    have HLV := Lib.hid (all_done HE.out (by have := HL.out; omega)); clear HE
                    have gr3 := GB.out.c3
                    go_wp2_with fail
                    clear gr3 hlt
                    go_loopw [96] (fun i wr => ∃ k : Nat, k ≤ np ∧ i = .int .i64 k ∧ Below (w.heap.size + 1) W0 wr ∧ Hid (∀ (j : Nat) (y : Prd), j < k → G.prods[j]? = some y → PrOk G y)) (fun i _ => np - (intOf i).toNat)
                    case atStart => exact ⟨0, Nat.zero_le _, rfl, Below.refl _ _, fun j y h => absurd h (by omega)⟩
                    case round =>
                      as_aux_lemma =>
                        obtain ⟨k, hk, rfl, hbr, HE⟩ := hrel
                        have hfin : Below w.heap.size w wr := HB0.out.trans (hbr.mono (Nat.le_succ _))
                        have HGr := Lib.hid (HG.out.below (hbr.mono (by omega)))
                        have GRR := Lib.hid (GB.out.below hbr (Nat.lt_succ_self _))
                        by_cases hlt : k < np
                        · as_aux_lemma =>
                            obtain ⟨b, off, rfl, hb, hc⟩ := HGr.out.p.at_ (by omega)
                            obtain ⟨x, r, y, A', n', c', hq, z0, z1, z2, g1, g2, g3, g4⟩ := hc k hlt
                            have HQ := Lib.hid hq; have HR := Lib.hid g1; have HRd := Lib.hid g4; clear hc hq g1 g4
                            unfold maxLen at g3
                            have gr1 := GRR.out.c1
                            have hsz : w.heap.size < wr.heap.size := by have := hbr.size; omega
                            by_cases a1 : x < 0
                            · have da1 : decide (x < 0) = true := decide_eq_true a1
                              have HF := Lib.hid (okB_f (G := G) (fun h => by have h1 := (h.pr _ (mem_of_get HQ.out)).l0; have h2 := HR.out; have h3 := HS.out; simp only at h1; omega))
                              go_wp2
                              go_ret
                              exact ⟨ret_eq (by rw [HF.out]; rfl), hfin.alloc hfin.size _⟩
                            have da1 : decide (x < 0) = false := decide_eq_false a1
                            by_cases a2 : G.names ≤ x
                            · have da2 : decide (G.names ≤ x) = true := decide_eq_true a2
                              have HF := Lib.hid (okB_f (G := G) (fun h => by have h1 := (h.pr _ (mem_of_get HQ.out)).l1; have h2 := HR.out; have h3 := HS.out; simp only at h1; omega))
                              go_wp2
                              go_ret
                              exact ⟨ret_eq (by rw [HF.out]; rfl), hfin.alloc hfin.size _⟩
                            have da2 : decide (G.names ≤ x) = false := decide_eq_false a2
                            by_cases a5 : 20 < (n' : Int)
                            · have da5 : decide (20 < (n' : Int)) = true := decide_eq_true a5
                              have HF := Lib.hid (okB_f (G := G) (fun h => by have h1 := (h.pr _ (mem_of_get HQ.out)).r; have h2 := HR.out; have h3 := HS.out; simp only at h1; omega))
                              go_wp2
                              go_ret
                              exact ⟨ret_eq (by rw [HF.out]; rfl), hfin.alloc hfin.size _⟩
                            have da5 : decide (20 < (n' : Int)) = false := decide_eq_false a5
                            have hx : Below wr.heap.size wr (wr.alloc (.cells #[.int .i64 x, .slice A' n' c', .int .i64 y] 40)) := (Below.refl _ _).alloc (Nat.le_refl _) _
                            have zc5 := (GRR.out.below hx hsz).c5
                            by_cases av : 0 ≤ y ∧ y ≤ (ns : Int)
                            rotate_left
                            · have HC := Lib.hid (level_any y As ns cs w.heap.size _ HM.out zc5 false (decide_eq_false av).symm)
                              have HF := Lib.hid (okB_f (G := G) (fun h => by have h1 := (h.pr _ (mem_of_get HQ.out)).v0; have h2 := (h.pr _ (mem_of_get HQ.out)).v1; have h3 := HS.out; simp only at h1 h2; omega))
                              clear zc5 hx av
                              go_wp2_with (go_at_call 14; refine HC.out.mono ?_; rintro e w' ⟨rfl, rfl⟩)
                              go_ret
                              exact ⟨ret_eq (by rw [HF.out]; rfl), hfin.alloc hfin.size _⟩
                            have HC := Lib.hid (level_any y As ns cs w.heap.size _ HM.out zc5 true (decide_eq_true av).symm)
                            clear zc5
                            go_wp2_with (go_at_call 14; refine HC.out.mono ?_; rintro e w' ⟨rfl, rfl⟩)
                            obtain ⟨g6, hg6⟩ : ∃ g6, g6 = wr.heap.size := ⟨_, rfl⟩
                            have zz : (wr.alloc (.cells #[.int .i64 x, .slice A' n' c', .int .i64 y] 40)).cell? ⟨wr.heap.size, 1, none⟩ = some (.slice A' n' c') := by simp
                            rw [← hg6] at hx zz hsz ⊢
                            clear HC
                            generalize wr.alloc (.cells #[.int .i64 x, .slice A' n' c', .int .i64 y] 40) = W2 at *
                            have hw6 : wr.heap.size ≤ g6 := by omega
                            clear hg6
                            have hb2 : Below (w.heap.size + 1) W0 W2 := hbr.trans (hx.mono (by omega))
                            have HRd2 := Lib.hid (HRd.out.below (hx.mono (by omega))); clear hx HRd
                            clear zz gr1 z0 z1 z2 GRR HGr
                            go_loopw [126] (fun i wr => ∃ m : Nat, m ≤ n' ∧ i = .int .i64 m ∧ wr = W2 ∧ Hid (∀ (j : Nat) (y : Int), j < m → r[j]? = some y → -G.names ≤ y ∧ y < G.terms)) (fun i _ => n' - (intOf i).toNat)
                            case atStart => exact ⟨0, Nat.zero_le _, rfl, rfl, fun j y h => absurd h (by omega)⟩
                            case round =>
                              as_aux_lemma =>
                                obtain ⟨m, hm, rfl, rfl, HE2⟩ := hrel
                                have gm0 := (GB.out.below hb2 (Nat.lt_succ_self _)).c0
                                have gm1 := (GB.out.below hb2 (Nat.lt_succ_self _)).c1
                                by_cases hlt2 : m < n'
                                · as_aux_lemma =>
                                    obtain ⟨b', off', rfl, hb', hc'⟩ := HRd2.out.at_ (by rw [HR.out]; omega)
                                    have z := hc' m (by rw [HR.out]; omega)
                                    have HQ2 := Lib.hid (getI HR.out hlt2)
                                    clear hc'
                                    generalize nth r m = v at z HQ2
                                    by_cases a1 : G.terms ≤ v
                                    · have d1 : decide (G.terms ≤ v) = true := decide_eq_true a1
                                      have HF := Lib.hid (okB_f (G := G) (fun h => by have := (h.pr _ (mem_of_get HQ.out)).s _ (mem_of_get HQ2.out); omega))
                                      go_wp2
                                      go_ret
                                      exact ⟨ret_eq (by rw [HF.out]; rfl), HB0.out.trans (hb2.mono (Nat.le_succ _))⟩
                                    have d1 : decide (G.terms ≤ v) = false := decide_eq_false a1
                                    by_cases a2 : v < -G.names
                                    · have d2 : decide (v < -G.names) = true := decide_eq_true a2
                                      have HF := Lib.hid (okB_f (G := G) (fun h => by have := (h.pr _ (mem_of_get HQ.out)).s _ (mem_of_get HQ2.out); omega))
                                      go_wp2
                                      go_ret
                                      exact ⟨ret_eq (by rw [HF.out]; rfl), HB0.out.trans (hb2.mono (Nat.le_succ _))⟩
                                    have d2 : decide (v < -G.names) = false := decide_eq_false a2
                                    go_wp2
                                    go_roundw
                                    case rel => exact ⟨m + 1, by omega, by go_num, trivial, all_step HE2.out HQ2.out (by omega)⟩
                                    case measure => simp [intOf]; omega
                                · as_aux_lemma =>
                                    have HA := Lib.hid (all_done HE2.out (by have := HR.out; omega)); clear HE2
                                    go_wp2
                                    go_roundw
                                    case rel => exact ⟨k + 1, by omega, by go_num, hb2, all_step HE.out HQ.out ⟨by simp only; omega, by simp only; omega, by simp only; omega, by have := HS.out; simp only; omega, by have := HR.out; simp only; omega, HA.out⟩⟩
                                    case measure => simp [intOf]; omega
                        · as_aux_lemma =>
                            have HF := Lib.hid (okB_t (G := G) ⟨by omega, by omega, by omega, by omega, by omega, by omega, by have := HP.out; omega, HLT.out, by have := HS.out; omega, HSD.out, HLV.out, all_done HE.out (by have := HP.out; omega)⟩)
                            go_wp2
                            go_ret
                            exact ⟨ret_eq (by rw [HF.out]; rfl), hfin⟩
  · have d9 : ((nl : Int) != 0) = true := by rw [bne_iff_ne]; exact q9
    by_cases q10 : (nl : Int) = G.terms
    · have d10 : ((nl : Int) != G.terms) = false := by rw [bne_eq_false_iff_eq]; exact q10
      have HLT := Lib.hid (show G.levels.length = 0 ∨ (G.levels.length : Int) = G.terms from .inr (by omega)); clear q10
      have HP := Lib.hid hp1; have HS := Lib.hid hl2; have HL := Lib.hid hl1; clear hp1 hl1 hl2
      have HG := Lib.hid hG0; clear hG0 hG
      have GB := Lib.hid gb; clear gb
      have HB0 := Lib.hid hb0; clear hb0
      have HM := Lib.hid hl4'; clear hl4'
      go_enter Tryd.func6, Tryd.ntmps6
      go_wp2_with fail
      generalize w.alloc (.cells #[.int .i64 G.terms, .int .i64 G.names, .int .i64 G.start, .slice Ap np cp, .slice Al nl cl, .slice As ns cs] 25) = W0 at *
      clear dq1 dq2 dq3 dq4 dq5 dq6 dq7 dq8
      go_loop [70] (fun i => ∃ k : Nat, k ≤ ns ∧ i = .int .i64 k ∧ Hid (∀ (j : Nat) (y : Int), j < k → G.sides[j]? = some y → 1 ≤ y ∧ y ≤ 3)) (fun i => ns - (intOf i).toNat)
      case atStart => exact ⟨0, Nat.zero_le _, rfl, fun j y h => absurd h (by omega)⟩
      case round =>
        as_aux_lemma =>
          obtain ⟨k, hk, rfl, HE⟩ := hrel
          by_cases hlt : k < ns
          · as_aux_lemma =>
              obtain ⟨b, off, rfl, hb, hc⟩ := HG.out.s.at_ (by rw [HS.out]; omega)
              have z := hc k (by rw [HS.out]; omega)
              have HQ := Lib.hid (getI HS.out hlt)
              clear hc
              generalize nth G.sides k = x at z HQ
              by_cases a1 : x < 1
              · have d1 : decide (x < 1) = true := decide_eq_true a1
                have HF := Lib.hid (okB_f (G := G) (fun h => by have := h.sd _ (mem_of_get HQ.out); omega))
                go_wp2
                go_ret
                exact ⟨ret_eq (by rw [HF.out]; rfl), HB0.out⟩
              have d1 : decide (x < 1) = false := decide_eq_false a1
              by_cases a2 : 3 < x
              · have d2 : decide (3 < x) = true := decide_eq_true a2
                have HF := Lib.hid (okB_f (G := G) (fun h => by have := h.sd _ (mem_of_get HQ.out); omega))
                go_wp2
                go_ret
                exact ⟨ret_eq (by rw [HF.out]; rfl), HB0.out⟩
              have d2 : decide (3 < x) = false := decide_eq_false a2
              go_wp2
              go_round
              case rel => exact ⟨k + 1, by omega, by go_num, all_step HE.out HQ.out (by omega)⟩
              case measure => simp [intOf]; omega
          · as_aux_lemma =>
              have HSD := Lib.hid (all_done HE.out (by have := HS.out; omega)); clear HE
              have gb4 := GB.out.c4
              go_wp2_with fail
              go_loop [84] (fun i => ∃ k : Nat, k ≤ nl ∧ i = .int .i64 k ∧ Hid (∀ (j : Nat) (y : Int), j < k → G.levels[j]? = some y → 0 ≤ y ∧ y ≤ G.sides.length)) (fun i => nl - (intOf i).toNat)
              case atStart => exact ⟨0, Nat.zero_le _, rfl, fun j y h => absurd h (by omega)⟩
              case round =>
                as_aux_lemma =>
                  clear gb4 hlt
                  obtain ⟨k, hk, rfl, HE⟩ := hrel
                  by_cases hlt : k < nl
                  · as_aux_lemma =>
                      obtain ⟨b, off, rfl, hb, hc⟩ := HG.out.l.at_ (by rw [HL.out]; omega)
                      have z := hc k (by rw [HL.out]; omega)
                      have HQ := Lib.hid (getI HL.out hlt)
                      clear hc
                      generalize nth G.levels k = x at z HQ
                      by_cases a : 0 ≤ x ∧ x ≤ (ns : Int)
                      · have HC := Lib.hid (level_any x As ns cs w.heap.size W0 HM.out GB.out.c5 true (decide_eq_true a).symm)
                        go_wp2_with (go_at_call 14; refine HC.out.mono ?_; rintro e w' ⟨rfl, rfl⟩)
                        go_round
                        case rel => exact ⟨k + 1, by omega, by go_num, all_step HE.out HQ.out (by have := HS.out; omega)⟩
                        case measure => simp [intOf]; omega
                      · have HC := Lib.hid (level_any x As ns cs w.heap.size W0 HM.out GB.out.c5 false (decide_eq_false a).symm)
                        have HF := Lib.hid (okB_f (G := G) (fun h => by have := h.lv _ (mem_of_get HQ.out); have := HS.out; omega))
                        clear a
                        go_wp2_with (go_at_call 14; refine HC.out.mono ?_; rintro e w' ⟨rfl, rfl⟩)
                        go_ret
                        exact ⟨ret_eq (by rw [HF.out]; rfl), HB0.out⟩
                  · as_aux_lemma =>
                      have HLV := Lib.hid (all_done HE.out (by have := HL.out; omega)); clear HE
                      have gr3 := GB.out.c3
                      go_wp2_with fail
                      clear gr3 hlt
                      go_loopw [96] (fun i wr => ∃ k : Nat, k ≤ np ∧ i = .int .i64 k ∧ Below (w.heap.size + 1) W0 wr ∧ Hid (∀ (j : Nat) (y : Prd), j < k → G.prods[j]? = some y → PrOk G y)) (fun i _ => np - (intOf i).toNat)
                      case atStart => exact ⟨0, Nat.zero_le _, rfl, Below.refl _ _, fun j y h => absurd h (by omega)⟩
                      case round =>
                        as_aux_lemma =>
                          obtain ⟨k, hk, rfl, hbr, HE⟩ := hrel
                          have hfin : Below w.heap.size w wr := HB0.out.trans (hbr.mono (Nat.le_succ _))
                          have HGr := Lib.hid (HG.out.below (hbr.mono (by omega)))
                          have GRR := Lib.hid (GB.out.below hbr (Nat.lt_succ_self _))
                          by_cases hlt : k < np
                          · as_aux_lemma =>
                              obtain ⟨b, off, rfl, hb, hc⟩ := HGr.out.p.at_ (by omega)
                              obtain ⟨x, r, y, A', n', c', hq, z0, z1, z2, g1, g2, g3, g4⟩ := hc k hlt
                              have HQ := Lib.hid hq; have HR := Lib.hid g1; have HRd := Lib.hid g4; clear hc hq g1 g4
                              unfold maxLen at g3
                              have gr1 := GRR.out.c1
                              have hsz : w.heap.size < wr.heap.size := by have := hbr.size; omega
                              by_cases a1 : x < 0
                              · have da1 : decide (x < 0) = true := decide_eq_true a1
                                have HF := Lib.hid (okB_f (G := G) (fun h => by have h1 := (h.pr _ (mem_of_get HQ.out)).l0; have h2 := HR.out; have h3 := HS.out; simp only at h1; omega))
                                go_wp2
                                go_ret
                                exact ⟨ret_eq (by rw [HF.out]; rfl), hfin.alloc hfin.size _⟩
                              have da1 : decide (x < 0) = false := decide_eq_false a1
                              by_cases a2 : G.names ≤ x
                              · have da2 : decide (G.names ≤ x) = true := decide_eq_true a2
                                have HF := Lib.hid (okB_f (G := G) (fun h => by have h1 := (h.pr _ (mem_of_get HQ.out)).l1; have h2 := HR.out; have h3 := HS.out; simp only at h1; omega))
                                go_wp2
                                go_ret
                                exact ⟨ret_eq (by rw [HF.out]; rfl), hfin.alloc hfin.size _⟩
                              have da2 : decide (G.names ≤ x) = false := decide_eq_false a2
                              by_cases a5 : 20 < (n' : Int)
                              · have da5 : decide (20 < (n' : Int)) = true := decide_eq_true a5
                                have HF := Lib.hid (okB_f (G := G) (fun h => by have h1 := (h.pr _ (mem_of_get HQ.out)).r; have h2 := HR.out; have h3 := HS.out; simp only at h1; omega))
                                go_wp2
                                go_ret
                                exact ⟨ret_eq (by rw [HF.out]; rfl), hfin.alloc hfin.size _⟩
                              have da5 : decide (20 < (n' : Int)) = false := decide_eq_false a5
                              have hx : Below wr.heap.size wr (wr.alloc (.cells #[.int .i64 x, .slice A' n' c', .int .i64 y] 40)) := (Below.refl _ _).alloc (Nat.le_refl _) _
                              have zc5 := (GRR.out.below hx hsz).c5
                              by_cases av : 0 ≤ y ∧ y ≤ (ns : Int)
                              rotate_left
                              · have HC := Lib.hid (level_any y As ns cs w.heap.size _ HM.out zc5 false (decide_eq_false av).symm)
                                have HF := Lib.hid (okB_f (G := G) (fun h => by have h1 := (h.pr _ (mem_of_get HQ.out)).v0; have h2 := (h.pr _ (mem_of_get HQ.out)).v1; have h3 := HS.out; simp only at h1 h2; omega))
                                clear zc5 hx av
                                go_wp2_with (go_at_call 14; refine HC.out.mono ?_; rintro e w' ⟨rfl, rfl⟩)
                                go_ret
                                exact ⟨ret_eq (by rw [HF.out]; rfl), hfin.alloc hfin.size _⟩
                              have HC := Lib.hid (level_any y As ns cs w.heap.size _ HM.out zc5 true (decide_eq_true av).symm)
                              clear zc5
                              go_wp2_with (go_at_call 14; refine HC.out.mono ?_; rintro e w' ⟨rfl, rfl⟩)
                              obtain ⟨g6, hg6⟩ : ∃ g6, g6 = wr.heap.size := ⟨_, rfl⟩
                              have zz : (wr.alloc (.cells #[.int .i64 x, .slice A' n' c', .int .i64 y] 40)).cell? ⟨wr.heap.size, 1, none⟩ = some (.slice A' n' c') := by simp
                              rw [← hg6] at hx zz hsz ⊢
                              clear HC
                              generalize wr.alloc (.cells #[.int .i64 x, .slice A' n' c', .int .i64 y] 40) = W2 at *
                              have hw6 : wr.heap.size ≤ g6 := by omega
                              clear hg6
                              have hb2 : Below (w.heap.size + 1) W0 W2 := hbr.trans (hx.mono (by omega))
                              have HRd2 := Lib.hid (HRd.out.below (hx.mono (by omega))); clear hx HRd
                              clear zz gr1 z0 z1 z2 GRR HGr
                              go_loopw [126] (fun i wr => ∃ m : Nat, m ≤ n' ∧ i = .int .i64 m ∧ wr = W2 ∧ Hid (∀ (j : Nat) (y : Int), j < m → r[j]? = some y → -G.names ≤ y ∧ y < G.terms)) (fun i _ => n' - (intOf i).toNat)
                              case atStart => exact ⟨0, Nat.zero_le _, rfl, rfl, fun j y h => absurd h (by omega)⟩
                              case round =>
                                as_aux_lemma =>
                                  obtain ⟨m, hm, rfl, rfl, HE2⟩ := hrel
                                  have gm0 := (GB.out.below hb2 (Nat.lt_succ_self _)).c0
                                  have gm1 := (GB.out.below hb2 (Nat.lt_succ_self _)).c1
                                  by_cases hlt2 : m < n'
                                  · as_aux_lemma =>
                                      obtain ⟨b', off', rfl, hb', hc'⟩ := HRd2.out.at_ (by rw [HR.out]; omega)
                                      have z := hc' m (by rw [HR.out]; omega)
                                      have HQ2 := Lib.hid (getI HR.out hlt2)
                                      clear hc'
                                      generalize nth r m = v at z HQ2
                                      by_cases a1 : G.terms ≤ v
                                      · have d1 : decide (G.terms ≤ v) = true := decide_eq_true a1
                                        have HF := Lib.hid (okB_f (G := G) (fun h => by have := (h.pr _ (mem_of_get HQ.out)).s _ (mem_of_get HQ2.out); omega))
                                        go_wp2
                                        go_ret
                                        exact ⟨ret_eq (by rw [HF.out]; rfl), HB0.out.trans (hb2.mono (Nat.le_succ _))⟩
                                      have d1 : decide (G.terms ≤ v) = false := decide_eq_false a1
                                      by_cases a2 : v < -G.names
                                      · have d2 : decide (v < -G.names) = true := decide_eq_true a2
                                        have HF := Lib.hid (okB_f (G := G) (fun h => by have := (h.pr _ (mem_of_get HQ.out)).s _ (mem_of_get HQ2.out); omega))
                                        go_wp2
                                        go_ret
                                        exact ⟨ret_eq (by rw [HF.out]; rfl), HB0.out.trans (hb2.mono (Nat.le_succ _))⟩
                                      have d2 : decide (v < -G.names) = false := decide_eq_false a2
                                      go_wp2
                                      go_roundw
                                      case rel => exact ⟨m + 1, by omega, by go_num, trivial, all_step HE2.out HQ2.out (by omega)⟩
                                      case measure => simp [intOf]; omega
                                  · as_aux_lemma =>
                                      have HA := Lib.hid (all_done HE2.out (by have := HR.out; omega)); clear HE2
                                      go_wp2
                                      go_roundw
                                      case rel => exact ⟨k + 1, by omega, by go_num, hb2, all_step HE.out HQ.out ⟨by simp only; omega, by simp only; omega, by simp only; omega, by have := HS.out; simp only; omega, by have := HR.out; simp only; omega, HA.out⟩⟩
                                      case measure => simp [intOf]; omega
                          · as_aux_lemma =>
                              have HF := Lib.hid (okB_t (G := G) ⟨by omega, by omega, by omega, by omega, by omega, by omega, by have := HP.out; omega, HLT.out, by have := HS.out; omega, HSD.out, HLV.out, all_done HE.out (by have := HP.out; omega)⟩)
                              go_wp2
                              go_ret
                              exact ⟨ret_eq (by rw [HF.out]; rfl), hfin⟩
    · have d10 : ((nl : Int) != G.terms) = true := by rw [bne_iff_ne]; exact q10
      have HF := Lib.hid (okB_f (G := G) (fun h => by have := h.l; omega))
      clear hp1 hl1 hl2 hG0 gb hG q10
      go_enter Tryd.func6, Tryd.ntmps6
      go_wp2
      go_ret
      exact ⟨ret_eq (by rw [HF.out]; rfl), hb0⟩
end Go.Proofs.YtiklbannoinioaaDoor
namespace Go.Proofs.YtiklbannoinioaaDoor
open Go.RowKit BigFrame Go.Maps
set_option linter.unusedVariables false
set_option linter.unusedSimpArgs false
set_option maxRecDepth 100000

def nvI (l : List Nat) : List Value := l.map fun (p : Nat) => .int .i64 (p : Int)
theorem nvI_len (l : List Nat) : (nvI l).length = l.length := List.length_map _
theorem elIn1 : ElTy Tryd.prog 23 3 1 8 (.int .i64 0) := ⟨Tryd.underlying23, by kernel_rfl, rfl, by decide⟩
theorem elRw1 : ElTy Tryd.prog 54 23 1 24 (.slice none 0 0) := ⟨Tryd.underlying54, by kernel_rfl, rfl, by decide⟩
theorem elSe1 : ElTy Tryd.prog 55 68 1 8 (.pointer none) := ⟨Tryd.underlying55, by kernel_rfl, rfl, by decide⟩

/-- Rows of numbers, each its own. -/
structure BnS (W : World) (base bn nb : Nat) (vs : List Value) (bk : Nat → List Nat) : Prop where
  mm : Blk W bn 23 vs
  lm : vs.length = nb
  rows : ∀ (t : Nat) (u : Value), vs[t]? = some u → W.ownsRow base 3 1 u (bk t).length (nvI (bk t))
  ap : ∀ (t t' : Nat) (u u' : Value) (q : Nat), t ≠ t' → vs[t]? = some u → vs[t']? = some u' → u.ownBlock = some q → u'.ownBlock ≠ some q
section
variable {W W' : World} {base bn nb : Nat} {vs : List Value} {bk : Nat → List Nat}
theorem rep_nilB {N t : Nat} {u : Value} (h : (List.replicate N (Value.slice none 0 0))[t]? = some u) : u = .slice none 0 0 := by
  rw [List.getElem?_replicate] at h
  split at h
  · simp only [Option.some.injEq] at h; exact h.symm
  · cases h
theorem BnS.start (hm : Blk W bn 23 (List.replicate nb (.slice none 0 0))) : BnS W base bn nb (List.replicate nb (.slice none 0 0)) (fun _ => []) :=
  ⟨hm, by simp, fun t u h => by have e := rep_nilB h; subst e; exact World.ownsRow_nil _ _ _ _, fun t t' u u' q _ h _ e => by have e2 := rep_nilB h; subst e2; cases e⟩
theorem BnS.kp {Z : Nat → Prop} (h : BnS W base bn nb vs bk) (k : Kp Z W W') (h1 : ¬ Z bn) (h2 : ∀ b us, Blk W b 3 us → ¬ Z b) : BnS W' base bn nb vs bk :=
  ⟨blk_kp h.mm k h1, h.lm, fun t u q => own_kp (h.rows t u q) k (fun g e => by obtain ⟨us, hu⟩ := own_blk (h.rows t u q) e; exact h2 g us hu), h.ap⟩
theorem BnS.quiet (h : BnS W base bn nb vs bk) (k : Below W.heap.size W W') : BnS W' base bn nb vs bk := h.kp (Kp.of (S := fun _ => False) k) (fun q => q) (fun _ _ _ q => q)
/-- A row is grown, and stored anew. -/
theorem BnS.push (h : BnS W base bn nb vs bk) {t s : Nat} {u u' : Value} (hu : vs[t]? = some u) (hg : W.grownBy W' u.ownBlock) (hr : W'.ownsRow base 3 1 u' ((bk t).length + 1) (nvI (bk t) ++ [.int .i64 (s : Int)]))
    (hat : u'.ownBlock = u.ownBlock ∨ ∃ g', u'.ownBlock = some g' ∧ W.heap.size ≤ g') : BnS (W'.setCell ⟨bn, t, none⟩ u') base bn nb (vs.set t u') (fun x => if x = t then bk x ++ [s] else bk x) := by
  have htl : t < vs.length := (List.getElem?_eq_some_iff.1 hu).1
  have kg : Kp (fun k => u.ownBlock = some k) W W' := ⟨hg.os, hg.tape, hg.output, hg.size, fun k hk hn => hg.block k hk (fun e => hn e.symm)⟩
  have hbu : ∀ q, u.ownBlock = some q → q ≠ bn := fun q e => by
    obtain ⟨us, hv⟩ := own_blk (h.rows t u hu) e
    exact blk_ne hv h.mm (by decide)
  have hbm : Blk W' bn 23 vs := blk_kp h.mm kg (fun e => hbu bn e rfl)
  have ks : Kp (fun k => k = bn) W' (W'.setCell ⟨bn, t, none⟩ u') := (Kp.refl (fun k => k = bn) W').set_ (p := ⟨bn, t, none⟩) (.inr rfl) _
  have old : ∀ (t' : Nat) (x : Value) (q : Nat), vs[t']? = some x → x.ownBlock = some q → q < W.heap.size := fun t' x q e1 e2 => ((h.rows t' x e1).lt q e2).2
  have key : ∀ (a : Nat) (y : Value), (vs.set t u')[a]? = some y → (a = t ∧ y = u') ∨ (a ≠ t ∧ vs[a]? = some y) := fun a y hy => by
    by_cases z : a = t
    · subst z
      rw [List.getElem?_set_self htl] at hy
      simp only [Option.some.injEq] at hy
      exact .inl ⟨rfl, hy.symm⟩
    · rw [List.getElem?_set_ne (fun q => z q.symm)] at hy
      exact .inr ⟨z, hy⟩
  refine ⟨hbm.set_ t u', by rw [List.length_set]; exact h.lm, fun t' x hx => ?_, fun t' t'' x x' q hne h1 h2 e => ?_⟩
  · rcases key t' x hx with ⟨rfl, rfl⟩ | ⟨z1, y1⟩
    · simp only [if_pos]
      have e2 : nvI (bk t' ++ [s]) = nvI (bk t') ++ [.int .i64 (s : Int)] := by unfold nvI; rw [List.map_append]; rfl
      rw [List.length_append, e2]
      exact own_kp hr ks (fun g e e3 => by
        obtain ⟨us, hv⟩ := own_blk hr e
        exact blk_ne hv hbm (by decide) e3)
    · simp only [if_neg z1]
      have hx := h.rows t' x y1
      have hx1 := own_kp hx kg (fun g e e3 => h.ap t' t x u g z1 y1 hu e e3)
      exact own_kp hx1 ks (fun g e e3 => by
        obtain ⟨us, hv⟩ := own_blk hx e
        exact blk_ne hv h.mm (by decide) e3)
  · rcases key t' x h1 with ⟨rfl, rfl⟩ | ⟨z1, y1⟩
    · rcases key t'' x' h2 with ⟨z2, _⟩ | ⟨z2, y2⟩
      · exact absurd z2.symm hne
      · rcases hat with k | ⟨g', k, k2⟩
        · exact h.ap t' t'' u x' q (Ne.symm z2) hu y2 (by rw [← k]; exact e)
        · intro e2
          have := old t'' x' q y2 e2
          rw [k] at e; cases e; omega
    · rcases key t'' x' h2 with ⟨rfl, rfl⟩ | ⟨z2, y2⟩
      · intro e2
        rcases hat with k | ⟨g', k, k2⟩
        · exact h.ap t' t'' x u q z1 y1 hu e (by rw [← k]; exact e2)
        · have := old t' x q y1 e
          rw [k] at e2; cases e2; omega
      · exact h.ap t' t'' x x' q hne y1 y2 e
/-- As the trees' functions read it. -/
theorem BnS.rd (h : BnS W base bn nb vs bk) {S : Nat → Prop} (hS : ∀ b us, Blk W b 3 us → S b) {a : Nat} (ha : a < nb) : ∃ A' c', W.cell? ⟨bn, a, none⟩ = some (.slice A' (bk a).length c') ∧ (bk a).length ≤ c' ∧ c' ≤ maxLen ∧ RdS W S A' ((bk a).map fun (p : Nat) => (p : Int)) := by
  have hu : vs[a]? = some (vs[a]'(by rw [h.lm]; exact ha)) := List.getElem?_eq_getElem _
  obtain ⟨u, hu'⟩ : ∃ u, u = vs[a]'(by rw [h.lm]; exact ha) := ⟨_, rfl⟩
  rw [← hu'] at hu
  clear hu'
  have hr := h.rows a u hu
  have hc := h.mm.cell hu
  rcases hr.2 with ⟨rfl, e⟩ | ⟨g, cap, cur, rfl, _, hg, h1, h2, _, _⟩
  · have hz : bk a = [] := List.eq_nil_of_length_eq_zero e
    rw [hz]
    exact ⟨none, 0, hc, Nat.le_refl _, Nat.zero_le _, fun h0 => by simp at h0⟩
  · refine ⟨some ⟨g, 0, none⟩, cap, hc, h1, h2, fun h0 => ⟨g, 0, rfl, hS g cur.toList (by unfold Blk; rw [hg]), fun j hj => ?_⟩⟩
    rw [List.length_map] at hj
    have hj2 : (nvI (bk a))[j]? = some (.int .i64 (nth ((bk a).map fun (p : Nat) => (p : Int)) j)) := by
      unfold nvI nth
      rw [List.getElem?_map, List.getD_eq_getElem?_getD, List.getElem?_map, List.getElem?_eq_getElem hj]
      rfl
    have := hr.cells (g := g) rfl j _ hj2
    have hadd : (⟨g, 0, none⟩ : Addr).add j = ⟨g, 0 + j, none⟩ := by unfold Addr.add; split <;> simp_all
    rwa [hadd] at this
end
theorem byN_snoc (G : Gr) (a i : Nat) : ((List.range (i + 1)).filter fun p => decide (lfN G p = (a : Int))) = ((List.range i).filter fun p => decide (lfN G p = (a : Int))) ++ (if lfN G i = (a : Int) then [i] else []) := by
  rw [List.range_succ, List.filter_append]
  congr 1
  by_cases q : lfN G i = (a : Int) <;> simp [q]

/-- A place's set and its map, empty. -/
def SetE (W : World) (p : Nat × Nat) : Prop := Blk W p.1 72 [.slice none 0 0, .map (some p.2)] ∧ KMap 92 zeroV W p.2 0 (fun _ => none)
/-- A place's set and its map, filled. -/
def SetF (W : World) (base : Nat) (p : Nat × Nat) (l : List K3) : Prop := ∃ lv, Blk W p.1 72 [lv, .map (some p.2)] ∧ W.ownsRow base 92 3 lv l.length (itC l) ∧ ∃ f, KMap 92 zeroV W p.2 l.length f ∧ ∀ x, inK x → (f x).isSome = decide (x ∈ l)
section
variable {W W' : World} {base : Nat} {p : Nat × Nat} {l : List K3}
theorem SetE.kp {Z : Nat → Prop} (h : SetE W p) (k : Kp Z W W') (h1 : ¬ Z p.1) (h2 : ¬ Z p.2) : SetE W' p := ⟨blk_kp h.1 k h1, h.2.keep k h2⟩
theorem SetF.kp {Z : Nat → Prop} (h : SetF W base p l) (k : Kp Z W W') (h1 : ¬ Z p.1) (h2 : ¬ Z p.2) (h3 : ∀ b, base ≤ b → ¬ Z b) : SetF W' base p l := by
  obtain ⟨lv, a, b, f, c, d⟩ := h
  exact ⟨lv, blk_kp a k h1, own_kp b k (fun g e => h3 g (b.lt g e).1), f, c.keep k h2, d⟩
theorem SetF.rd (h : SetF W base p l) {S : Nat → Prop} (h1 : S p.1) (h3 : ∀ b, base ≤ b → b < W.heap.size → S b) : SetR W S p.1 l := by
  obtain ⟨lv, a, b, f, c, d⟩ := h
  refine ⟨h1, ?_⟩
  rcases b.2 with ⟨rfl, e⟩ | ⟨g, cap, cur, rfl, hb, hg, q1, q2, _, _⟩
  · have hz : l = [] := List.eq_nil_of_length_eq_zero e
    rw [hz]
    exact ⟨none, 0, a.cell (i := 0) rfl, Nat.le_refl _, Nat.zero_le _, fun h0 => by simp at h0⟩
  · exact ⟨some ⟨g, 0, none⟩, cap, a.cell (i := 0) rfl, q1, q2, fun _ => ⟨g, 0, rfl, h3 g hb (Array.getElem?_eq_some_iff.1 hg).1, fun j x hx => by rw [Nat.zero_add]; exact own_cell3 b rfl hx⟩⟩
end
/-- The row of the sets, empty ones. -/
structure EmS (W : World) (base : Nat) (v : Value) (ss : List (Nat × Nat)) : Prop where
  row : W.ownsRow base 68 1 v ss.length (ss.map fun p => .pointer (some ⟨p.1, 0, none⟩))
  em : ∀ p ∈ ss, SetE W p
  nd : ∀ (i j : Nat) (p q : Nat × Nat), ss[i]? = some p → ss[j]? = some q → i ≠ j → p.1 ≠ q.1 ∧ p.2 ≠ q.2
  lo : ∀ p ∈ ss, base ≤ p.1 ∧ base ≤ p.2
section
variable {W W' : World} {base : Nat} {v v' : Value} {ss : List (Nat × Nat)}
theorem EmS.start (W : World) (base : Nat) : EmS W base (.slice none 0 0) [] := ⟨World.ownsRow_nil _ _ _ _, (fun p h => by cases h), (fun i j p q h => by simp at h), (fun p h => by cases h)⟩
theorem EmS.lt (h : EmS W base v ss) {p : Nat × Nat} (hp : p ∈ ss) : p.1 < W.heap.size ∧ p.2 < W.heap.size := ⟨(h.em p hp).1.lt, (h.em p hp).2.lt⟩
theorem EmS.kp {Z : Nat → Prop} (h : EmS W base v ss) (k : Kp Z W W') (h1 : ∀ b, base ≤ b → ¬ Z b) : EmS W' base v ss :=
  ⟨own_kp h.row k (fun g e => h1 g (h.row.lt g e).1), fun p hp => (h.em p hp).kp k (h1 _ (h.lo p hp).1) (h1 _ (h.lo p hp).2), h.nd, h.lo⟩
/-- One more, made of late; the row grown. -/
theorem EmS.push (h : EmS W base v ss) {W1 : World} {p : Nat × Nat} (k : Kp (fun k => v.ownBlock = some k) W W1) (hE : SetE W1 p) (hr : W1.ownsRow base 68 1 v' (ss.length + 1) ((ss.map fun p => .pointer (some ⟨p.1, 0, none⟩)) ++ [.pointer (some ⟨p.1, 0, none⟩)])) (hb : base ≤ W.heap.size) (h1 : W.heap.size ≤ p.1) (h2 : W.heap.size ≤ p.2) : EmS W1 base v' (ss ++ [p]) := by
  refine ⟨by rw [List.length_append, List.map_append]; exact hr, fun q hq => ?_, fun i j a b ha hb2 hij => ?_, fun q hq => ?_⟩
  · rcases List.mem_append.1 hq with hq | hq
    · have he := h.em q hq
      refine he.kp k (fun e => ?_) (fun e => ?_)
      · obtain ⟨us, hv⟩ := own_blk h.row e
        exact blk_ne hv he.1 (by decide) rfl
      · obtain ⟨us, hv⟩ := own_blk h.row e
        exact he.2.ne hv rfl
    · rw [List.mem_singleton] at hq; subst hq; exact hE
  · have key : ∀ (i : Nat) (a : Nat × Nat), (ss ++ [p])[i]? = some a → (i = ss.length ∧ a = p) ∨ (i < ss.length ∧ ss[i]? = some a) := fun i a ha => by
      by_cases q : i < ss.length
      · rw [List.getElem?_append_left q] at ha; exact .inr ⟨q, ha⟩
      · rw [List.getElem?_append_right (by omega)] at ha
        by_cases q2 : i = ss.length
        · subst q2; simp at ha; exact .inl ⟨rfl, ha.symm⟩
        · rw [List.getElem?_eq_none (by simp; omega)] at ha; cases ha
    rcases key i a ha with ⟨e1, e2⟩ | ⟨e1, e2⟩
    · rcases key j b hb2 with ⟨e3, e4⟩ | ⟨e3, e4⟩
      · omega
      · have := h.lt (List.mem_of_getElem? e4)
        rw [e2]
        omega
    · rcases key j b hb2 with ⟨e3, e4⟩ | ⟨e3, e4⟩
      · have := h.lt (List.mem_of_getElem? e2)
        rw [e4]
        omega
      · exact h.nd i j a b e2 e4 hij
  · rcases List.mem_append.1 hq with hq | hq
    · exact h.lo q hq
    · rw [List.mem_singleton] at hq; subst hq; omega
end
end Go.Proofs.YtiklbannoinioaaDoor
