/- plain.Tree: the last of a list of twigs, as a tree. · The parser's machine in memory; push. -/
import Derived.Test.YtinejiodnnjpgaaDoorQ10
import Derived.Test.YtinejiodnnjpgaaDoorQ11
import Derived.Test.YtinejiodnnjpgaaDoorQ4
import Derived.Test.YtinejiodnnjpgaaDoorQ8
import Derived.Test.YtinejiodnnjpgaaDoorQ9
namespace Go.Proofs.YtinejiodnnjpgaaDoor
open Go.RowKit BigFrame
set_option linter.unusedVariables false
set_option linter.unusedSimpArgs false
set_option maxRecDepth 100000

theorem elTr : ElTy Tryd.prog 66 38 1 8 (.pointer none) := ⟨Tryd.underlying66, by kernel_rfl, rfl, by decide⟩
/-- The trees so far: an own row of pointers, the trees in blocks of S. -/
structure TsV (w : World) (base : Nat) (v : Value) (vs : List Value) (ts : List Tr) (S : Nat → Prop) : Prop where
  row : w.ownsRow base 38 1 v ts.length vs
  s : ∀ b, S b → b < w.heap.size ∧ base ≤ b ∧ v.ownBlock ≠ some b
  t : ∀ (i : Nat) (t : Tr), ts[i]? = some t → ∃ u, vs[i]? = some u ∧ TrIn w S u t
/-- The kids so far of a node at nb: an own row of pointers to trees in blocks of S. -/
structure KdV (w : World) (nb : Nat) (x y : Int) (kv : Value) (us : List Value) (ks : List Tr) (S : Nat → Prop) : Prop where
  b : Blk w nb 68 [.int .i64 x, .int .i64 y, kv]
  row : w.ownsRow (nb + 1) 38 1 kv ks.length us
  t : ∀ (i : Nat) (t : Tr), ks[i]? = some t → ∃ u, us[i]? = some u ∧ TrIn w S u t
  s : ∀ b, S b → b < nb

theorem own_at {w : World} {base n : Nat} {e : TypeId} {v : Value} {vs : List Value} (h : w.ownsRow base e 1 v n vs) (h0 : 0 < n) :
    ∃ g cap, v = .slice (some ⟨g, 0, none⟩) n cap ∧ n ≤ cap ∧ cap ≤ maxLen ∧ g < w.heap.size ∧ base ≤ g ∧ ∀ (k : Nat) (u : Value), vs[k]? = some u → w.cell? ⟨g, k, none⟩ = some u := by
  rcases h.2 with ⟨_, q⟩ | ⟨g, cap, cur, rfl, hb, hg, hn, hc, hs, ht⟩
  · omega
  · refine ⟨g, cap, rfl, hn, hc, (Array.getElem?_eq_some_iff.1 hg).1, hb, fun k u hk => ?_⟩
    rw [cell_of_row w g k cur e (0, 0) hg, ← Array.getElem?_toList]
    rw [← ht, List.getElem?_take] at hk
    split at hk
    · exact hk
    · cases hk
/-- One kid more. -/
theorem KdV.push {w w' : World} {nb : Nat} {x y : Int} {kv kv' u : Value} {us : List Value} {ks : List Tr} {S : Nat → Prop} {k : Tr} (h : KdV w nb x y kv us ks S) (hg : w.grownBy w' kv.ownBlock)
    (hr : w'.ownsRow (nb + 1) 38 1 kv' (ks.length + 1) (us ++ [u])) (hu : TrIn w S u k) (hl : us.length = ks.length) : KdV (w'.setCell ⟨nb, 2, none⟩ kv') nb x y kv' (us ++ [u]) (ks ++ [k]) S := by
  have hkv : ∀ b, b < nb + 1 → kv.ownBlock ≠ some b := fun b hb e => by have := (h.row.lt b e).1; omega
  have hnb := h.b.lt
  have hk : ∀ b, S b → w'.heap[b]? = w.heap[b]? := fun b hb => by
    have := h.s b hb
    exact hg.block b (by omega) (fun e => hkv b (by omega) e.symm)
  have hset : ∀ b, S b → (w'.setCell ⟨nb, 2, none⟩ kv').heap[b]? = w.heap[b]? := fun b hb => by
    have := h.s b hb
    rw [Below.heap_setCell _ _ _ b (by show b ≠ nb; omega)]
    exact hk b hb
  have tr : ∀ {v : Value} {t : Tr}, TrIn w S v t → TrIn (w'.setCell ⟨nb, 2, none⟩ kv') S v t := fun q => TrIn.keep hset (fun _ z => z) q
  refine ⟨?_, ?_, fun i t ht => ?_, h.s⟩
  · have := (h.b.grown hg (fun e => hkv nb (Nat.lt_succ_self _) e.symm)).set_ 2 kv'
    simpa using this
  · rw [List.length_append]
    exact ownsRow_setCell_other hr (fun e => by have := (hr.lt nb e).1; omega) kv'
  · by_cases q : i < ks.length
    · rw [List.getElem?_append_left q] at ht
      obtain ⟨v, h1, h2⟩ := h.t i t ht
      exact ⟨v, by rw [List.getElem?_append_left (by omega)]; exact h1, tr h2⟩
    · rw [List.getElem?_append_right (by omega)] at ht
      by_cases q2 : i = ks.length
      · subst q2
        simp at ht
        subst ht
        exact ⟨u, by rw [List.getElem?_append_right (by omega), hl, Nat.sub_self]; rfl, tr hu⟩
      · rw [List.getElem?_eq_none (by simp; omega)] at ht; cases ht

/-- The node, all its kids there. -/
theorem KdV.tree {w : World} {nb : Nat} {x y : Int} {kv : Value} {us : List Value} {ks : List Tr} {S : Nat → Prop} (h : KdV w nb x y kv us ks S) :
    TrIn w (fun b => S b ∨ b = nb ∨ kv.ownBlock = some b) (.pointer (some ⟨nb, 0, none⟩)) (.node x y ks) := by
  obtain ⟨A, c, rfl, h1, h2, _⟩ := own_form h.row
  rw [TrIn]
  refine ⟨nb, A, c, rfl, .inr (.inl rfl), h.b.cell rfl, h.b.cell rfl, h.b.cell rfl, h1, h2, fun h0 => ?_⟩
  obtain ⟨g, cap, e, _, _, _, _, hc⟩ := own_at h.row h0
  simp only [Value.slice.injEq] at e
  obtain ⟨rfl, _, rfl⟩ := e
  refine ⟨g, 0, rfl, .inr (.inr rfl), TrsIn.mk_ fun i k hk => ?_⟩
  obtain ⟨u, h3, h4⟩ := h.t i k hk
  exact ⟨u, by rw [Nat.zero_add]; exact hc i u h3, TrIn.keep (fun _ _ => rfl) (fun b q => .inl q) h4⟩
/-- The row of trees with one more. -/
theorem TsV.push {wo w w' : World} {base nb : Nat} {v v' kv : Value} {vs us : List Value} {ts ks : List Tr} {x y : Int} {S : Nat → Prop} (h : TsV wo base v vs ts S) (hk : KdV w nb x y kv us ks S) (hb : Below wo.heap.size wo w) (hnb : wo.heap.size ≤ nb)
    (hbase : base ≤ wo.heap.size) (hg : w.grownBy w' v.ownBlock) (hr : w'.ownsRow base 38 1 v' (ts.length + 1) (vs ++ [.pointer (some ⟨nb, 0, none⟩)])) (ha : v'.ownBlock = v.ownBlock ∨ v'.ownBlock = some (w.heap.size + 1)) :
    TsV w' base v' (vs ++ [.pointer (some ⟨nb, 0, none⟩)]) (ts ++ [.node x y ks]) (fun b => S b ∨ b = nb ∨ kv.ownBlock = some b) := by
  have hvl : ∀ b, v.ownBlock = some b → b < wo.heap.size := fun b e => (h.row.lt b e).2
  have hkl : ∀ b, kv.ownBlock = some b → nb + 1 ≤ b ∧ b < w.heap.size := fun b e => hk.row.lt b e
  have hnl := hk.b.lt
  have hsz := hb.size
  have hgs := hg.size
  have hlt : ∀ b, (S b ∨ b = nb ∨ kv.ownBlock = some b) → b < w.heap.size ∧ base ≤ b ∧ v.ownBlock ≠ some b := fun b q => by
    rcases q with q | rfl | q
    · obtain ⟨h1, h2, h3⟩ := h.s b q; exact ⟨by omega, h2, h3⟩
    · exact ⟨hnl, by omega, fun e => by have := hvl b e; omega⟩
    · have := hkl b q; exact ⟨this.2, by omega, fun e => by have := hvl b e; omega⟩
  have hkeep : ∀ b, (S b ∨ b = nb ∨ kv.ownBlock = some b) → w'.heap[b]? = w.heap[b]? := fun b q => by
    obtain ⟨h1, h2, h3⟩ := hlt b q
    exact hg.block b h1 (fun e => h3 e.symm)
  have hvsl : vs.length = ts.length := by have := h.row.1; omega
  refine ⟨by rw [List.length_append]; exact hr, fun b q => ?_, fun i t ht => ?_⟩
  · obtain ⟨h1, h2, h3⟩ := hlt b q
    refine ⟨by omega, h2, ?_⟩
    rcases ha with ha | ha
    · rw [ha]; exact h3
    · rw [ha]; intro e; cases e; omega
  · by_cases q : i < ts.length
    · rw [List.getElem?_append_left q] at ht
      obtain ⟨u, h1, h2⟩ := h.t i t ht
      refine ⟨u, by rw [List.getElem?_append_left (by omega)]; exact h1, TrIn.keep (fun b hb' => ?_) (fun b hb' => .inl hb') h2⟩
      rw [hkeep b (.inl hb')]
      exact hb.block b (h.s b hb').1
    · rw [List.getElem?_append_right (by omega)] at ht
      by_cases q2 : i = ts.length
      · subst q2
        simp at ht
        subst ht
        exact ⟨_, by rw [List.getElem?_append_right (by omega), hvsl, Nat.sub_self]; rfl, TrIn.keep hkeep (fun _ z => z) hk.tree⟩
      · rw [List.getElem?_eq_none (by simp; omega)] at ht; cases ht
theorem intT_kid {ts : List Tr} (h : ∀ t ∈ ts, IntT t) (k : Int) : IntT (kidOf ts k) := by
  unfold kidOf
  split
  · rename_i q
    have hm : ts.getD k.toNat .nil ∈ ts := by
      have : ts.getD k.toNat .nil = ts[k.toNat]'q.2 := by simp [q.2]
      rw [this]; exact List.getElem_mem _
    exact h _ hm
  · exact .nil

set_option maxHeartbeats 4000000 in
theorem tree_any (A : Option Addr) (n c : Nat) (Q : List Tw) (w : World) (B : Nat) (hB : B ≤ w.heap.size) (hQ : RdTw w B A n c Q) (hn : n ≤ 60) :
    Calls Tryd.prog 9 #[.slice A n c] w fun e w' => ∃ v, e = .returned v ∧ TrB w' w'.heap.size v (treeOf Q) ∧ IntT (treeOf Q) ∧ Below w.heap.size w w' := by
  have HQL := Lib.hid hQ.len.1
  have HQ := Lib.hid hQ
  clear hQ
  go_enter Tryd.func9, Tryd.ntmps9
  go_wp2_with fail
  go_loopw [3, 11] (fun v i wr => ∃ (k : Nat) (vs : List Value) (S : Nat → Prop), k ≤ n ∧ i = .int .i64 (k : Int) ∧ Hid (TsV wr w.heap.size v vs (built (Q.take k)) S) ∧ Hid (∀ t ∈ built (Q.take k), IntT t) ∧ Hid (Below w.heap.size w wr)) (fun _ i _ => n - (intOf i).toNat)
  case atStart => exact ⟨0, [], fun _ => False, Nat.zero_le _, rfl, ⟨World.ownsRow_nil _ _ _ _, fun b h => h.elim, fun i t h => (by simp [built] at h)⟩, fun t h => (by cases h), Below.refl _ _⟩
  case round =>
    as_aux_lemma =>
      obtain ⟨k, vs, S, hk, rfl, HV, HI, HB⟩ := hrel
      by_cases hlt : k < n
      · as_aux_lemma =>
          obtain ⟨b, off, rfl, hb, hc⟩ := (HQ.out.below (HB.out.mono hB)).at_ (by omega)
          obtain ⟨x, y, r, A', n', c', q0, z0, z1, z2, q1, q2, q3, q4, ib1, ib2, ib3⟩ := hc k hlt
          have hn47 : n' * 8 ≤ 140737488351232 := ib3
          have hbt := built_take q0
          have hsz := HB.out.size
          have htl : (built (Q.take k)).length = k := by rw [built_len, List.length_take, HQL.out]; omega
          unfold maxLen at q3
          have HRI := Lib.hid q4; have HRL := Lib.hid q1; have HTL := Lib.hid htl; have HBT := Lib.hid hbt; have HIB := Lib.hid (show IntB x ∧ IntB y from ⟨ib1, ib2⟩)
          clear hc q4 q1 hbt htl q0 ib1 ib2 ib3
          generalize built (Q.take k) = ts at *
          obtain ⟨wo, rfl⟩ : ∃ wo : World, wo = wr := ⟨_, rfl⟩
          go_wp2_with fail
          obtain ⟨w1, hw1⟩ : ∃ w1, w1 = (wo.alloc (.cells #[.int .i64 x, .int .i64 y, .slice A' n' c'] 65)).alloc (.cells #[.int .i64 x, .int .i64 y, .slice none 0 0] 68) := ⟨_, rfl⟩
          have ha0 : (wo.alloc (.cells #[.int .i64 x, .int .i64 y, .slice A' n' c'] 65)).heap.size = wo.heap.size + 1 := by simp
          have hbn : Blk w1 (wo.heap.size + 1) 68 [.int .i64 x, .int .i64 y, .slice none 0 0] := by rw [hw1, ← ha0]; exact Blk.new _ _ _
          have hb01 : Below wo.heap.size wo w1 := by rw [hw1]; exact ((Below.refl _ _).alloc (Nat.le_refl _) _).alloc (by simp) _
          have hsw1 : w1.heap.size = wo.heap.size + 1 + 1 := by rw [hw1]; simp
          rw [← hw1]
          have HB01 := Lib.hid hb01; have HSW1 := Lib.hid hsw1
          have hV1 := HV.out
          have hst : KdV w1 (wo.heap.size + 1) x y (.slice none 0 0) [] ([].map (kidOf ts)) S := ⟨hbn, World.ownsRow_nil _ _ _ _, fun i t h => (by simp at h), fun b h => by have := (hV1.s b h).1; omega⟩
          have HST := Lib.hid hst
          have hall : ∀ (j : Nat), j < ts.length → ∃ ga cap u, u3 = .slice (some ⟨ga, 0, none⟩) ts.length cap ∧ ts.length ≤ cap ∧ ga < wo.heap.size ∧ wo.cell? ⟨ga, j, none⟩ = some u ∧ TrIn wo S u (ts.getD j .nil) := fun j hj => by
            obtain ⟨ga, cap, e, h1, _, h2, _, h3⟩ := own_at hV1.row (by omega)
            obtain ⟨u, h4, h5⟩ := hV1.t j ts[j] (List.getElem?_eq_getElem hj)
            exact ⟨ga, cap, u, e, h1, h2, h3 j u h4, by simpa [hj] using h5⟩
          have HALL := Lib.hid hall
          obtain ⟨Av, cv, hve, hv1, hv2, -⟩ := own_form hV1.row
          have hSlt : ∀ b, S b → b < wo.heap.size := fun b h => (hV1.s b h).1
          have HSLT := Lib.hid hSlt
          have hTL : ts.length ≤ 60 := by have := HTL.out; omega
          unfold maxLen at hv2
          clear hV1 hst hall hSlt hbn hb01 ha0 hw1 hsw1
          go_loopw [24] (fun i wi => ∃ (m : Nat) (kv : Value) (us : List Value), m ≤ n' ∧ i = .int .i64 (m : Int) ∧ Hid (KdV wi (wo.heap.size + 1) x y kv us ((r.take m).map (kidOf ts)) S) ∧ Hid (us.length = m) ∧ Hid (Below (wo.heap.size + 1) w1 wi)) (fun i _ => n' - (intOf i).toNat)
          case atStart => exact ⟨0, .slice none 0 0, [], Nat.zero_le _, rfl, HST.out, rfl, Below.refl _ _⟩
          case round =>
            as_aux_lemma =>
              clear HST
              obtain ⟨m, kv, us, hm, rfl, HK, HUL, HBI⟩ := hrel
              have hsi := HBI.out.size
              by_cases hml : m < n'
              · as_aux_lemma =>
                  obtain ⟨rb, ro, rfl, hrb, hrc⟩ := HRI.out.at_ (by rw [HRL.out]; omega)
                  have hb0 := HB01.out.trans (HBI.out.mono (show wo.heap.size ≤ wo.heap.size + 1 by omega))
                  have zk := (hb0.cell (p := ⟨rb, ro + m, none⟩) (show rb < wo.heap.size by have := HB.out.size; omega)).trans (hrc m (by rw [HRL.out]; exact hml))
                  have hr1 : r.take (m + 1) = r.take m ++ [nth r m] := by rw [List.take_succ_eq_append_getElem (by rw [HRL.out]; exact hml), nth_get (by rw [HRL.out]; exact hml)]
                  have hmap : (r.take (m + 1)).map (kidOf ts) = (r.take m).map (kidOf ts) ++ [kidOf ts (nth r m)] := by rw [hr1, List.map_append]; rfl
                  have hmlen : ((r.take m).map (kidOf ts)).length = m := by rw [List.length_map, List.length_take, HRL.out]; omega
                  have HMAP := Lib.hid hmap; have HML := Lib.hid hmlen
                  have HSZ := Lib.hid (show wo.heap.size + 1 + 1 ≤ wr.heap.size by have := HSW1.out; omega)
                  clear hrc hr1 hmap hmlen
                  obtain ⟨kx, hkx⟩ : ∃ kx, kx = nth r m := ⟨_, rfl⟩
                  rw [← hkx] at zk HMAP
                  clear hkx
                  have hbk := HK.out.b
                  have zf := hbk.cell (i := 2) rfl
                  have ff := hbk.frozen 2
                  have hnb := hbk.lt
                  have hps : ∀ (u : Value) (v2 : Value) (w2 : World), w2.ownsRow (wo.heap.size + 1 + 1) 38 1 v2 (m + 1) (us ++ [u]) → wr.grownBy w2 kv.ownBlock → TrIn wr S u (kidOf ts kx) →
                      KdV (w2.setCell ⟨wo.heap.size + 1, 2, none⟩ v2) (wo.heap.size + 1) x y v2 (us ++ [u]) ((r.take (m + 1)).map (kidOf ts)) S ∧ Below (wo.heap.size + 1) w1 (w2.setCell ⟨wo.heap.size + 1, 2, none⟩ v2) ∧ w2.cell? ⟨wo.heap.size + 1, 2, none⟩ = some kv ∧ w2.frozen? ⟨wo.heap.size + 1, 2, none⟩ = false := fun u v2 w2 h1 h2 h3 => by
                    have hne : some (wo.heap.size + 1) ≠ kv.ownBlock := fun e => by have := (HK.out.row.lt _ e.symm).1; omega
                    have hbk2 := HK.out.b.grown h2 hne
                    refine ⟨by rw [HMAP.out]; exact HK.out.push h2 (by rw [HML.out]; exact h1) h3 (by rw [HUL.out, HML.out]), (HBI.out.grown h2 (by omega) (fun b e => by have := (HK.out.row.lt b e).1; omega)).setCell (by simp) _, hbk2.cell rfl, hbk2.frozen 2⟩
                  have HPS := Lib.hid hps
                  have HROW := Lib.hid (show wr.ownsRow (wo.heap.size + 1 + 1) 38 1 kv m us by have := HK.out.row; rw [HML.out] at this; exact this)
                  clear hps hbk hb0
                  by_cases hyes : 0 ≤ kx ∧ kx < (ts.length : Int)
                  · as_aux_lemma =>
                      obtain ⟨c1, c2⟩ := hyes
                      obtain ⟨xn, rfl⟩ := Int.eq_ofNat_of_zero_le c1
                      have hxn : xn < ts.length := by omega
                      obtain ⟨ga, cap, u, e3, hcap, hga, zu, hu⟩ := HALL.out xn hxn
                      have hkd : kidOf ts (xn : Int) = ts.getD xn .nil := by rw [kid_yes ⟨c1, c2⟩, Int.toNat_natCast]
                      have hu2 : TrIn wr S u (kidOf ts (xn : Int)) := by
                        rw [hkd]
                        exact TrIn.keep (fun b hb => ((HB01.out.trans (HBI.out.mono (show wo.heap.size ≤ wo.heap.size + 1 by omega))).block b (HSLT.out b hb))) (fun _ z => z) hu
                      obtain ⟨up, rfl⟩ := hu.ptr
                      have huo := hu.one
                      have HU := Lib.hid hu2; have HUO := Lib.hid huo
                      rw [e3] at hve ⊢
                      clear hkd hu hu2 huo hve hv1 e3
                      have hzu := ((HB01.out.trans (HBI.out.mono (show wo.heap.size ≤ wo.heap.size + 1 by omega))).cell (p := ⟨ga, xn, none⟩) hga).trans zu
                      have hnlt : wo.heap.size + 1 < wr.heap.size := hnb
                      have k1 : ∀ X : WB (wo.heap.size + 1 + 1) wr.drew, X.val.cell? ⟨wo.heap.size + 1, 2, none⟩ = some kv := fun X => (X.bel.cell (p := ⟨wo.heap.size + 1, 2, none⟩) (Nat.lt_succ_self _)).trans zf
                      have k2 : ∀ X : WB (wo.heap.size + 1 + 1) wr.drew, X.val.cell? ⟨ga, xn, none⟩ = some (.pointer up) := fun X => (X.bel.cell (p := ⟨ga, xn, none⟩) (show ga < wo.heap.size + 1 + 1 by omega)).trans hzu
                      clear zu zf ff
                      go_wp2_with fail
                      refine wp_region_keep (fun w' => ∃ X : WB (wo.heap.size + 1 + 1) wr.drew, w' = X.val) 1 9 (by kernel_rfl) (by kernel_rfl) (by kernel_rfl) (by kernel_rfl) (fun _ _ d _ _ h => by cases d <;> exact h) ⟨⟨_, Below.refl _ _⟩, rfl⟩ ?_
                      simp only [List.take_succ_cons, List.take_zero, List.drop_succ_cons, List.drop_zero]
                      repeat (first | go_big_quiet_skip | (go_big_quiet_want; go_big_quiet_op; go_big_quiet_on))
                      refine wpQuiet_nil ?_
                      clear k1 k2
                      go_wp2_with fail
                      have hwb : Below (wo.heap.size + 1 + 1) wr.drew (wr.drew.alloc (.cells #[.pointer up] 38)) := (Below.refl _ _).alloc (show wo.heap.size + 1 + 1 ≤ wr.drew.heap.size from HSZ.out) _
                      refine And.intro (Exists.intro (WB.mk _ hwb) rfl) ?_
                      clear hwb
                      have hrowd : wr.drew.ownsRow (wo.heap.size + 1 + 1) 38 1 kv m us := own_ext HROW.out ⟨rfl, rfl, rfl, Nat.le_refl _, fun _ _ => rfl⟩
                      have hps2 : ∀ (v2 : Value) (w2 : World), w2.ownsRow (wo.heap.size + 1 + 1) 38 1 v2 (m + 1) (us ++ [.pointer up]) → wr.drew.grownBy w2 kv.ownBlock → _ := fun v2 w2 h1 h2 => HPS.out (.pointer up) v2 w2 h1 ⟨h2.os, h2.tape, h2.output, h2.size, fun k a b => h2.block k a b⟩ HU.out
                      have HRD := Lib.hid hrowd; have HPS2 := Lib.hid hps2
                      have HSD := Lib.hid (show wo.heap.size + 1 + 1 ≤ wr.drew.heap.size from HSZ.out)
                      clear hrowd hps2
                      change wpList _ _ _ _ _ (wr.drew.alloc (.cells #[.pointer up] 38))
                      go_wp2_with (at_builtin; refine wpList_app elTr rfl (.tmp 49) (.tmp 54) rfl (wo.heap.size + 1 + 1) _ m 1 us [.pointer up] rfl HRD.out rfl rfl (by simp [Value.oneCell']) (by omega) (by omega) HSD.out ?_; intro v2 w2 hown2 hg2 hat2; obtain ⟨A7, c7, rfl, -, -, -⟩ := own_form hown2; have HP2 := Lib.hid (HPS2.out _ w2 hown2 hg2); have z9 := HP2.out.2.2.1; have z8 := HP2.out.2.2.2; clear hown2 hg2 hat2)
                      go_roundw
                      case rel => exact ⟨m + 1, _, us ++ [.pointer up], by omega, by go_num, Lib.hid HP2.out.1, Lib.hid (by have := HUL.out; rw [List.length_append, this]; rfl), Lib.hid HP2.out.2.1⟩
                      case measure => simp [intOf]; omega
                  · as_aux_lemma =>
                      have hkd : kidOf ts kx = .nil := kid_no hyes
                      have HU := Lib.hid (show TrIn wr S (.pointer none) (kidOf ts kx) by rw [hkd, TrIn])
                      subst hve
                      clear hkd
                      by_cases c1 : kx < 0
                      · as_aux_lemma =>
                          clear hyes
                          go_wp2_with (at_builtin; refine wpList_app elTr rfl (.tmp 40) (.tmp 41) rfl (wo.heap.size + 1 + 1) _ m 1 us [.pointer none] rfl HROW.out rfl rfl (by simp [Value.oneCell']) (by omega) (by omega) (by have := HSZ.out; omega) ?_; intro v2 w2 hown2 hg2 hat2; obtain ⟨A7, c7, rfl, -, -, -⟩ := own_form hown2; have HP2 := Lib.hid (HPS.out (.pointer none) _ w2 hown2 hg2 HU.out); have z9 := HP2.out.2.2.1; have z8 := HP2.out.2.2.2; clear hown2 hg2 hat2)
                          go_wp2_with fail
                          go_roundw
                          case rel => exact ⟨m + 1, _, us ++ [.pointer none], by omega, by go_num, Lib.hid HP2.out.1, Lib.hid (by have := HUL.out; rw [List.length_append, this]; rfl), Lib.hid HP2.out.2.1⟩
                          case measure => simp [intOf]; omega
                      · as_aux_lemma =>
                          have c2 : ¬ kx < (ts.length : Int) := fun q => hyes ⟨by omega, q⟩
                          clear hyes
                          go_wp2_with (at_builtin; refine wpList_app elTr rfl (.tmp 40) (.tmp 41) rfl (wo.heap.size + 1 + 1) _ m 1 us [.pointer none] rfl HROW.out rfl rfl (by simp [Value.oneCell']) (by omega) (by omega) (by have := HSZ.out; omega) ?_; intro v2 w2 hown2 hg2 hat2; obtain ⟨A7, c7, rfl, -, -, -⟩ := own_form hown2; have HP2 := Lib.hid (HPS.out (.pointer none) _ w2 hown2 hg2 HU.out); have z9 := HP2.out.2.2.1; have z8 := HP2.out.2.2.2; clear hown2 hg2 hat2)
                          go_wp2_with fail
                          go_roundw
                          case rel => exact ⟨m + 1, _, us ++ [.pointer none], by omega, by go_num, Lib.hid HP2.out.1, Lib.hid (by have := HUL.out; rw [List.length_append, this]; rfl), Lib.hid HP2.out.2.1⟩
                          case measure => simp [intOf]; omega
              · as_aux_lemma =>
                  have hmr : r.take m = r := List.take_of_length_le (by rw [HRL.out]; omega)
                  rw [hmr] at HK
                  have hbo := HB01.out.trans (HBI.out.mono (show wo.heap.size ≤ wo.heap.size + 1 by omega))
                  have HBO := Lib.hid hbo
                  have hps : ∀ (v2 : Value) (w2 : World), w2.ownsRow w.heap.size 38 1 v2 (ts.length + 1) (vs ++ [.pointer (some ⟨wo.heap.size + 1, 0, none⟩)]) → wr.grownBy w2 u3.ownBlock → (v2.ownBlock = u3.ownBlock ∨ v2.ownBlock = some (wr.heap.size + 1)) →
                      ∃ S', TsV w2 w.heap.size v2 (vs ++ [.pointer (some ⟨wo.heap.size + 1, 0, none⟩)]) (built (Q.take (k + 1))) S' := fun v2 w2 h1 h2 h3 =>
                    ⟨_, by rw [HBT.out]; exact HV.out.push HK.out hbo (Nat.le_succ _) hsz h2 h1 h3⟩
                  have hint : ∀ t ∈ built (Q.take (k + 1)), IntT t := fun t ht => by
                    rw [HBT.out] at ht
                    unfold grown at ht
                    rw [List.mem_append, List.mem_singleton] at ht
                    rcases ht with q | rfl
                    · exact HI.out t q
                    · exact .node HIB.out.1.1 HIB.out.1.2 HIB.out.2.1 HIB.out.2.2 (fun z hz => by
                        obtain ⟨a, _, rfl⟩ := List.mem_map.1 hz
                        exact intT_kid HI.out a)
                  have HPS := Lib.hid hps; have HINT := Lib.hid hint
                  have HRW := Lib.hid (own_ext HV.out.row hbo)
                  have hbs : w.heap.size ≤ wr.heap.size := by have := hbo.size; omega
                  clear hmr hps hint hbo
                  go_wp2_with (at_builtin; refine wpList_app elTr rfl (.tmp 59) (.tmp 61) rfl w.heap.size _ ts.length 1 vs [.pointer (some ⟨wo.heap.size + 1, 0, none⟩)] rfl HRW.out rfl rfl (by simp [Value.oneCell']) (by omega) (by omega) hbs ?_; intro v2 w2 hown2 hg2 hat2; have HP2 := Lib.hid (HPS.out v2 w2 hown2 hg2 hat2); have HB2 := Lib.hid ((HB.out.trans (HBO.out.mono hsz)).grown hg2 hbs (fun b e => own_base HRW.out b e)); clear hown2 hg2 hat2)
                  go_roundw
                  case rel =>
                    obtain ⟨S', hS'⟩ := HP2.out
                    exact ⟨k + 1, _, S', by omega, by go_num, Lib.hid hS', HINT, HB2⟩
                  case measure => simp [intOf]; omega
      · as_aux_lemma =>
          have htk : Q.take k = Q := List.take_of_length_le (by rw [HQL.out]; omega)
          rw [htk] at HV HI
          have hbl : (built Q).length = k := by rw [built_len, HQL.out]; omega
          obtain ⟨Av, cv, hve, hv1, hv2, -⟩ := own_form HV.out.row
          rw [hbl] at hve hv1
          subst hve
          have hkn : k = n := by omega
          unfold maxLen at hv2
          rcases Nat.eq_zero_or_pos k with k0 | k0
          · have hq : built Q = [] := List.eq_nil_of_length_eq_zero (by omega)
            have HW := Lib.hid (show treeOf Q = .nil by unfold treeOf; rw [hq]; rfl)
            clear hq hbl
            subst k0
            go_wp2_with fail
            go_ret
            exact ⟨_, rfl, by rw [HW.out]; show TrIn _ _ (.pointer none) .nil; rw [TrIn], by rw [HW.out]; exact .nil, HB.out⟩
          · obtain ⟨g, cap, e, h1, h2, hg, _, hc⟩ := own_at HV.out.row (by omega)
            rw [hbl] at e
            cases e
            have hlast : (built Q)[k - 1]? = some (treeOf Q) := by
              unfold treeOf
              rw [List.getLastD_eq_getLast?, List.getLast?_eq_getElem?, hbl, List.getElem?_eq_getElem (by omega)]; rfl
            obtain ⟨u, hu1, hu2⟩ := HV.out.t (k - 1) _ hlast
            have zc := hc (k - 1) u hu1
            have HT := Lib.hid (show TrB wr wr.heap.size u (treeOf Q) from TrIn.keep (fun _ _ => rfl) (fun b q => (HV.out.s b q).1) hu2)
            have HIT := Lib.hid (HI.out _ (List.mem_of_getElem? hlast))
            obtain ⟨up, rfl⟩ := hu2.ptr
            clear hc hlast hu1 hu2 hbl h1
            subst hkn
            obtain ⟨j, rfl⟩ : ∃ j, k = j + 1 := ⟨k - 1, by omega⟩
            rw [Nat.add_sub_cancel] at zc
            go_wp2_with fail
            go_ret
            exact ⟨_, rfl, HT.out, HIT.out, HB.out⟩
end Go.Proofs.YtinejiodnnjpgaaDoor
namespace Go.Proofs.YtinejiodnnjpgaaDoor
open Go.RowKit BigFrame
set_option linter.unusedVariables false
set_option linter.unusedSimpArgs false
set_option maxRecDepth 100000

/-- The head of a machine's block: a grammar's six cells, a table's three. -/
def hdM (G : Gr) (Ap Al As : Option Addr) (np cp nl cl ns cs : Nat) (ta tg tc : Value) : List Value :=
  [.int .i64 G.terms, .int .i64 G.names, .int .i64 G.start, .slice Ap np cp, .slice Al nl cl, .slice As ns cs, ta, tg, tc]
theorem own_heap {w : World} {base : Nat} {e : TypeId} {size n : Nat} {v : Value} {xs : List Value} (h : w.ownsRow base e size v n xs) {b : Nat} (hb : v.ownBlock = some b) : ∃ cur, w.heap[b]? = some (.cells cur e (0, 0)) := by
  rcases h.2 with ⟨rfl, _⟩ | ⟨g, cap, cur, rfl, _, hg, _⟩
  · cases hb
  · cases hb
    exact ⟨cur, hg⟩
theorem own_cut {w : World} {base n k c : Nat} {e : TypeId} {A : Option Addr} {xs : List Value} (h : w.ownsRow base e 1 (.slice A n c) n xs) (hk : k ≤ n) : w.ownsRow base e 1 (.slice A k c) k (xs.take k) := by
  have hl := h.1
  rcases h.2 with ⟨e1, e2⟩ | ⟨g, cap, cur, e1, hb, hg, hn, hc, hs, ht⟩
  · cases e1
    obtain rfl : k = 0 := by omega
    exact ⟨by simp, .inl ⟨rfl, rfl⟩⟩
  · cases e1
    refine ⟨by simp; omega, .inr ⟨g, c, cur, rfl, hb, hg, by omega, hc, hs, ?_⟩⟩
    rw [← ht, List.take_take]
    congr 1
    omega
theorem grown_refl (w : World) (r : Option Nat) : w.grownBy w r := ⟨rfl, rfl, rfl, Nat.le_refl _, fun _ _ _ => rfl⟩
/-- What a machine's method leaves alone: all below base; all blocks of other types than a machine's, a row of numbers', a row of trees'. -/
structure Fm (base : Nat) (w w' : World) : Prop where
  bel : Below base w w'
  ty : ∀ (b : Nat) (cs : Array Value) (t : TypeId) (fr : Nat × Nat), w.heap[b]? = some (.cells cs t fr) → t ≠ 93 → t ≠ 3 → t ≠ 38 → w'.heap[b]? = w.heap[b]?
theorem Fm.refl (base : Nat) (w : World) : Fm base w w := ⟨Below.refl _ _, fun _ _ _ _ _ _ _ _ => rfl⟩
theorem Fm.trans {base : Nat} {a w w' : World} (h : Fm base a w) (k : Fm base w w') : Fm base a w' :=
  ⟨h.bel.trans k.bel, fun b cs t fr e q1 q2 q3 => by
    have e1 := h.ty b cs t fr e q1 q2 q3
    rw [← e1]
    exact k.ty b cs t fr (e1.trans e) q1 q2 q3⟩
theorem lt_of_heap {w : World} {b : Nat} {o : Obj} (h : w.heap[b]? = some o) : b < w.heap.size := (Array.getElem?_eq_some_iff.1 h).1
theorem Fm.of {base : Nat} {w w' : World} (h : Below w.heap.size w w') (hb : base ≤ w.heap.size) : Fm base w w' :=
  ⟨h.mono hb, fun b cs t fr e _ _ _ => h.block b (lt_of_heap e)⟩
theorem Fm.mono {base base' : Nat} {w w' : World} (h : Fm base w w') (hb : base' ≤ base) : Fm base' w w' := ⟨h.bel.mono hb, h.ty⟩
theorem Fm.dn (base : Nat) (w : World) (n : Nat) : Fm base w (w.drewN n) := ⟨⟨rfl, rfl, rfl, Nat.le_refl _, fun _ _ => rfl⟩, fun _ _ _ _ _ _ _ _ => rfl⟩
theorem Fm.blk {base : Nat} {w w' : World} (h : Fm base w w') {g : Nat} {e : TypeId} {vs : List Value} (hb : Blk w g e vs) (h1 : e ≠ 93) (h2 : e ≠ 3) (h3 : e ≠ 38) : Blk w' g e vs := (h.ty g _ e _ hb h1 h2 h3).trans hb
theorem Fm.set_ {base : Nat} {a w : World} (h : Fm base a w) {p : Addr} {cs : Array Value} {fr : Nat × Nat} (hb : base ≤ p.block) (ht : a.heap.size ≤ p.block ∨ a.heap[p.block]? = some (.cells cs 93 fr)) (u : Value) : Fm base a (w.setCell p u) :=
  ⟨h.bel.setCell hb u, fun b cs' t fr' e q1 q2 q3 => by
    rw [Below.heap_setCell w p u b (fun e2 => by
      subst e2
      rcases ht with q | q
      · have := lt_of_heap e; omega
      · rw [q] at e; cases e; exact q1 rfl)]
    exact h.ty b cs' t fr' e q1 q2 q3⟩
/-- A block of a tree's node, or of a row of trees. -/
def TrTy (w : World) (b : Nat) : Prop := ∃ cs t fr, w.heap[b]? = some (.cells cs t fr) ∧ (t = 68 ∨ t = 38)
theorem TrTy.same {w w' : World} {b : Nat} (h : TrTy w b) (e : w'.heap[b]? = w.heap[b]?) : TrTy w' b := by
  obtain ⟨cs, t, fr, h1, h2⟩ := h
  exact ⟨cs, t, fr, e.trans h1, h2⟩
/-- A machine at m: a row of states and a row of trees, both its own; the trees in blocks of U. -/
structure MachV (w : World) (base m : Nat) (hd : List Value) (sv tv : Value) (ss : List Int) (ts : List Tr) (vs : List Value) (U : Nat → Prop) : Prop where
  b : Blk w m 93 (hd ++ [sv, tv] ++ does m)
  hl : hd.length = 9
  bm : base ≤ m
  s : w.ownsRow base 3 1 sv ss.length (iv ss)
  t : w.ownsRow base 38 1 tv ts.length vs
  tr : ∀ (i : Nat) (t : Tr), ts[i]? = some t → ∃ u, vs[i]? = some u ∧ TrIn w U u t
  u : ∀ b, U b → b < w.heap.size ∧ b ≠ m ∧ sv.ownBlock ≠ some b ∧ tv.ownBlock ≠ some b
  ut : ∀ b, U b → TrTy w b
section
variable {w w1 : World} {base m : Nat} {hd : List Value} {sv tv sv' tv' : Value} {ss ss' : List Int} {ts ts' : List Tr} {vs vs' : List Value} {U U' : Nat → Prop}
theorem MachV.vl (h : MachV w base m hd sv tv ss ts vs U) : vs.length = ts.length := by have := h.t.1; omega
theorem MachV.c9 (h : MachV w base m hd sv tv ss ts vs U) : w.cell? ⟨m, 9, none⟩ = some sv := h.b.cell (by simp [List.getElem?_append, h.hl])
theorem MachV.c10 (h : MachV w base m hd sv tv ss ts vs U) : w.cell? ⟨m, 10, none⟩ = some tv := h.b.cell (by simp [List.getElem?_append, h.hl])
theorem MachV.lt (h : MachV w base m hd sv tv ss ts vs U) : m < w.heap.size := h.b.lt
theorem MachV.blt (h : MachV w base m hd sv tv ss ts vs U) : base ≤ w.heap.size := Nat.le_trans h.bm (Nat.le_of_lt h.b.lt)
theorem MachV.sm (h : MachV w base m hd sv tv ss ts vs U) : sv.ownBlock ≠ some m := fun e => by
  obtain ⟨cur, q⟩ := own_heap h.s e
  have := h.b
  unfold Blk at this
  rw [this] at q
  cases q
theorem MachV.tm (h : MachV w base m hd sv tv ss ts vs U) : tv.ownBlock ≠ some m := fun e => by
  obtain ⟨cur, q⟩ := own_heap h.t e
  have := h.b
  unfold Blk at this
  rw [this] at q
  cases q
theorem MachV.st (h : MachV w base m hd sv tv ss ts vs U) {b : Nat} (h1 : sv.ownBlock = some b) (h2 : tv.ownBlock = some b) : False := by
  obtain ⟨cur, q⟩ := own_heap h.s h1
  obtain ⟨cur2, q2⟩ := own_heap h.t h2
  rw [q] at q2
  cases q2
theorem MachV.ext (h : MachV w base m hd sv tv ss ts vs U) (hb : Below w.heap.size w w1) : MachV w1 base m hd sv tv ss ts vs U :=
  ⟨h.b.below' hb, h.hl, h.bm, own_ext h.s hb, own_ext h.t hb, fun i t ht => by
    obtain ⟨u, h1, h2⟩ := h.tr i t ht
    exact ⟨u, h1, TrIn.keep (fun b q => hb.block b (h.u b q).1) (fun _ q => q) h2⟩, fun b q => ⟨Nat.lt_of_lt_of_le (h.u b q).1 hb.size, (h.u b q).2⟩, fun b q => (h.ut b q).same (hb.block b (h.u b q).1)⟩
theorem MachV.more (h : MachV w base m hd sv tv ss ts vs U) (hU : ∀ b, U' b → U b ∨ (b < w.heap.size ∧ b ≠ m ∧ sv.ownBlock ≠ some b ∧ tv.ownBlock ≠ some b) ∧ TrTy w b) (hU2 : ∀ b, U b → U' b) : MachV w base m hd sv tv ss ts vs U' :=
  ⟨h.b, h.hl, h.bm, h.s, h.t, fun i t ht => by
    obtain ⟨u, h1, h2⟩ := h.tr i t ht
    exact ⟨u, h1, TrIn.keep (fun _ _ => rfl) hU2 h2⟩, fun b q => by
    rcases hU b q with q | q
    · exact h.u b q
    · exact q.1, fun b q => by
    rcases hU b q with q | q
    · exact h.ut b q
    · exact q.2⟩
/-- The row of states made anew. -/
theorem MachV.setS (h : MachV w base m hd sv tv ss ts vs U) (hg : w.grownBy w1 sv.ownBlock) (hr : w1.ownsRow base 3 1 sv' ss'.length (iv ss')) (ha : ∀ b, sv'.ownBlock = some b → sv.ownBlock = some b ∨ w.heap.size ≤ b) :
    MachV (w1.setCell ⟨m, 9, none⟩ sv') base m hd sv' tv ss' ts vs U ∧ Fm base w (w1.setCell ⟨m, 9, none⟩ sv') ∧ w1.cell? ⟨m, 9, none⟩ = some sv ∧ w1.frozen? ⟨m, 9, none⟩ = false := by
  have hbm := h.b.grown hg (fun e => h.sm e.symm)
  have hmt := h.lt
  have hgs := hg.size
  have hsm' : sv'.ownBlock ≠ some m := fun e => by
    rcases ha m e with q | q
    · exact h.sm q
    · omega
  have hu2 : ∀ b, U b → (w1.setCell ⟨m, 9, none⟩ sv').heap[b]? = w.heap[b]? := fun b q => by
    obtain ⟨q1, q2, q3, q4⟩ := h.u b q
    rw [Below.heap_setCell _ _ _ b (by show b ≠ m; exact q2)]
    exact hg.block b q1 (fun e => q3 e.symm)
  have htr : w1.ownsRow base 38 1 tv ts.length vs := h.t.kept hg (by
    cases e : tv.ownBlock with
    | none => exact .inl rfl
    | some b => exact .inr (fun e2 => h.st e2.symm e))
  refine ⟨⟨?_, h.hl, h.bm, ownsRow_setCell_other hr hsm' _, ownsRow_setCell_other htr (fun e => h.tm e) _, fun i t ht => ?_, fun b q => ?_, fun b q => (h.ut b q).same (hu2 b q)⟩, ?_, hbm.cell (by simp [List.getElem?_append, h.hl]), hbm.frozen 9⟩
  · have := hbm.set_ 9 sv'
    simpa [List.set_append, h.hl] using this
  · obtain ⟨u, h1, h2⟩ := h.tr i t ht
    exact ⟨u, h1, TrIn.keep hu2 (fun _ q => q) h2⟩
  · obtain ⟨q1, q2, q3, q4⟩ := h.u b q
    refine ⟨by rw [setCell_size]; omega, q2, fun e => ?_, q4⟩
    rcases ha b e with z | z
    · exact q3 z
    · omega
  · have h0 : Fm base w w1 := ⟨(Below.refl base w).grown hg h.blt (fun b e => (h.s.lt b e).1), fun b cs t fr e q1 q2 q3 => hg.block b (lt_of_heap e) (fun e2 => by
      obtain ⟨cur, q⟩ := own_heap h.s e2.symm
      rw [q] at e
      cases e
      first | exact q2 rfl | exact q3 rfl)⟩
    exact h0.set_ (p := ⟨m, 9, none⟩) h.bm (.inr h.b) _
/-- The row of trees made anew. -/
theorem MachV.setT (h : MachV w base m hd sv tv ss ts vs U) (hg : w.grownBy w1 tv.ownBlock) (hr : w1.ownsRow base 38 1 tv' ts'.length vs') (ha : ∀ b, tv'.ownBlock = some b → tv.ownBlock = some b ∨ w.heap.size ≤ b)
    (ht' : ∀ (i : Nat) (t : Tr), ts'[i]? = some t → ∃ u, vs'[i]? = some u ∧ TrIn w U u t) :
    MachV (w1.setCell ⟨m, 10, none⟩ tv') base m hd sv tv' ss ts' vs' U ∧ Fm base w (w1.setCell ⟨m, 10, none⟩ tv') ∧ w1.cell? ⟨m, 10, none⟩ = some tv ∧ w1.frozen? ⟨m, 10, none⟩ = false := by
  have hbm := h.b.grown hg (fun e => h.tm e.symm)
  have hmt := h.lt
  have hgs := hg.size
  have htm' : tv'.ownBlock ≠ some m := fun e => by
    rcases ha m e with q | q
    · exact h.tm q
    · omega
  have hu2 : ∀ b, U b → (w1.setCell ⟨m, 10, none⟩ tv').heap[b]? = w.heap[b]? := fun b q => by
    obtain ⟨q1, q2, q3, q4⟩ := h.u b q
    rw [Below.heap_setCell _ _ _ b (by show b ≠ m; exact q2)]
    exact hg.block b q1 (fun e => q4 e.symm)
  have hsr : w1.ownsRow base 3 1 sv ss.length (iv ss) := h.s.kept hg (by
    cases e : sv.ownBlock with
    | none => exact .inl rfl
    | some b => exact .inr (fun e2 => h.st e e2.symm))
  refine ⟨⟨?_, h.hl, h.bm, ownsRow_setCell_other hsr (fun e => h.sm e) _, ownsRow_setCell_other hr htm' _, fun i t ht => ?_, fun b q => ?_, fun b q => (h.ut b q).same (hu2 b q)⟩, ?_, hbm.cell (by simp [List.getElem?_append, h.hl]), hbm.frozen 10⟩
  · have := hbm.set_ 10 tv'
    simpa [List.set_append, h.hl] using this
  · obtain ⟨u, h1, h2⟩ := ht' i t ht
    exact ⟨u, h1, TrIn.keep hu2 (fun _ q => q) h2⟩
  · obtain ⟨q1, q2, q3, q4⟩ := h.u b q
    refine ⟨by rw [setCell_size]; omega, q2, q3, fun e => ?_⟩
    rcases ha b e with z | z
    · exact q4 z
    · omega
  · have h0 : Fm base w w1 := ⟨(Below.refl base w).grown hg h.blt (fun b e => (h.t.lt b e).1), fun b cs t fr e q1 q2 q3 => hg.block b (lt_of_heap e) (fun e2 => by
      obtain ⟨cur, q⟩ := own_heap h.t e2.symm
      rw [q] at e
      cases e
      first | exact q2 rfl | exact q3 rfl)⟩
    exact h0.set_ (p := ⟨m, 10, none⟩) h.bm (.inr h.b) _
end
theorem MachV.far {w : World} {base m : Nat} {hd : List Value} {sv tv : Value} {ss : List Int} {ts : List Tr} {vs : List Value} {U : Nat → Prop} (h : MachV w base m hd sv tv ss ts vs U) {p : Addr} {cs : Array Value} {t : TypeId} {fr : Nat × Nat} (hp : w.heap[p.block]? = some (.cells cs t fr)) (h1 : t ≠ 93) (h2 : t ≠ 3) (h3 : t ≠ 38) (h4 : t ≠ 68) (u : Value) : MachV (w.setCell p u) base m hd sv tv ss ts vs U := by
  have hm : m ≠ p.block := fun e => by
    have := h.b
    unfold Blk at this
    rw [e, hp] at this
    cases this
    exact h1 rfl
  have hU : ∀ b, U b → b ≠ p.block := fun b q e => by
    obtain ⟨cs', t', fr', e1, e2⟩ := h.ut b q
    rw [e, hp] at e1
    cases e1
    rcases e2 with e2 | e2
    · exact h4 e2
    · exact h3 e2
  have hk : ∀ b, U b → (w.setCell p u).heap[b]? = w.heap[b]? := fun b q => Below.heap_setCell w p u b (hU b q)
  refine ⟨h.b.far hm u, h.hl, h.bm, ownsRow_setCell_other h.s (fun e => ?_) u, ownsRow_setCell_other h.t (fun e => ?_) u, fun i t ht => ?_, fun b q => by rw [setCell_size]; exact h.u b q, fun b q => (h.ut b q).same (hk b q)⟩
  · obtain ⟨cur, q⟩ := own_heap h.s e
    rw [hp] at q
    cases q
    exact h2 rfl
  · obtain ⟨cur, q⟩ := own_heap h.t e
    rw [hp] at q
    cases q
    exact h3 rfl
  · obtain ⟨u, g1, g2⟩ := h.tr i t ht
    exact ⟨u, g1, TrIn.keep hk (fun _ q => q) g2⟩
/-- A machine at m: states and trees. -/
def Mach (w : World) (base m : Nat) (hd : List Value) (st : St) : Prop := ∃ sv tv vs U, MachV w base m hd sv tv st.1 st.2 vs U
theorem Mach.ext {w w1 : World} {base m : Nat} {hd : List Value} {st : St} (h : Mach w base m hd st) (hb : Below w.heap.size w w1) : Mach w1 base m hd st := by
  obtain ⟨sv, tv, vs, U, h⟩ := h
  exact ⟨sv, tv, vs, U, h.ext hb⟩
theorem Mach.far {w : World} {base m : Nat} {hd : List Value} {st : St} (h : Mach w base m hd st) {p : Addr} {cs : Array Value} {t : TypeId} {fr : Nat × Nat} (hp : w.heap[p.block]? = some (.cells cs t fr)) (h1 : t ≠ 93) (h2 : t ≠ 3) (h3 : t ≠ 38) (h4 : t ≠ 68) (u : Value) : Mach (w.setCell p u) base m hd st := by
  obtain ⟨sv, tv, vs, U, h⟩ := h
  exact ⟨sv, tv, vs, U, h.far hp h1 h2 h3 h4 u⟩
theorem iv_app (l : List Int) (x : Int) : iv (l ++ [x]) = iv l ++ [.int .i64 x] := by unfold iv; rw [List.map_append]; rfl
theorem elIn : ElTy Tryd.prog 32 3 1 8 (.int .i64 0) := ⟨Tryd.underlying32, by kernel_rfl, rfl, by decide⟩

set_option maxHeartbeats 4000000 in
theorem push_any (base m : Nat) (hd : List Value) (sv tv : Value) (ss : List Int) (ts : List Tr) (vs : List Value) (U : Nat → Prop) (w : World) (hM : MachV w base m hd sv tv ss ts vs U) (x : Int) (u : Value) (t : Tr) (hu : TrIn w U u t) (h1 : ss.length ≤ 1000000000) (h2 : ts.length ≤ 1000000000) :
    Calls Tryd.prog 52 #[.pointer (some ⟨m, 0, none⟩), .int .i64 x, u] w fun e w' => e = .returned (.tuple #[]) ∧ Mach w' base m hd (ss ++ [x], ts ++ [t]) ∧ Fm base w w' := by
  obtain ⟨up, rfl⟩ := hu.ptr
  have z9 := hM.c9
  have hS : ∀ v2 w2, w2.ownsRow base 3 1 v2 (ss.length + 1) (iv ss ++ [.int .i64 x]) → w.grownBy w2 sv.ownBlock → (v2.ownBlock = sv.ownBlock ∨ v2.ownBlock = some (w.heap.size + 1)) → _ := fun v2 w2 a1 a2 a3 =>
    hM.setS (w1 := w2) (sv' := v2) (ss' := ss ++ [x]) a2 (by rw [iv_app, List.length_append]; exact a1) (fun b e => by
      rcases a3 with q | q
      · exact .inl (q ▸ e)
      · rw [q] at e; cases e; exact .inr (Nat.le_succ _))
  have hT : ∀ (sv2 : Value) (W : World), MachV W base m hd sv2 tv (ss ++ [x]) ts vs U → (∀ b, U b → W.heap[b]? = w.heap[b]?) → ∀ v2 w2, w2.ownsRow base 38 1 v2 (ts.length + 1) (vs ++ [.pointer up]) → W.grownBy w2 tv.ownBlock → (v2.ownBlock = tv.ownBlock ∨ v2.ownBlock = some (W.heap.size + 1)) → _ := fun sv2 W hW hk v2 w2 a1 a2 a3 =>
    hW.setT (w1 := w2) (tv' := v2) (ts' := ts ++ [t]) (vs' := vs ++ [.pointer up]) a2 (by rw [List.length_append]; exact a1) (fun b e => by
      rcases a3 with q | q
      · exact .inl (q ▸ e)
      · rw [q] at e; cases e; exact .inr (Nat.le_succ _)) (fun i t' ht' => by
      by_cases q : i < ts.length
      · rw [List.getElem?_append_left q] at ht'
        obtain ⟨u, g1, g2⟩ := hW.tr i t' ht'
        exact ⟨u, by rw [List.getElem?_append_left (by rw [hM.vl]; exact q)]; exact g1, g2⟩
      · rw [List.getElem?_append_right (by omega)] at ht'
        by_cases q2 : i = ts.length
        · subst q2
          simp at ht'
          subst ht'
          exact ⟨_, by rw [List.getElem?_append_right (by rw [hM.vl]; exact Nat.le_refl _), hM.vl, Nat.sub_self]; rfl, TrIn.keep hk (fun _ z => z) hu⟩
        · rw [List.getElem?_eq_none (by simp; omega)] at ht'; cases ht')
  have hUk : ∀ v2 w2, w.grownBy w2 sv.ownBlock → ∀ b, U b → (w2.setCell ⟨m, 9, none⟩ v2).heap[b]? = w.heap[b]? := fun v2 w2 a2 b q => by
    obtain ⟨q1, q2, q3, q4⟩ := hM.u b q
    rw [Below.heap_setCell _ _ _ b (by show b ≠ m; exact q2)]
    exact a2.block b q1 (fun e => q3 e.symm)
  have HS := Lib.hid hS; have HT := Lib.hid hT; have HUK := Lib.hid hUk; have HM := Lib.hid hM
  have HBL := Lib.hid hM.blt; have HR1 := Lib.hid hM.s
  have hmlt := hM.lt
  clear hS hT hUk hM hu
  go_enter Tryd.func52, Tryd.ntmps52
  go_wp2_with (first
    | (at_builtin; refine wpList_app elIn rfl (.tmp 10) (.tmp 12) rfl base _ ss.length 1 (iv ss) [.int .i64 x] rfl HR1.out rfl rfl (by simp [Value.oneCell']) ?_ ?_ HBL.out ?_; omega; omega; intro v2 w2 hown2 hg2 hat2; obtain ⟨A7, c7, rfl, -, -, -⟩ := own_form hown2; have HP2 := Lib.hid (HS.out _ w2 hown2 hg2 hat2); have HU2 := Lib.hid (HUK.out (.slice A7 (ss.length + 1) c7) w2 hg2); have z8 := HP2.out.2.2.1; have z7 := HP2.out.2.2.2; have z6 := HP2.out.1.c10; have HR2 := Lib.hid HP2.out.1.t; have HB2 := Lib.hid HP2.out.1.blt; clear hown2 hg2 hat2)
    | (at_builtin; refine wpList_app elTr rfl (.tmp 20) (.tmp 22) rfl base _ ts.length 1 vs [.pointer up] rfl HR2.out (by rw [setCell_size]; rfl) rfl (by simp [Value.oneCell']) ?_ ?_ HB2.out ?_; omega; omega; intro v3 w3 hown3 hg3 hat3; obtain ⟨A8, c8, rfl, -, -, -⟩ := own_form hown3; have HP3 := Lib.hid (HT.out _ _ HP2.out.1 HU2.out _ w3 hown3 hg3 hat3); have y8 := HP3.out.2.2.1; have y7 := HP3.out.2.2.2; clear hown3 hg3 hat3))
  go_end0
  exact ⟨rfl, ⟨_, _, _, _, HP3.out.1⟩, HP2.out.2.1.trans HP3.out.2.1⟩
end Go.Proofs.YtinejiodnnjpgaaDoor
