/- plain.Tree: the last of a list of twigs, as a tree. -/
import Derived.Test.YtinejiodnnjpgaaDoorTrH
import Derived.Test.YtinejiodnnjpgaaDoorStk
namespace Go.Proofs.YtinejiodnnjpgaaDoor
open Go.RowKit BigFrame
set_option linter.unusedVariables false
set_option linter.unusedSimpArgs false
set_option maxRecDepth 100000

theorem elTr : ElTy Tryd.prog 66 38 1 8 (.pointer none) := ⟨Tryd.underlying66, by kernel_rfl, rfl, by decide⟩
/-- The trees so far: an own row of pointers, the trees in blocks of S. -/
structure TsV (w : World) (base : Nat) (v : Value) (vs : List Value) (ts : List Tr) (S : Nat → Prop) : Prop where
  row : w.ownsRow base 38 1 v ts.length vs
  s : ∀ b, S b → b < w.heap.size ∧ base ≤ b ∧ v.ownBlock ≠ some b
  t : ∀ (i : Nat) (t : Tr), ts[i]? = some t → ∃ u, vs[i]? = some u ∧ TrIn w S u t
/-- The kids so far of a node at nb: an own row of pointers to trees in blocks of S. -/
structure KdV (w : World) (nb : Nat) (x y : Int) (kv : Value) (us : List Value) (ks : List Tr) (S : Nat → Prop) : Prop where
  b : Blk w nb 68 [.int .i64 x, .int .i64 y, kv]
  row : w.ownsRow (nb + 1) 38 1 kv ks.length us
  t : ∀ (i : Nat) (t : Tr), ks[i]? = some t → ∃ u, us[i]? = some u ∧ TrIn w S u t
  s : ∀ b, S b → b < nb

theorem own_at {w : World} {base n : Nat} {e : TypeId} {v : Value} {vs : List Value} (h : w.ownsRow base e 1 v n vs) (h0 : 0 < n) :
    ∃ g cap, v = .slice (some ⟨g, 0, none⟩) n cap ∧ n ≤ cap ∧ cap ≤ maxLen ∧ g < w.heap.size ∧ base ≤ g ∧ ∀ (k : Nat) (u : Value), vs[k]? = some u → w.cell? ⟨g, k, none⟩ = some u := by
  rcases h.2 with ⟨_, q⟩ | ⟨g, cap, cur, rfl, hb, hg, hn, hc, hs, ht⟩
  · omega
  · refine ⟨g, cap, rfl, hn, hc, (Array.getElem?_eq_some_iff.1 hg).1, hb, fun k u hk => ?_⟩
    rw [cell_of_row w g k cur e (0, 0) hg, ← Array.getElem?_toList]
    rw [← ht, List.getElem?_take] at hk
    split at hk
    · exact hk
    · cases hk
/-- One kid more. -/
theorem KdV.push {w w' : World} {nb : Nat} {x y : Int} {kv kv' u : Value} {us : List Value} {ks : List Tr} {S : Nat → Prop} {k : Tr} (h : KdV w nb x y kv us ks S) (hg : w.grownBy w' kv.ownBlock)
    (hr : w'.ownsRow (nb + 1) 38 1 kv' (ks.length + 1) (us ++ [u])) (hu : TrIn w S u k) (hl : us.length = ks.length) : KdV (w'.setCell ⟨nb, 2, none⟩ kv') nb x y kv' (us ++ [u]) (ks ++ [k]) S := by
  have hkv : ∀ b, b < nb + 1 → kv.ownBlock ≠ some b := fun b hb e => by have := (h.row.lt b e).1; omega
  have hnb := h.b.lt
  have hk : ∀ b, S b → w'.heap[b]? = w.heap[b]? := fun b hb => by
    have := h.s b hb
    exact hg.block b (by omega) (fun e => hkv b (by omega) e.symm)
  have hset : ∀ b, S b → (w'.setCell ⟨nb, 2, none⟩ kv').heap[b]? = w.heap[b]? := fun b hb => by
    have := h.s b hb
    rw [Below.heap_setCell _ _ _ b (by show b ≠ nb; omega)]
    exact hk b hb
  have tr : ∀ {v : Value} {t : Tr}, TrIn w S v t → TrIn (w'.setCell ⟨nb, 2, none⟩ kv') S v t := fun q => TrIn.keep hset (fun _ z => z) q
  refine ⟨?_, ?_, fun i t ht => ?_, h.s⟩
  · have := (h.b.grown hg (fun e => hkv nb (Nat.lt_succ_self _) e.symm)).set_ 2 kv'
    simpa using this
  · rw [List.length_append]
    exact ownsRow_setCell_other hr (fun e => by have := (hr.lt nb e).1; omega) kv'
  · by_cases q : i < ks.length
    · rw [List.getElem?_append_left q] at ht
      obtain ⟨v, h1, h2⟩ := h.t i t ht
      exact ⟨v, by rw [List.getElem?_append_left (by omega)]; exact h1, tr h2⟩
    · rw [List.getElem?_append_right (by omega)] at ht
      by_cases q2 : i = ks.length
      · subst q2
        simp at ht
        subst ht
        exact ⟨u, by rw [List.getElem?_append_right (by omega), hl, Nat.sub_self]; rfl, tr hu⟩
      · rw [List.getElem?_eq_none (by simp; omega)] at ht; cases ht

/-- The node, all its kids there. -/
theorem KdV.tree {w : World} {nb : Nat} {x y : Int} {kv : Value} {us : List Value} {ks : List Tr} {S : Nat → Prop} (h : KdV w nb x y kv us ks S) :
    TrIn w (fun b => S b ∨ b = nb ∨ kv.ownBlock = some b) (.pointer (some ⟨nb, 0, none⟩)) (.node x y ks) := by
  obtain ⟨A, c, rfl, h1, h2, _⟩ := own_form h.row
  rw [TrIn]
  refine ⟨nb, A, c, rfl, .inr (.inl rfl), h.b.cell rfl, h.b.cell rfl, h.b.cell rfl, h1, h2, fun h0 => ?_⟩
  obtain ⟨g, cap, e, _, _, _, _, hc⟩ := own_at h.row h0
  simp only [Value.slice.injEq] at e
  obtain ⟨rfl, _, rfl⟩ := e
  refine ⟨g, 0, rfl, .inr (.inr rfl), TrsIn.mk_ fun i k hk => ?_⟩
  obtain ⟨u, h3, h4⟩ := h.t i k hk
  exact ⟨u, by rw [Nat.zero_add]; exact hc i u h3, TrIn.keep (fun _ _ => rfl) (fun b q => .inl q) h4⟩
/-- The row of trees with one more. -/
theorem TsV.push {wo w w' : World} {base nb : Nat} {v v' kv : Value} {vs us : List Value} {ts ks : List Tr} {x y : Int} {S : Nat → Prop} (h : TsV wo base v vs ts S) (hk : KdV w nb x y kv us ks S) (hb : Below wo.heap.size wo w) (hnb : wo.heap.size ≤ nb)
    (hbase : base ≤ wo.heap.size) (hg : w.grownBy w' v.ownBlock) (hr : w'.ownsRow base 38 1 v' (ts.length + 1) (vs ++ [.pointer (some ⟨nb, 0, none⟩)])) (ha : v'.ownBlock = v.ownBlock ∨ v'.ownBlock = some (w.heap.size + 1)) :
    TsV w' base v' (vs ++ [.pointer (some ⟨nb, 0, none⟩)]) (ts ++ [.node x y ks]) (fun b => S b ∨ b = nb ∨ kv.ownBlock = some b) := by
  have hvl : ∀ b, v.ownBlock = some b → b < wo.heap.size := fun b e => (h.row.lt b e).2
  have hkl : ∀ b, kv.ownBlock = some b → nb + 1 ≤ b ∧ b < w.heap.size := fun b e => hk.row.lt b e
  have hnl := hk.b.lt
  have hsz := hb.size
  have hgs := hg.size
  have hlt : ∀ b, (S b ∨ b = nb ∨ kv.ownBlock = some b) → b < w.heap.size ∧ base ≤ b ∧ v.ownBlock ≠ some b := fun b q => by
    rcases q with q | rfl | q
    · obtain ⟨h1, h2, h3⟩ := h.s b q; exact ⟨by omega, h2, h3⟩
    · exact ⟨hnl, by omega, fun e => by have := hvl b e; omega⟩
    · have := hkl b q; exact ⟨this.2, by omega, fun e => by have := hvl b e; omega⟩
  have hkeep : ∀ b, (S b ∨ b = nb ∨ kv.ownBlock = some b) → w'.heap[b]? = w.heap[b]? := fun b q => by
    obtain ⟨h1, h2, h3⟩ := hlt b q
    exact hg.block b h1 (fun e => h3 e.symm)
  have hvsl : vs.length = ts.length := by have := h.row.1; omega
  refine ⟨by rw [List.length_append]; exact hr, fun b q => ?_, fun i t ht => ?_⟩
  · obtain ⟨h1, h2, h3⟩ := hlt b q
    refine ⟨by omega, h2, ?_⟩
    rcases ha with ha | ha
    · rw [ha]; exact h3
    · rw [ha]; intro e; cases e; omega
  · by_cases q : i < ts.length
    · rw [List.getElem?_append_left q] at ht
      obtain ⟨u, h1, h2⟩ := h.t i t ht
      refine ⟨u, by rw [List.getElem?_append_left (by omega)]; exact h1, TrIn.keep (fun b hb' => ?_) (fun b hb' => .inl hb') h2⟩
      rw [hkeep b (.inl hb')]
      exact hb.block b (h.s b hb').1
    · rw [List.getElem?_append_right (by omega)] at ht
      by_cases q2 : i = ts.length
      · subst q2
        simp at ht
        subst ht
        exact ⟨_, by rw [List.getElem?_append_right (by omega), hvsl, Nat.sub_self]; rfl, TrIn.keep hkeep (fun _ z => z) hk.tree⟩
      · rw [List.getElem?_eq_none (by simp; omega)] at ht; cases ht
theorem intT_kid {ts : List Tr} (h : ∀ t ∈ ts, IntT t) (k : Int) : IntT (kidOf ts k) := by
  unfold kidOf
  split
  · rename_i q
    have hm : ts.getD k.toNat .nil ∈ ts := by
      have : ts.getD k.toNat .nil = ts[k.toNat]'q.2 := by simp [q.2]
      rw [this]; exact List.getElem_mem _
    exact h _ hm
  · exact .nil

set_option maxHeartbeats 4000000 in
theorem tree_any (A : Option Addr) (n c : Nat) (Q : List Tw) (w : World) (B : Nat) (hB : B ≤ w.heap.size) (hQ : RdTw w B A n c Q) (hn : n ≤ 60) :
    Calls Tryd.prog 9 #[.slice A n c] w fun e w' => ∃ v, e = .returned v ∧ TrB w' w'.heap.size v (treeOf Q) ∧ IntT (treeOf Q) ∧ Below w.heap.size w w' := by
  have HQL := Lib.hid hQ.len.1
  have HQ := Lib.hid hQ
  clear hQ
  go_enter Tryd.func9, Tryd.ntmps9
  go_wp2_with fail
  go_loopw [3, 11] (fun v i wr => ∃ (k : Nat) (vs : List Value) (S : Nat → Prop), k ≤ n ∧ i = .int .i64 (k : Int) ∧ Hid (TsV wr w.heap.size v vs (built (Q.take k)) S) ∧ Hid (∀ t ∈ built (Q.take k), IntT t) ∧ Hid (Below w.heap.size w wr)) (fun _ i _ => n - (intOf i).toNat)
  case atStart => exact ⟨0, [], fun _ => False, Nat.zero_le _, rfl, ⟨World.ownsRow_nil _ _ _ _, fun b h => h.elim, fun i t h => (by simp [built] at h)⟩, fun t h => (by cases h), Below.refl _ _⟩
  case round =>
    as_aux_lemma =>
      obtain ⟨k, vs, S, hk, rfl, HV, HI, HB⟩ := hrel
      by_cases hlt : k < n
      · as_aux_lemma =>
          obtain ⟨b, off, rfl, hb, hc⟩ := (HQ.out.below (HB.out.mono hB)).at_ (by omega)
          obtain ⟨x, y, r, A', n', c', q0, z0, z1, z2, q1, q2, q3, q4, ib1, ib2, ib3⟩ := hc k hlt
          have hn47 : n' * 8 ≤ 140737488351232 := ib3
          have hbt := built_take q0
          have hsz := HB.out.size
          have htl : (built (Q.take k)).length = k := by rw [built_len, List.length_take, HQL.out]; omega
          unfold maxLen at q3
          have HRI := Lib.hid q4; have HRL := Lib.hid q1; have HTL := Lib.hid htl; have HBT := Lib.hid hbt; have HIB := Lib.hid (show IntB x ∧ IntB y from ⟨ib1, ib2⟩)
          clear hc q4 q1 hbt htl q0 ib1 ib2 ib3
          generalize built (Q.take k) = ts at *
          obtain ⟨wo, rfl⟩ : ∃ wo : World, wo = wr := ⟨_, rfl⟩
          go_wp2_with fail
          obtain ⟨w1, hw1⟩ : ∃ w1, w1 = (wo.alloc (.cells #[.int .i64 x, .int .i64 y, .slice A' n' c'] 65)).alloc (.cells #[.int .i64 x, .int .i64 y, .slice none 0 0] 68) := ⟨_, rfl⟩
          have ha0 : (wo.alloc (.cells #[.int .i64 x, .int .i64 y, .slice A' n' c'] 65)).heap.size = wo.heap.size + 1 := by simp
          have hbn : Blk w1 (wo.heap.size + 1) 68 [.int .i64 x, .int .i64 y, .slice none 0 0] := by rw [hw1, ← ha0]; exact Blk.new _ _ _
          have hb01 : Below wo.heap.size wo w1 := by rw [hw1]; exact ((Below.refl _ _).alloc (Nat.le_refl _) _).alloc (by simp) _
          have hsw1 : w1.heap.size = wo.heap.size + 1 + 1 := by rw [hw1]; simp
          rw [← hw1]
          have HB01 := Lib.hid hb01; have HSW1 := Lib.hid hsw1
          have hV1 := HV.out
          have hst : KdV w1 (wo.heap.size + 1) x y (.slice none 0 0) [] ([].map (kidOf ts)) S := ⟨hbn, World.ownsRow_nil _ _ _ _, fun i t h => (by simp at h), fun b h => by have := (hV1.s b h).1; omega⟩
          have HST := Lib.hid hst
          have hall : ∀ (j : Nat), j < ts.length → ∃ ga cap u, u3 = .slice (some ⟨ga, 0, none⟩) ts.length cap ∧ ts.length ≤ cap ∧ ga < wo.heap.size ∧ wo.cell? ⟨ga, j, none⟩ = some u ∧ TrIn wo S u (ts.getD j .nil) := fun j hj => by
            obtain ⟨ga, cap, e, h1, _, h2, _, h3⟩ := own_at hV1.row (by omega)
            obtain ⟨u, h4, h5⟩ := hV1.t j ts[j] (List.getElem?_eq_getElem hj)
            exact ⟨ga, cap, u, e, h1, h2, h3 j u h4, by simpa [hj] using h5⟩
          have HALL := Lib.hid hall
          obtain ⟨Av, cv, hve, hv1, hv2, -⟩ := own_form hV1.row
          have hSlt : ∀ b, S b → b < wo.heap.size := fun b h => (hV1.s b h).1
          have HSLT := Lib.hid hSlt
          have hTL : ts.length ≤ 60 := by have := HTL.out; omega
          unfold maxLen at hv2
          clear hV1 hst hall hSlt hbn hb01 ha0 hw1 hsw1
          go_loopw [24] (fun i wi => ∃ (m : Nat) (kv : Value) (us : List Value), m ≤ n' ∧ i = .int .i64 (m : Int) ∧ Hid (KdV wi (wo.heap.size + 1) x y kv us ((r.take m).map (kidOf ts)) S) ∧ Hid (us.length = m) ∧ Hid (Below (wo.heap.size + 1) w1 wi)) (fun i _ => n' - (intOf i).toNat)
          case atStart => exact ⟨0, .slice none 0 0, [], Nat.zero_le _, rfl, HST.out, rfl, Below.refl _ _⟩
          case round =>
            as_aux_lemma =>
              clear HST
              obtain ⟨m, kv, us, hm, rfl, HK, HUL, HBI⟩ := hrel
              have hsi := HBI.out.size
              by_cases hml : m < n'
              · as_aux_lemma =>
                  obtain ⟨rb, ro, rfl, hrb, hrc⟩ := HRI.out.at_ (by rw [HRL.out]; omega)
                  have hb0 := HB01.out.trans (HBI.out.mono (show wo.heap.size ≤ wo.heap.size + 1 by omega))
                  have zk := (hb0.cell (p := ⟨rb, ro + m, none⟩) (show rb < wo.heap.size by have := HB.out.size; omega)).trans (hrc m (by rw [HRL.out]; exact hml))
                  have hr1 : r.take (m + 1) = r.take m ++ [nth r m] := by rw [List.take_succ_eq_append_getElem (by rw [HRL.out]; exact hml), nth_get (by rw [HRL.out]; exact hml)]
                  have hmap : (r.take (m + 1)).map (kidOf ts) = (r.take m).map (kidOf ts) ++ [kidOf ts (nth r m)] := by rw [hr1, List.map_append]; rfl
                  have hmlen : ((r.take m).map (kidOf ts)).length = m := by rw [List.length_map, List.length_take, HRL.out]; omega
                  have HMAP := Lib.hid hmap; have HML := Lib.hid hmlen
                  have HSZ := Lib.hid (show wo.heap.size + 1 + 1 ≤ wr.heap.size by have := HSW1.out; omega)
                  clear hrc hr1 hmap hmlen
                  obtain ⟨kx, hkx⟩ : ∃ kx, kx = nth r m := ⟨_, rfl⟩
                  rw [← hkx] at zk HMAP
                  clear hkx
                  have hbk := HK.out.b
                  have zf := hbk.cell (i := 2) rfl
                  have ff := hbk.frozen 2
                  have hnb := hbk.lt
                  have hps : ∀ (u : Value) (v2 : Value) (w2 : World), w2.ownsRow (wo.heap.size + 1 + 1) 38 1 v2 (m + 1) (us ++ [u]) → wr.grownBy w2 kv.ownBlock → TrIn wr S u (kidOf ts kx) →
                      KdV (w2.setCell ⟨wo.heap.size + 1, 2, none⟩ v2) (wo.heap.size + 1) x y v2 (us ++ [u]) ((r.take (m + 1)).map (kidOf ts)) S ∧ Below (wo.heap.size + 1) w1 (w2.setCell ⟨wo.heap.size + 1, 2, none⟩ v2) ∧ w2.cell? ⟨wo.heap.size + 1, 2, none⟩ = some kv ∧ w2.frozen? ⟨wo.heap.size + 1, 2, none⟩ = false := fun u v2 w2 h1 h2 h3 => by
                    have hne : some (wo.heap.size + 1) ≠ kv.ownBlock := fun e => by have := (HK.out.row.lt _ e.symm).1; omega
                    have hbk2 := HK.out.b.grown h2 hne
                    refine ⟨by rw [HMAP.out]; exact HK.out.push h2 (by rw [HML.out]; exact h1) h3 (by rw [HUL.out, HML.out]), (HBI.out.grown h2 (by omega) (fun b e => by have := (HK.out.row.lt b e).1; omega)).setCell (by simp) _, hbk2.cell rfl, hbk2.frozen 2⟩
                  have HPS := Lib.hid hps
                  have HROW := Lib.hid (show wr.ownsRow (wo.heap.size + 1 + 1) 38 1 kv m us by have := HK.out.row; rw [HML.out] at this; exact this)
                  clear hps hbk hb0
                  by_cases hyes : 0 ≤ kx ∧ kx < (ts.length : Int)
                  · as_aux_lemma =>
                      obtain ⟨c1, c2⟩ := hyes
                      obtain ⟨xn, rfl⟩ := Int.eq_ofNat_of_zero_le c1
                      have hxn : xn < ts.length := by omega
                      obtain ⟨ga, cap, u, e3, hcap, hga, zu, hu⟩ := HALL.out xn hxn
                      have hkd : kidOf ts (xn : Int) = ts.getD xn .nil := by rw [kid_yes ⟨c1, c2⟩, Int.toNat_natCast]
                      have hu2 : TrIn wr S u (kidOf ts (xn : Int)) := by
                        rw [hkd]
                        exact TrIn.keep (fun b hb => ((HB01.out.trans (HBI.out.mono (show wo.heap.size ≤ wo.heap.size + 1 by omega))).block b (HSLT.out b hb))) (fun _ z => z) hu
                      obtain ⟨up, rfl⟩ := hu.ptr
                      have huo := hu.one
                      have HU := Lib.hid hu2; have HUO := Lib.hid huo
                      rw [e3] at hve ⊢
                      clear hkd hu hu2 huo hve hv1 e3
                      have hzu := ((HB01.out.trans (HBI.out.mono (show wo.heap.size ≤ wo.heap.size + 1 by omega))).cell (p := ⟨ga, xn, none⟩) hga).trans zu
                      have hnlt : wo.heap.size + 1 < wr.heap.size := hnb
                      have k1 : ∀ X : WB (wo.heap.size + 1 + 1) wr.drew, X.val.cell? ⟨wo.heap.size + 1, 2, none⟩ = some kv := fun X => (X.bel.cell (p := ⟨wo.heap.size + 1, 2, none⟩) (Nat.lt_succ_self _)).trans zf
                      have k2 : ∀ X : WB (wo.heap.size + 1 + 1) wr.drew, X.val.cell? ⟨ga, xn, none⟩ = some (.pointer up) := fun X => (X.bel.cell (p := ⟨ga, xn, none⟩) (show ga < wo.heap.size + 1 + 1 by omega)).trans hzu
                      clear zu zf ff
                      go_wp2_with fail
                      refine wp_region_keep (fun w' => ∃ X : WB (wo.heap.size + 1 + 1) wr.drew, w' = X.val) 1 9 (by kernel_rfl) (by kernel_rfl) (by kernel_rfl) (by kernel_rfl) (fun _ _ d _ _ h => by cases d <;> exact h) ⟨⟨_, Below.refl _ _⟩, rfl⟩ ?_
                      simp only [List.take_succ_cons, List.take_zero, List.drop_succ_cons, List.drop_zero]
                      repeat (first | go_big_quiet_skip | (go_big_quiet_want; go_big_quiet_op; go_big_quiet_on))
                      refine wpQuiet_nil ?_
                      clear k1 k2
                      go_wp2_with fail
                      have hwb : Below (wo.heap.size + 1 + 1) wr.drew (wr.drew.alloc (.cells #[.pointer up] 38)) := (Below.refl _ _).alloc (show wo.heap.size + 1 + 1 ≤ wr.drew.heap.size from HSZ.out) _
                      refine And.intro (Exists.intro (WB.mk _ hwb) rfl) ?_
                      clear hwb
                      have hrowd : wr.drew.ownsRow (wo.heap.size + 1 + 1) 38 1 kv m us := own_ext HROW.out ⟨rfl, rfl, rfl, Nat.le_refl _, fun _ _ => rfl⟩
                      have hps2 : ∀ (v2 : Value) (w2 : World), w2.ownsRow (wo.heap.size + 1 + 1) 38 1 v2 (m + 1) (us ++ [.pointer up]) → wr.drew.grownBy w2 kv.ownBlock → _ := fun v2 w2 h1 h2 => HPS.out (.pointer up) v2 w2 h1 ⟨h2.os, h2.tape, h2.output, h2.size, fun k a b => h2.block k a b⟩ HU.out
                      have HRD := Lib.hid hrowd; have HPS2 := Lib.hid hps2
                      have HSD := Lib.hid (show wo.heap.size + 1 + 1 ≤ wr.drew.heap.size from HSZ.out)
                      clear hrowd hps2
                      change wpList _ _ _ _ _ (wr.drew.alloc (.cells #[.pointer up] 38))
                      go_wp2_with (at_builtin; refine wpList_app elTr rfl (.tmp 49) (.tmp 54) rfl (wo.heap.size + 1 + 1) _ m 1 us [.pointer up] rfl HRD.out rfl rfl (by simp [Value.oneCell']) (by omega) (by omega) HSD.out ?_; intro v2 w2 hown2 hg2 hat2; obtain ⟨A7, c7, rfl, -, -, -⟩ := own_form hown2; have HP2 := Lib.hid (HPS2.out _ w2 hown2 hg2); have z9 := HP2.out.2.2.1; have z8 := HP2.out.2.2.2; clear hown2 hg2 hat2)
                      go_roundw
                      case rel => exact ⟨m + 1, _, us ++ [.pointer up], by omega, by go_num, Lib.hid HP2.out.1, Lib.hid (by have := HUL.out; rw [List.length_append, this]; rfl), Lib.hid HP2.out.2.1⟩
                      case measure => simp [intOf]; omega
                  · as_aux_lemma =>
                      have hkd : kidOf ts kx = .nil := kid_no hyes
                      have HU := Lib.hid (show TrIn wr S (.pointer none) (kidOf ts kx) by rw [hkd, TrIn])
                      subst hve
                      clear hkd
                      by_cases c1 : kx < 0
                      · as_aux_lemma =>
                          clear hyes
                          go_wp2_with (at_builtin; refine wpList_app elTr rfl (.tmp 40) (.tmp 41) rfl (wo.heap.size + 1 + 1) _ m 1 us [.pointer none] rfl HROW.out rfl rfl (by simp [Value.oneCell']) (by omega) (by omega) (by have := HSZ.out; omega) ?_; intro v2 w2 hown2 hg2 hat2; obtain ⟨A7, c7, rfl, -, -, -⟩ := own_form hown2; have HP2 := Lib.hid (HPS.out (.pointer none) _ w2 hown2 hg2 HU.out); have z9 := HP2.out.2.2.1; have z8 := HP2.out.2.2.2; clear hown2 hg2 hat2)
                          go_wp2_with fail
                          go_roundw
                          case rel => exact ⟨m + 1, _, us ++ [.pointer none], by omega, by go_num, Lib.hid HP2.out.1, Lib.hid (by have := HUL.out; rw [List.length_append, this]; rfl), Lib.hid HP2.out.2.1⟩
                          case measure => simp [intOf]; omega
                      · as_aux_lemma =>
                          have c2 : ¬ kx < (ts.length : Int) := fun q => hyes ⟨by omega, q⟩
                          clear hyes
                          go_wp2_with (at_builtin; refine wpList_app elTr rfl (.tmp 40) (.tmp 41) rfl (wo.heap.size + 1 + 1) _ m 1 us [.pointer none] rfl HROW.out rfl rfl (by simp [Value.oneCell']) (by omega) (by omega) (by have := HSZ.out; omega) ?_; intro v2 w2 hown2 hg2 hat2; obtain ⟨A7, c7, rfl, -, -, -⟩ := own_form hown2; have HP2 := Lib.hid (HPS.out (.pointer none) _ w2 hown2 hg2 HU.out); have z9 := HP2.out.2.2.1; have z8 := HP2.out.2.2.2; clear hown2 hg2 hat2)
                          go_wp2_with fail
                          go_roundw
                          case rel => exact ⟨m + 1, _, us ++ [.pointer none], by omega, by go_num, Lib.hid HP2.out.1, Lib.hid (by have := HUL.out; rw [List.length_append, this]; rfl), Lib.hid HP2.out.2.1⟩
                          case measure => simp [intOf]; omega
              · as_aux_lemma =>
                  have hmr : r.take m = r := List.take_of_length_le (by rw [HRL.out]; omega)
                  rw [hmr] at HK
                  have hbo := HB01.out.trans (HBI.out.mono (show wo.heap.size ≤ wo.heap.size + 1 by omega))
                  have HBO := Lib.hid hbo
                  have hps : ∀ (v2 : Value) (w2 : World), w2.ownsRow w.heap.size 38 1 v2 (ts.length + 1) (vs ++ [.pointer (some ⟨wo.heap.size + 1, 0, none⟩)]) → wr.grownBy w2 u3.ownBlock → (v2.ownBlock = u3.ownBlock ∨ v2.ownBlock = some (wr.heap.size + 1)) →
                      ∃ S', TsV w2 w.heap.size v2 (vs ++ [.pointer (some ⟨wo.heap.size + 1, 0, none⟩)]) (built (Q.take (k + 1))) S' := fun v2 w2 h1 h2 h3 =>
                    ⟨_, by rw [HBT.out]; exact HV.out.push HK.out hbo (Nat.le_succ _) hsz h2 h1 h3⟩
                  have hint : ∀ t ∈ built (Q.take (k + 1)), IntT t := fun t ht => by
                    rw [HBT.out] at ht
                    unfold grown at ht
                    rw [List.mem_append, List.mem_singleton] at ht
                    rcases ht with q | rfl
                    · exact HI.out t q
                    · exact .node HIB.out.1.1 HIB.out.1.2 HIB.out.2.1 HIB.out.2.2 (fun z hz => by
                        obtain ⟨a, _, rfl⟩ := List.mem_map.1 hz
                        exact intT_kid HI.out a)
                  have HPS := Lib.hid hps; have HINT := Lib.hid hint
                  have HRW := Lib.hid (own_ext HV.out.row hbo)
                  have hbs : w.heap.size ≤ wr.heap.size := by have := hbo.size; omega
                  clear hmr hps hint hbo
                  go_wp2_with (at_builtin; refine wpList_app elTr rfl (.tmp 59) (.tmp 61) rfl w.heap.size _ ts.length 1 vs [.pointer (some ⟨wo.heap.size + 1, 0, none⟩)] rfl HRW.out rfl rfl (by simp [Value.oneCell']) (by omega) (by omega) hbs ?_; intro v2 w2 hown2 hg2 hat2; have HP2 := Lib.hid (HPS.out v2 w2 hown2 hg2 hat2); have HB2 := Lib.hid ((HB.out.trans (HBO.out.mono hsz)).grown hg2 hbs (fun b e => own_base HRW.out b e)); clear hown2 hg2 hat2)
                  go_roundw
                  case rel =>
                    obtain ⟨S', hS'⟩ := HP2.out
                    exact ⟨k + 1, _, S', by omega, by go_num, Lib.hid hS', HINT, HB2⟩
                  case measure => simp [intOf]; omega
      · as_aux_lemma =>
          have htk : Q.take k = Q := List.take_of_length_le (by rw [HQL.out]; omega)
          rw [htk] at HV HI
          have hbl : (built Q).length = k := by rw [built_len, HQL.out]; omega
          obtain ⟨Av, cv, hve, hv1, hv2, -⟩ := own_form HV.out.row
          rw [hbl] at hve hv1
          subst hve
          have hkn : k = n := by omega
          unfold maxLen at hv2
          rcases Nat.eq_zero_or_pos k with k0 | k0
          · have hq : built Q = [] := List.eq_nil_of_length_eq_zero (by omega)
            have HW := Lib.hid (show treeOf Q = .nil by unfold treeOf; rw [hq]; rfl)
            clear hq hbl
            subst k0
            go_wp2_with fail
            go_ret
            exact ⟨_, rfl, by rw [HW.out]; show TrIn _ _ (.pointer none) .nil; rw [TrIn], by rw [HW.out]; exact .nil, HB.out⟩
          · obtain ⟨g, cap, e, h1, h2, hg, _, hc⟩ := own_at HV.out.row (by omega)
            rw [hbl] at e
            cases e
            have hlast : (built Q)[k - 1]? = some (treeOf Q) := by
              unfold treeOf
              rw [List.getLastD_eq_getLast?, List.getLast?_eq_getElem?, hbl, List.getElem?_eq_getElem (by omega)]; rfl
            obtain ⟨u, hu1, hu2⟩ := HV.out.t (k - 1) _ hlast
            have zc := hc (k - 1) u hu1
            have HT := Lib.hid (show TrB wr wr.heap.size u (treeOf Q) from TrIn.keep (fun _ _ => rfl) (fun b q => (HV.out.s b q).1) hu2)
            have HIT := Lib.hid (HI.out _ (List.mem_of_getElem? hlast))
            obtain ⟨up, rfl⟩ := hu2.ptr
            clear hc hlast hu1 hu2 hbl h1
            subst hkn
            obtain ⟨j, rfl⟩ : ∃ j, k = j + 1 := ⟨k - 1, by omega⟩
            rw [Nat.add_sub_cancel] at zc
            go_wp2_with fail
            go_ret
            exact ⟨_, rfl, HT.out, HIT.out, HB.out⟩
end Go.Proofs.YtinejiodnnjpgaaDoor
