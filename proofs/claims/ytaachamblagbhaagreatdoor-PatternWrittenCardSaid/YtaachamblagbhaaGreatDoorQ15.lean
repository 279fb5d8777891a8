/- plain.Pattern: the last of a list of parts, as a pattern. · strings.Builder's Grow at a fresh builder, at this program. · The document's any and both: patterns with a sign between. -/
import Derived.Test.YtaachamblagbhaaGreatDoorQ5
import Derived.Test.YtaachamblagbhaaGreatDoorQ1
import Derived.Test.YtaachamblagbhaaGreatDoorQ9
import Derived.Test.YtaachamblagbhaaGreatDoorQ13
import Derived.Test.YtaachamblagbhaaGreatDoorQ14
import Derived.Deep.Cut
import Derived.Deep.CutRange
import Derived.Lib.MakeNoZero
import Derived.Test.YtaachamblagbhaaGreatDoorQ3
namespace Go.Proofs.YtaachamblagbhaaGreatDoor
open Go.RowKit BigFrame
set_option linter.unusedVariables false
set_option linter.unusedSimpArgs false
set_option maxRecDepth 100000

/-- The patterns so far: an own row of pointers, the patterns in blocks of S. -/
structure TqV (w : World) (base : Nat) (v : Value) (vs : List Value) (ts : List Rx) (S : Nat → Prop) : Prop where
  row : w.ownsRow base 27 1 v ts.length vs
  s : ∀ b, S b → b < w.heap.size ∧ base ≤ b ∧ v.ownBlock ≠ some b
  t : ∀ (i : Nat) (t : Rx), ts[i]? = some t → ∃ u, vs[i]? = some u ∧ RxIn w S u t
/-- The kids so far of a node at nb: an own row of pointers to patterns in blocks of S; its set in blocks of T. -/
structure KqV (w : World) (nb : Nat) (kd mn mx : Int) (As : Option Addr) (cs : Nat) (s : List Rg) (kv : Value) (us : List Value) (ks : List Rx) (S T : Nat → Prop) : Prop where
  b : Blk w nb 41 [.int .i64 kd, .slice As s.length cs, .int .i64 mn, .int .i64 mx, kv]
  l1 : s.length ≤ cs
  l2 : cs ≤ maxLen
  set : RdB w T As (rv s)
  row : w.ownsRow (nb + 1) 27 1 kv ks.length us
  t : ∀ (i : Nat) (t : Rx), ks[i]? = some t → ∃ u, us[i]? = some u ∧ RxIn w S u t
  s : ∀ b, S b → b < nb
  tt : ∀ b, T b → b < nb
/-- One kid more. -/
theorem KqV.push {w w' : World} {nb : Nat} {kd mn mx : Int} {As : Option Addr} {cs : Nat} {s : List Rg} {kv kv' u : Value} {us : List Value} {ks : List Rx} {S T : Nat → Prop} {k : Rx} (h : KqV w nb kd mn mx As cs s kv us ks S T) (hg : w.grownBy w' kv.ownBlock)
    (hr : w'.ownsRow (nb + 1) 27 1 kv' (ks.length + 1) (us ++ [u])) (hu : RxIn w S u k) (hl : us.length = ks.length) : KqV (w'.setCell ⟨nb, 4, none⟩ kv') nb kd mn mx As cs s kv' (us ++ [u]) (ks ++ [k]) S T := by
  have hkv : ∀ b, b < nb + 1 → kv.ownBlock ≠ some b := fun b hb e => by have := (h.row.lt b e).1; omega
  have hnb := h.b.lt
  have hset : ∀ b, b < nb → (w'.setCell ⟨nb, 4, none⟩ kv').heap[b]? = w.heap[b]? := fun b hb => by
    rw [Below.heap_setCell _ _ _ b (by show b ≠ nb; omega)]
    exact hg.block b (by omega) (fun e => hkv b (by omega) e.symm)
  have tr : ∀ {v : Value} {t : Rx}, RxIn w S v t → RxIn (w'.setCell ⟨nb, 4, none⟩ kv') S v t := fun q => RxIn.keep (fun b hb => hset b (h.s b hb)) (fun _ z => z) q
  refine ⟨?_, h.l1, h.l2, h.set.keep (fun b hb => hset b (h.tt b hb)) (fun _ z => z), ?_, fun i t ht => ?_, h.s, h.tt⟩
  · have := (h.b.grown hg (fun e => hkv nb (Nat.lt_succ_self _) e.symm)).set_ 4 kv'
    simpa using this
  · rw [List.length_append]
    exact ownsRow_setCell_other hr (fun e => by have := (hr.lt nb e).1; omega) kv'
  · by_cases q : i < ks.length
    · rw [List.getElem?_append_left q] at ht
      obtain ⟨v, h1, h2⟩ := h.t i t ht
      exact ⟨v, by rw [List.getElem?_append_left (by omega)]; exact h1, tr h2⟩
    · rw [List.getElem?_append_right (by omega)] at ht
      by_cases q2 : i = ks.length
      · subst q2
        simp at ht
        subst ht
        exact ⟨u, by rw [List.getElem?_append_right (by omega), hl, Nat.sub_self]; rfl, tr hu⟩
      · rw [List.getElem?_eq_none (by simp; omega)] at ht; cases ht
/-- The node, all its kids there. -/
theorem KqV.tree {w : World} {nb : Nat} {kd mn mx : Int} {As : Option Addr} {cs : Nat} {s : List Rg} {kv : Value} {us : List Value} {ks : List Rx} {S T : Nat → Prop} (h : KqV w nb kd mn mx As cs s kv us ks S T) :
    RxIn w (fun b => S b ∨ T b ∨ b = nb ∨ kv.ownBlock = some b) (.pointer (some ⟨nb, 0, none⟩)) (.node kd s mn mx ks) := by
  obtain ⟨A, c, rfl, h1, h2, _⟩ := own_form h.row
  refine RxIn.mk_node (.inr (.inr (.inl rfl))) (h.b.cell rfl) (h.b.cell rfl) (h.b.cell rfl) (h.b.cell rfl) (h.b.cell rfl) h.l1 h.l2 h1 h2 (h.set.keep (fun _ _ => rfl) (fun _ q => .inr (.inl q))) fun h0 => ?_
  obtain ⟨g, cap, e, _, _, _, _, hc⟩ := own_atR h.row h0
  simp only [Value.slice.injEq] at e
  obtain ⟨rfl, _, rfl⟩ := e
  refine ⟨g, 0, rfl, .inr (.inr (.inr rfl)), fun i k hk => ?_⟩
  obtain ⟨u, h3, h4⟩ := h.t i k hk
  exact ⟨u, by rw [Nat.zero_add]; exact hc i u h3, RxIn.keep (fun _ _ => rfl) (fun b q => .inl q) h4⟩
/-- The row of patterns with one more. -/
theorem TqV.push {wo w w' : World} {base nb : Nat} {v v' kv : Value} {vs us : List Value} {ts ks : List Rx} {kd mn mx : Int} {As : Option Addr} {cs : Nat} {s : List Rg} {S T : Nat → Prop} (h : TqV wo base v vs ts S) (hk : KqV w nb kd mn mx As cs s kv us ks S T) (hb : Below wo.heap.size wo w) (hnb : wo.heap.size ≤ nb)
    (hT : ∀ b, T b → wo.heap.size ≤ b) (hbase : base ≤ wo.heap.size) (hg : w.grownBy w' v.ownBlock) (hr : w'.ownsRow base 27 1 v' (ts.length + 1) (vs ++ [.pointer (some ⟨nb, 0, none⟩)])) (ha : v'.ownBlock = v.ownBlock ∨ v'.ownBlock = some (w.heap.size + 1)) :
    TqV w' base v' (vs ++ [.pointer (some ⟨nb, 0, none⟩)]) (ts ++ [.node kd s mn mx ks]) (fun b => S b ∨ T b ∨ b = nb ∨ kv.ownBlock = some b) := by
  have hvl : ∀ b, v.ownBlock = some b → b < wo.heap.size := fun b e => (h.row.lt b e).2
  have hkl : ∀ b, kv.ownBlock = some b → nb + 1 ≤ b ∧ b < w.heap.size := fun b e => hk.row.lt b e
  have hnl := hk.b.lt
  have hsz := hb.size
  have hgs := hg.size
  have hlt : ∀ b, (S b ∨ T b ∨ b = nb ∨ kv.ownBlock = some b) → b < w.heap.size ∧ base ≤ b ∧ v.ownBlock ≠ some b := fun b q => by
    rcases q with q | q | rfl | q
    · obtain ⟨h1, h2, h3⟩ := h.s b q; exact ⟨by omega, h2, h3⟩
    · have h1 := hT b q; have h2 := hk.tt b q; exact ⟨by omega, by omega, fun e => by have := hvl b e; omega⟩
    · exact ⟨hnl, by omega, fun e => by have := hvl b e; omega⟩
    · have := hkl b q; exact ⟨this.2, by omega, fun e => by have := hvl b e; omega⟩
  have hkeep : ∀ b, (S b ∨ T b ∨ b = nb ∨ kv.ownBlock = some b) → w'.heap[b]? = w.heap[b]? := fun b q => by
    obtain ⟨h1, h2, h3⟩ := hlt b q
    exact hg.block b h1 (fun e => h3 e.symm)
  have hvsl : vs.length = ts.length := by have := h.row.1; omega
  refine ⟨by rw [List.length_append]; exact hr, fun b q => ?_, fun i t ht => ?_⟩
  · obtain ⟨h1, h2, h3⟩ := hlt b q
    refine ⟨by omega, h2, ?_⟩
    rcases ha with ha | ha
    · rw [ha]; exact h3
    · rw [ha]; intro e; cases e; omega
  · by_cases q : i < ts.length
    · rw [List.getElem?_append_left q] at ht
      obtain ⟨u, h1, h2⟩ := h.t i t ht
      refine ⟨u, by rw [List.getElem?_append_left (by omega)]; exact h1, RxIn.keep (fun b hb' => ?_) (fun b hb' => .inl hb') h2⟩
      rw [hkeep b (.inl hb')]
      exact hb.block b (h.s b hb').1
    · rw [List.getElem?_append_right (by omega)] at ht
      by_cases q2 : i = ts.length
      · subst q2
        simp at ht
        subst ht
        exact ⟨_, by rw [List.getElem?_append_right (by omega), hvsl, Nat.sub_self]; rfl, RxIn.keep hkeep (fun _ z => z) hk.tree⟩
      · rw [List.getElem?_eq_none (by simp; omega)] at ht; cases ht

/-- An own row of ranges reads in its own block. -/
theorem set_own {w : World} {base n c : Nat} {e : TypeId} {A : Option Addr} {xs : List Value} (h : w.ownsRow base e 2 (.slice A n c) n xs) : RdB w (fun b => (Value.slice A n c).ownBlock = some b) A xs := by
  intro hne
  rcases h.2 with ⟨e0, e1⟩ | ⟨g, cap, cur, e0, hb, hg, hn, hc, hs, ht⟩
  · cases e0
    exact absurd (List.eq_nil_of_length_eq_zero (by simpa using h.1)) hne
  · cases e0
    refine ⟨g, 0, rfl, rfl, fun j u hu => ?_⟩
    have := h.cells (g := g) rfl j u hu
    have hadd : (⟨g, 0, none⟩ : Addr).add j = ⟨g, 0 + j, none⟩ := by unfold Addr.add; split <;> simp_all
    rwa [hadd] at this
theorem rdG_below {w w' : World} {B : Nat} {A : Option Addr} {l : List Rg} (h : RdG w B A l) (hb : Below B w w') : RdG w' B A l := h.keep fun _ hp => hb.cell hp

set_option maxHeartbeats 4000000 in
theorem pattern_any (A : Option Addr) (n c : Nat) (Q : List Pw) (w : World) (B : Nat) (hB : B ≤ w.heap.size) (hQ : RdPw w B A n c Q) (hn : n ≤ 2000) (h12 : ∀ x ∈ Q, x.2.2.2.1.length ≤ 12) :
    Calls Tryz.prog 4 #[.slice A n c] w fun e w' => ∃ v, e = .returned v ∧ RxB w' w'.heap.size v (reOf Q) ∧ IntR (reOf Q) ∧ Below w.heap.size w w' := by
  have HQL := Lib.hid hQ.len.1
  have HQ := Lib.hid hQ
  have H12 := Lib.hid h12
  clear hQ h12
  go_enter Tryz.func4, Tryz.ntmps4
  go_wp2_with fail
  go_loopw [3, 11] (fun v i wr => ∃ (k : Nat) (vs : List Value) (S : Nat → Prop), k ≤ n ∧ i = .int .i64 (k : Int) ∧ Hid (TqV wr w.heap.size v vs (builtR (Q.take k)) S) ∧ Hid (∀ t ∈ builtR (Q.take k), IntR t) ∧ Hid (Below w.heap.size w wr)) (fun _ i _ => n - (intOf i).toNat)
  case atStart => exact ⟨0, [], fun _ => False, Nat.zero_le _, rfl, ⟨World.ownsRow_nil _ _ _ _, fun b h => h.elim, fun i t h => (by simp [builtR] at h)⟩, fun t h => (by cases h), Below.refl _ _⟩
  case round =>
    as_aux_lemma =>
      obtain ⟨k, vs, S, hk, rfl, HV, HI, HB⟩ := hrel
      by_cases hlt : k < n
      · as_aux_lemma =>
          obtain ⟨b, off, rfl, hb, hc⟩ := (HQ.out.below (HB.out.mono hB)).at_ (by omega)
          obtain ⟨kd, mn, mx, s, r, A1, n1, c1, A', n', c', q0, z0, z1, z2, z3, z4, s1, s2, s3, s4, q1, q2, q3, q4, ib0, ib1, ib2, ib4, ib3⟩ := hc k hlt
          have hs12 : s.length ≤ 12 := H12.out _ (List.mem_of_getElem? q0)
          have hn47 : n' * 8 ≤ 140737488351232 := ib3
          have hbt := builtR_take q0
          have hsz := HB.out.size
          have htl : (builtR (Q.take k)).length = k := by rw [builtR_len, List.length_take, HQL.out]; omega
          unfold maxLen at q3
          have HRI := Lib.hid q4; have HRL := Lib.hid q1; have HTL := Lib.hid htl; have HBT := Lib.hid hbt; have HIB := Lib.hid (show IntB kd ∧ IntB mn ∧ IntB mx from ⟨ib0, ib1, ib2⟩)
          have HSG := Lib.hid s4
          subst s1
          clear hc q4 q1 hbt htl q0 ib0 ib1 ib2 ib3 ib4 s4 H12
          generalize builtR (Q.take k) = ts at *
          obtain ⟨wo, rfl⟩ : ∃ wo : World, wo = wr := ⟨_, rfl⟩
          go_wp2_with fail
          obtain ⟨wp, hwp⟩ : ∃ wp, wp = wo.alloc (.cells #[.int .i64 kd, .int .i64 mn, .int .i64 mx, .slice A1 s.length c1, .slice A' n' c'] 26) := ⟨_, rfl⟩
          have hbp : Blk wp wo.heap.size 26 [.int .i64 kd, .int .i64 mn, .int .i64 mx, .slice A1 s.length c1, .slice A' n' c'] := by rw [hwp]; exact Blk.new _ _ _
          have hb0p : Below wo.heap.size wo wp := by rw [hwp]; exact (Below.refl _ _).alloc (Nat.le_refl _) _
          have hszp : wp.heap.size = wo.heap.size + 1 := by rw [hwp]; simp
          rw [← hwp]
          clear hwp
          obtain ⟨wd, hwd⟩ : ∃ wd, wd = wp.drew := ⟨_, rfl⟩
          have hbd : Below wp.heap.size wp wd := by rw [hwd]; exact ⟨rfl, rfl, rfl, Nat.le_refl _, fun _ _ => rfl⟩
          have hszd : wd.heap.size = wo.heap.size + 1 := by rw [hwd]; exact hszp
          have hbpd := hbp.below' hbd
          have hb0d : Below wo.heap.size wo wd := hb0p.trans (hbd.mono (by omega))
          refine wp_region_S (fun w' => ∃ X : WB wd.heap.size wd, w' = X.val) (by kernel_rfl) ?_
          rw [← hwd]
          clear hwd hbd hb0p hbp hszp
          have k0 : ∀ X : WB wd.heap.size wd, X.val.cell? ⟨wo.heap.size, 0, none⟩ = some (.int .i64 kd) := fun X => (hbpd.below' X.bel).cell rfl
          have k1 : ∀ X : WB wd.heap.size wd, X.val.cell? ⟨wo.heap.size, 1, none⟩ = some (.int .i64 mn) := fun X => (hbpd.below' X.bel).cell rfl
          have k2 : ∀ X : WB wd.heap.size wd, X.val.cell? ⟨wo.heap.size, 2, none⟩ = some (.int .i64 mx) := fun X => (hbpd.below' X.bel).cell rfl
          have k3 : ∀ X : WB wd.heap.size wd, X.val.cell? ⟨wo.heap.size, 3, none⟩ = some (.slice A1 s.length c1) := fun X => (hbpd.below' X.bel).cell rfl
          have HBPD := Lib.hid hbpd; have HB0D := Lib.hid hb0d; have HSZD := Lib.hid hszd
          have HSD := Lib.hid (rdG_below HSG.out (hb0d.mono (show B ≤ wo.heap.size by omega)))
          clear hbpd hb0d hszd HSG z0 z1 z2 z3 z4
          show wpAnyS _ _ _ _ _ (4 + 8) _ _ _
          refine takeS 4 0 8 (by kernel_rfl) (by kernel_rfl) (fun _ _ d _ _ h => by cases d <;> exact h) ⟨⟨_, Below.refl _ _⟩, rfl⟩ ?_
          simp only [List.take_succ_cons, List.take_zero, List.drop_succ_cons, List.drop_zero]
          repeat (first | go_big_quiet_skip | (go_big_quiet_want; go_big_quiet_op; go_big_quiet_on))
          refine wpQuiet_nil ?_
          clear k0 k1 k2 k3
          refine oneS 3 8 (by kernel_rfl) (by decide) ?_
          simp only [List.take_succ_cons, List.take_zero, List.drop_succ_cons, List.drop_zero]
          go_wp2_with (at_builtin; refine wpList_app_rd elRg rfl (.const (.slice none 0 0)) (.tmp 22) rfl (wo.heap.size + 1) (.slice none 0 0) 0 s.length c1 B A1 [] (rv s) rfl (World.ownsRow_nil _ _ _ _) rfl (rv_len s) HSD.out (rv_one s) (by omega) (by omega) (by rw [HSZD.out]; exact Nat.le_refl _) ?_; rw [Nat.zero_add, List.nil_append]; intro v2 w2 hown2 hg2 _; obtain ⟨A5, c5, rfl, l1, l2, -⟩ := own_form hown2; have HL1 := Lib.hid l1; have HL2 := Lib.hid l2; have HB2 : Hid (Below wd.heap.size wd w2) := Lib.hid ((Below.refl _ _).grown hg2 (Nat.le_refl _) (fun b e => nomatch e)); have HOWN2 := Lib.hid hown2; clear hown2 hg2 l1 l2)
          refine ⟨⟨WB.mk _ HB2.out, rfl⟩, ?_⟩
          simp only [Act.put, List.setIfInBounds_toArray, List.set_cons_zero, List.set_cons_succ]
          show wpAnyS _ _ _ _ _ (2 + 1) _ _ _
          refine takeS 2 9 1 (by kernel_rfl) (by kernel_rfl) (fun _ _ d _ _ h => by cases d <;> exact h) ⟨WB.mk _ HB2.out, rfl⟩ ?_
          simp only [List.take_succ_cons, List.take_zero, List.drop_succ_cons, List.drop_zero]
          repeat (first | go_big_quiet_skip | (go_big_quiet_want; go_big_quiet_op; go_big_quiet_on))
          refine wpQuiet_nil ?_
          refine oneS 1 10 (by kernel_rfl) (by decide) ?_
          simp only [List.take_succ_cons, List.take_zero, List.drop_succ_cons, List.drop_zero]
          go_wp2_with fail
          obtain ⟨w1, hw1⟩ : ∃ w1, w1 = w2.alloc (.cells #[.int .i64 kd, .slice A5 s.length c5, .int .i64 mn, .int .i64 mx, .slice none 0 0] 41) := ⟨_, rfl⟩
          have hbn : Blk w1 w2.heap.size 41 [.int .i64 kd, .slice A5 s.length c5, .int .i64 mn, .int .i64 mx, .slice none 0 0] := by rw [hw1]; exact Blk.new _ _ _
          have hb21 : Below w2.heap.size w2 w1 := by rw [hw1]; exact (Below.refl _ _).alloc (Nat.le_refl _) _
          have hsw1 : w1.heap.size = w2.heap.size + 1 := by rw [hw1]; simp
          rw [← hw1]
          clear hw1
          have hs2 := HB2.out.size
          have hs2' : wo.heap.size + 1 ≤ w2.heap.size := by have := HSZD.out; omega
          have HBX : Hid (Below wd.heap.size wd w1) := Lib.hid (HB2.out.trans (hb21.mono hs2))
          refine ⟨⟨WB.mk _ HBX.out, rfl⟩, ?_⟩
          show wpAnyS _ _ _ _ _ (0 + 1) _ _ _
          refine takeS 0 11 1 (by kernel_rfl) (by kernel_rfl) (fun _ _ d _ _ h => by cases d <;> exact h) ⟨WB.mk _ HBX.out, rfl⟩ ?_
          simp only [List.take_succ_cons, List.take_zero, List.drop_succ_cons, List.drop_zero]
          repeat (first | go_big_quiet_skip | (go_big_quiet_want; go_big_quiet_op; go_big_quiet_on))
          refine wpQuiet_nil ?_
          refine endS (by kernel_rfl) ?_
          obtain ⟨nb, hnb⟩ : ∃ nb, nb = w2.heap.size := ⟨_, rfl⟩
          rw [← hnb] at hbn hsw1 hs2' hb21 ⊢
          have hb01 : Below wo.heap.size wo w1 := HB0D.out.trans (HBX.out.mono (by have := HSZD.out; omega))
          have zk4 : w1.cell? ⟨wo.heap.size, 4, none⟩ = some (.slice A' n' c') := (HBPD.out.below' HBX.out).cell rfl
          have HB01 := Lib.hid hb01; have HSW1 := Lib.hid hsw1; have HNB := Lib.hid hs2'
          have hV1 := HV.out
          obtain ⟨T, hT⟩ : ∃ T : Nat → Prop, T = fun b => (Value.slice A5 s.length c5).ownBlock = some b := ⟨_, rfl⟩
          have hTlt : ∀ b, T b → wo.heap.size + 1 ≤ b ∧ b < nb := fun b hb => by rw [hT] at hb; rw [hnb]; exact HOWN2.out.lt b hb
          have hset : RdB w1 T A5 (rv s) := RdB.keep (set_own HOWN2.out) (fun b hb => hb21.block b (by rw [hnb]; exact (HOWN2.out.lt b hb).2)) (fun b hb => by rw [hT]; exact hb)
          have hst : KqV w1 nb kd mn mx A5 c5 s (.slice none 0 0) [] ([].map (kidR ts)) S T := ⟨hbn, HL1.out, HL2.out, hset, World.ownsRow_nil _ _ _ _, fun i t h => (by simp at h), fun b h => by have := (hV1.s b h).1; omega, fun b h => (hTlt b h).2⟩
          have HST := Lib.hid hst; have HTLT := Lib.hid hTlt
          have hall : ∀ (j : Nat), j < ts.length → ∃ ga cap u, u3 = .slice (some ⟨ga, 0, none⟩) ts.length cap ∧ ts.length ≤ cap ∧ ga < wo.heap.size ∧ wo.cell? ⟨ga, j, none⟩ = some u ∧ RxIn wo S u (ts.getD j .nil) := fun j hj => by
            obtain ⟨ga, cap, e, h1, _, h2, _, h3⟩ := own_atR hV1.row (by omega)
            obtain ⟨u, h4, h5⟩ := hV1.t j ts[j] (List.getElem?_eq_getElem hj)
            exact ⟨ga, cap, u, e, h1, h2, h3 j u h4, by simpa [hj] using h5⟩
          have HALL := Lib.hid hall
          obtain ⟨Av, cv, hve, hv1, hv2, -⟩ := own_form hV1.row
          have hSlt : ∀ b, S b → b < wo.heap.size := fun b h => (hV1.s b h).1
          have HSLT := Lib.hid hSlt
          have hTL : ts.length ≤ 2000 := by have := HTL.out; omega
          unfold maxLen at hv2
          have hs12' := Lib.hid hs12
          clear hV1 hst hall hSlt hbn hb01 hsw1 hset hTlt hT hb21 hnb HBX HOWN2 HB2 HBPD HB0D HSZD HSD HL1 HL2 hs2 hs12 s2 s3 hs2'
          go_wp2_with fail
          go_loopw [29] (fun i wi => ∃ (m : Nat) (kv : Value) (us : List Value), m ≤ n' ∧ i = .int .i64 (m : Int) ∧ Hid (KqV wi nb kd mn mx A5 c5 s kv us ((r.take m).map (kidR ts)) S T) ∧ Hid (us.length = m) ∧ Hid (Below nb w1 wi)) (fun i _ => n' - (intOf i).toNat)
          case atStart => exact ⟨0, .slice none 0 0, [], Nat.zero_le _, rfl, HST.out, rfl, Below.refl _ _⟩
          case round =>
            as_aux_lemma =>
              clear HST
              obtain ⟨m, kv, us, hm, rfl, HK, HUL, HBI⟩ := hrel
              have hsi := HBI.out.size
              have hnw := HNB.out
              by_cases hml : m < n'
              · as_aux_lemma =>
                  obtain ⟨rb, ro, rfl, hrb, hrc⟩ := HRI.out.at_ (by rw [HRL.out]; omega)
                  have hb0 := HB01.out.trans (HBI.out.mono (show wo.heap.size ≤ nb by omega))
                  have zk := (hb0.cell (p := ⟨rb, ro + m, none⟩) (show rb < wo.heap.size by omega)).trans (hrc m (by rw [HRL.out]; exact hml))
                  have hr1 : r.take (m + 1) = r.take m ++ [nth r m] := by rw [List.take_succ_eq_append_getElem (by rw [HRL.out]; exact hml), nth_get (by rw [HRL.out]; exact hml)]
                  have hmap : (r.take (m + 1)).map (kidR ts) = (r.take m).map (kidR ts) ++ [kidR ts (nth r m)] := by rw [hr1, List.map_append]; rfl
                  have hmlen : ((r.take m).map (kidR ts)).length = m := by rw [List.length_map, List.length_take, HRL.out]; omega
                  have HMAP := Lib.hid hmap; have HML := Lib.hid hmlen
                  have HSZ := Lib.hid (show nb + 1 ≤ wr.heap.size by have := HSW1.out; omega)
                  clear hrc hr1 hmap hmlen
                  obtain ⟨kx, hkx⟩ : ∃ kx, kx = nth r m := ⟨_, rfl⟩
                  rw [← hkx] at zk HMAP
                  clear hkx
                  have hbk := HK.out.b
                  have zf := hbk.cell (i := 4) rfl
                  have ff := hbk.frozen 4
                  have hnbl := hbk.lt
                  have hps : ∀ (u : Value) (v2 : Value) (w2 : World), w2.ownsRow (nb + 1) 27 1 v2 (m + 1) (us ++ [u]) → wr.grownBy w2 kv.ownBlock → RxIn wr S u (kidR ts kx) →
                      KqV (w2.setCell ⟨nb, 4, none⟩ v2) nb kd mn mx A5 c5 s v2 (us ++ [u]) ((r.take (m + 1)).map (kidR ts)) S T ∧ Below nb w1 (w2.setCell ⟨nb, 4, none⟩ v2) ∧ w2.cell? ⟨nb, 4, none⟩ = some kv ∧ w2.frozen? ⟨nb, 4, none⟩ = false := fun u v2 w2 h1 h2 h3 => by
                    have hne : some nb ≠ kv.ownBlock := fun e => by have := (HK.out.row.lt _ e.symm).1; omega
                    have hbk2 := HK.out.b.grown h2 hne
                    refine ⟨by rw [HMAP.out]; exact HK.out.push h2 (by rw [HML.out]; exact h1) h3 (by rw [HUL.out, HML.out]), (HBI.out.grown h2 (by omega) (fun b e => by have := (HK.out.row.lt b e).1; omega)).setCell (by simp) _, hbk2.cell rfl, hbk2.frozen 4⟩
                  have HPS := Lib.hid hps
                  have HROW := Lib.hid (show wr.ownsRow (nb + 1) 27 1 kv m us by have := HK.out.row; rw [HML.out] at this; exact this)
                  clear hps hbk hb0
                  by_cases hyes : 0 ≤ kx ∧ kx < (ts.length : Int)
                  · as_aux_lemma =>
                      obtain ⟨c1, c2⟩ := hyes
                      obtain ⟨xn, rfl⟩ := Int.eq_ofNat_of_zero_le c1
                      have hxn : xn < ts.length := by omega
                      obtain ⟨ga, cap, u, e3, hcap, hga, zu, hu⟩ := HALL.out xn hxn
                      have hkd : kidR ts (xn : Int) = ts.getD xn .nil := by rw [kidR_yes ⟨c1, c2⟩, Int.toNat_natCast]
                      have hu2 : RxIn wr S u (kidR ts (xn : Int)) := by
                        rw [hkd]
                        exact RxIn.keep (fun b hb => ((HB01.out.trans (HBI.out.mono (show wo.heap.size ≤ nb by omega))).block b (HSLT.out b hb))) (fun _ z => z) hu
                      obtain ⟨up, rfl⟩ := hu2.ptr
                      have huo := hu.one
                      have HU := Lib.hid hu2; have HUO := Lib.hid huo
                      rw [e3] at hve ⊢
                      clear hkd hu hu2 huo hve hv1 e3
                      have hzu := ((HB01.out.trans (HBI.out.mono (show wo.heap.size ≤ nb by omega))).cell (p := ⟨ga, xn, none⟩) hga).trans zu
                      have k1 : ∀ X : WB (nb + 1) wr.drew, X.val.cell? ⟨nb, 4, none⟩ = some kv := fun X => (X.bel.cell (p := ⟨nb, 4, none⟩) (Nat.lt_succ_self _)).trans zf
                      have k2 : ∀ X : WB (nb + 1) wr.drew, X.val.cell? ⟨ga, xn, none⟩ = some (.pointer up) := fun X => (X.bel.cell (p := ⟨ga, xn, none⟩) (show ga < nb + 1 by omega)).trans hzu
                      clear zu zf ff
                      go_wp2_with fail
                      refine wp_region_keep (fun w' => ∃ X : WB (nb + 1) wr.drew, w' = X.val) 1 9 (by kernel_rfl) (by kernel_rfl) (by kernel_rfl) (by kernel_rfl) (fun _ _ d _ _ h => by cases d <;> exact h) ⟨⟨_, Below.refl _ _⟩, rfl⟩ ?_
                      simp only [List.take_succ_cons, List.take_zero, List.drop_succ_cons, List.drop_zero]
                      repeat (first | go_big_quiet_skip | (go_big_quiet_want; go_big_quiet_op; go_big_quiet_on))
                      refine wpQuiet_nil ?_
                      clear k1 k2
                      go_wp2_with fail
                      have hwb : Below (nb + 1) wr.drew (wr.drew.alloc (.cells #[.pointer up] 27)) := (Below.refl _ _).alloc (show nb + 1 ≤ wr.drew.heap.size from HSZ.out) _
                      refine And.intro (Exists.intro (WB.mk _ hwb) rfl) ?_
                      clear hwb
                      have hrowd : wr.drew.ownsRow (nb + 1) 27 1 kv m us := own_ext HROW.out ⟨rfl, rfl, rfl, Nat.le_refl _, fun _ _ => rfl⟩
                      have hps2 : ∀ (v2 : Value) (w2 : World), w2.ownsRow (nb + 1) 27 1 v2 (m + 1) (us ++ [.pointer up]) → wr.drew.grownBy w2 kv.ownBlock → _ := fun v2 w2 h1 h2 => HPS.out (.pointer up) v2 w2 h1 ⟨h2.os, h2.tape, h2.output, h2.size, fun k a b => h2.block k a b⟩ HU.out
                      have HRD := Lib.hid hrowd; have HPS2 := Lib.hid hps2
                      have HSDD := Lib.hid (show nb + 1 ≤ wr.drew.heap.size from HSZ.out)
                      clear hrowd hps2
                      change wpList _ _ _ _ _ (wr.drew.alloc (.cells #[.pointer up] 27))
                      go_wp2_with (at_builtin; refine wpList_app elRx rfl (.tmp 54) (.tmp 59) rfl (nb + 1) _ m 1 us [.pointer up] rfl HRD.out rfl rfl (by simp [Value.oneCell']) (by omega) (by omega) HSDD.out ?_; intro v2 w2 hown2 hg2 hat2; obtain ⟨A7, c7, rfl, -, -, -⟩ := own_form hown2; have HP2 := Lib.hid (HPS2.out _ w2 hown2 hg2); have z9 := HP2.out.2.2.1; have z8 := HP2.out.2.2.2; clear hown2 hg2 hat2)
                      go_roundw
                      case rel => exact ⟨m + 1, _, us ++ [.pointer up], by omega, by go_num, Lib.hid HP2.out.1, Lib.hid (by have := HUL.out; rw [List.length_append, this]; rfl), Lib.hid HP2.out.2.1⟩
                      case measure => simp [intOf]; omega
                  · as_aux_lemma =>
                      have hkd : kidR ts kx = .nil := kidR_no hyes
                      have HU := Lib.hid (show RxIn wr S (.pointer none) (kidR ts kx) by rw [hkd, RxIn])
                      subst hve
                      clear hkd
                      by_cases c1 : kx < 0
                      · as_aux_lemma =>
                          clear hyes
                          go_wp2_with (at_builtin; refine wpList_app elRx rfl (.tmp 45) (.tmp 46) rfl (nb + 1) _ m 1 us [.pointer none] rfl HROW.out rfl rfl (by simp [Value.oneCell']) (by omega) (by omega) (by have := HSZ.out; omega) ?_; intro v2 w2 hown2 hg2 hat2; obtain ⟨A7, c7, rfl, -, -, -⟩ := own_form hown2; have HP2 := Lib.hid (HPS.out (.pointer none) _ w2 hown2 hg2 HU.out); have z9 := HP2.out.2.2.1; have z8 := HP2.out.2.2.2; clear hown2 hg2 hat2)
                          go_wp2_with fail
                          go_roundw
                          case rel => exact ⟨m + 1, _, us ++ [.pointer none], by omega, by go_num, Lib.hid HP2.out.1, Lib.hid (by have := HUL.out; rw [List.length_append, this]; rfl), Lib.hid HP2.out.2.1⟩
                          case measure => simp [intOf]; omega
                      · as_aux_lemma =>
                          have c2 : ¬ kx < (ts.length : Int) := fun q => hyes ⟨by omega, q⟩
                          clear hyes
                          go_wp2_with (at_builtin; refine wpList_app elRx rfl (.tmp 45) (.tmp 46) rfl (nb + 1) _ m 1 us [.pointer none] rfl HROW.out rfl rfl (by simp [Value.oneCell']) (by omega) (by omega) (by have := HSZ.out; omega) ?_; intro v2 w2 hown2 hg2 hat2; obtain ⟨A7, c7, rfl, -, -, -⟩ := own_form hown2; have HP2 := Lib.hid (HPS.out (.pointer none) _ w2 hown2 hg2 HU.out); have z9 := HP2.out.2.2.1; have z8 := HP2.out.2.2.2; clear hown2 hg2 hat2)
                          go_wp2_with fail
                          go_roundw
                          case rel => exact ⟨m + 1, _, us ++ [.pointer none], by omega, by go_num, Lib.hid HP2.out.1, Lib.hid (by have := HUL.out; rw [List.length_append, this]; rfl), Lib.hid HP2.out.2.1⟩
                          case measure => simp [intOf]; omega
              · as_aux_lemma =>
                  have hmr : r.take m = r := List.take_of_length_le (by rw [HRL.out]; omega)
                  rw [hmr] at HK
                  have hbo := HB01.out.trans (HBI.out.mono (show wo.heap.size ≤ nb by omega))
                  have HBO := Lib.hid hbo
                  have hps : ∀ (v2 : Value) (w2 : World), w2.ownsRow w.heap.size 27 1 v2 (ts.length + 1) (vs ++ [.pointer (some ⟨nb, 0, none⟩)]) → wr.grownBy w2 u3.ownBlock → (v2.ownBlock = u3.ownBlock ∨ v2.ownBlock = some (wr.heap.size + 1)) →
                      ∃ S', TqV w2 w.heap.size v2 (vs ++ [.pointer (some ⟨nb, 0, none⟩)]) (builtR (Q.take (k + 1))) S' := fun v2 w2 h1 h2 h3 =>
                    ⟨_, by rw [HBT.out]; exact HV.out.push HK.out hbo (by omega) (fun b hb => by have := (HTLT.out b hb).1; omega) hsz h2 h1 h3⟩
                  have hint : ∀ t ∈ builtR (Q.take (k + 1)), IntR t := fun t ht => by
                    rw [HBT.out] at ht
                    unfold grownR at ht
                    rw [List.mem_append, List.mem_singleton] at ht
                    rcases ht with q | rfl
                    · exact HI.out t q
                    · exact .node HIB.out.1.1 HIB.out.1.2 HIB.out.2.1.1 HIB.out.2.1.2 HIB.out.2.2.1 HIB.out.2.2.2 hs12'.out (fun z hz => by
                        obtain ⟨a, _, rfl⟩ := List.mem_map.1 hz
                        exact intR_kid HI.out a)
                  have HPS := Lib.hid hps; have HINT := Lib.hid hint
                  have HRW := Lib.hid (own_ext HV.out.row hbo)
                  have hbs : w.heap.size ≤ wr.heap.size := by have := hbo.size; omega
                  clear hmr hps hint hbo
                  go_wp2_with (at_builtin; refine wpList_app elRx rfl (.tmp 64) (.tmp 66) rfl w.heap.size _ ts.length 1 vs [.pointer (some ⟨nb, 0, none⟩)] rfl HRW.out rfl rfl (by simp [Value.oneCell']) (by omega) (by omega) hbs ?_; intro v2 w2 hown2 hg2 hat2; have HP2 := Lib.hid (HPS.out v2 w2 hown2 hg2 hat2); have HB2 := Lib.hid ((HB.out.trans (HBO.out.mono hsz)).grown hg2 hbs (fun b e => own_base HRW.out b e)); clear hown2 hg2 hat2)
                  go_roundw
                  case rel =>
                    obtain ⟨S', hS'⟩ := HP2.out
                    exact ⟨k + 1, _, S', by omega, by go_num, Lib.hid hS', HINT, HB2⟩
                  case measure => simp [intOf]; omega
      · as_aux_lemma =>
          have htk : Q.take k = Q := List.take_of_length_le (by rw [HQL.out]; omega)
          rw [htk] at HV HI
          have hbl : (builtR Q).length = k := by rw [builtR_len, HQL.out]; omega
          obtain ⟨Av, cv, hve, hv1, hv2, -⟩ := own_form HV.out.row
          rw [hbl] at hve hv1
          subst hve
          have hkn : k = n := by omega
          unfold maxLen at hv2
          rcases Nat.eq_zero_or_pos k with k0 | k0
          · have hq : builtR Q = [] := List.eq_nil_of_length_eq_zero (by omega)
            have HW := Lib.hid (show reOf Q = .nil by unfold reOf; rw [hq]; rfl)
            clear hq hbl
            subst k0
            go_wp2_with fail
            go_ret
            exact ⟨_, rfl, by rw [HW.out]; show RxIn _ _ (.pointer none) .nil; rw [RxIn], by rw [HW.out]; exact .nil, HB.out⟩
          · obtain ⟨g, cap, e, h1, h2, hg, _, hc⟩ := own_atR HV.out.row (by omega)
            rw [hbl] at e
            cases e
            have hlast : (builtR Q)[k - 1]? = some (reOf Q) := by
              unfold reOf
              rw [List.getLastD_eq_getLast?, List.getLast?_eq_getElem?, hbl, List.getElem?_eq_getElem (by omega)]; rfl
            obtain ⟨u, hu1, hu2⟩ := HV.out.t (k - 1) _ hlast
            have zc := hc (k - 1) u hu1
            have HT := Lib.hid (show RxB wr wr.heap.size u (reOf Q) from RxIn.keep (fun _ _ => rfl) (fun b q => (HV.out.s b q).1) hu2)
            have HIT := Lib.hid (HI.out _ (List.mem_of_getElem? hlast))
            obtain ⟨up, rfl⟩ := hu2.ptr
            clear hc hlast hu1 hu2 hbl h1
            subst hkn
            obtain ⟨j, rfl⟩ : ∃ j, k = j + 1 := ⟨k - 1, by omega⟩
            rw [Nat.add_sub_cancel] at zc
            go_wp2_with fail
            go_ret
            exact ⟨_, rfl, HT.out, HIT.out, HB.out⟩
end Go.Proofs.YtaachamblagbhaaGreatDoor
namespace Go.Proofs.YtaachamblagbhaaGreatDoor
open Go.RowKit BigFrame
set_option linter.unusedVariables false
set_option linter.unusedSimpArgs false
set_option maxRecDepth 1000000

theorem alloc_set_swap (w : World) (o : Obj) (p : Addr) (u : Value) (h : p.block < w.heap.size) : (w.alloc o).setCell p u = (w.setCell p u).alloc o := by
  simp only [World.alloc, World.setCell]
  congr 1
  apply Array.ext_getElem?
  intro i
  simp only [Array.getElem?_modify, Array.getElem?_push, Array.size_modify]
  by_cases q : p.block = i
  · subst q
    simp [h, Nat.ne_of_lt h]
  · simp [q]
set_option maxHeartbeats 4000000 in
theorem bgrow_fresh (B b n : Nat) (w : World) (hB : B ≤ b) (hbk : w.heap[b]? = some (.cells #[.pointer (some ⟨b, 0, none⟩), .slice none 0 0] 78 (0, 0))) (hBw : B ≤ w.heap.size) (hn : n ≤ 281474976710656) :
    Calls Tryz.prog 63 #[.pointer (some ⟨b, 0, none⟩), .int .i64 n] w fun e w' => e = .returned (.tuple #[]) ∧ (Lib.BuilderAt 78 5 B b (.pointer (some ⟨b, 0, none⟩)) [] w' ∧ Below B w w') := by
  obtain ⟨cs, hrun, hle, hmax⟩ := Lib.run_makeNoZero (P := Tryz.prog) w.drew #[3] 76 5 Tryz.underlying76 n hn
  have hw : IntKind.i64.wrap (IntKind.i64.wrap 0 + (n : Int)) = n := by
    rw [IntKind.wrap_i64, IntKind.wrap_i64]
    omega
  have hcall : (callFunc 82 #[.int .i64 (IntKind.i64.wrap (IntKind.i64.wrap 0 + (n : Int)))]).run Tryz.prog w.drew = .ok (.value (.slice (some ⟨w.drew.heap.size, 0, none⟩) n cs.size)) (w.drew.drew.drew.alloc (.cells cs 5)) := by
    rw [hw, run_callFunc_extern Tryz.func82 (by kernel_rfl) (by kernel_rfl) (by kernel_rfl) (e := Extern.BytealgMakeNoZero.makeNoZero #[3] #[76]) (by kernel_rfl), hrun]
    rfl
  have hcall2 : (callFunc 82 #[.int .i64 (n : Int)]).run Tryz.prog w.drew = .ok (.value (.slice (some ⟨w.drew.heap.size, 0, none⟩) n cs.size)) (w.drew.drew.drew.alloc (.cells cs 5)) := by rw [hw] at hcall; exact hcall
  have c1 : w.drew.cell? ⟨b, 1, none⟩ = some (.slice none 0 0) := by
    have : w.drew.heap[b]? = _ := hbk
    rw [Lib.cell_of_heap this]; rfl
  have hlt : b < w.heap.size := by
    rcases Nat.lt_or_ge b w.heap.size with h' | h'
    · exact h'
    · simp [Array.getElem?_eq_none h'] at hbk
  have c2 : (w.alloc (.cells cs 5)).cell? ⟨b, 1, none⟩ = some (.slice none 0 0) := by
    have : (w.alloc (.cells cs 5)).heap[b]? = _ := (Lib.alloc_old w _ b hlt).trans hbk
    rw [Lib.cell_of_heap this]; rfl
  have f2 : (w.alloc (.cells cs 5)).frozen? ⟨b, 1, none⟩ = false := Lib.frozen_of_heap ((Lib.alloc_old w _ b hlt).trans hbk) 1
  have hcopy : ∀ W : World, (Builtin.copy_ #[76, 76] 3 #[.slice (some ⟨w.heap.size, 0, none⟩) 0 cs.size, .slice none 0 0]).run Tryz.prog W = .ok (goInt 0) W :=
    fun W => run_copy_none W 76 76 3 5 _ _ 0 cs.size 0 0 Tryz.underlying76 y_Builder_Extra_169.sizeByte rfl
  clear hw
  have hfin := Lib.grown_fresh (T := 78) (e := 5) (cs := cs) hB hbk hBw (hmax (by unfold maxLen; omega)) y_Builder_Extra_169.neB5
  have hsw : (w.alloc (.cells cs 5)).setCell ⟨b, 1, none⟩ (.slice (some ⟨w.heap.size, 0, none⟩) 0 cs.size) = (w.setCell ⟨b, 1, none⟩ (.slice (some ⟨w.heap.size, 0, none⟩) 0 cs.size)).alloc (.cells cs 5) := alloc_set_swap w _ _ _ hlt
  rw [hsw] at hfin
  have HFIN := Lib.hid hfin
  have mixed : Tryz.prog.follows .mixedOrders = true := by kernel_rfl
  clear hfin hsw
  go_enter Tryz.func63, Tryz.ntmps63
  go_wp2
  go_region_o
  all_goals (go_wp2; go_end0; exact ⟨rfl, HFIN.out⟩)

set_option maxHeartbeats 4000000 in
theorem Grow_fresh (B b n : Nat) (w : World) (hB : B ≤ b) (hbk : w.heap[b]? = some (.cells #[.pointer none, .slice none 0 0] 78 (0, 0))) (hBw : B ≤ w.heap.size) (hn : n ≤ 281474976710656) :
    Calls Tryz.prog 42 #[.pointer (some ⟨b, 0, none⟩), .int .i64 n] w fun e w' => e = .returned (.tuple #[]) ∧ (Lib.BuilderAt 78 5 B b (.pointer (some ⟨b, 0, none⟩)) [] w' ∧ Below B w w') := by
  have hbk1 : (w.setCell ⟨b, 0, none⟩ (.pointer (some ⟨b, 0, none⟩))).heap[b]? = some (.cells #[.pointer (some ⟨b, 0, none⟩), .slice none 0 0] 78 (0, 0)) := by
    simp [World.setCell, Array.getElem?_modify, hbk]
  have hb1 : Below B w (w.setCell ⟨b, 0, none⟩ (.pointer (some ⟨b, 0, none⟩))) := (Below.refl B w).setCell (p := ⟨b, 0, none⟩) hB _
  have HC := Lib.hid (copy_fresh b w (by rw [Lib.cell_of_heap hbk]; rfl) (by simp [World.shape?, hbk]) (Lib.frozen_of_heap hbk 0))
  obtain ⟨w1, hw1⟩ : ∃ w1, w1 = w.setCell ⟨b, 0, none⟩ (.pointer (some ⟨b, 0, none⟩)) := ⟨_, rfl⟩
  rw [← hw1] at hbk1 hb1 HC
  have c1 : ∀ q, (w1.drewN q).cell? ⟨b, 1, none⟩ = some (.slice none 0 0) := fun q => by
    have : (w1.drewN q).heap[b]? = _ := hbk1
    rw [Lib.cell_of_heap this]; rfl
  have c0 := c1 0
  have hsz : w1.heap.size = w.heap.size := by rw [hw1]; simp [World.setCell]
  have HG : Hid (∀ q, Calls Tryz.prog 63 #[.pointer (some ⟨b, 0, none⟩), .int .i64 n] (w1.drewN q) fun e w' => e = .returned (.tuple #[]) ∧ (Lib.BuilderAt 78 5 B b (.pointer (some ⟨b, 0, none⟩)) [] w' ∧ Below B (w1.drewN q) w')) :=
    Lib.hid (fun q => bgrow_fresh B b n (w1.drewN q) hB hbk1 (by show B ≤ w1.heap.size; omega) hn)
  have HB1 : Hid (∀ q, Below B w (w1.drewN q)) := Lib.hid (fun q => hb1.trans ⟨rfl, rfl, rfl, Nat.le_refl _, fun _ _ => rfl⟩)
  have HU : Hid (∀ q, Lib.BuilderAt 78 5 B b (.pointer (some ⟨b, 0, none⟩)) [] (w1.drewN q)) := Lib.hid (fun q => ⟨hB, .slice none 0 0, hbk1, World.ownsRow_nil _ _ _ _, by simp [Value.ownBlock]⟩)
  have hn63 : ¬ (n : Int) < 0 := by omega
  clear hbk hbk1 hb1 hw1 hsz
  go_enter Tryz.func42, Tryz.ntmps42
  go_wp2_with fail
  refine HC.out.mono ?_
  rintro e w' ⟨rfl, rfl⟩
  by_cases hz : n = 0
  · subst hz
    go_wp2_with fail
    go_quiet (fail)
    go_wp2_with fail
    go_end0
    exact ⟨rfl, HU.out _, HB1.out _⟩
  · have hd : decide ((0 : Int) < (n : Int)) = true := decide_eq_true (by omega)
    have hd2 : decide (0 < n) = true := decide_eq_true (by omega)
    go_wp2_with fail
    go_quiet (fail)
    have HGQ := Lib.hid (HG.out nq)
    have HBQ := Lib.hid (HB1.out nq)
    generalize w'.drewN nq = w2 at *
    go_wp2_with fail
    refine HGQ.out.mono ?_
    rintro e w3 ⟨rfl, h3, hb3⟩
    have HF := Lib.hid (And.intro h3 (HBQ.out.trans hb3))
    clear h3 hb3
    go_wp2_with fail
    go_end0
    exact ⟨rfl, HF.out⟩
end Go.Proofs.YtaachamblagbhaaGreatDoor
namespace Go.Proofs.YtaachamblagbhaaGreatDoor
open Go.RowKit BigFrame
set_option linter.unusedVariables false
set_option linter.unusedSimpArgs false
set_option maxRecDepth 100000

def tlJ (sep : List UInt8) : List (List UInt8) → List UInt8
  | [] => []
  | a :: t => sep ++ (a ++ tlJ sep t)
theorem joinB_cons (sep a : List UInt8) : ∀ t : List (List UInt8), joinB sep (a :: t) = a ++ tlJ sep t
  | [] => by rw [joinB, tlJ, List.append_nil]
  | b :: t => by rw [joinB, joinB_cons sep b t, tlJ, List.append_assoc]
theorem tlJ_drop {sep : List UInt8} {l : List (List UInt8)} {k : Nat} {a : List UInt8} (h : l[k]? = some a) : tlJ sep (l.drop k) = sep ++ (a ++ tlJ sep (l.drop (k + 1))) := by
  have hk := (List.getElem?_eq_some_iff.1 h).1
  have e : l[k] = a := (List.getElem?_eq_some_iff.1 h).2
  rw [List.drop_eq_getElem_cons hk, tlJ, e]
def sevX (k : Int) : List Rx → Rx
  | [p] => p
  | ts => .node k [] 0 0 ts
theorem sevX_one (k : Int) (p : Rx) : sevX k [p] = p := rfl
theorem sevX_more {k : Int} {ts : List Rx} (h : ts.length ≠ 1) : sevX k ts = .node k [] 0 0 ts := by
  match ts, h with
  | [], _ => rfl
  | [p], h => exact absurd rfl h
  | _ :: _ :: _, _ => rfl
theorem several_any (k : Int) (v : Value) (ts : List Rx) (w : World) (base : Nat) (h : PsV w base v ts) (hb : base ≤ w.heap.size) :
    Calls Tryz.prog 36 #[.int .i64 k, v] w fun e w' => ∃ u, e = .returned u ∧ RxIn w' (Frm base w') u (sevX k ts) ∧ Below w.heap.size w w' := by
  by_cases q : ts.length = 1
  · obtain ⟨p, rfl⟩ := List.length_eq_one_iff.1 q
    exact several_one k v p w base h
  · rw [sevX_more q]
    exact several_more k v ts w base h q hb
def lenV : Value → Nat
  | .slice _ n _ => n
  | _ => 0

set_option maxHeartbeats 4000000 in
theorem any_walk (l : List (List UInt8 × Rx)) (d : Nat) (h0 : 1 ≤ l.length) (h60 : l.length ≤ 60) (sub : ∀ x ∈ l, Rdz 1 x.1 x.2 d) : Rdz 0 (joinB [124] (l.map Prod.fst)) (sevX 3 (l.map Prod.snd)) d := by
  intro rb i o s rest w h hf ho
  obtain ⟨m, hm⟩ : ∃ m, m = l.length := ⟨_, rfl⟩
  obtain ⟨tt, htt⟩ : ∃ tt, tt = l.map Prod.fst := ⟨_, rfl⟩
  obtain ⟨ts, hts⟩ : ∃ ts, ts = l.map Prod.snd := ⟨_, rfl⟩
  have hml : tt.length = m := by rw [htt, hm, List.length_map]
  have hms : ts.length = m := by rw [hts, hm, List.length_map]
  have hfs : ∀ c, folR 0 c → folR 1 c := fun c q => by
    simp only [folR] at q ⊢
    omega
  have hne : ∀ c, folR 0 c → c ≠ 124 := fun c q => by
    simp only [folR] at q
    omega
  have hsub : ∀ k a p, tt[k]? = some a → ts[k]? = some p → ∀ (i' : Nat) (rest' : List UInt8) (W : World), RS W rb s i' o (a ++ rest') → folR 1 (hdI rest') →
      Calls Tryz.prog 34 #[rdp rb] W fun e w' => ∃ v, e = .returned v ∧ RS w' rb s (i' + a.length) o rest' ∧ Kp (· = rb) W w' ∧ RxIn w' (Frm W.heap.size w') v p := fun k a p ha hp i' rest' W hR hF => by
    rw [htt, List.getElem?_map] at ha
    rw [hts, List.getElem?_map] at hp
    obtain ⟨x, hx, rfl⟩ := Option.map_eq_some_iff.1 ha
    rw [hx] at hp
    simp at hp
    subst hp
    exact sub x (List.mem_of_getElem? hx) rb i' o s rest' W hR hF ho
  rw [← htt] at h ⊢
  rw [← hts]
  have hm1 : 1 ≤ m := by omega
  have hm60 : m ≤ 60 := by omega
  have HSUB := Lib.hid hsub; have HF := Lib.hid hf; have HML := Lib.hid hml; have HMS := Lib.hid hms; have HFS := Lib.hid hfs; have HNE := Lib.hid hne
  have hfo : ∀ k, k ≤ m → folR 1 (hdI (tlJ [124] (tt.drop k) ++ rest)) := fun k hk => by
    by_cases q : k < m
    · rw [tlJ_drop (List.getElem?_eq_getElem (by omega))]
      simp [hdI, folR]
    · rw [List.drop_of_length_le (by omega), tlJ, List.nil_append]
      exact hfs _ hf
  have HFO := Lib.hid hfo
  obtain ⟨t0, h0t⟩ : ∃ t0, tt[0]? = some t0 := ⟨_, List.getElem?_eq_getElem (by omega)⟩
  obtain ⟨p0, h0p⟩ : ∃ p0, ts[0]? = some p0 := ⟨_, List.getElem?_eq_getElem (by omega)⟩
  have hj : joinB [124] tt = t0 ++ tlJ [124] (tt.drop 1) := by
    cases tt with
    | nil => simp at h0t
    | cons a t =>
      simp at h0t
      subst h0t
      rw [joinB_cons]; rfl
  have hp1 : [p0] = ts.take 1 := by
    cases ts with
    | nil => simp at h0p
    | cons a t =>
      simp at h0p
      subst h0p
      simp
  rw [hj] at h ⊢
  have H0 := Lib.hid (hsub 0 t0 p0 h0t h0p i (tlJ [124] (tt.drop 1) ++ rest) w (by rw [← List.append_assoc]; exact h) (hfo 1 hm1))
  obtain ⟨I, hI⟩ : ∃ I, I = i + (t0 ++ tlJ [124] (tt.drop 1)).length := ⟨_, rfl⟩
  have HI : Hid (i + t0.length + (tlJ [124] (tt.drop 1)).length = I) := Lib.hid (by rw [hI, List.length_append]; omega)
  have hrb := h.lt
  have HP1 := Lib.hid hp1
  rw [← hI]
  obtain ⟨g, hg⟩ : ∃ g, w.heap.size = g := ⟨_, rfl⟩
  rw [hg] at hrb ⊢
  have HG := Lib.hid hg
  clear h hf hml hms hts htt hsub hfs hne hfo hj h0t h0p hI hp1 sub h0 h60 hm
  go_enter Tryz.func18, Tryz.ntmps18
  go_wp2_with fail
  refine H0.out.mono ?_
  clear H0
  rintro e w1 ⟨v1, rfl, hr1, hk1, hx1⟩
  rw [hg] at hx1
  have hgz : g ≤ w1.heap.size := by rw [← hg]; exact hk1.size
  clear hg
  obtain ⟨vp, rfl⟩ := hx1.ptr
  obtain ⟨w2, hw2⟩ : ∃ w2, w2 = w1.alloc (.cells #[.pointer vp] 27) := ⟨_, rfl⟩
  obtain ⟨gb, hgb⟩ : ∃ gb, gb = w1.heap.size := ⟨_, rfl⟩
  have HPS : Hid (PsV w2 g (.slice (some ⟨gb, 0, none⟩) 1 1) (ts.take 1)) := Lib.hid (by rw [hgb, ← HP1.out]; exact PsV.one hx1 hw2 hgz)
  have hb2 : Below w1.heap.size w1 w2 := by rw [hw2]; exact (Below.refl _ _).alloc (Nat.le_refl _) _
  have HR2 := Lib.hid (hr1.below hb2)
  have HK2 := Lib.hid (hk1.trans (Kp.of hb2))
  clear hr1 hk1 hx1 hb2 hgz HP1
  go_wp2_with fail
  rw [← hw2, ← hgb]
  clear hw2 hgb
  go_loopw [3, 4] (fun u v wr => ∃ k i' : Nat, 1 ≤ k ∧ k ≤ m ∧ lenV v = k ∧ Hid (PsV wr g v (ts.take k)) ∧ Hid (RS wr rb s i' o (tlJ [124] (tt.drop k) ++ rest)) ∧ Hid (i' + (tlJ [124] (tt.drop k)).length = I) ∧ Hid (Kp (· = rb) w wr)) (fun _ v _ => m - lenV v)
  case atStart => exact ⟨1, _, Nat.le_refl _, hm1, rfl, HPS.out, HR2.out, HI.out, HK2.out⟩
  case round =>
    as_aux_lemma =>
      clear HPS HR2 HI HK2
      obtain ⟨k, i', hk1, hk, hlv, HPS, HR, HI, HK⟩ := hrel
      have htk : (ts.take k).length = k := by rw [List.length_take, HMS.out]; omega
      have hsw := HK.out.size
      have hgs : g ≤ wr.heap.size := by rw [← HG.out]; exact hsw
      obtain ⟨wo, rfl⟩ : ∃ wo : World, wo = wr := ⟨_, rfl⟩
      by_cases hlt : k < m
      · as_aux_lemma =>
          obtain ⟨a, ha⟩ : ∃ a, tt[k]? = some a := ⟨_, List.getElem?_eq_getElem (by rw [HML.out]; exact hlt)⟩
          obtain ⟨p, hp⟩ : ∃ p, ts[k]? = some p := ⟨_, List.getElem?_eq_getElem (by rw [HMS.out]; exact hlt)⟩
          have hrs := HR.out
          have hi := HI.out
          rw [tlJ_drop ha] at hrs hi
          have hnx : i' + 1 + a.length + (tlJ [124] (tt.drop (k + 1))).length = I := by
            rw [← hi]
            simp only [List.length_append, List.length_cons, List.length_nil]; omega
          have HNX := Lib.hid hnx
          have HE := Lib.hid (eat_yes rb i' o s 124 (a ++ (tlJ [124] (tt.drop (k + 1)) ++ rest)) 124 wo (by
            have e : [(124 : UInt8)] ++ (a ++ tlJ [124] (tt.drop (k + 1))) ++ rest = 124 :: (a ++ (tlJ [124] (tt.drop (k + 1)) ++ rest)) := by simp
            rw [← e]; exact hrs) rfl)
          have HTK : Hid (ts.take (k + 1) = ts.take k ++ [p]) := Lib.hid (by rw [List.take_add_one, hp]; rfl)
          have HC : Hid (∀ (W : World), RS W rb s (i' + 1) o (a ++ (tlJ [124] (tt.drop (k + 1)) ++ rest)) → _) := Lib.hid (fun W hR => HSUB.out k a p ha hp (i' + 1) _ W hR (HFO.out (k + 1) (by omega)))
          have HLN := Lib.hid htk
          obtain ⟨A, c, hve, hc1, hc2⟩ := HPS.out.form
          rw [htk] at hve hc1
          unfold maxLen at hc2
          subst hve
          clear hrs hi hnx ha hp hlv htk HI
          go_wp2_with fail
          refine HE.out.mono ?_
          rintro e w3 ⟨rfl, hr3, hk3⟩
          have HC3 := Lib.hid (HC.out w3 hr3)
          have HPS3 := Lib.hid (HPS.out.kp hk3 hrb)
          have HK3 := Lib.hid (HK.out.trans hk3)
          have hs3 := hk3.size
          clear hr3 hk3
          go_wp2_with fail
          refine HC3.out.mono ?_
          rintro e w4 ⟨v4, rfl, hr4, hk4, hx4⟩
          obtain ⟨up, rfl⟩ := hx4.ptr
          have hs4 := hk4.size
          obtain ⟨vs, S, hq1, hq2, hq3⟩ := (HPS3.out.kp hk4 hrb).ex
          rw [HLN.out] at hq1
          have HROW := Lib.hid hq1
          have HR4 := Lib.hid hr4
          have HK4 := Lib.hid (HK3.out.trans hk4)
          have hg4 : g ≤ w4.heap.size := by omega
          have hT : ∀ b, Frm w3.heap.size w4 b → g ≤ b ∧ b < w4.heap.size ∧ (Value.slice A k c).ownBlock ≠ some b := fun b hb => ⟨by have := hb.1; omega, hb.2, fun e => by
            have := (HPS3.out.ex)
            obtain ⟨vs', S', z1, _, _⟩ := this
            have := (z1.lt b e).2
            have := hb.1
            omega⟩
          have hps : ∀ (v2 : Value) (w5 : World), w5.ownsRow g 27 1 v2 (k + 1) (vs ++ [.pointer up]) → w4.grownBy w5 (Value.slice A k c).ownBlock → (v2.ownBlock = (Value.slice A k c).ownBlock ∨ v2.ownBlock = some (w4.heap.size + 1)) →
              PsV w5 g v2 (ts.take (k + 1)) ∧ RS w5 rb s (i' + 1 + a.length) o (tlJ [124] (tt.drop (k + 1)) ++ rest) ∧ Kp (· = rb) w w5 := fun v2 w5 z1 z2 z3 => by
            refine ⟨?_, ?_, ?_⟩
            · rw [HTK.out]
              refine PsV.push (by rw [HLN.out]; exact hq1) hq2 hq3 hx4 hT z2 (by rw [HLN.out]; exact z1) ?_
              rcases z3 with z3 | z3
              · exact .inl z3
              · exact .inr ⟨_, Nat.le_succ _, z3⟩
            · refine ⟨HR4.out.asc, HR4.out.len, HR4.out.b.grown z2 (fun e => ?_), HR4.out.at_, HR4.out.le⟩
              have := (hq1.lt rb e.symm).1
              omega
            · exact HK4.out.grown z2 (fun b e => .inl (by have := (hq1.lt b e).1; have := HG.out; omega))
          have HPSH := Lib.hid hps
          clear hr4 hk4 hx4 hq1 hq2 hq3 hT hps HR4
          go_wp2_with (at_builtin; refine wpList_app elRx rfl (.tmp 18) (.tmp 20) rfl g _ k 1 vs [.pointer up] rfl HROW.out rfl rfl (by simp [Value.oneCell']) (by omega) (by omega) hg4 ?_; intro v5 w5 hown5 hgr5 hat5; have HP5 := Lib.hid (HPSH.out v5 w5 hown5 hgr5 hat5); obtain ⟨A5, c5, rfl, -, -, -⟩ := own_form hown5; clear hown5 hgr5 hat5)
          go_roundw
          case rel => exact ⟨k + 1, _, by omega, by omega, rfl, Lib.hid HP5.out.1, Lib.hid HP5.out.2.1, HNX, Lib.hid HP5.out.2.2⟩
          case measure => simp [lenV]; omega
      · as_aux_lemma =>
          obtain rfl : k = m := by omega
          have hrs := HR.out
          have hi := HI.out
          rw [List.drop_of_length_le (by rw [HML.out]; omega), tlJ, List.nil_append] at hrs
          rw [List.drop_of_length_le (by rw [HML.out]; omega), tlJ, List.length_nil, Nat.add_zero] at hi
          subst hi
          have hts : ts.take k = ts := List.take_of_length_le (by rw [HMS.out]; omega)
          rw [hts] at HPS htk
          have HE := Lib.hid (eat_no rb i' o s rest 124 wo hrs (HNE.out _ HF.out))
          have HRS := Lib.hid hrs
          obtain ⟨A, c, hve, hc1, hc2⟩ := HPS.out.form
          rw [htk] at hve
          subst hve
          clear hrs hts hlv htk HR HI hc1 hc2
          go_wp2_with fail
          refine HE.out.mono ?_
          rintro e w3 ⟨rfl, hb3⟩
          have hk3 : Kp (· = rb) wo w3 := Kp.of hb3
          have HS := Lib.hid (several_any 3 _ ts w3 g (HPS.out.kp hk3 hrb) (by have := hb3.size; omega))
          have HR3 := Lib.hid (HRS.out.below hb3)
          have HK3 := Lib.hid (HK.out.trans hk3)
          clear hb3 hk3
          go_wp2_with fail
          refine HS.out.mono ?_
          rintro e w4 ⟨u, rfl, hx4, hb4⟩
          obtain ⟨up, rfl⟩ := hx4.ptr
          have HX4 := Lib.hid hx4
          have HR4 := Lib.hid (HR3.out.below hb4)
          have HK4 := Lib.hid (HK3.out.trans (Kp.of hb4))
          clear hx4 hb4
          go_wp2_with fail
          go_ret
          exact ⟨_, rfl, HR4.out, HK4.out, HX4.out⟩

set_option maxHeartbeats 4000000 in
theorem both_walk (l : List (List UInt8 × Rx)) (d : Nat) (h0 : 1 ≤ l.length) (h60 : l.length ≤ 60) (sub : ∀ x ∈ l, Rdz 2 x.1 x.2 d) : Rdz 1 (joinB [38] (l.map Prod.fst)) (sevX 4 (l.map Prod.snd)) d := by
  intro rb i o s rest w h hf ho
  obtain ⟨m, hm⟩ : ∃ m, m = l.length := ⟨_, rfl⟩
  obtain ⟨tt, htt⟩ : ∃ tt, tt = l.map Prod.fst := ⟨_, rfl⟩
  obtain ⟨ts, hts⟩ : ∃ ts, ts = l.map Prod.snd := ⟨_, rfl⟩
  have hml : tt.length = m := by rw [htt, hm, List.length_map]
  have hms : ts.length = m := by rw [hts, hm, List.length_map]
  have hfs : ∀ c, folR 1 c → folR 2 c := fun c q => by
    simp only [folR] at q ⊢
    omega
  have hne : ∀ c, folR 1 c → c ≠ 38 := fun c q => by
    simp only [folR] at q
    omega
  have hsub : ∀ k a p, tt[k]? = some a → ts[k]? = some p → ∀ (i' : Nat) (rest' : List UInt8) (W : World), RS W rb s i' o (a ++ rest') → folR 2 (hdI rest') →
      Calls Tryz.prog 52 #[rdp rb] W fun e w' => ∃ v, e = .returned v ∧ RS w' rb s (i' + a.length) o rest' ∧ Kp (· = rb) W w' ∧ RxIn w' (Frm W.heap.size w') v p := fun k a p ha hp i' rest' W hR hF => by
    rw [htt, List.getElem?_map] at ha
    rw [hts, List.getElem?_map] at hp
    obtain ⟨x, hx, rfl⟩ := Option.map_eq_some_iff.1 ha
    rw [hx] at hp
    simp at hp
    subst hp
    exact sub x (List.mem_of_getElem? hx) rb i' o s rest' W hR hF ho
  rw [← htt] at h ⊢
  rw [← hts]
  have hm1 : 1 ≤ m := by omega
  have hm60 : m ≤ 60 := by omega
  have HSUB := Lib.hid hsub; have HF := Lib.hid hf; have HML := Lib.hid hml; have HMS := Lib.hid hms; have HFS := Lib.hid hfs; have HNE := Lib.hid hne
  have hfo : ∀ k, k ≤ m → folR 2 (hdI (tlJ [38] (tt.drop k) ++ rest)) := fun k hk => by
    by_cases q : k < m
    · rw [tlJ_drop (List.getElem?_eq_getElem (by omega))]
      simp [hdI, folR]
    · rw [List.drop_of_length_le (by omega), tlJ, List.nil_append]
      exact hfs _ hf
  have HFO := Lib.hid hfo
  obtain ⟨t0, h0t⟩ : ∃ t0, tt[0]? = some t0 := ⟨_, List.getElem?_eq_getElem (by omega)⟩
  obtain ⟨p0, h0p⟩ : ∃ p0, ts[0]? = some p0 := ⟨_, List.getElem?_eq_getElem (by omega)⟩
  have hj : joinB [38] tt = t0 ++ tlJ [38] (tt.drop 1) := by
    cases tt with
    | nil => simp at h0t
    | cons a t =>
      simp at h0t
      subst h0t
      rw [joinB_cons]; rfl
  have hp1 : [p0] = ts.take 1 := by
    cases ts with
    | nil => simp at h0p
    | cons a t =>
      simp at h0p
      subst h0p
      simp
  rw [hj] at h ⊢
  have H0 := Lib.hid (hsub 0 t0 p0 h0t h0p i (tlJ [38] (tt.drop 1) ++ rest) w (by rw [← List.append_assoc]; exact h) (hfo 1 hm1))
  obtain ⟨I, hI⟩ : ∃ I, I = i + (t0 ++ tlJ [38] (tt.drop 1)).length := ⟨_, rfl⟩
  have HI : Hid (i + t0.length + (tlJ [38] (tt.drop 1)).length = I) := Lib.hid (by rw [hI, List.length_append]; omega)
  have hrb := h.lt
  have HP1 := Lib.hid hp1
  rw [← hI]
  obtain ⟨g, hg⟩ : ∃ g, w.heap.size = g := ⟨_, rfl⟩
  rw [hg] at hrb ⊢
  have HG := Lib.hid hg
  clear h hf hml hms hts htt hsub hfs hne hfo hj h0t h0p hI hp1 sub h0 h60 hm
  go_enter Tryz.func34, Tryz.ntmps34
  go_wp2_with fail
  refine H0.out.mono ?_
  clear H0
  rintro e w1 ⟨v1, rfl, hr1, hk1, hx1⟩
  rw [hg] at hx1
  have hgz : g ≤ w1.heap.size := by rw [← hg]; exact hk1.size
  clear hg
  obtain ⟨vp, rfl⟩ := hx1.ptr
  obtain ⟨w2, hw2⟩ : ∃ w2, w2 = w1.alloc (.cells #[.pointer vp] 27) := ⟨_, rfl⟩
  obtain ⟨gb, hgb⟩ : ∃ gb, gb = w1.heap.size := ⟨_, rfl⟩
  have HPS : Hid (PsV w2 g (.slice (some ⟨gb, 0, none⟩) 1 1) (ts.take 1)) := Lib.hid (by rw [hgb, ← HP1.out]; exact PsV.one hx1 hw2 hgz)
  have hb2 : Below w1.heap.size w1 w2 := by rw [hw2]; exact (Below.refl _ _).alloc (Nat.le_refl _) _
  have HR2 := Lib.hid (hr1.below hb2)
  have HK2 := Lib.hid (hk1.trans (Kp.of hb2))
  clear hr1 hk1 hx1 hb2 hgz HP1
  go_wp2_with fail
  rw [← hw2, ← hgb]
  clear hw2 hgb
  go_loopw [3, 4] (fun u v wr => ∃ k i' : Nat, 1 ≤ k ∧ k ≤ m ∧ lenV v = k ∧ Hid (PsV wr g v (ts.take k)) ∧ Hid (RS wr rb s i' o (tlJ [38] (tt.drop k) ++ rest)) ∧ Hid (i' + (tlJ [38] (tt.drop k)).length = I) ∧ Hid (Kp (· = rb) w wr)) (fun _ v _ => m - lenV v)
  case atStart => exact ⟨1, _, Nat.le_refl _, hm1, rfl, HPS.out, HR2.out, HI.out, HK2.out⟩
  case round =>
    as_aux_lemma =>
      clear HPS HR2 HI HK2
      obtain ⟨k, i', hk1, hk, hlv, HPS, HR, HI, HK⟩ := hrel
      have htk : (ts.take k).length = k := by rw [List.length_take, HMS.out]; omega
      have hsw := HK.out.size
      have hgs : g ≤ wr.heap.size := by rw [← HG.out]; exact hsw
      obtain ⟨wo, rfl⟩ : ∃ wo : World, wo = wr := ⟨_, rfl⟩
      by_cases hlt : k < m
      · as_aux_lemma =>
          obtain ⟨a, ha⟩ : ∃ a, tt[k]? = some a := ⟨_, List.getElem?_eq_getElem (by rw [HML.out]; exact hlt)⟩
          obtain ⟨p, hp⟩ : ∃ p, ts[k]? = some p := ⟨_, List.getElem?_eq_getElem (by rw [HMS.out]; exact hlt)⟩
          have hrs := HR.out
          have hi := HI.out
          rw [tlJ_drop ha] at hrs hi
          have hnx : i' + 1 + a.length + (tlJ [38] (tt.drop (k + 1))).length = I := by
            rw [← hi]
            simp only [List.length_append, List.length_cons, List.length_nil]; omega
          have HNX := Lib.hid hnx
          have HE := Lib.hid (eat_yes rb i' o s 38 (a ++ (tlJ [38] (tt.drop (k + 1)) ++ rest)) 38 wo (by
            have e : [(38 : UInt8)] ++ (a ++ tlJ [38] (tt.drop (k + 1))) ++ rest = 38 :: (a ++ (tlJ [38] (tt.drop (k + 1)) ++ rest)) := by simp
            rw [← e]; exact hrs) rfl)
          have HTK : Hid (ts.take (k + 1) = ts.take k ++ [p]) := Lib.hid (by rw [List.take_add_one, hp]; rfl)
          have HC : Hid (∀ (W : World), RS W rb s (i' + 1) o (a ++ (tlJ [38] (tt.drop (k + 1)) ++ rest)) → _) := Lib.hid (fun W hR => HSUB.out k a p ha hp (i' + 1) _ W hR (HFO.out (k + 1) (by omega)))
          have HLN := Lib.hid htk
          obtain ⟨A, c, hve, hc1, hc2⟩ := HPS.out.form
          rw [htk] at hve hc1
          unfold maxLen at hc2
          subst hve
          clear hrs hi hnx ha hp hlv htk HI
          go_wp2_with fail
          refine HE.out.mono ?_
          rintro e w3 ⟨rfl, hr3, hk3⟩
          have HC3 := Lib.hid (HC.out w3 hr3)
          have HPS3 := Lib.hid (HPS.out.kp hk3 hrb)
          have HK3 := Lib.hid (HK.out.trans hk3)
          have hs3 := hk3.size
          clear hr3 hk3
          go_wp2_with fail
          refine HC3.out.mono ?_
          rintro e w4 ⟨v4, rfl, hr4, hk4, hx4⟩
          obtain ⟨up, rfl⟩ := hx4.ptr
          have hs4 := hk4.size
          obtain ⟨vs, S, hq1, hq2, hq3⟩ := (HPS3.out.kp hk4 hrb).ex
          rw [HLN.out] at hq1
          have HROW := Lib.hid hq1
          have HR4 := Lib.hid hr4
          have HK4 := Lib.hid (HK3.out.trans hk4)
          have hg4 : g ≤ w4.heap.size := by omega
          have hT : ∀ b, Frm w3.heap.size w4 b → g ≤ b ∧ b < w4.heap.size ∧ (Value.slice A k c).ownBlock ≠ some b := fun b hb => ⟨by have := hb.1; omega, hb.2, fun e => by
            have := (HPS3.out.ex)
            obtain ⟨vs', S', z1, _, _⟩ := this
            have := (z1.lt b e).2
            have := hb.1
            omega⟩
          have hps : ∀ (v2 : Value) (w5 : World), w5.ownsRow g 27 1 v2 (k + 1) (vs ++ [.pointer up]) → w4.grownBy w5 (Value.slice A k c).ownBlock → (v2.ownBlock = (Value.slice A k c).ownBlock ∨ v2.ownBlock = some (w4.heap.size + 1)) →
              PsV w5 g v2 (ts.take (k + 1)) ∧ RS w5 rb s (i' + 1 + a.length) o (tlJ [38] (tt.drop (k + 1)) ++ rest) ∧ Kp (· = rb) w w5 := fun v2 w5 z1 z2 z3 => by
            refine ⟨?_, ?_, ?_⟩
            · rw [HTK.out]
              refine PsV.push (by rw [HLN.out]; exact hq1) hq2 hq3 hx4 hT z2 (by rw [HLN.out]; exact z1) ?_
              rcases z3 with z3 | z3
              · exact .inl z3
              · exact .inr ⟨_, Nat.le_succ _, z3⟩
            · refine ⟨HR4.out.asc, HR4.out.len, HR4.out.b.grown z2 (fun e => ?_), HR4.out.at_, HR4.out.le⟩
              have := (hq1.lt rb e.symm).1
              omega
            · exact HK4.out.grown z2 (fun b e => .inl (by have := (hq1.lt b e).1; have := HG.out; omega))
          have HPSH := Lib.hid hps
          clear hr4 hk4 hx4 hq1 hq2 hq3 hT hps HR4
          go_wp2_with (at_builtin; refine wpList_app elRx rfl (.tmp 18) (.tmp 20) rfl g _ k 1 vs [.pointer up] rfl HROW.out rfl rfl (by simp [Value.oneCell']) (by omega) (by omega) hg4 ?_; intro v5 w5 hown5 hgr5 hat5; have HP5 := Lib.hid (HPSH.out v5 w5 hown5 hgr5 hat5); obtain ⟨A5, c5, rfl, -, -, -⟩ := own_form hown5; clear hown5 hgr5 hat5)
          go_roundw
          case rel => exact ⟨k + 1, _, by omega, by omega, rfl, Lib.hid HP5.out.1, Lib.hid HP5.out.2.1, HNX, Lib.hid HP5.out.2.2⟩
          case measure => simp [lenV]; omega
      · as_aux_lemma =>
          obtain rfl : k = m := by omega
          have hrs := HR.out
          have hi := HI.out
          rw [List.drop_of_length_le (by rw [HML.out]; omega), tlJ, List.nil_append] at hrs
          rw [List.drop_of_length_le (by rw [HML.out]; omega), tlJ, List.length_nil, Nat.add_zero] at hi
          subst hi
          have hts : ts.take k = ts := List.take_of_length_le (by rw [HMS.out]; omega)
          rw [hts] at HPS htk
          have HE := Lib.hid (eat_no rb i' o s rest 38 wo hrs (HNE.out _ HF.out))
          have HRS := Lib.hid hrs
          obtain ⟨A, c, hve, hc1, hc2⟩ := HPS.out.form
          rw [htk] at hve
          subst hve
          clear hrs hts hlv htk HR HI hc1 hc2
          go_wp2_with fail
          refine HE.out.mono ?_
          rintro e w3 ⟨rfl, hb3⟩
          have hk3 : Kp (· = rb) wo w3 := Kp.of hb3
          have HS := Lib.hid (several_any 4 _ ts w3 g (HPS.out.kp hk3 hrb) (by have := hb3.size; omega))
          have HR3 := Lib.hid (HRS.out.below hb3)
          have HK3 := Lib.hid (HK.out.trans hk3)
          clear hb3 hk3
          go_wp2_with fail
          refine HS.out.mono ?_
          rintro e w4 ⟨u, rfl, hx4, hb4⟩
          obtain ⟨up, rfl⟩ := hx4.ptr
          have HX4 := Lib.hid hx4
          have HR4 := Lib.hid (HR3.out.below hb4)
          have HK4 := Lib.hid (HK3.out.trans (Kp.of hb4))
          clear hx4 hb4
          go_wp2_with fail
          go_ret
          exact ⟨_, rfl, HR4.out, HK4.out, HX4.out⟩
end Go.Proofs.YtaachamblagbhaaGreatDoor
