/- The document's grow, with what it leaves alone. · Sets of ranges read; the document's alike. · An own row of own rows of ranges, their blocks apart. -/
import Derived.Test.YtkcpfpofimkkiaaGreatDoorQ6
import Derived.Test.YtkcpfpofimkkiaaGreatDoorQ9
import Derived.OneCell
namespace Go.Proofs.YtkcpfpofimkkiaaGreatDoor
open Go.RowKit BigFrame
set_option linter.unusedVariables false
set_option linter.unusedSimpArgs false
set_option maxRecDepth 100000

set_option maxHeartbeats 1000000 in
theorem growX_any (base : Nat) (v : Value) (l : List Rg) (lo hi : Int) (w : World) (ho : OwG w base v l) (hb : base ≤ w.heap.size) (hn : l.length ≤ 100000) (hbd : ∀ r ∈ l, -1 ≤ r.2 ∧ r.2 ≤ 1114111) :
    Calls Tryz.prog 64 #[v, .int .i64 lo, .int .i64 hi] w fun e w' => ∃ v', e = .returned v' ∧ OwG w' base v' (growR l lo hi) ∧ w.grownBy w' v.ownBlock ∧ (∀ g, v'.ownBlock = some g → v.ownBlock = some g ∨ w.heap.size ≤ g) := by
  have hap : ∀ (v' : Value) (w' : World) (l' : List Rg) (n : Nat), w'.ownsRow base 62 2 v' (n + 1) (rv l ++ [.int .i64 lo, .int .i64 hi]) → n = l.length → l' = l ++ [(lo, hi)] → OwG w' base v' l' := fun v' w' l' n h hnl e => by
    subst e; subst hnl
    have e2 : rv l ++ [.int .i64 lo, .int .i64 hi] = rv (l ++ [(lo, hi)]) := by rw [rv_append]; rfl
    rw [e2] at h
    have e3 : (l ++ [(lo, hi)]).length = l.length + 1 := by simp
    unfold OwG; rw [e3]; exact h
  have HAP := Lib.hid hap
  clear hap
  rcases List.eq_nil_or_concat l with hl | ⟨l0, ⟨x, y⟩, hl⟩
  · obtain ⟨A, c, rfl, hc1, hc2, _⟩ := ho.form
    have hz : l.length = 0 := by rw [hl]; rfl
    have HG := Lib.hid (show growR l lo hi = l ++ [(lo, hi)] by rw [hl]; rfl)
    unfold OwG at ho
    rw [hz] at ho hc1 ⊢
    have HZ := Lib.hid hz; have HO := Lib.hid ho
    clear ho hz hl
    go_enter Tryz.func64, Tryz.ntmps64
    go_wp2_with (first
       | (at_builtin; refine wpList_app elRg rfl (.tmp 29) (.tmp 33) rfl base _ 0 1 (rv l) [.int .i64 lo, .int .i64 hi] rfl HO.out rfl rfl (by simp [Value.oneCell']) (by decide) (by decide) hb ?_; intro v2 w2 hown2 hg2 hat2; have HW2 := Lib.hid hown2; have HB2 := Lib.hid hg2; have HAT := Lib.hid hat2; clear hown2 hg2 hat2))
    go_ret
    exact ⟨v2, rfl, HAP.out _ _ _ _ HW2.out HZ.out.symm HG.out, HB2.out, fun g e => by rcases HAT.out with q | q <;> rw [q] at e <;> first | exact .inl e | (cases e; exact .inr (by omega))⟩
  · rw [List.concat_eq_append] at hl
    have hll : l.length = l0.length + 1 := by rw [hl]; simp
    obtain ⟨g, cap, rfl, hg1, hg2, hg3, hfz, hcs, hst⟩ := ho.blk (by omega)
    obtain ⟨A, c, e2, hc1, hc2, _⟩ := ho.form
    simp only [Value.slice.injEq] at e2
    obtain ⟨rfl, _, rfl⟩ := e2
    unfold maxLen at hc2
    have hnth : nthR l l0.length = (x, y) := by rw [nthR_get (by omega)]; subst hl; simp
    obtain ⟨c1, c2⟩ := hcs l0.length (by omega)
    have hst2 := hst l0.length hi (by omega)
    rw [hnth] at c1 c2 hst2
    simp only at c1 c2 hst2
    have hset : l.set l0.length (x, hi) = l0 ++ [(x, hi)] := by rw [hl, List.set_append_right _ _ (Nat.le_refl _), Nat.sub_self]; rfl
    rw [hset] at hst2
    have hbx := hbd (x, y) (by rw [hl]; simp)
    simp only at hbx
    obtain ⟨hb1, hb2⟩ := hbx
    have hg := growR_snoc l0 x y lo hi
    rw [← hl] at hg
    have f2 := hfz (l0.length * 2 + 1)
    unfold OwG at ho hst2
    have hset2 : (l0 ++ [(x, hi)]).length = l0.length + 1 := by simp
    rw [hset2] at hst2
    have HL1 := Lib.hid hll
    rw [hll] at hc1 ho hst2 ⊢
    have HO := Lib.hid ho; have HST := Lib.hid hst2
    have hm : l0.length ≤ 100000 := by omega
    have HM2 := Lib.hid (show ∃ m, m = l0.length from ⟨_, rfl⟩)
    clear ho hcs hst hst2 hset hset2 hnth hfz hl
    generalize hmm : l0.length = m at *
    have HMM := Lib.hid hmm
    clear hmm
    by_cases he : y + 1 = lo
    · have d1 : (y + 1 == lo) = true := by simpa using he
      rw [if_pos he] at hg
      have HG := Lib.hid hg
      clear hg he
      go_enter Tryz.func64, Tryz.ntmps64
      go_wp2
      go_ret
      have e3 : (l0 ++ [(x, hi)]).length = m + 1 := by rw [List.length_append, HMM.out]; rfl
      refine ⟨_, rfl, ?_, ⟨rfl, rfl, rfl, by rw [setCell_size]; exact Nat.le_refl _, fun k _ hk => Below.heap_setCell _ _ _ k (fun e => hk (by rw [e]; rfl))⟩, fun g' e => .inl e⟩
      unfold OwG
      rw [HG.out, e3]
      exact HST.out
    · have d1 : (y + 1 == lo) = false := by simpa using he
      rw [if_neg he] at hg
      have HG := Lib.hid hg
      clear hg he
      go_enter Tryz.func64, Tryz.ntmps64
      go_wp2_with (first
         | (at_builtin; refine wpList_app elRg rfl (.tmp 29) (.tmp 33) rfl base _ (m + 1) 1 (rv l) [.int .i64 lo, .int .i64 hi] rfl HO.out rfl rfl (by simp [Value.oneCell']) (by omega) (by omega) hb ?_; intro v2 w2 hown2 hg2 hat2; have HW2 := Lib.hid hown2; have HB2 := Lib.hid hg2; have HAT := Lib.hid hat2; clear hown2 hg2 hat2))
      go_ret
      exact ⟨v2, rfl, HAP.out _ _ _ _ HW2.out HL1.out.symm HG.out, HB2.out, fun g e => by rcases HAT.out with q | q <;> rw [q] at e <;> first | exact .inl e | (cases e; exact .inr (by omega))⟩
end Go.Proofs.YtkcpfpofimkkiaaGreatDoor
namespace Go.Proofs.YtkcpfpofimkkiaaGreatDoor
open Go.RowKit BigFrame
set_option linter.unusedVariables false
set_option linter.unusedSimpArgs false
set_option maxRecDepth 100000

def nthS (S : List (List Rg)) (k : Nat) : List Rg := S.getD k []
theorem nthS_get {S : List (List Rg)} {k : Nat} (h : k < S.length) : nthS S k = S[k] := by simp [nthS, h]
/-- A slice of slices of ranges. -/
def RdS (w : World) (B : Nat) (A : Option Addr) (S : List (List Rg)) : Prop :=
  0 < S.length → ∃ b off, A = some ⟨b, off, none⟩ ∧ b < B ∧ ∀ k, k < S.length → ∃ A' c', w.cell? ⟨b, off + k, none⟩ = some (.slice A' (nthS S k).length c') ∧ (nthS S k).length ≤ c' ∧ c' ≤ maxLen ∧ RdG w B A' (nthS S k)
theorem RdS.below {w w' : World} {B : Nat} {A : Option Addr} {S : List (List Rg)} (h : RdS w B A S) (hb : Below B w w') : RdS w' B A S := fun h0 => by
  obtain ⟨b, off, e, hlt, hc⟩ := h h0
  refine ⟨b, off, e, hlt, fun k hk => ?_⟩
  obtain ⟨A', c', z, q1, q2, r⟩ := hc k hk
  exact ⟨A', c', (hb.cell (p := ⟨b, off + k, none⟩) hlt).trans z, q1, q2, r.below hb⟩
theorem RdS.more {w : World} {B B' : Nat} {A : Option Addr} {S : List (List Rg)} (h : RdS w B A S) (hB : B ≤ B') : RdS w B' A S := fun h0 => by
  obtain ⟨b, off, e, hlt, hc⟩ := h h0
  refine ⟨b, off, e, by omega, fun k hk => ?_⟩
  obtain ⟨A', c', z, q1, q2, r⟩ := hc k hk
  exact ⟨A', c', z, q1, q2, r.more hB⟩
theorem sig_take {S : List (List Rg)} {k : Nat} {p q : Int} (h : k < S.length) : (sig (S.take (k + 1)) p = sig (S.take (k + 1)) q) ↔ sig (S.take k) p = sig (S.take k) q ∧ inR (nthS S k) p = inR (nthS S k) q := by
  rw [List.take_succ_eq_append_getElem h, sig_snoc, nthS_get h]
theorem sig_take_ne {S : List (List Rg)} {k : Nat} {p q : Int} (h : k < S.length) (hne : inR (nthS S k) p ≠ inR (nthS S k) q) : sig S p ≠ sig S q := fun e => hne (by
  have h2 : (sig S p)[k]? = (sig S q)[k]? := by rw [e]
  unfold sig at h2
  rw [List.getElem?_map, List.getElem?_map, List.getElem?_eq_getElem h] at h2
  rw [nthS_get h]
  simpa using h2)

set_option maxHeartbeats 1000000 in
theorem alike_any (A : Option Addr) (n c : Nat) (S : List (List Rg)) (p q : Int) (w : World) (B : Nat) (hr : RdS w B A S) (hl : S.length = n) (hn : n ≤ 1000) (hs : ∀ s ∈ S, s.length ≤ 100) :
    Calls Tryz.prog 63 #[.slice A n c, .int .i64 p, .int .i64 q] w fun e w' => e = .returned (.bool (decide (sig S p = sig S q))) ∧ w = w' := by
  have HR := Lib.hid hr; have HL := Lib.hid hl; have HS := Lib.hid hs
  clear hr hl hs
  go_enter Tryz.func63, Tryz.ntmps63
  go_wp2_with fail
  go_loop [7] (fun i => ∃ k : Nat, k ≤ n ∧ i = .int .i64 (k : Int) ∧ Hid (sig (S.take k) p = sig (S.take k) q)) (fun i => n - (intOf i).toNat)
  case atStart => exact ⟨0, Nat.zero_le _, rfl, rfl⟩
  case round =>
    as_aux_lemma =>
      obtain ⟨k, hk, rfl, HT⟩ := hrel
      by_cases hlt : k < n
      · as_aux_lemma =>
          have hkl : k < S.length := by rw [HL.out]; exact hlt
          obtain ⟨b, off, rfl, hb, hc⟩ := HR.out (by omega)
          obtain ⟨A', c', z1, q1, q2, hrd⟩ := hc k hkl
          have hlen : (nthS S k).length ≤ 100 := by rw [nthS_get hkl]; exact HS.out _ (List.getElem_mem hkl)
          have H1 := Lib.hid (rHas_any A' (nthS S k).length c' (nthS S k) p w B hrd rfl (by omega))
          have H2 := Lib.hid (rHas_any A' (nthS S k).length c' (nthS S k) q w B hrd rfl (by omega))
          have hst := (sig_take (p := p) (q := q) hkl).2
          have hno := sig_take_ne (p := p) (q := q) hkl
          have hyes : inR (nthS S k) p = inR (nthS S k) q → sig (S.take (k + 1)) p = sig (S.take (k + 1)) q := fun e => hst ⟨HT.out, e⟩
          have HYES := Lib.hid hyes; have HNO := Lib.hid hno
          clear hc hrd hst hno hyes hlen
          generalize inR (nthS S k) p = x at *
          generalize inR (nthS S k) q = y at *
          generalize nthS S k = s at *
          by_cases hxy : x = y
          · have HY := Lib.hid (HYES.out hxy)
            subst hxy
            clear HYES HNO
            cases x
            all_goals
              go_wp2_with fail
              refine H1.out.mono ?_
              rintro e w1 ⟨rfl, rfl⟩
              go_wp2_with fail
              refine H2.out.mono ?_
              rintro e w1 ⟨rfl, rfl⟩
              go_wp2_with fail
              go_round
              case rel => exact ⟨k + 1, by omega, by go_num, HY⟩
              case measure => simp [intOf]; omega
          · have HN := Lib.hid (show decide (sig S p = sig S q) = false from decide_eq_false (HNO.out hxy))
            clear HYES HNO
            cases x <;> cases y
            · exact absurd rfl hxy
            · clear hxy
              go_wp2_with fail
              refine H1.out.mono ?_
              rintro e w1 ⟨rfl, rfl⟩
              go_wp2_with fail
              refine H2.out.mono ?_
              rintro e w1 ⟨rfl, rfl⟩
              go_wp2_with fail
              go_ret
              exact ⟨ret_eq (by rw [HN.out]; rfl), rfl⟩
            · clear hxy
              go_wp2_with fail
              refine H1.out.mono ?_
              rintro e w1 ⟨rfl, rfl⟩
              go_wp2_with fail
              refine H2.out.mono ?_
              rintro e w1 ⟨rfl, rfl⟩
              go_wp2_with fail
              go_ret
              exact ⟨ret_eq (by rw [HN.out]; rfl), rfl⟩
            · exact absurd rfl hxy
      · as_aux_lemma =>
          have ht := HT.out
          rw [List.take_of_length_le (by rw [HL.out]; omega)] at ht
          have HX := Lib.hid (show decide (sig S p = sig S q) = true from decide_eq_true ht)
          clear ht
          go_wp2_with fail
          go_ret
          exact ⟨ret_eq (by rw [HX.out]; rfl), rfl⟩
end Go.Proofs.YtkcpfpofimkkiaaGreatDoor
namespace Go.Proofs.YtkcpfpofimkkiaaGreatDoor
open Go.RowKit BigFrame
set_option linter.unusedVariables false
set_option linter.unusedSimpArgs false
set_option maxRecDepth 100000

structure ClV (w : World) (base : Nat) (v : Value) (vs : List Value) (R : List (List Rg)) : Prop where
  l : vs.length = R.length
  row : w.ownsRow base 36 1 v R.length vs
  cl : ∀ (k : Nat) (u : Value), vs[k]? = some u → OwG w base u (nthS R k)
  ap : ∀ (i k : Nat) (u t : Value) (g : Nat), i ≠ k → vs[i]? = some u → vs[k]? = some t → u.ownBlock = some g → t.ownBlock ≠ some g
  ro : ∀ (k : Nat) (u : Value) (g : Nat), vs[k]? = some u → u.ownBlock = some g → v.ownBlock ≠ some g
theorem ClV.nil (w : World) (base : Nat) : ClV w base (.slice none 0 0) [] [] :=
  ⟨rfl, World.ownsRow_nil _ _ _ _, fun k u h => (by simp at h), fun i k u t g _ h => (by simp at h), fun k u g h => (by simp at h)⟩
theorem ClV.ext {w w' : World} {base : Nat} {v : Value} {vs : List Value} {R : List (List Rg)} (h : ClV w base v vs R) (hb : Below w.heap.size w w') : ClV w' base v vs R :=
  ⟨h.l, own_ext h.row hb, fun k u hk => (h.cl k u hk).ext hb, h.ap, h.ro⟩
theorem nthS_append {R : List (List Rg)} {c : List Rg} {k : Nat} : nthS (R ++ [c]) k = if k < R.length then nthS R k else if k = R.length then c else [] := by
  unfold nthS
  rw [List.getD_eq_getElem?_getD, List.getD_eq_getElem?_getD]
  by_cases h : k < R.length
  · rw [if_pos h, List.getElem?_append_left h]
  · rw [if_neg h, List.getElem?_append_right (by omega)]
    by_cases h2 : k = R.length
    · subst h2; simp
    · rw [if_neg h2, List.getElem?_eq_none (by simp; omega)]; rfl
/-- One more, nil. -/
theorem ClV.append {w w' : World} {base : Nat} {v v' : Value} {vs : List Value} {R : List (List Rg)} (h : ClV w base v vs R) (hg : w.grownBy w' v.ownBlock)
    (hr : w'.ownsRow base 36 1 v' (R.length + 1) (vs ++ [.slice none 0 0])) (ha : v'.ownBlock = v.ownBlock ∨ v'.ownBlock = some (w.heap.size + 1)) : ClV w' base v' (vs ++ [.slice none 0 0]) (R ++ [[]]) := by
  have hnew : ∀ k u, (vs ++ [Value.slice none 0 0])[k]? = some u → vs[k]? = some u ∨ (k = R.length ∧ u = .slice none 0 0) := fun k u hk => by
    by_cases q : k < vs.length
    · rw [List.getElem?_append_left q] at hk; exact .inl hk
    · rw [List.getElem?_append_right (by omega)] at hk
      by_cases q2 : k = vs.length
      · subst q2; simp at hk; exact .inr ⟨h.l, hk.symm⟩
      · rw [List.getElem?_eq_none (by simp; omega)] at hk; cases hk
  refine ⟨by simp [h.l], by rw [List.length_append]; exact hr, fun k u hk => ?_, fun i k u t g hik hi hk hu => ?_, fun k u g hk hu => ?_⟩
  · rw [nthS_append]
    rcases hnew k u hk with q | ⟨rfl, rfl⟩
    · have hlt : k < R.length := by rw [← h.l]; exact (List.getElem?_eq_some_iff.1 q).1
      rw [if_pos hlt]
      refine World.ownsRow.kept (h.cl k u q) hg ?_
      cases hub : u.ownBlock with
      | none => exact .inl rfl
      | some g => exact .inr (fun e => h.ro k u g q hub e.symm)
    · rw [if_neg (by omega), if_pos rfl]
      exact OwG.nil _ _
  · rcases hnew i u hi with q | ⟨rfl, rfl⟩
    · rcases hnew k t hk with q2 | ⟨rfl, rfl⟩
      · exact h.ap i k u t g hik q q2 hu
      · simp [Value.ownBlock]
    · simp [Value.ownBlock] at hu
  · rcases hnew k u hk with q | ⟨rfl, rfl⟩
    · rcases ha with ha | ha
      · rw [ha]; exact h.ro k u g q hu
      · rw [ha]
        have := ((h.cl k u q).lt g hu).2
        intro e; cases e; omega
    · simp [Value.ownBlock] at hu
/-- One of them grown, and stored anew. -/
theorem ClV.grow {w w' : World} {base : Nat} {v u u' : Value} {vs : List Value} {R : List (List Rg)} {j g : Nat} {c : List Rg} (h : ClV w base v vs R) (hj : vs[j]? = some u) (hv : v.ownBlock = some g)
    (hg : w.grownBy w' u.ownBlock) (hc : OwG w' base u' c) (hf : ∀ b, u'.ownBlock = some b → u.ownBlock = some b ∨ w.heap.size ≤ b) (h1 : u'.oneCell' = true) :
    ClV (w'.setCell ⟨g, j, none⟩ u') base v (vs.set j u') (R.set j c) := by
  have hjl : j < vs.length := (List.getElem?_eq_some_iff.1 hj).1
  have hget : ∀ k t, (vs.set j u')[k]? = some t → (k = j ∧ t = u') ∨ (k ≠ j ∧ vs[k]? = some t) := fun k t hk => by
    by_cases q : k = j
    · subst q; rw [List.getElem?_set_self hjl] at hk; exact .inl ⟨rfl, by simpa using hk.symm⟩
    · rw [List.getElem?_set_ne (fun e => q e.symm)] at hk; exact .inr ⟨q, hk⟩
  have hvg : ∀ b, v.ownBlock = some b → b < w.heap.size := fun b e => (h.row.lt b e).2
  have hu'v : v.ownBlock ≠ u'.ownBlock := fun e => by
    rw [hv] at e
    rcases hf g e.symm with q | q
    · exact h.ro j u g hj q hv
    · have := hvg g hv; omega
  have hrow' : w'.ownsRow base 36 1 v R.length vs := h.row.kept hg (.inr (fun e => by rw [hv] at e; exact h.ro j u g hj e.symm hv))
  have hnth : ∀ k, nthS (R.set j c) k = if k = j ∧ j < R.length then c else nthS R k := fun k => by
    unfold nthS
    rw [List.getD_eq_getElem?_getD, List.getD_eq_getElem?_getD, List.getElem?_set]
    by_cases q : j = k
    · subst q
      by_cases q2 : j < R.length <;> simp [q2]
    · rw [if_neg q, if_neg (fun z => q z.1.symm)]
  have hjR : j < R.length := by rw [← h.l]; exact hjl
  refine ⟨by simp [h.l], ?_, fun k t hk => ?_, fun i k a b d hik hi hk ha => ?_, fun k t b hk ht => ?_⟩
  · rcases hrow'.2 with ⟨rfl, _⟩ | ⟨g2, cap, cur, rfl, q1, q2, q3, q4, q5, q6⟩
    · cases hv
    · have eg : g2 = g := by simpa [Value.ownBlock] using hv
      subst eg
      refine ⟨by simp [h.l], .inr ⟨g2, cap, cur.set! j u', by rw [List.length_set], q1, ?_, by rw [List.length_set]; exact q3, q4, by simp [q5], ?_⟩⟩
      · simp [World.setCell, Array.getElem?_modify, q2]
      · rw [List.length_set, Array.set!, Array.toList_setIfInBounds, List.take_set, q6]
  · have hne : t.ownBlock ≠ some g := by
      rcases hget k t hk with ⟨rfl, rfl⟩ | ⟨q, q2⟩
      · intro e; exact hu'v (by rw [hv, e])
      · intro e; exact h.ro k t g q2 e hv
    rw [hnth]
    refine ownsRow_setCell_other ?_ hne u'
    rcases hget k t hk with ⟨rfl, rfl⟩ | ⟨q, q2⟩
    · rw [if_pos ⟨rfl, hjR⟩]; exact hc
    · rw [if_neg (fun z => q z.1)]
      refine World.ownsRow.kept (h.cl k t q2) hg ?_
      cases htb : t.ownBlock with
      | none => exact .inl rfl
      | some d => exact .inr (fun e => h.ap j k u t d (fun z => q z.symm) hj q2 e.symm htb)
  · rcases hget i a hi with ⟨rfl, rfl⟩ | ⟨p1, p2⟩
    · rcases hget k b hk with ⟨rfl, rfl⟩ | ⟨p3, p4⟩
      · exact absurd rfl hik
      · rcases hf d ha with q | q
        · exact h.ap i k u b d hik hj p4 q
        · intro e; have := ((h.cl k b p4).lt d e).2; omega
    · rcases hget k b hk with ⟨rfl, rfl⟩ | ⟨p3, p4⟩
      · intro e
        rcases hf d e with q | q
        · exact h.ap i k a u d hik p2 hj ha q
        · have := ((h.cl i a p2).lt d ha).2; omega
      · exact h.ap i k a b d hik p2 p4 ha
  · rcases hget k t hk with ⟨rfl, rfl⟩ | ⟨q, q2⟩
    · intro e; exact hu'v (by rw [e, ht])
    · exact h.ro k t b q2 ht
/-- One more, of a block that none of them has. -/
theorem ClV.push {w w' : World} {base : Nat} {v v' u : Value} {vs : List Value} {R : List (List Rg)} {c : List Rg} (h : ClV w base v vs R) (hg : w.grownBy w' v.ownBlock) (hu : OwG w base u c)
    (hf : ∀ g, u.ownBlock = some g → v.ownBlock ≠ some g ∧ ∀ (k : Nat) (t : Value), vs[k]? = some t → t.ownBlock ≠ some g)
    (hr : w'.ownsRow base 36 1 v' (R.length + 1) (vs ++ [u])) (ha : v'.ownBlock = v.ownBlock ∨ v'.ownBlock = some (w.heap.size + 1)) : ClV w' base v' (vs ++ [u]) (R ++ [c]) := by
  have hnew : ∀ k t, (vs ++ [u])[k]? = some t → vs[k]? = some t ∨ (k = R.length ∧ t = u) := fun k t hk => by
    by_cases q : k < vs.length
    · rw [List.getElem?_append_left q] at hk; exact .inl hk
    · rw [List.getElem?_append_right (by omega)] at hk
      by_cases q2 : k = vs.length
      · subst q2; simp at hk; exact .inr ⟨h.l, hk.symm⟩
      · rw [List.getElem?_eq_none (by simp; omega)] at hk; cases hk
  have hlt : ∀ k t, vs[k]? = some t → k < R.length := fun k t q => by rw [← h.l]; exact (List.getElem?_eq_some_iff.1 q).1
  have hv' : ∀ g, g < w.heap.size → v.ownBlock ≠ some g → v'.ownBlock ≠ some g := fun g q1 q2 => by
    rcases ha with ha | ha
    · rw [ha]; exact q2
    · rw [ha]; intro e; cases e; omega
  refine ⟨by simp [h.l], by rw [List.length_append]; exact hr, fun k t hk => ?_, fun i k a b g hik hi hk hab => ?_, fun k t g hk ht => ?_⟩
  · rw [nthS_append]
    rcases hnew k t hk with q | ⟨rfl, rfl⟩
    · rw [if_pos (hlt k t q)]
      refine World.ownsRow.kept (h.cl k t q) hg ?_
      cases hub : t.ownBlock with
      | none => exact .inl rfl
      | some g => exact .inr (fun e => h.ro k t g q hub e.symm)
    · rw [if_neg (by omega), if_pos rfl]
      refine World.ownsRow.kept hu hg ?_
      cases hub : t.ownBlock with
      | none => exact .inl rfl
      | some g => exact .inr (fun e => (hf g hub).1 e.symm)
  · rcases hnew i a hi with q | ⟨rfl, rfl⟩
    · rcases hnew k b hk with q2 | ⟨rfl, rfl⟩
      · exact h.ap i k a b g hik q q2 hab
      · intro e; exact (hf g e).2 i a q hab
    · rcases hnew k b hk with q2 | ⟨rfl, rfl⟩
      · exact (hf g hab).2 k b q2
      · exact absurd rfl hik
  · rcases hnew k t hk with q | ⟨rfl, rfl⟩
    · exact hv' g ((h.cl k t q).lt g ht).2 (h.ro k t g q ht)
    · exact hv' g (hu.lt g ht).2 (hf g ht).1
end Go.Proofs.YtkcpfpofimkkiaaGreatDoor
