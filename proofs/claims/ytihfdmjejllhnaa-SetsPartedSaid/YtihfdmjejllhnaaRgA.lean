/- The document's sets: Has, wanted, SameSet, insert, edges, grow. -/
import Derived.Test.YtihfdmjejllhnaaRgM
namespace Go.Proofs.Ytihfdmjejllhnaa
open Go.RowKit BigFrame
set_option linter.unusedVariables false
set_option linter.unusedSimpArgs false
set_option maxRecDepth 100000

theorem any_takeR {f : Rg → Bool} {l : List Rg} {k : Nat} (h : k < l.length) (ha : (l.take k).any f = false) (hf : f (nthR l k) = false) : (l.take (k + 1)).any f = false := by
  rw [List.take_succ_eq_append_getElem h, List.any_append, ha, ← nthR_get h]; simp [hf]
theorem mem_nthR {l : List Rg} {k : Nat} (h : k < l.length) : nthR l k ∈ l := by rw [nthR_get h]; exact List.getElem_mem h
theorem any_yesR {f : Rg → Bool} {l : List Rg} {k : Nat} (h : k < l.length) (hf : f (nthR l k) = true) : l.any f = true := by
  rw [List.any_eq_true]; exact ⟨nthR l k, mem_nthR h, hf⟩

set_option maxHeartbeats 1000000 in
theorem rHas_any (A : Option Addr) (n c : Nat) (l : List Rg) (p : Int) (w : World) (B : Nat) (hr : RdG w B A l) (hl : l.length = n) (hn : n ≤ 100000) :
    Calls Try.prog 30 #[.slice A n c, .int .i64 p] w fun e w' => e = .returned (.bool (inR l p)) ∧ w = w' := by
  have HR := Lib.hid hr; have HL := Lib.hid hl
  clear hr hl
  by_cases h0 : p < 0
  · have e : inR l p = false := by unfold inR isPt; simp; omega
    rw [e]
    have d0 : decide (p < 0) = true := decide_eq_true h0
    clear e
    go_enter Try.func30, Try.ntmps30
    go_wp2
    go_ret
    exact ⟨rfl, rfl⟩
  · have d0 : decide (p < 0) = false := decide_eq_false h0
    by_cases h1 : 1114111 < p
    · have e : inR l p = false := by unfold inR isPt MP; simp; omega
      rw [e]
      have d1 : decide (1114111 < p) = true := decide_eq_true h1
      clear e
      go_enter Try.func30, Try.ntmps30
      go_wp2
      go_ret
      exact ⟨rfl, rfl⟩
    · have d1 : decide (1114111 < p) = false := decide_eq_false h1
      have e : inR l p = l.any (fun r => decide (r.1 ≤ p) && decide (p ≤ r.2)) := by
        unfold inR isPt MP
        rw [decide_eq_true (by omega : 0 ≤ p), decide_eq_true (by omega : p ≤ 1114111)]
        rfl
      have HE := Lib.hid e
      clear e
      go_enter Try.func30, Try.ntmps30
      go_wp2
      go_loop [5] (fun i => ∃ k : Nat, k ≤ n ∧ i = .int .i64 k ∧ Hid ((l.take k).any (fun r => decide (r.1 ≤ p) && decide (p ≤ r.2)) = false)) (fun i => n - (intOf i).toNat)
      case atStart => exact ⟨0, Nat.zero_le _, rfl, rfl⟩
      case round =>
        obtain ⟨k, hk, rfl, HT⟩ := hrel
        by_cases hlt : k < n
        · obtain ⟨b, off, rfl, hb, hc⟩ := HR.out.at_ (by rw [HL.out]; omega)
          obtain ⟨c1, c2⟩ := hc k (by rw [HL.out]; exact hlt)
          have hy := any_yesR (f := fun r => decide (r.1 ≤ p) && decide (p ≤ r.2)) (l := l) (k := k) (by rw [HL.out]; exact hlt)
          have ht := any_takeR (f := fun r => decide (r.1 ≤ p) && decide (p ≤ r.2)) (l := l) (k := k) (by rw [HL.out]; exact hlt) HT.out
          clear hc
          generalize nthR l k = r at *
          obtain ⟨lo, hi⟩ := r
          simp only at c1 c2 hy ht
          by_cases h2 : lo ≤ p
          · have d2 : decide (lo ≤ p) = true := decide_eq_true h2
            by_cases h3 : p ≤ hi
            · have d3 : decide (p ≤ hi) = true := decide_eq_true h3
              have HY := Lib.hid (hy (by rw [d2, d3]; rfl))
              clear hy ht
              go_wp2
              go_ret
              exact ⟨ret_eq (by rw [HE.out, HY.out]; rfl), rfl⟩
            · have d3 : decide (p ≤ hi) = false := decide_eq_false h3
              have HT2 := Lib.hid (ht (by rw [d3]; simp))
              clear hy ht
              go_wp2
              go_round
              case rel => exact ⟨k + 1, by omega, by go_num, HT2⟩
              case measure => simp [intOf]; omega
          · have d2 : decide (lo ≤ p) = false := decide_eq_false h2
            have HT2 := Lib.hid (ht (by rw [d2]; rfl))
            clear hy ht
            go_wp2
            go_round
            case rel => exact ⟨k + 1, by omega, by go_num, HT2⟩
            case measure => simp [intOf]; omega
        · have hx := HT.out
          rw [List.take_of_length_le (by rw [HL.out]; omega)] at hx
          have HX := Lib.hid hx
          clear hx
          go_wp2
          go_ret
          exact ⟨ret_eq (by rw [HE.out, HX.out]; rfl), rfl⟩

theorem wanted_any (A A2 : Option Addr) (n c n2 c2 : Nat) (l l2 : List Rg) (how p : Int) (w : World) (B B2 : Nat) (hr : RdG w B A l) (hl : l.length = n) (hn : n ≤ 100000) (hr2 : RdG w B2 A2 l2) (hl2 : l2.length = n2) (hn2 : n2 ≤ 100000) :
    Calls Try.prog 47 #[.slice A n c, .slice A2 n2 c2, .int .i64 how, .int .i64 p] w fun e w' => e = .returned (.bool (wantB how (inR l p) (inR l2 p))) ∧ w = w' := by
  have h1 := rHas_any A n c l p w B hr hl hn
  have h2 := rHas_any A2 n2 c2 l2 p w B2 hr2 hl2 hn2
  unfold wantB
  generalize inR l p = x at *
  generalize inR l2 p = y at *
  have H1 := Lib.hid h1; have H2 := Lib.hid h2
  clear h1 h2 hr hr2 hl hl2
  by_cases e1 : how = 1
  · subst e1
    rw [if_pos rfl]
    cases x
    all_goals
      go_enter Try.func47, Try.ntmps47
      go_wp2_with fail
      refine H1.out.mono ?_
      rintro e w1 ⟨rfl, rfl⟩
      go_wp2_with fail
      refine H2.out.mono ?_
      rintro e w1 ⟨rfl, rfl⟩
      go_wp2
      go_ret
      exact ⟨rfl, rfl⟩
  · have d1 : (how == 1) = false := by simpa using e1
    rw [if_neg e1]
    by_cases e2 : how = 2
    · subst e2
      rw [if_pos rfl]
      cases x
      all_goals
        go_enter Try.func47, Try.ntmps47
        go_wp2_with fail
        refine H1.out.mono ?_
        rintro e w1 ⟨rfl, rfl⟩
        go_wp2_with fail
        refine H2.out.mono ?_
        rintro e w1 ⟨rfl, rfl⟩
        go_wp2
        go_ret
        exact ⟨rfl, rfl⟩
    · have d2 : (how == 2) = false := by simpa using e2
      rw [if_neg e2]
      cases x
      all_goals
        go_enter Try.func47, Try.ntmps47
        go_wp2_with fail
        refine H1.out.mono ?_
        rintro e w1 ⟨rfl, rfl⟩
        go_wp2_with fail
        refine H2.out.mono ?_
        rintro e w1 ⟨rfl, rfl⟩
        go_wp2
        go_ret
        exact ⟨rfl, rfl⟩

/-- A number put into a list of numbers. -/
theorem insert_any (b off n c : Nat) (l : List Int) (x : Int) (w : World) (hr : RdI w w.heap.size (some ⟨b, off, none⟩) l) (hl : l.length = n) (h0 : 0 < n) (hn : n ≤ 100000) (hc : n ≤ c) (hcm : c ≤ maxLen) :
    Calls Try.prog 57 #[.slice (some ⟨b, off, none⟩) n c, .int .i64 x] w fun e w' => ∃ b' off' c', e = .returned (.slice (some ⟨b', off', none⟩) (ins x l).length c') ∧ (ins x l).length ≤ c' ∧ c' ≤ maxLen ∧ RdI w' w'.heap.size (some ⟨b', off', none⟩) (ins x l) ∧ Below w.heap.size w w' := by
  obtain ⟨b2, off2, e2, hb, hcs⟩ := hr.at_ (by omega)
  cases e2
  have HR := Lib.hid hr; have HL := Lib.hid hl; have HCS := Lib.hid hcs
  clear hr hl hcs
  unfold maxLen at hcm
  go_enter Try.func57, Try.ntmps57
  go_wp2
  go_loop [5] (fun i => ∃ k : Nat, k ≤ n ∧ i = .int .i64 k ∧ Hid (∀ j, j < k → nth l j < x)) (fun i => n - (intOf i).toNat)
  case atStart => exact ⟨0, Nat.zero_le _, rfl, fun j hj => by omega⟩
  case round =>
    obtain ⟨k, hk, rfl, HT⟩ := hrel
    have hat := ins_at (n := x) (l := l) (k := k) (by rw [HL.out]; exact hk) (fun j hj h => by rw [← nth_get h]; exact HT.out j hj)
    have hstop : k = n ∨ (k < n ∧ ∃ y, y = nth l k ∧ ¬ y < x ∧ y ≠ x) → ins x l = l.take k ++ x :: l.drop k := fun q => by
      rcases q with q | ⟨q1, y, rfl, q2, q3⟩
      · have h1 := hat (fun h => by rw [HL.out] at h; omega)
        rw [List.getElem?_eq_none (by rw [HL.out]; omega)] at h1
        exact h1
      · have hk2 : k < l.length := by rw [HL.out]; exact q1
        have h1 := hat (fun h => by rw [← nth_get h]; exact q2)
        rw [List.getElem?_eq_getElem hk2, ← nth_get hk2, if_neg (fun q => q3 (by simpa using q))] at h1
        exact h1
    have hfound : k < n → nth l k = x → ins x l = l := fun q1 q2 => by
      have hk2 : k < l.length := by rw [HL.out]; exact q1
      have h1 := hat (fun h => by rw [← nth_get h]; omega)
      rw [List.getElem?_eq_getElem hk2, ← nth_get hk2, if_pos (by rw [q2])] at h1
      exact h1
    have HSTOP := Lib.hid hstop; have HFOUND := Lib.hid hfound
    clear hat hstop hfound
    have HTK := Lib.hid (show Rd w w.heap.size (some ⟨b, off, none⟩) (iv (l.take k)) from fun hne => ⟨b, off, rfl, hb, fun j u hu => by
      have hj : j < (l.take k).length := by have := (List.getElem?_eq_some_iff.1 hu).1; rwa [iv_len] at this
      rw [iv_get hj] at hu
      cases hu
      have hjl : j < l.length := by rw [List.length_take] at hj; omega
      have : nth (l.take k) j = nth l j := by rw [nth_get hj, nth_get hjl, List.getElem_take]
      rw [this]; exact HCS.out j hjl⟩)
    have HDR := Lib.hid (show ∀ o, (k < n → o = off + k) → Rd w w.heap.size (some ⟨b, o, none⟩) (iv (l.drop k)) from fun o ho hne => by
      have hkn : k < n := by
        apply Classical.byContradiction
        intro q
        rw [List.drop_eq_nil_of_le (by rw [HL.out]; omega)] at hne
        exact hne rfl
      obtain rfl := ho hkn
      refine ⟨b, off + k, rfl, hb, fun j u hu => ?_⟩
      have hj : j < (l.drop k).length := by have := (List.getElem?_eq_some_iff.1 hu).1; rwa [iv_len] at this
      rw [iv_get hj] at hu
      cases hu
      have hjl : k + j < l.length := by rw [List.length_drop] at hj; omega
      have : nth (l.drop k) j = nth l (k + j) := by rw [nth_get hj, nth_get hjl, List.getElem_drop]
      rw [this, Nat.add_assoc]; exact HCS.out (k + j) hjl)
    have HN1 := Lib.hid (show (iv (l.take k)).length = k * 1 by rw [iv_len, List.length_take, HL.out]; omega)
    have HN2 := Lib.hid (show (iv (l.drop k)).length = (n - k) * 1 by rw [iv_len, List.length_drop, HL.out]; omega)
    have HO1 := Lib.hid (iv_one (l.take k)); have HO2 := Lib.hid (iv_one (l.drop k))
    have hown0 := Lib.hid (World.ownsRow_nil w w.heap.size 3 1)
    have hap : ∀ (v : Value) (wq : World) (nn : Nat), wq.ownsRow w.heap.size 3 1 v nn (iv (l.take k) ++ [Value.int .i64 x] ++ iv (l.drop k)) → ins x l = l.take k ++ x :: l.drop k → Below w.heap.size w wq →
        ∃ b' off' c', v = .slice (some ⟨b', off', none⟩) (ins x l).length c' ∧ (ins x l).length ≤ c' ∧ c' ≤ maxLen ∧ RdI wq wq.heap.size (some ⟨b', off', none⟩) (ins x l) := fun v wq nn ho hi hbq => by
      have e1 : iv (l.take k) ++ [Value.int .i64 x] ++ iv (l.drop k) = iv (ins x l) := by rw [hi]; unfold iv; simp
      rw [e1] at ho
      have hlen : nn = (ins x l).length := by have := ho.1; rw [iv_len] at this; omega
      have hpos : 0 < (ins x l).length := by rw [hi]; simp; omega
      obtain ⟨A, cc, e2, q1, q2, q3⟩ := own_form ho
      rcases ho.2 with ⟨rfl, q⟩ | ⟨g, cap, cur, e3, _⟩
      · omega
      · rw [e3] at e2
        simp only [Value.slice.injEq] at e2
        obtain ⟨rfl, _, rfl⟩ := e2
        exact ⟨g, 0, cap, by rw [e3, hlen], by omega, q2, q3⟩
    have HAP := Lib.hid hap
    clear hap
    by_cases hlt : k < n
    · have c1 := HCS.out k (by rw [HL.out]; exact hlt)
      obtain ⟨y, hy⟩ : ∃ y, y = nth l k := ⟨_, rfl⟩
      rw [← hy] at c1
      have HY := Lib.hid hy
      clear hy
      by_cases hyx : y < x
      · have d1 : decide (y < x) = true := decide_eq_true hyx
        have HT2 : Hid (∀ j, j < k + 1 → nth l j < x) := Lib.hid (fun j hj => by
          by_cases e : j = k
          · subst e; rw [← HY.out]; exact hyx
          · exact HT.out j (by omega))
        go_wp2
        go_round
        case rel => exact ⟨k + 1, by omega, by go_num, HT2⟩
        case measure => simp [intOf]; omega
      · have d1 : decide (y < x) = false := decide_eq_false hyx
        by_cases he : y = x
        · have d2 : (y == x) = true := by simpa using he
          have HI := Lib.hid (HFOUND.out hlt (by rw [← HY.out]; exact he))
          clear he
          go_wp2
          go_ret
          refine ⟨b, off, c, ?_, by rw [HI.out, HL.out]; exact hc, by unfold maxLen; omega, by rw [HI.out]; exact HR.out, Below.refl _ _⟩
          rw [HI.out, HL.out]; rfl
        · have d2 : (y == x) = false := by simpa using he
          have HI := Lib.hid (HSTOP.out (.inr ⟨hlt, y, HY.out, hyx, he⟩))
          clear he
          have hrd1 : Rd w w.heap.size (some ⟨b, off, none⟩) (iv (l.take k)) := HTK.out
          have hrd3 := HDR.out (off + k) (fun _ => rfl)
          have HRD3 := Lib.hid hrd3
          clear hrd1 hrd3
          go_wp2_with (first
            | (at_builtin; refine wpList_app_rd elIn rfl (.tmp 34) (.tmp 37) rfl w.heap.size _ 0 k c w.heap.size (some ⟨b, off, none⟩) [] (iv (l.take k)) rfl hown0.out rfl HN1.out HTK.out HO1.out (by omega) (by omega) (Nat.le_refl _) ?_; intro v1 w1 hown1 hg1 hat1; have hb1 := (Below.refl w.heap.size w).grown hg1 (Nat.le_refl _) (fun k e => (by cases e)); simp only [Nat.zero_add, List.nil_append] at hown1; have HW1 := Lib.hid hown1; have HB1 := Lib.hid hb1; have HS1 := Lib.hid hb1.size; clear hown1 hg1 hat1 hb1)
            | (at_builtin; refine wpList_app elIn rfl (.tmp 39) (.tmp 41) rfl w.heap.size _ k 1 (iv (l.take k)) [.int .i64 x] rfl HW1.out rfl rfl (by simp [Value.oneCell']) (by omega) (by omega) HS1.out ?_; intro v2 w2 hown2 hg2 hat2; have hb2 := HB1.out.grown hg2 HS1.out (fun k e => own_base HW1.out k e); have HW2 := Lib.hid hown2; have HB2 := Lib.hid hb2; have HS2 := Lib.hid hb2.size; clear hown2 hg2 hat2 hb2)
            | (at_builtin; refine wpList_app_rd elIn rfl (.tmp 43) (.tmp 46) rfl w.heap.size _ (k + 1) (n - k) (c - k) w.heap.size (some ⟨b, off + k, none⟩) _ (iv (l.drop k)) rfl HW2.out rfl (by have := HN2.out; rw [this]; try omega) (Rd.below HRD3.out HB2.out) HO2.out (by omega) (by omega) HS2.out ?_; intro v3 w3 hown3 hg3 hat3; have hb3 := HB2.out.grown hg3 HS2.out (fun k e => own_base HW2.out k e); have HW3 := Lib.hid hown3; have HB3 := Lib.hid hb3; clear hown3 hg3 hat3 hb3))
          go_ret
          obtain ⟨b', off', c', e3, q1, q2, q3⟩ := HAP.out _ _ _ HW3.out HI.out HB3.out
          exact ⟨b', off', c', ret_eq e3, q1, q2, q3, HB3.out⟩
    · have hkn : k = n := by omega
      have HI := Lib.hid (HSTOP.out (.inl hkn))
      subst hkn
      by_cases hcap : c = k
      · subst hcap
        have hrd1 : Rd w w.heap.size (some ⟨b, off, none⟩) (iv (l.take c)) := HTK.out
        have hrd3 := HDR.out (off) (fun _ => by omega)
        have HRD3 := Lib.hid hrd3
        clear hrd1 hrd3
        go_wp2_with (first
          | (at_builtin; refine wpList_app_rd elIn rfl (.tmp 34) (.tmp 37) rfl w.heap.size _ 0 c c w.heap.size (some ⟨b, off, none⟩) [] (iv (l.take c)) rfl hown0.out rfl HN1.out HTK.out HO1.out (by omega) (by omega) (Nat.le_refl _) ?_; intro v1 w1 hown1 hg1 hat1; have hb1 := (Below.refl w.heap.size w).grown hg1 (Nat.le_refl _) (fun k e => (by cases e)); simp only [Nat.zero_add, List.nil_append] at hown1; have HW1 := Lib.hid hown1; have HB1 := Lib.hid hb1; have HS1 := Lib.hid hb1.size; clear hown1 hg1 hat1 hb1)
          | (at_builtin; refine wpList_app elIn rfl (.tmp 39) (.tmp 41) rfl w.heap.size _ c 1 (iv (l.take c)) [.int .i64 x] rfl HW1.out rfl rfl (by simp [Value.oneCell']) (by omega) (by omega) HS1.out ?_; intro v2 w2 hown2 hg2 hat2; have hb2 := HB1.out.grown hg2 HS1.out (fun k e => own_base HW1.out k e); have HW2 := Lib.hid hown2; have HB2 := Lib.hid hb2; have HS2 := Lib.hid hb2.size; clear hown2 hg2 hat2 hb2)
          | (at_builtin; refine wpList_app_rd elIn rfl (.tmp 43) (.tmp 46) rfl w.heap.size _ (c + 1) (0) (0) w.heap.size (some ⟨b, off, none⟩) _ (iv (l.drop c)) rfl HW2.out rfl (by have := HN2.out; rw [this]; try omega) (Rd.below HRD3.out HB2.out) HO2.out (by omega) (by omega) HS2.out ?_; intro v3 w3 hown3 hg3 hat3; have hb3 := HB2.out.grown hg3 HS2.out (fun k e => own_base HW2.out k e); have HW3 := Lib.hid hown3; have HB3 := Lib.hid hb3; clear hown3 hg3 hat3 hb3))
        go_ret
        obtain ⟨b', off', c', e3, q1, q2, q3⟩ := HAP.out _ _ _ HW3.out HI.out HB3.out
        exact ⟨b', off', c', ret_eq e3, q1, q2, q3, HB3.out⟩
      ·
        have hrd1 : Rd w w.heap.size (some ⟨b, off, none⟩) (iv (l.take k)) := HTK.out
        have hrd3 := HDR.out (off + k) (fun _ => rfl)
        have HRD3 := Lib.hid hrd3
        clear hrd1 hrd3
        go_wp2_with (first
          | (at_builtin; refine wpList_app_rd elIn rfl (.tmp 34) (.tmp 37) rfl w.heap.size _ 0 k c w.heap.size (some ⟨b, off, none⟩) [] (iv (l.take k)) rfl hown0.out rfl HN1.out HTK.out HO1.out (by omega) (by omega) (Nat.le_refl _) ?_; intro v1 w1 hown1 hg1 hat1; have hb1 := (Below.refl w.heap.size w).grown hg1 (Nat.le_refl _) (fun k e => (by cases e)); simp only [Nat.zero_add, List.nil_append] at hown1; have HW1 := Lib.hid hown1; have HB1 := Lib.hid hb1; have HS1 := Lib.hid hb1.size; clear hown1 hg1 hat1 hb1)
          | (at_builtin; refine wpList_app elIn rfl (.tmp 39) (.tmp 41) rfl w.heap.size _ k 1 (iv (l.take k)) [.int .i64 x] rfl HW1.out rfl rfl (by simp [Value.oneCell']) (by omega) (by omega) HS1.out ?_; intro v2 w2 hown2 hg2 hat2; have hb2 := HB1.out.grown hg2 HS1.out (fun k e => own_base HW1.out k e); have HW2 := Lib.hid hown2; have HB2 := Lib.hid hb2; have HS2 := Lib.hid hb2.size; clear hown2 hg2 hat2 hb2)
          | (at_builtin; refine wpList_app_rd elIn rfl (.tmp 43) (.tmp 46) rfl w.heap.size _ (k + 1) (0) (c - k) w.heap.size (some ⟨b, off + k, none⟩) _ (iv (l.drop k)) rfl HW2.out rfl (by have := HN2.out; rw [this]; try omega) (Rd.below HRD3.out HB2.out) HO2.out (by omega) (by omega) HS2.out ?_; intro v3 w3 hown3 hg3 hat3; have hb3 := HB2.out.grown hg3 HS2.out (fun k e => own_base HW2.out k e); have HW3 := Lib.hid hown3; have HB3 := Lib.hid hb3; clear hown3 hg3 hat3 hb3))
        go_ret
        obtain ⟨b', off', c', e3, q1, q2, q3⟩ := HAP.out _ _ _ HW3.out HI.out HB3.out
        exact ⟨b', off', c', ret_eq e3, q1, q2, q3, HB3.out⟩
end Go.Proofs.Ytihfdmjejllhnaa
