/- Lists of twigs; how heavy the last one's tree is. · A region that draws its order: operations ahead that touch no memory and that nobody may wait for, then still ones, then a tail in one order (a call that makes memory, an address, a store). -/
import Derived.Test.YtinejiodnnjpgaaDoorQ5
import Derived.Test.YtinejiodnnjpgaaDoorQ9
import Derived.Deep.QuietTactic
import Derived.BigQuiet
import Derived.StillTailTactics
import Derived.Test.YtinejiodnnjpgaaDoorQ6
namespace Go.Proofs.YtinejiodnnjpgaaDoor
open Go.RowKit BigFrame
set_option linter.unusedVariables false
set_option linter.unusedSimpArgs false
set_option maxRecDepth 100000

/-- A twig: production, token, kids. -/
abbrev Tw := Int × Int × List Int
def shTw : Sh Tw := shP shInt (shP shInt (shZ (shL shInt) fun l => l.length * 8 ≤ reachBytes))
def RdTw (w : World) (B : Nat) (A : Option Addr) (n c : Nat) (Q : List Tw) : Prop := (shL shTw).rd w (Lo B) Q [.slice A n c]
theorem RdTw.below {w w' : World} {B : Nat} {A : Option Addr} {n c : Nat} {Q : List Tw} (h : RdTw w B A n c Q) (hb : Below B w w') : RdTw w' B A n c Q := Sh.below h hb
theorem RdTw.len {w : World} {B : Nat} {A : Option Addr} {n c : Nat} {Q : List Tw} (h : RdTw w B A n c Q) : Q.length = n ∧ n ≤ maxLen := by
  obtain ⟨A', c', e, h1, h2⟩ := shL_form h
  simp at e
  obtain ⟨rfl, rfl, rfl⟩ := e
  exact ⟨rfl, by omega⟩
def IntB (x : Int) : Prop := -9223372036854775808 ≤ x ∧ x ≤ 9223372036854775807
theorem intB_of {x : Int} (h : (Lit.int .i64 x).wf = true) : IntB x := by
  unfold IntB
  simp [Lit.wf, IntKind.wrap, IntKind.min, IntKind.max, IntKind.bits, IntKind.signed] at h
  omega
theorem RdTw.at_ {w : World} {B : Nat} {A : Option Addr} {n c : Nat} {Q : List Tw} (h : RdTw w B A n c Q) (h0 : 0 < n) :
    ∃ b off, A = some ⟨b, off, none⟩ ∧ b < B ∧ ∀ k, k < n → ∃ x y r A' n' c', Q[k]? = some (x, y, r) ∧ w.cell? ⟨b, off + k * 3, none⟩ = some (.int .i64 x) ∧ w.cell? ⟨b, off + k * 3 + 1, none⟩ = some (.int .i64 y) ∧ w.cell? ⟨b, off + k * 3 + 2, none⟩ = some (.slice A' n' c') ∧
      r.length = n' ∧ n' ≤ c' ∧ c' ≤ maxLen ∧ RdI w B A' r ∧ IntB x ∧ IntB y ∧ n' * 8 ≤ reachBytes := by
  obtain ⟨hl, hm⟩ := h.len
  obtain ⟨b, off, e, hb, hc⟩ := shL_at h (by decide) (by omega)
  refine ⟨b, off, e, hb, fun k hk => ?_⟩
  have hq : Q[k]? = some (Q[k]'(by omega)) := List.getElem?_eq_getElem (by omega)
  obtain ⟨d, hd, hcell⟩ := hc k _ hq
  obtain ⟨d1, d23, rfl, h1, d2, d3, rfl, h2, h3, h4⟩ := hd
  obtain ⟨A', c', e2, g1, g2⟩ := shL_form h3
  subst e2
  obtain ⟨_, _, _, r2⟩ := rdI_sh h3
  obtain ⟨rfl, w1⟩ := h1
  obtain ⟨rfl, w2⟩ := h2
  refine ⟨_, _, _, A', _, c', hq, ?_, ?_, ?_, rfl, g1, g2, r2, intB_of w1, intB_of w2, h4⟩
  · have := hcell 0 _ rfl; simpa [shTw, shP, shI, shL, shZ] using this
  · have := hcell 1 _ rfl; simpa [shTw, shP, shI, shL, shZ, Nat.add_assoc] using this
  · have := hcell 2 _ rfl; simpa [shTw, shP, shI, shL, shZ, Nat.add_assoc] using this

theorem elInt : ElTy Tryd.prog 32 3 1 8 (.int .i64 0) := ⟨Tryd.underlying32, by kernel_rfl, rfl, by decide⟩
/-! ### plain: the trees that a list of twigs makes -/
def kidOf (ts : List Tr) (k : Int) : Tr := if 0 ≤ k ∧ k.toNat < ts.length then ts.getD k.toNat .nil else .nil
def grown (ts : List Tr) (x : Tw) : List Tr := ts ++ [.node x.1 x.2.1 (x.2.2.map (kidOf ts))]
def built (Q : List Tw) : List Tr := Q.foldl grown []
theorem built_snoc (Q : List Tw) (x : Tw) : built (Q ++ [x]) = grown (built Q) x := by unfold built; rw [List.foldl_append]; rfl
theorem foldl_grown_len : ∀ (Q : List Tw) (a : List Tr), (Q.foldl grown a).length = a.length + Q.length
  | [], a => rfl
  | x :: Q, a => by rw [List.foldl_cons, foldl_grown_len Q]; unfold grown; simp; omega
theorem built_len (Q : List Tw) : (built Q).length = Q.length := by unfold built; rw [foldl_grown_len]; simp
theorem built_take {Q : List Tw} {k : Nat} {x : Tw} (h : Q[k]? = some x) : built (Q.take (k + 1)) = grown (built (Q.take k)) x := by
  have hk := (List.getElem?_eq_some_iff.1 h).1
  have e : Q[k] = x := (List.getElem?_eq_some_iff.1 h).2
  rw [List.take_succ_eq_append_getElem hk, built_snoc, e]
def treeOf (Q : List Tw) : Tr := (built Q).getLastD .nil
def capN (n : Nat) : Int := ((min n 1000 : Nat) : Int)
def weights (ts : List Tr) : List Int := ts.map fun t => capN (szT t)
def weightOf (Q : List Tw) : Int := if Q = [] then 0 else capN (szT (treeOf Q))
theorem szL_map_snoc (f : Int → Tr) (l : List Int) (x : Int) : szL ((l ++ [x]).map f) = szL (l.map f) + szT (f x) := by
  rw [List.map_append, szL_append]; simp [szL]

theorem capN_step (a b : Nat) : (if 1000 < capN a + capN b then (1000 : Int) else capN a + capN b) = capN (a + b) := by
  unfold capN
  split <;> omega
theorem weights_nth {ts : List Tr} {k : Nat} (h : k < ts.length) : nth (weights ts) k = capN (szT (ts.getD k .nil)) := by
  unfold weights
  rw [nth_get (by simpa using h)]
  simp [h]
theorem weights_snoc {ts : List Tr} {x : Tw} : weights (grown ts x) = weights ts ++ [capN (1 + szL (x.2.2.map (kidOf ts)))] := by
  unfold weights grown
  rw [List.map_append]
  simp [szT]
/-- What a kid adds. -/
theorem kid_yes {ts : List Tr} {k : Int} (h : 0 ≤ k ∧ k < (ts.length : Int)) : kidOf ts k = ts.getD k.toNat .nil := if_pos ⟨h.1, by omega⟩
theorem kid_no {ts : List Tr} {k : Int} (h : ¬ (0 ≤ k ∧ k < (ts.length : Int))) : kidOf ts k = .nil := if_neg fun q => h ⟨q.1, by omega⟩
theorem weight_last {Q : List Tw} (h : Q ≠ []) : nth (weights (built Q)) (Q.length - 1) = weightOf Q := by
  unfold weightOf
  have h0 : 0 < Q.length := List.length_pos_iff.2 h
  rw [if_neg h, weights_nth (by rw [built_len]; omega)]
  unfold treeOf
  rw [List.getLastD_eq_getLast?, List.getLast?_eq_getElem?, built_len, List.getD_eq_getElem?_getD]

set_option maxHeartbeats 2000000 in
theorem heavy_any (A : Option Addr) (n c : Nat) (Q : List Tw) (w : World) (B : Nat) (hB : B ≤ w.heap.size) (hQ : RdTw w B A n c Q) (hn : n ≤ 60) :
    Calls Tryd.prog 8 #[.slice A n c] w fun e w' => e = .returned (.int .i64 (weightOf Q)) ∧ Below w.heap.size w w' := by
  have HQL := Lib.hid hQ.len.1
  have HQ := Lib.hid hQ
  clear hQ
  go_enter Tryd.func8, Tryd.ntmps8
  go_wp2_with fail
  go_loopw [3, 4] (fun v i wr => ∃ k : Nat, k ≤ n ∧ i = .int .i64 (k : Int) ∧ Hid (wr.ownsRow w.heap.size 3 1 v k (iv (weights (built (Q.take k))))) ∧ Hid (Below w.heap.size w wr)) (fun _ i _ => n - (intOf i).toNat)
  case atStart => exact ⟨0, Nat.zero_le _, rfl, World.ownsRow_nil _ _ _ _, Below.refl _ _⟩
  case round =>
    as_aux_lemma =>
      obtain ⟨k, hk, rfl, HO, HB⟩ := hrel
      by_cases hlt : k < n
      · as_aux_lemma =>
          obtain ⟨b, off, rfl, hb, hc⟩ := (HQ.out.below (HB.out.mono hB)).at_ (by omega)
          obtain ⟨x, y, r, A', n', c', q0, z0, z1, z2, q1, q2, q3, q4, -, -, -⟩ := hc k hlt
          obtain ⟨Av, cv, rfl, hv1, hv2, hrdv⟩ := own_form HO.out
          have hbt := built_take q0
          have hsz := HB.out.size
          have htl : (built (Q.take k)).length = k := by rw [built_len, List.length_take, HQL.out]; omega
          have hws := weights_snoc (ts := built (Q.take k)) (x := (x, y, r))
          rw [← hbt] at hws
          unfold maxLen at hv2 q3
          have HRI := Lib.hid q4; have HRL := Lib.hid q1; have HTL := Lib.hid htl; have HWS := Lib.hid hws; have HRV := Lib.hid hrdv
          clear hc q4 q1 hbt htl hws hrdv z0 z1 q0
          generalize built (Q.take k) = ts at *
          go_wp2_with fail
          go_loop [5, 6] (fun s j => ∃ m : Nat, m ≤ n' ∧ j = .int .i64 (m : Int) ∧ s = .int .i64 (capN (1 + szL ((r.take m).map (kidOf ts))))) (fun _ j => n' - (intOf j).toNat)
          case atStart => exact ⟨0, Nat.zero_le _, rfl, rfl⟩
          case round =>
            as_aux_lemma =>
              obtain ⟨m, hm, rfl, rfl⟩ := hrel
              by_cases hml : m < n'
              · as_aux_lemma =>
                  obtain ⟨rb, ro, rfl, hrb, hrc⟩ := HRI.out.at_ (by rw [HRL.out]; omega)
                  have zk := hrc m (by rw [HRL.out]; exact hml)
                  have hst := szL_map_snoc (kidOf ts) (r.take m) (nth r m)
                  have hr1 : r.take m ++ [nth r m] = r.take (m + 1) := by rw [List.take_succ_eq_append_getElem (by rw [HRL.out]; exact hml), nth_get (by rw [HRL.out]; exact hml)]
                  rw [hr1] at hst
                  have HST := Lib.hid hst
                  clear hst hr1 hrc
                  obtain ⟨a, ha⟩ : ∃ a, a = 1 + szL ((r.take m).map (kidOf ts)) := ⟨_, rfl⟩
                  have HA := Lib.hid ha
                  have hca : 0 ≤ capN a ∧ capN a ≤ 1000 := by unfold capN; omega
                  rw [← ha]
                  clear ha
                  obtain ⟨x', hx'⟩ : ∃ x', x' = nth r m := ⟨_, rfl⟩
                  rw [← hx'] at zk HST
                  have HX := Lib.hid hx'
                  clear hx'
                  obtain ⟨d, hd⟩ : ∃ d, d = szT (kidOf ts x') := ⟨_, rfl⟩
                  have hcd : 0 ≤ capN d ∧ capN d ≤ 1000 := by unfold capN; omega
                  have hcap := capN_step a d
                  have hnew : capN (1 + szL ((r.take (m + 1)).map (kidOf ts))) = capN (a + d) := by rw [HST.out, HA.out, ← hd]; congr 1; omega
                  have HNEW := Lib.hid hnew
                  have hone : ¬ (0 ≤ x' ∧ x' < (k : Int)) → capN d = 1 := fun q => by rw [hd, kid_no (by rw [HTL.out]; exact q), szT]; rfl
                  have hcell : 0 ≤ x' → x' < (k : Int) → ∃ g o, Av = some ⟨g, o, none⟩ ∧ wr.cell? ⟨g, o + x'.toNat, none⟩ = some (.int .i64 (capN d)) := fun q1 q2 => by
                    have hl : (weights ts).length = k := by unfold weights; rw [List.length_map, HTL.out]
                    obtain ⟨g, o, e, _, hc⟩ := (show RdI wr wr.heap.size Av (weights ts) from HRV.out).at_ (by rw [hl]; omega)
                    have := hc x'.toNat (by rw [hl]; omega)
                    rw [weights_nth (by rw [HTL.out]; omega), ← kid_yes ⟨q1, by rw [HTL.out]; exact q2⟩, ← hd] at this
                    exact ⟨g, o, e, this⟩
                  have HONE := Lib.hid hone; have HCELL := Lib.hid hcell; have HCAP := Lib.hid hcap
                  clear hd hnew hone hcell hcap HST HA
                  generalize capN d = cd at *
                  generalize capN a = ca at *
                  have hfin : ∀ s : Int, s = (if 1000 < ca + cd then 1000 else ca + cd) → s = capN (1 + szL ((r.take (m + 1)).map (kidOf ts))) := fun s hs => by rw [hs, HNEW.out, HCAP.out]
                  have HFIN := Lib.hid hfin
                  clear hfin HNEW HCAP
                  by_cases c1 : 0 ≤ x'
                  · as_aux_lemma =>
                      by_cases c2 : x' < (k : Int)
                      · as_aux_lemma =>
                          obtain ⟨g, o, rfl, zg⟩ := HCELL.out c1 c2
                          obtain ⟨xn, rfl⟩ := Int.eq_ofNat_of_zero_le c1
                          rw [Int.toNat_natCast] at zg
                          have hxn : xn < k := by omega
                          clear HCELL HONE
                          by_cases c3 : 1000 < ca + cd
                          · have HF := Lib.hid (HFIN.out 1000 (by rw [if_pos c3]))
                            go_wp2_with fail
                            go_round
                            case rel => exact ⟨m + 1, by omega, by go_num, by rw [← HF.out]⟩
                            case measure => simp [intOf]; omega
                          · have HF := Lib.hid (HFIN.out (ca + cd) (by rw [if_neg c3]))
                            go_wp2_with fail
                            go_round
                            case rel => exact ⟨m + 1, by omega, by go_num, by rw [← HF.out]⟩
                            case measure => simp [intOf]; omega
                      · as_aux_lemma =>
                          obtain rfl := HONE.out (fun q => c2 q.2)
                          clear HCELL HONE
                          by_cases c3 : 1000 < ca + 1
                          · have HF := Lib.hid (HFIN.out 1000 (by rw [if_pos c3]))
                            go_wp2_with fail
                            go_round
                            case rel => exact ⟨m + 1, by omega, by go_num, by rw [← HF.out]⟩
                            case measure => simp [intOf]; omega
                          · have HF := Lib.hid (HFIN.out (ca + 1) (by rw [if_neg c3]))
                            go_wp2_with fail
                            go_round
                            case rel => exact ⟨m + 1, by omega, by go_num, by rw [← HF.out]⟩
                            case measure => simp [intOf]; omega
                  · as_aux_lemma =>
                      obtain rfl := HONE.out (fun q => c1 q.1)
                      clear HCELL HONE
                      by_cases c3 : 1000 < ca + 1
                      · have HF := Lib.hid (HFIN.out 1000 (by rw [if_pos c3]))
                        go_wp2_with fail
                        go_round
                        case rel => exact ⟨m + 1, by omega, by go_num, by rw [← HF.out]⟩
                        case measure => simp [intOf]; omega
                      · have HF := Lib.hid (HFIN.out (ca + 1) (by rw [if_neg c3]))
                        go_wp2_with fail
                        go_round
                        case rel => exact ⟨m + 1, by omega, by go_num, by rw [← HF.out]⟩
                        case measure => simp [intOf]; omega
              · as_aux_lemma =>
                  have hmr : r.take m = r := List.take_of_length_le (by rw [HRL.out]; omega)
                  rw [hmr]
                  have hs1 : ∀ (v : Value) (w' : World), w'.ownsRow w.heap.size 3 1 v (k + 1) (iv (weights ts) ++ [.int .i64 (capN (1 + szL (r.map (kidOf ts))))]) → w'.ownsRow w.heap.size 3 1 v (k + 1) (iv (weights (built (Q.take (k + 1))))) := fun v w' h => by
                    rw [HWS.out]; unfold iv at h ⊢; rw [List.map_append]; exact h
                  have HS1 := Lib.hid hs1
                  clear hs1 hmr
                  go_wp2_with (at_builtin; refine wpList_app elInt rfl (.tmp 61) (.tmp 63) rfl w.heap.size _ k 1 (iv (weights ts)) [.int .i64 (capN (1 + szL (r.map (kidOf ts))))] rfl HO.out rfl rfl (by simp [Value.oneCell']) (by omega) (by omega) hsz ?_; intro v2 w2 hown2 hg2 hat2; have HO2 := Lib.hid (HS1.out _ _ hown2); have HB2 := Lib.hid (HB.out.grown hg2 hsz (fun k e => own_base HO.out k e)); clear hown2 hg2 hat2)
                  go_roundw
                  case rel => exact ⟨k + 1, by omega, by go_num, HO2, HB2⟩
                  case measure => simp [intOf]; omega
      · as_aux_lemma =>
          have htk : Q.take k = Q := List.take_of_length_le (by rw [HQL.out]; omega)
          rw [htk] at HO
          obtain ⟨Av, cv, rfl, hv1, hv2, hrdv⟩ := own_form HO.out
          have hkn : k = n := by omega
          unfold maxLen at hv2
          rcases Nat.eq_zero_or_pos k with k0 | k0
          · have hq : Q = [] := List.eq_nil_of_length_eq_zero (by rw [HQL.out]; omega)
            have HW := Lib.hid (show weightOf Q = 0 by unfold weightOf; rw [if_pos hq])
            clear hrdv hq
            subst k0
            go_wp2_with fail
            go_ret
            exact ⟨ret_eq (by rw [HW.out]; rfl), HB.out⟩
          · have hl : (weights (built Q)).length = k := by unfold weights; rw [List.length_map, built_len, HQL.out]; omega
            obtain ⟨g, o, rfl, _, hc⟩ := (show RdI wr wr.heap.size Av (weights (built Q)) from hrdv).at_ (by rw [hl]; omega)
            have zc := hc (k - 1) (by rw [hl]; omega)
            have hwl := weight_last (Q := Q) (fun e => by have := HQL.out; rw [e] at this; simp at this; omega)
            rw [HQL.out, ← hkn] at hwl
            rw [hwl] at zc
            have h1 : k - 1 + 1 = k := by omega
            clear hc hwl hl h1 hrdv
            subst hkn
            obtain ⟨j, rfl⟩ : ∃ j, k = j + 1 := ⟨k - 1, by omega⟩
            rw [Nat.add_sub_cancel] at zc
            go_wp2_with fail
            go_ret
            exact ⟨rfl, HB.out⟩
end Go.Proofs.YtinejiodnnjpgaaDoor
namespace Go.Proofs.YtinejiodnnjpgaaDoor
open Go
set_option linter.unusedVariables false
set_option linter.unusedSimpArgs false

section
variable {P : Program} {ops : Array Oper} {md : Region.Mode} {w : World}
/-- Each of the first n that is not marked in L0 is waited for by one behind it, up to n. -/
def sinkL (md : Region.Mode) (ops : Array Oper) (n : Nat) (L0 : Array Bool) : Bool :=
  (List.range n).all fun i => L0.getD i false || (List.range (n + 1)).any fun j => decide (i < j) && Region.waitsFor md ops j i
def Over (L0 listed : Array Bool) : Prop := ∀ j, L0.getD j false = true → listed.getD j false = true
theorem Over.set {L0 listed : Array Bool} (h : Over L0 listed) (i : Nat) : Over L0 (listed.setIfInBounds i true) := fun j hj => getD_set_true (h j hj)
theorem tailL {n : Nat} {L0 listed : Array Bool} (hs : sinkL md ops n L0 = true) (hc : Region.chainB md ops n = true) (hn : n < ops.size) (inv : HeadInv md ops n listed) (ho : Over L0 listed) :
    ∀ (d i : Nat), n - i ≤ d → i < n → listed.getD i true = false → ∀ t, n ≤ t → t ∉ Region.ready md ops listed
  | 0, i, hd, hi, _, _, _ => by omega
  | d + 1, i, hd, hi, hun, t, ht => fun hr => by
    obtain ⟨_, ot, hot, hall⟩ := mem_ready.1 hr
    have htl : t < ops.size := (Array.getElem?_eq_some_iff.1 hot).1
    have noEdge : ∀ (e : Edge), e ∈ ot.after → Region.binds md e = true → listed.getD e.on true = false → False := fun e he hb hl => by
      have := hall e he hb
      rw [getD_both hl] at this
      cases this
    rcases Nat.lt_or_ge n t with q | q
    · have h1 := List.all_eq_true.1 hc t (List.mem_range.2 htl)
      simp only [Bool.or_eq_true, decide_eq_true_eq] at h1
      rcases h1 with h1 | h1
      · omega
      · obtain ⟨o2, ho2, e, he, hb, hon⟩ := Region.waitsFor_spec h1
        rw [hot] at ho2
        cases ho2
        exact noEdge e he hb (by rw [hon]; exact inv.tail (t - 1) (by omega) (by omega))
    · obtain rfl : t = n := by omega
      have h1 := List.all_eq_true.1 hs i (List.mem_range.2 hi)
      rw [Bool.or_eq_true] at h1
      rcases h1 with h1 | h1
      · have := ho i h1
        rw [getD_both hun] at this
        cases this
      · obtain ⟨j, hj, hj2⟩ := List.any_eq_true.1 h1
        simp only [Bool.and_eq_true, decide_eq_true_eq] at hj2
        have hjt : j ≤ t := by have := List.mem_range.1 hj; omega
        obtain ⟨oj, hoj, e, he, hb, hon⟩ := Region.waitsFor_spec hj2.2
        by_cases hjn : j = t
        · subst hjn
          rw [hot] at hoj
          cases hoj
          exact noEdge e he hb (by rw [hon]; exact hun)
        · cases hl : listed.getD j false with
          | true =>
            have := inv.closed j oj hoj hl e he hb
            rw [hon, getD_both hun] at this
            cases this
          | false => exact tailL hs hc hn inv ho d j (by omega) (by omega) (getD_in (by rw [inv.size]; omega) hl) t ht hr

theorem firstL {n i : Nat} {oi : Oper} {v : Value} {L0 : Array Bool} {L : Array Bool → Act → Prop} (hi : ops[i]? = some oi) (hsel : ∀ (j : Nat) (o : Oper) cs b, ops[j]? = some o → o.op ≠ .select cs b)
    (hs : sinkL md ops n L0 = true) (hc : Region.chainB md ops n = true) (hn : n < ops.size) (hin : i < n)
    (hdone : ∀ listed a, L listed a → ∀ j ∈ Region.ready md ops listed, n ≤ j) :
    ∀ (f : Nat) (listed : Array Bool) (a : Act), HeadInv md ops n listed → Over L0 listed →
      (∀ j oj, ops[j]? = some oj → j ≠ i → listed.getD j true = false → (∀ e ∈ oj.after, Region.binds md e = true → e.on ≠ i) → oi.apart ops oj = true) →
      i ∈ Region.ready md ops listed → YieldsAt P ops w oi v a →
      wpAnyL P md ops w n L f (listed.setIfInBounds i true) (a.put oi.dst v) → wpAnyL P md ops w n L (f + 1) listed a := by
  intro f
  induction f with
  | zero =>
    intro listed a inv ho _ hr hy H
    have hun := (mem_ready.1 hr).1
    refine ⟨fun h => (by rw [h] at hr; cases hr), fun j hj => ?_⟩
    have hjn : j < n := Nat.lt_of_not_le fun q => tailL hs hc hn inv ho _ i (Nat.le_refl _) hin hun j q hj
    by_cases hji : j = i
    · subst hji; exact ⟨hjn, hy.stOp hi H⟩
    · have := hdone _ _ H j (ready_mono hj hji); omega
  | succ f ih =>
    intro listed a inv ho hfree hr hy H
    have hun := (mem_ready.1 hr).1
    refine ⟨fun h => (by rw [h] at hr; cases hr), fun j hj => ?_⟩
    have hjn : j < n := Nat.lt_of_not_le fun q => tailL hs hc hn inv ho _ i (Nat.le_refl _) hin hun j q hj
    by_cases hji : j = i
    · subst hji; exact ⟨hjn, hy.stOp hi H⟩
    · obtain ⟨hjun, oj, hoj, hall⟩ := mem_ready.1 hj
      have hno : ∀ e ∈ oj.after, Region.binds md e = true → e.on ≠ i := fun e he hb q => by
        have := hall e he hb
        rw [q, getD_both hun] at this
        cases this
      have h2 := stOp_put hoj (hfree j oj hoj hji hjun hno) (fun cs b => hsel i oi cs b hi) (fun cs b => hsel j oj cs b hoj) hy (H.2 j (ready_mono hj hji)).2
      refine ⟨hjn, stOp_mono (fun a' h3 => ih (listed.setIfInBounds j true) a' (inv.set hj hjn) (ho.set j) (fun k ok hk hki hku hkn => hfree k ok hk hki ?_ hkn) (ready_mono hr (Ne.symm hji)) h3.1 ?_) h2⟩
      · by_cases q : j = k
        · subst q; exact hjun
        · rw [getD_set_ne true q] at hku; exact hku
      · rw [Array.setIfInBounds_comm _ _ hji]; exact h3.2

theorem lexL {n g : Nat} {L0 : Array Bool} {Lq : Act → Prop} (hsel : Region.noSelect ops = true) (hs : sinkL md ops n L0 = true) (hc : Region.chainB md ops n = true) (hn : n < ops.size) :
    ∀ (l : List Oper) (k : Nat) (listed : Array Bool) (a : Act), (∀ j, j < l.length → l[j]? = ops[k + j]?) → k + l.length = n → HeadInv md ops n listed → Over L0 listed →
    Region.lexHead md ops g l.length k listed = true → wpStill P ops w Lq l a →
    wpAnyL P md ops w n (fun listed' a' => Region.seqB md ops g n listed' = true ∧ Lq a') l.length listed a
  | [], k, listed, a, _, hk, _, _, hB, h => by
    obtain rfl : k = n := by simpa using hk
    exact ⟨by simpa [Region.lexHead] using hB, h⟩
  | o :: l, k, listed, a, hl, hk, inv, ho, hB, h => by
    have h0 : ops[k]? = some o := by simpa using (hl 0 (by simp)).symm
    simp only [List.length_cons, Region.lexHead, Bool.and_eq_true] at hB
    obtain ⟨⟨hr, hf⟩, hB2⟩ := hB
    have hkn : k < n := by simp only [List.length_cons] at hk; omega
    have hr2 : k ∈ Region.ready md ops listed := by simpa using hr
    obtain ⟨v, hy, hK⟩ := yieldsAt_of_stOp h0 (show stOp P ops w k (wpStill P ops w Lq l) a by unfold stOp; simp only [h0]; exact h)
    exact firstL h0 (Region.noSelect_spec hsel) hs hc hn hkn (fun _ _ hL => seqB_ready hL.1) l.length listed a inv ho (Region.free_spec h0 hf) hr2 hy
      (lexL hsel hs hc hn l (k + 1) _ _ (fun j hj => by have := hl (j + 1) (by simp; omega); simpa [Nat.add_assoc, Nat.add_comm 1 j] using this) (by simp only [List.length_cons] at hk; omega) (inv.set hr2 hkn) (ho.set k) hB2 hK)

/-- The operations of a list in their order, each of which yields its value in whatever world. -/
def wpYld (P : Program) (ops : Array Oper) (K : Act → Prop) : List Oper → Act → Prop
  | [], a => K a
  | o :: l, a => ∃ v, Yields P ops o v a ∧ wpYld P ops K l (a.put o.dst v)
/-- They may come first; behind them stands 'listed'. -/
def yldB (md : Region.Mode) (ops : Array Oper) : Nat → Nat → Array Bool → Bool × Array Bool
  | 0, _, listed => (true, listed)
  | f + 1, k, listed => let r := yldB md ops f (k + 1) (listed.setIfInBounds k true); ((Region.ready md ops listed).contains k && Region.free md ops listed k && r.1, r.2)
theorem wpAny_yld {Q : Exit → Act → World → Prop} (hsel : Region.noSelect ops = true) (hQ : ∀ c a d v w, Q (.panic c) (a.put d v) w → Q (.panic c) a w) {g : Nat} {K : Act → Prop} :
    ∀ (l : List Oper) (k : Nat) (listed : Array Bool) (a : Act), (∀ j, j < l.length → l[j]? = ops[k + j]?) → (yldB md ops l.length k listed).1 = true →
    (∀ a', K a' → wpAny P md ops Q g (yldB md ops l.length k listed).2 a' w) → wpYld P ops K l a → wpAny P md ops Q (g + l.length) listed a w
  | [], k, listed, a, _, _, hK, h => hK a h
  | o :: l, k, listed, a, hl, hB, hK, h => by
    have h0 : ops[k]? = some o := by simpa using (hl 0 (by simp)).symm
    simp only [List.length_cons, yldB, Bool.and_eq_true] at hB hK
    obtain ⟨⟨hr, hf⟩, hB2⟩ := hB
    obtain ⟨v, hy, h2⟩ := h
    exact wpAny_take h0 hsel hf hr (fun c a w q => hQ c a _ _ w q) hy
      (wpAny_yld hsel hQ l (k + 1) _ _ (fun j hj => by have := hl (j + 1) (by simp; omega); simpa [Nat.add_assoc, Nat.add_comm 1 j] using this) hB2 hK h2)
/-- What is to be checked of the region: m ahead that touch no memory, still ones up to n, a tail in one order. -/
def stragB (md : Region.Mode) (ops : Array Oper) (m n : Nat) : Bool :=
  let r := yldB md ops m 0 (Array.replicate ops.size false)
  Region.noSelect ops && decide (n < ops.size) && decide (m ≤ n) && r.1 && sinkL md ops n r.2 && Region.chainB md ops n && Region.lexHead md ops (ops.size - n) (n - m) m r.2
theorem yldB_head {n : Nat} : ∀ (f k : Nat) (listed : Array Bool), k + f ≤ n → HeadInv md ops n listed → (yldB md ops f k listed).1 = true → HeadInv md ops n (yldB md ops f k listed).2
  | 0, k, listed, _, inv, _ => inv
  | f + 1, k, listed, h, inv, hB => by
    simp only [yldB, Bool.and_eq_true] at hB ⊢
    exact yldB_head f (k + 1) _ (by omega) (inv.set (by simpa using hB.1.1) (by omega)) hB.2
theorem wp_region_strag {id : Nat} {Q : Exit → Act → World → Prop} {a : Act} {w : World} {l : List Oper} (m n : Nat) (hm : P.follows .mixedOrders = true) (hB : stragB .any l.toArray m n = true)
    (hQ : ∀ c a d v w, Q (.panic c) (a.put d v) w → Q (.panic c) a w)
    (h : wpYld P l.toArray (fun a' => wpStill P l.toArray w.drew (fun a'' => wpList P l.toArray Q (l.drop n) a'' w.drew) ((l.drop m).take (n - m)) a') (l.take m) a) : (Code.region id l.toArray true).wp P Q a w := by
  simp only [stragB, Bool.and_eq_true, decide_eq_true_eq] at hB
  obtain ⟨⟨⟨⟨⟨⟨hsel, hn⟩, hmn⟩, hy⟩, hs⟩, hc⟩, hlex⟩ := hB
  have hn2 : n < l.length := by simpa using hn
  have hlm : (l.take m).length = m := by simp; omega
  have hlh : ((l.drop m).take (n - m)).length = n - m := by simp; omega
  have hld : (l.drop n).length = l.toArray.size - n := by simp
  have inv0 : HeadInv .any l.toArray n (Array.replicate l.toArray.size false) :=
    ⟨by simp, fun j oj _ q => (by rw [getD_replicate_false] at q; cases q), fun t _ ht => getD_in (by simpa using ht) (getD_replicate_false _ _)⟩
  have inv1 := yldB_head m 0 _ (by omega) inv0 hy
  refine wp_region_any hm ?_
  have key := wpAny_yld (md := .any) (Q := Q) (w := w.drew) (g := n - m + (l.toArray.size - n)) hsel hQ (l.take m) 0 (Array.replicate l.toArray.size false) a
    (fun j hj => by rw [hlm] at hj; simp [hj]) (by rw [hlm]; exact hy) (fun a' ha' => by
      rw [hlm]
      have H := lexL (md := .any) (g := l.toArray.size - n) hsel hs hc hn ((l.drop m).take (n - m)) m _ a' (fun j hj => by
        rw [hlh] at hj
        simp [hj]) (by rw [hlh]; omega) inv1 (fun _ q => q) (by rw [hlh]; exact hlex) ha'
      have := wpAny_of_head (Q' := Q) (g := l.toArray.size - n) (fun listed a' hL => by
        have := wpAny_of_seq (md := .any) (Q' := Q) (l.drop n) n listed a' w.drew (fun j => by simp [List.getElem?_drop]) (by rw [hld]; exact hL.1) hL.2
        rwa [hld] at this) _ _ _ H
      rwa [hlh] at this) h
  rw [hlm, show n - m + (l.toArray.size - n) + m = l.toArray.size by omega] at key
  exact key
/-- Unguarded copies of slots. -/
def movesB (l : List Oper) : Bool := l.all fun o => (match o.op with | .move _ => true | _ => false) && o.guard.isNone
theorem wpYld_of_quiet {K : Act → Prop} (l2 : List Oper) : ∀ (l : List Oper) (a : Act), movesB l = true → wpQuiet P ops (fun w' => w' = w) K (l ++ l2) a → wpYld P ops (fun a' => wpStill P ops w K l2 a') l a
  | [], a, _, h => wpStill_of_quiet _ _ h
  | o :: l, a, hB, h => by
    simp only [movesB, List.all_cons, Bool.and_eq_true] at hB
    obtain ⟨⟨hmv, hg⟩, hB2⟩ := hB
    have hw : Region.wanted o (yielded ops a.tmps) = true := by
      unfold Region.wanted
      cases hgg : o.guard with
      | none => rfl
      | some x => rw [hgg] at hg; cases hg
    have ho : ∃ x, o.op = .move x := by
      revert hmv
      cases o.op <;> simp
    obtain ⟨x, hx⟩ := ho
    rw [List.cons_append] at h
    unfold wpQuiet at h
    rw [if_pos hw] at h
    obtain ⟨v, h1, h2⟩ := h
    have h3 := h1 w rfl
    unfold Oper.quietAt at h3
    have hr : ∀ w, (execOp a.eval o).run P w = .ok (.value (a.eval x)) w := fun w => BigFrame.run_move x hx w
    rw [hr] at h3
    obtain ⟨_, h4⟩ := h3
    exact ⟨v, .inl ⟨hw, fun w => by rw [hr]; rw [h4]⟩, wpYld_of_quiet l2 l _ hB2 h2⟩
theorem wp_region_moves {id : Nat} {Q : Exit → Act → World → Prop} {a : Act} {w : World} {l : List Oper} (m n : Nat) (hm : P.follows .mixedOrders = true) (hB : stragB .any l.toArray m n = true) (hV : movesB (l.take m) = true)
    (hQ : ∀ c a d v w, Q (.panic c) (a.put d v) w → Q (.panic c) a w)
    (h : wpQuiet P l.toArray (fun w' => w' = w.drew) (fun a'' => wpList P l.toArray Q (l.drop n) a'' w.drew) (l.take n) a) : (Code.region id l.toArray true).wp P Q a w := by
  have hB2 := hB
  simp only [stragB, Bool.and_eq_true, decide_eq_true_eq] at hB2
  obtain ⟨⟨⟨⟨⟨⟨_, _⟩, hmn⟩, _⟩, _⟩, _⟩, _⟩ := hB2
  refine wp_region_strag m n hm hB hQ (wpYld_of_quiet _ _ _ hV ?_)
  have e : l.take m ++ (l.drop m).take (n - m) = l.take n := by
    rw [← List.drop_take]
    have : l.take m = (l.take n).take m := by rw [List.take_take, Nat.min_eq_left hmn]
    rw [this, List.take_append_drop]
  rw [e]; exact h
end
end Go.Proofs.YtinejiodnnjpgaaDoor
