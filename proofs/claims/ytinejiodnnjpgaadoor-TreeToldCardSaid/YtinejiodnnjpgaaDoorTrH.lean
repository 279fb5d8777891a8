/- Lists of twigs; how heavy the last one's tree is. -/
import Derived.Test.YtinejiodnnjpgaaDoorTrM
import Derived.Test.YtinejiodnnjpgaaDoorShW
import Derived.Deep.QuietTactic
import Derived.BigQuiet
namespace Go.Proofs.YtinejiodnnjpgaaDoor
open Go.RowKit BigFrame
set_option linter.unusedVariables false
set_option linter.unusedSimpArgs false
set_option maxRecDepth 100000

/-- A twig: production, token, kids. -/
abbrev Tw := Int × Int × List Int
def shTw : Sh Tw := shP shInt (shP shInt (shZ (shL shInt) fun l => l.length * 8 ≤ reachBytes))
def RdTw (w : World) (B : Nat) (A : Option Addr) (n c : Nat) (Q : List Tw) : Prop := (shL shTw).rd w (Lo B) Q [.slice A n c]
theorem RdTw.below {w w' : World} {B : Nat} {A : Option Addr} {n c : Nat} {Q : List Tw} (h : RdTw w B A n c Q) (hb : Below B w w') : RdTw w' B A n c Q := Sh.below h hb
theorem RdTw.len {w : World} {B : Nat} {A : Option Addr} {n c : Nat} {Q : List Tw} (h : RdTw w B A n c Q) : Q.length = n ∧ n ≤ maxLen := by
  obtain ⟨A', c', e, h1, h2⟩ := shL_form h
  simp at e
  obtain ⟨rfl, rfl, rfl⟩ := e
  exact ⟨rfl, by omega⟩
def IntB (x : Int) : Prop := -9223372036854775808 ≤ x ∧ x ≤ 9223372036854775807
theorem intB_of {x : Int} (h : (Lit.int .i64 x).wf = true) : IntB x := by
  unfold IntB
  simp [Lit.wf, IntKind.wrap, IntKind.min, IntKind.max, IntKind.bits, IntKind.signed] at h
  omega
theorem RdTw.at_ {w : World} {B : Nat} {A : Option Addr} {n c : Nat} {Q : List Tw} (h : RdTw w B A n c Q) (h0 : 0 < n) :
    ∃ b off, A = some ⟨b, off, none⟩ ∧ b < B ∧ ∀ k, k < n → ∃ x y r A' n' c', Q[k]? = some (x, y, r) ∧ w.cell? ⟨b, off + k * 3, none⟩ = some (.int .i64 x) ∧ w.cell? ⟨b, off + k * 3 + 1, none⟩ = some (.int .i64 y) ∧ w.cell? ⟨b, off + k * 3 + 2, none⟩ = some (.slice A' n' c') ∧
      r.length = n' ∧ n' ≤ c' ∧ c' ≤ maxLen ∧ RdI w B A' r ∧ IntB x ∧ IntB y ∧ n' * 8 ≤ reachBytes := by
  obtain ⟨hl, hm⟩ := h.len
  obtain ⟨b, off, e, hb, hc⟩ := shL_at h (by decide) (by omega)
  refine ⟨b, off, e, hb, fun k hk => ?_⟩
  have hq : Q[k]? = some (Q[k]'(by omega)) := List.getElem?_eq_getElem (by omega)
  obtain ⟨d, hd, hcell⟩ := hc k _ hq
  obtain ⟨d1, d23, rfl, h1, d2, d3, rfl, h2, h3, h4⟩ := hd
  obtain ⟨A', c', e2, g1, g2⟩ := shL_form h3
  subst e2
  obtain ⟨_, _, _, r2⟩ := rdI_sh h3
  obtain ⟨rfl, w1⟩ := h1
  obtain ⟨rfl, w2⟩ := h2
  refine ⟨_, _, _, A', _, c', hq, ?_, ?_, ?_, rfl, g1, g2, r2, intB_of w1, intB_of w2, h4⟩
  · have := hcell 0 _ rfl; simpa [shTw, shP, shI, shL, shZ] using this
  · have := hcell 1 _ rfl; simpa [shTw, shP, shI, shL, shZ, Nat.add_assoc] using this
  · have := hcell 2 _ rfl; simpa [shTw, shP, shI, shL, shZ, Nat.add_assoc] using this

theorem elInt : ElTy Tryd.prog 32 3 1 8 (.int .i64 0) := ⟨Tryd.underlying32, by kernel_rfl, rfl, by decide⟩
/-! ### plain: the trees that a list of twigs makes -/
def kidOf (ts : List Tr) (k : Int) : Tr := if 0 ≤ k ∧ k.toNat < ts.length then ts.getD k.toNat .nil else .nil
def grown (ts : List Tr) (x : Tw) : List Tr := ts ++ [.node x.1 x.2.1 (x.2.2.map (kidOf ts))]
def built (Q : List Tw) : List Tr := Q.foldl grown []
theorem built_snoc (Q : List Tw) (x : Tw) : built (Q ++ [x]) = grown (built Q) x := by unfold built; rw [List.foldl_append]; rfl
theorem foldl_grown_len : ∀ (Q : List Tw) (a : List Tr), (Q.foldl grown a).length = a.length + Q.length
  | [], a => rfl
  | x :: Q, a => by rw [List.foldl_cons, foldl_grown_len Q]; unfold grown; simp; omega
theorem built_len (Q : List Tw) : (built Q).length = Q.length := by unfold built; rw [foldl_grown_len]; simp
theorem built_take {Q : List Tw} {k : Nat} {x : Tw} (h : Q[k]? = some x) : built (Q.take (k + 1)) = grown (built (Q.take k)) x := by
  have hk := (List.getElem?_eq_some_iff.1 h).1
  have e : Q[k] = x := (List.getElem?_eq_some_iff.1 h).2
  rw [List.take_succ_eq_append_getElem hk, built_snoc, e]
def treeOf (Q : List Tw) : Tr := (built Q).getLastD .nil
def capN (n : Nat) : Int := ((min n 1000 : Nat) : Int)
def weights (ts : List Tr) : List Int := ts.map fun t => capN (szT t)
def weightOf (Q : List Tw) : Int := if Q = [] then 0 else capN (szT (treeOf Q))
theorem szL_map_snoc (f : Int → Tr) (l : List Int) (x : Int) : szL ((l ++ [x]).map f) = szL (l.map f) + szT (f x) := by
  rw [List.map_append, szL_append]; simp [szL]

theorem capN_step (a b : Nat) : (if 1000 < capN a + capN b then (1000 : Int) else capN a + capN b) = capN (a + b) := by
  unfold capN
  split <;> omega
theorem weights_nth {ts : List Tr} {k : Nat} (h : k < ts.length) : nth (weights ts) k = capN (szT (ts.getD k .nil)) := by
  unfold weights
  rw [nth_get (by simpa using h)]
  simp [h]
theorem weights_snoc {ts : List Tr} {x : Tw} : weights (grown ts x) = weights ts ++ [capN (1 + szL (x.2.2.map (kidOf ts)))] := by
  unfold weights grown
  rw [List.map_append]
  simp [szT]
/-- What a kid adds. -/
theorem kid_yes {ts : List Tr} {k : Int} (h : 0 ≤ k ∧ k < (ts.length : Int)) : kidOf ts k = ts.getD k.toNat .nil := if_pos ⟨h.1, by omega⟩
theorem kid_no {ts : List Tr} {k : Int} (h : ¬ (0 ≤ k ∧ k < (ts.length : Int))) : kidOf ts k = .nil := if_neg fun q => h ⟨q.1, by omega⟩
theorem weight_last {Q : List Tw} (h : Q ≠ []) : nth (weights (built Q)) (Q.length - 1) = weightOf Q := by
  unfold weightOf
  have h0 : 0 < Q.length := List.length_pos_iff.2 h
  rw [if_neg h, weights_nth (by rw [built_len]; omega)]
  unfold treeOf
  rw [List.getLastD_eq_getLast?, List.getLast?_eq_getElem?, built_len, List.getD_eq_getElem?_getD]

set_option maxHeartbeats 2000000 in
theorem heavy_any (A : Option Addr) (n c : Nat) (Q : List Tw) (w : World) (B : Nat) (hB : B ≤ w.heap.size) (hQ : RdTw w B A n c Q) (hn : n ≤ 60) :
    Calls Tryd.prog 8 #[.slice A n c] w fun e w' => e = .returned (.int .i64 (weightOf Q)) ∧ Below w.heap.size w w' := by
  have HQL := Lib.hid hQ.len.1
  have HQ := Lib.hid hQ
  clear hQ
  go_enter Tryd.func8, Tryd.ntmps8
  go_wp2_with fail
  go_loopw [3, 4] (fun v i wr => ∃ k : Nat, k ≤ n ∧ i = .int .i64 (k : Int) ∧ Hid (wr.ownsRow w.heap.size 3 1 v k (iv (weights (built (Q.take k))))) ∧ Hid (Below w.heap.size w wr)) (fun _ i _ => n - (intOf i).toNat)
  case atStart => exact ⟨0, Nat.zero_le _, rfl, World.ownsRow_nil _ _ _ _, Below.refl _ _⟩
  case round =>
    as_aux_lemma =>
      obtain ⟨k, hk, rfl, HO, HB⟩ := hrel
      by_cases hlt : k < n
      · as_aux_lemma =>
          obtain ⟨b, off, rfl, hb, hc⟩ := (HQ.out.below (HB.out.mono hB)).at_ (by omega)
          obtain ⟨x, y, r, A', n', c', q0, z0, z1, z2, q1, q2, q3, q4, -, -, -⟩ := hc k hlt
          obtain ⟨Av, cv, rfl, hv1, hv2, hrdv⟩ := own_form HO.out
          have hbt := built_take q0
          have hsz := HB.out.size
          have htl : (built (Q.take k)).length = k := by rw [built_len, List.length_take, HQL.out]; omega
          have hws := weights_snoc (ts := built (Q.take k)) (x := (x, y, r))
          rw [← hbt] at hws
          unfold maxLen at hv2 q3
          have HRI := Lib.hid q4; have HRL := Lib.hid q1; have HTL := Lib.hid htl; have HWS := Lib.hid hws; have HRV := Lib.hid hrdv
          clear hc q4 q1 hbt htl hws hrdv z0 z1 q0
          generalize built (Q.take k) = ts at *
          go_wp2_with fail
          go_loop [5, 6] (fun s j => ∃ m : Nat, m ≤ n' ∧ j = .int .i64 (m : Int) ∧ s = .int .i64 (capN (1 + szL ((r.take m).map (kidOf ts))))) (fun _ j => n' - (intOf j).toNat)
          case atStart => exact ⟨0, Nat.zero_le _, rfl, rfl⟩
          case round =>
            as_aux_lemma =>
              obtain ⟨m, hm, rfl, rfl⟩ := hrel
              by_cases hml : m < n'
              · as_aux_lemma =>
                  obtain ⟨rb, ro, rfl, hrb, hrc⟩ := HRI.out.at_ (by rw [HRL.out]; omega)
                  have zk := hrc m (by rw [HRL.out]; exact hml)
                  have hst := szL_map_snoc (kidOf ts) (r.take m) (nth r m)
                  have hr1 : r.take m ++ [nth r m] = r.take (m + 1) := by rw [List.take_succ_eq_append_getElem (by rw [HRL.out]; exact hml), nth_get (by rw [HRL.out]; exact hml)]
                  rw [hr1] at hst
                  have HST := Lib.hid hst
                  clear hst hr1 hrc
                  obtain ⟨a, ha⟩ : ∃ a, a = 1 + szL ((r.take m).map (kidOf ts)) := ⟨_, rfl⟩
                  have HA := Lib.hid ha
                  have hca : 0 ≤ capN a ∧ capN a ≤ 1000 := by unfold capN; omega
                  rw [← ha]
                  clear ha
                  obtain ⟨x', hx'⟩ : ∃ x', x' = nth r m := ⟨_, rfl⟩
                  rw [← hx'] at zk HST
                  have HX := Lib.hid hx'
                  clear hx'
                  obtain ⟨d, hd⟩ : ∃ d, d = szT (kidOf ts x') := ⟨_, rfl⟩
                  have hcd : 0 ≤ capN d ∧ capN d ≤ 1000 := by unfold capN; omega
                  have hcap := capN_step a d
                  have hnew : capN (1 + szL ((r.take (m + 1)).map (kidOf ts))) = capN (a + d) := by rw [HST.out, HA.out, ← hd]; congr 1; omega
                  have HNEW := Lib.hid hnew
                  have hone : ¬ (0 ≤ x' ∧ x' < (k : Int)) → capN d = 1 := fun q => by rw [hd, kid_no (by rw [HTL.out]; exact q), szT]; rfl
                  have hcell : 0 ≤ x' → x' < (k : Int) → ∃ g o, Av = some ⟨g, o, none⟩ ∧ wr.cell? ⟨g, o + x'.toNat, none⟩ = some (.int .i64 (capN d)) := fun q1 q2 => by
                    have hl : (weights ts).length = k := by unfold weights; rw [List.length_map, HTL.out]
                    obtain ⟨g, o, e, _, hc⟩ := (show RdI wr wr.heap.size Av (weights ts) from HRV.out).at_ (by rw [hl]; omega)
                    have := hc x'.toNat (by rw [hl]; omega)
                    rw [weights_nth (by rw [HTL.out]; omega), ← kid_yes ⟨q1, by rw [HTL.out]; exact q2⟩, ← hd] at this
                    exact ⟨g, o, e, this⟩
                  have HONE := Lib.hid hone; have HCELL := Lib.hid hcell; have HCAP := Lib.hid hcap
                  clear hd hnew hone hcell hcap HST HA
                  generalize capN d = cd at *
                  generalize capN a = ca at *
                  have hfin : ∀ s : Int, s = (if 1000 < ca + cd then 1000 else ca + cd) → s = capN (1 + szL ((r.take (m + 1)).map (kidOf ts))) := fun s hs => by rw [hs, HNEW.out, HCAP.out]
                  have HFIN := Lib.hid hfin
                  clear hfin HNEW HCAP
                  by_cases c1 : 0 ≤ x'
                  · as_aux_lemma =>
                      by_cases c2 : x' < (k : Int)
                      · as_aux_lemma =>
                          obtain ⟨g, o, rfl, zg⟩ := HCELL.out c1 c2
                          obtain ⟨xn, rfl⟩ := Int.eq_ofNat_of_zero_le c1
                          rw [Int.toNat_natCast] at zg
                          have hxn : xn < k := by omega
                          clear HCELL HONE
                          by_cases c3 : 1000 < ca + cd
                          · have HF := Lib.hid (HFIN.out 1000 (by rw [if_pos c3]))
                            go_wp2_with fail
                            go_round
                            case rel => exact ⟨m + 1, by omega, by go_num, by rw [← HF.out]⟩
                            case measure => simp [intOf]; omega
                          · have HF := Lib.hid (HFIN.out (ca + cd) (by rw [if_neg c3]))
                            go_wp2_with fail
                            go_round
                            case rel => exact ⟨m + 1, by omega, by go_num, by rw [← HF.out]⟩
                            case measure => simp [intOf]; omega
                      · as_aux_lemma =>
                          obtain rfl := HONE.out (fun q => c2 q.2)
                          clear HCELL HONE
                          by_cases c3 : 1000 < ca + 1
                          · have HF := Lib.hid (HFIN.out 1000 (by rw [if_pos c3]))
                            go_wp2_with fail
                            go_round
                            case rel => exact ⟨m + 1, by omega, by go_num, by rw [← HF.out]⟩
                            case measure => simp [intOf]; omega
                          · have HF := Lib.hid (HFIN.out (ca + 1) (by rw [if_neg c3]))
                            go_wp2_with fail
                            go_round
                            case rel => exact ⟨m + 1, by omega, by go_num, by rw [← HF.out]⟩
                            case measure => simp [intOf]; omega
                  · as_aux_lemma =>
                      obtain rfl := HONE.out (fun q => c1 q.1)
                      clear HCELL HONE
                      by_cases c3 : 1000 < ca + 1
                      · have HF := Lib.hid (HFIN.out 1000 (by rw [if_pos c3]))
                        go_wp2_with fail
                        go_round
                        case rel => exact ⟨m + 1, by omega, by go_num, by rw [← HF.out]⟩
                        case measure => simp [intOf]; omega
                      · have HF := Lib.hid (HFIN.out (ca + 1) (by rw [if_neg c3]))
                        go_wp2_with fail
                        go_round
                        case rel => exact ⟨m + 1, by omega, by go_num, by rw [← HF.out]⟩
                        case measure => simp [intOf]; omega
              · as_aux_lemma =>
                  have hmr : r.take m = r := List.take_of_length_le (by rw [HRL.out]; omega)
                  rw [hmr]
                  have hs1 : ∀ (v : Value) (w' : World), w'.ownsRow w.heap.size 3 1 v (k + 1) (iv (weights ts) ++ [.int .i64 (capN (1 + szL (r.map (kidOf ts))))]) → w'.ownsRow w.heap.size 3 1 v (k + 1) (iv (weights (built (Q.take (k + 1))))) := fun v w' h => by
                    rw [HWS.out]; unfold iv at h ⊢; rw [List.map_append]; exact h
                  have HS1 := Lib.hid hs1
                  clear hs1 hmr
                  go_wp2_with (at_builtin; refine wpList_app elInt rfl (.tmp 61) (.tmp 63) rfl w.heap.size _ k 1 (iv (weights ts)) [.int .i64 (capN (1 + szL (r.map (kidOf ts))))] rfl HO.out rfl rfl (by simp [Value.oneCell']) (by omega) (by omega) hsz ?_; intro v2 w2 hown2 hg2 hat2; have HO2 := Lib.hid (HS1.out _ _ hown2); have HB2 := Lib.hid (HB.out.grown hg2 hsz (fun k e => own_base HO.out k e)); clear hown2 hg2 hat2)
                  go_roundw
                  case rel => exact ⟨k + 1, by omega, by go_num, HO2, HB2⟩
                  case measure => simp [intOf]; omega
      · as_aux_lemma =>
          have htk : Q.take k = Q := List.take_of_length_le (by rw [HQL.out]; omega)
          rw [htk] at HO
          obtain ⟨Av, cv, rfl, hv1, hv2, hrdv⟩ := own_form HO.out
          have hkn : k = n := by omega
          unfold maxLen at hv2
          rcases Nat.eq_zero_or_pos k with k0 | k0
          · have hq : Q = [] := List.eq_nil_of_length_eq_zero (by rw [HQL.out]; omega)
            have HW := Lib.hid (show weightOf Q = 0 by unfold weightOf; rw [if_pos hq])
            clear hrdv hq
            subst k0
            go_wp2_with fail
            go_ret
            exact ⟨ret_eq (by rw [HW.out]; rfl), HB.out⟩
          · have hl : (weights (built Q)).length = k := by unfold weights; rw [List.length_map, built_len, HQL.out]; omega
            obtain ⟨g, o, rfl, _, hc⟩ := (show RdI wr wr.heap.size Av (weights (built Q)) from hrdv).at_ (by rw [hl]; omega)
            have zc := hc (k - 1) (by rw [hl]; omega)
            have hwl := weight_last (Q := Q) (fun e => by have := HQL.out; rw [e] at this; simp at this; omega)
            rw [HQL.out, ← hkn] at hwl
            rw [hwl] at zc
            have h1 : k - 1 + 1 = k := by omega
            clear hc hwl hl h1 hrdv
            subst hkn
            obtain ⟨j, rfl⟩ : ∃ j, k = j + 1 := ⟨k - 1, by omega⟩
            rw [Nat.add_sub_cancel] at zc
            go_wp2_with fail
            go_ret
            exact ⟨rfl, HB.out⟩
end Go.Proofs.YtinejiodnnjpgaaDoor
