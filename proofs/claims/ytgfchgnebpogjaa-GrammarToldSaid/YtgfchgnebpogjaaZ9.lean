/- Rows of truths: a list of slices of truths, each row in a block of its own; add, newSets. · append of whatever slice reads (nil too) to a row of the call's own. · Plain: shortest sentences: what is derived; two ways to the first of the shortest. No program here. · Plain: both ways to a shortest sentence come to the same. No program here. -/
import Derived.Test.YtgfchgnebpogjaaZ7
import Derived.BigRegion
import Derived.Test.YtgfchgnebpogjaaZ1
import Derived.Lib.AppendZeros
import Derived.Test.YtgfchgnebpogjaaZ5
namespace Go.Proofs.Ytgfchgnebpogjaa
open Go.RowKit BigFrame
set_option linter.unusedVariables false
set_option linter.unusedSimpArgs false
set_option maxRecDepth 100000

theorem elSet : ElTy Try.prog 61 38 1 24 (.slice none 0 0) := ⟨Try.underlying61, by kernel_rfl, rfl, by decide⟩

/-- Row k of rows. -/
def rowB (M : List (List Bool)) (k : Nat) : List Bool := M.getD k []
theorem rowB_get {M : List (List Bool)} {k : Nat} (h : k < M.length) : rowB M k = M[k] := by simp [rowB, h]
theorem rowB_set {M : List (List Bool)} {k j : Nat} {r : List Bool} (hk : k < M.length) : rowB (M.set k r) j = if k = j then r else rowB M j := by
  unfold rowB
  by_cases h : k = j
  · subst h; simp [List.getD, hk]
  · simp [List.getD, h]
def nthN (l : List Nat) (k : Nat) : Nat := l.getD k 0
theorem nthN_get {l : List Nat} {k : Nat} (h : k < l.length) : nthN l k = l[k] := by simp [nthN, h]

/-- The rows M: the block D has their slices, row k lies in block number k of ρ. -/
structure MtSt (w : World) (D N T : Nat) (ρ : List Nat) (M : List (List Bool)) : Prop where
  dl : D < w.heap.size
  d : ∀ k, k < N → w.cell? ⟨D, k, none⟩ = some (.slice (some ⟨nthN ρ k, 0, none⟩) T T)
  rl : ρ.length = N
  ml : M.length = N
  nd : ∀ i j, i < N → j < N → nthN ρ i = nthN ρ j → i = j
  ne : ∀ i, i < N → nthN ρ i ≠ D
  rows : ∀ k, k < N → Blk w (nthN ρ k) 4 (bv (rowB M k)) ∧ (rowB M k).length = T
section
variable {w w' : World} {D N T : Nat} {ρ : List Nat} {M : List (List Bool)}
theorem MtSt.cell (h : MtSt w D N T ρ M) {k : Nat} (hk : k < N) : w.cell? ⟨D, k, none⟩ = some (.slice (some ⟨nthN ρ k, 0, none⟩) T T) := h.d k hk
theorem MtSt.keep {S : Nat → Prop} (h : MtSt w D N T ρ M) (hk : Kp S w w') (hD : ¬ S D) (hr : ∀ k, k < N → ¬ S (nthN ρ k)) : MtSt w' D N T ρ M :=
  ⟨Nat.lt_of_lt_of_le h.dl hk.size, fun k hkn => (hk.cell (p := ⟨D, k, none⟩) h.dl hD).trans (h.d k hkn), h.rl, h.ml, h.nd, h.ne, fun k hkn => ⟨(hk.block _ (h.rows k hkn).1.lt (hr k hkn)).trans (h.rows k hkn).1, (h.rows k hkn).2⟩⟩
theorem MtSt.below (h : MtSt w D N T ρ M) (hb : Below w.heap.size w w') : MtSt w' D N T ρ M := h.keep (S := fun _ => False) (Kp.of hb) (fun e => e) (fun _ _ e => e)
/-- One row turned: only its block has changed. -/
theorem MtSt.set_ (h : MtSt w D N T ρ M) {k : Nat} (hk : k < N) {r : List Bool} (hr : r.length = T) (hkp : Kp (fun j => j = nthN ρ k) w w') (hb : Blk w' (nthN ρ k) 4 (bv r)) : MtSt w' D N T ρ (M.set k r) := by
  refine ⟨Nat.lt_of_lt_of_le h.dl hkp.size, fun j hj => (hkp.cell (p := ⟨D, j, none⟩) h.dl (fun e => h.ne k hk e.symm)).trans (h.d j hj), h.rl, by rw [List.length_set]; exact h.ml, h.nd, h.ne, fun j hj => ?_⟩
  rw [rowB_set (by rw [h.ml]; exact hk)]
  by_cases e : k = j
  · subst e; rw [if_pos rfl]; exact ⟨hb, hr⟩
  · rw [if_neg e]
    exact ⟨(hkp.block _ (h.rows j hj).1.lt (fun q => e (h.nd j k hj hk q).symm)).trans (h.rows j hj).1, (h.rows j hj).2⟩
end

/-! ### add -/
def orB (a c : List Bool) : List Bool := List.zipWith (· || ·) a c
theorem orB_len {a c : List Bool} {T : Nat} (ha : a.length = T) (hc : c.length = T) : (orB a c).length = T := by unfold orB; rw [List.length_zipWith]; omega
theorem orB_nth {a c : List Bool} {T k : Nat} (ha : a.length = T) (hc : c.length = T) (hk : k < T) : bth (orB a c) k = (bth a k || bth c k) := by
  rw [bth_get (by rw [orB_len ha hc]; exact hk), bth_get (by omega), bth_get (by omega)]
  unfold orB; simp
/-- Something of c is not in a. -/
def newB (a c : List Bool) : Bool := (List.zipWith (fun x y => y && !x) a c).any id
/-- The first k of c added. -/
def orK (a c : List Bool) (k : Nat) : List Bool := orB (a.take k) (c.take k) ++ a.drop k
theorem orK_nth {a c : List Bool} {T k j : Nat} (ha : a.length = T) (hc : c.length = T) (hk : k ≤ T) (hj : j < T) : bth (orK a c k) j = if j < k then (bth a j || bth c j) else bth a j := by
  have l1 : (orB (a.take k) (c.take k)).length = k := orB_len (by rw [List.length_take]; omega) (by rw [List.length_take]; omega)
  unfold orK bth
  rw [List.getD_eq_getElem?_getD]
  by_cases h : j < k
  · rw [if_pos h, List.getElem?_append_left (by omega)]
    have := orB_nth (a := a.take k) (c := c.take k) (T := k) (k := j) (by rw [List.length_take]; omega) (by rw [List.length_take]; omega) h
    unfold bth at this
    rw [List.getD_eq_getElem?_getD] at this
    rw [this]
    simp [List.getD, h]
  · rw [if_neg h, List.getElem?_append_right (by omega), l1]
    simp [List.getD]
    rw [show k + (j - k) = j by omega]
theorem orK_len {a c : List Bool} {T k : Nat} (ha : a.length = T) (hc : c.length = T) (hk : k ≤ T) : (orK a c k).length = T := by
  unfold orK
  rw [List.length_append, orB_len (T := k) (by rw [List.length_take]; omega) (by rw [List.length_take]; omega), List.length_drop]; omega
theorem bth_ext {a b : List Bool} {T : Nat} (ha : a.length = T) (hb : b.length = T) (h : ∀ j, j < T → bth a j = bth b j) : a = b := by
  apply List.ext_getElem (by omega)
  intro j h1 h2
  have := h j (by omega)
  rwa [bth_get h1, bth_get h2] at this
theorem orK_same {a c : List Bool} {T k : Nat} (ha : a.length = T) (hc : c.length = T) (hk : k < T) (h : bth c k = false ∨ bth a k = true) : orK a c (k + 1) = orK a c k := by
  refine bth_ext (orK_len ha hc hk) (orK_len ha hc (by omega)) fun j hj => ?_
  rw [orK_nth ha hc hk hj, orK_nth ha hc (by omega) hj]
  by_cases e : j = k
  · subst e
    rw [if_pos (by omega), if_neg (by omega)]
    rcases h with h | h <;> rw [h] <;> simp
  · by_cases h2 : j < k
    · rw [if_pos (by omega), if_pos h2]
    · rw [if_neg (by omega), if_neg h2]
theorem orK_set {a c : List Bool} {T k : Nat} (ha : a.length = T) (hc : c.length = T) (hk : k < T) (h : bth c k = true) : orK a c (k + 1) = (orK a c k).set k true := by
  refine bth_ext (orK_len ha hc hk) (by rw [List.length_set]; exact orK_len ha hc (by omega)) fun j hj => ?_
  rw [orK_nth ha hc hk hj, bth_set (by rw [orK_len ha hc (by omega)]; exact hk), orK_nth ha hc (by omega) hj]
  by_cases e : j = k
  · subst e
    rw [if_pos (by omega), if_pos rfl, h]; simp
  · have e2 : ¬ k = j := fun q => e q.symm
    by_cases h2 : j < k
    · rw [if_pos (by omega), if_neg e2, if_pos h2]
    · rw [if_neg (by omega), if_neg e2, if_neg h2]
theorem orK_all {a c : List Bool} {T : Nat} (ha : a.length = T) (hc : c.length = T) : orK a c T = orB a c := by
  unfold orK
  rw [List.take_of_length_le (by omega), List.take_of_length_le (by omega), List.drop_eq_nil_of_le (by omega), List.append_nil]
/-- News among the first k. -/
def newK (a c : List Bool) (k : Nat) : Bool := newB (a.take k) (c.take k)
theorem newK_snoc {a c : List Bool} {T k : Nat} (ha : a.length = T) (hc : c.length = T) (hk : k < T) : newK a c (k + 1) = (newK a c k || (bth c k && !bth a k)) := by
  unfold newK newB
  rw [List.take_succ_eq_append_getElem (by omega : k < a.length), List.take_succ_eq_append_getElem (by omega : k < c.length), List.zipWith_append (by rw [List.length_take, List.length_take]; omega), List.any_append, bth_get (by omega), bth_get (by omega)]
  simp
theorem newK_all {a c : List Bool} {T : Nat} (ha : a.length = T) (hc : c.length = T) : newK a c T = newB a c := by
  unfold newK
  rw [List.take_of_length_le (by omega), List.take_of_length_le (by omega)]

set_option maxHeartbeats 1000000 in
theorem add_ne (bt bf T : Nat) (a c : List Bool) (w : World) (hT : T ≤ 1000) (hne : bt ≠ bf) (ha : Blk w bt 4 (bv a)) (hc : Blk w bf 4 (bv c)) (la : a.length = T) (lc : c.length = T) :
    Calls Try.prog 62 #[.slice (some ⟨bt, 0, none⟩) T T, .slice (some ⟨bf, 0, none⟩) T T] w fun e w' => e = .returned (.bool (newB a c)) ∧ Blk w' bt 4 (bv (orB a c)) ∧ Kp (fun j => j = bt) w w' := by
  have HA := Lib.hid ha; have HC := Lib.hid hc; have LA := Lib.hid la; have LC := Lib.hid lc
  have hbf := hc.lt
  clear ha hc la lc
  go_enter Try.func62, Try.ntmps62
  go_wp2_with fail
  go_loopw [5, 10] (fun v i wr => ∃ k : Nat, ∃ q : Bool, k ≤ T ∧ i = .int .i64 k ∧ v = .bool q ∧ Hid (q = newK a c k) ∧ Kp (fun j => j = bt) w wr ∧ Hid (Blk wr bt 4 (bv (orK a c k)))) (fun _ i _ => T - (intOf i).toNat)
  case atStart => exact ⟨0, false, Nat.zero_le _, rfl, rfl, rfl, Kp.refl _ _, by show Blk _ _ _ _; unfold orK orB; simpa using HA.out⟩
  case round =>
    obtain ⟨k, q, hk, rfl, rfl, HQ, hkp, HB⟩ := hrel
    by_cases hlt : k < T
    · have zc := (hkp.cell (p := ⟨bf, k, none⟩) hbf (fun e => hne e.symm)).trans (HC.out.bcell (k := k) (by rw [LC.out]; exact hlt))
      have zt := HB.out.bcell (k := k) (by rw [orK_len LA.out LC.out hk]; exact hlt)
      have zf := HB.out.frozen k
      rw [orK_nth LA.out LC.out hk hlt, if_neg (by omega)] at zt
      have hsn := newK_snoc LA.out LC.out hlt
      rw [← HQ.out] at hsn
      cases hcv : bth c k
      · rw [hcv] at zc hsn
        have HS := Lib.hid hsn
        have HB1 : Hid (Blk wr bt 4 (bv (orK a c (k + 1)))) := Lib.hid (by rw [orK_same LA.out LC.out hlt (.inl hcv)]; exact HB.out)
        clear hsn hcv
        generalize bth a k = av at zt
        go_wp2
        go_roundw
        case rel => exact ⟨k + 1, q, by omega, by go_num, rfl, by show q = _; rw [HS.out]; simp, hkp, HB1⟩
        case measure => simp [intOf]; omega
      · cases hav : bth a k
        · rw [hcv] at zc hsn
          rw [hav] at zt hsn
          have HS := Lib.hid hsn
          have HOS := Lib.hid (orK_set LA.out LC.out hlt hcv)
          clear hsn hcv hav
          go_wp2
          go_roundw
          case rel => exact ⟨k + 1, true, by omega, by go_num, rfl, by show true = _; rw [HS.out]; simp, hkp.set_ (.inr rfl) _, by show Blk _ _ _ _; rw [HOS.out]; exact HB.out.bset k true⟩
          case measure => simp [intOf]; omega
        · rw [hcv] at zc hsn
          rw [hav] at zt hsn
          have HS := Lib.hid hsn
          have HB1 : Hid (Blk wr bt 4 (bv (orK a c (k + 1)))) := Lib.hid (by rw [orK_same LA.out LC.out hlt (.inr hav)]; exact HB.out)
          clear hsn hcv hav
          go_wp2
          go_roundw
          case rel => exact ⟨k + 1, q, by omega, by go_num, rfl, by show q = _; rw [HS.out]; simp, hkp, HB1⟩
          case measure => simp [intOf]; omega
    · have hkT : k = T := by omega
      have HQ2 : Hid (newB a c = q) := Lib.hid (by rw [← newK_all LA.out LC.out, ← hkT]; exact HQ.out.symm)
      have HB2 : Hid (Blk wr bt 4 (bv (orB a c))) := Lib.hid (by rw [← orK_all LA.out LC.out, ← hkT]; exact HB.out)
      clear hkT
      go_wp2
      go_ret
      exact ⟨ret_eq (by rw [HQ2.out]; rfl), HB2.out, hkp⟩

theorem newB_self (a : List Bool) : newB a a = false := by
  unfold newB
  induction a with
  | nil => rfl
  | cons x a ih => rw [List.zipWith_cons_cons, List.any_cons, ih]; cases x <;> rfl
theorem orB_self (a : List Bool) : orB a a = a := by
  unfold orB
  induction a with
  | nil => rfl
  | cons x a ih => rw [List.zipWith_cons_cons, ih]; cases x <;> rfl

theorem add_eq (bt T : Nat) (a : List Bool) (w : World) (hT : T ≤ 1000) (ha : Blk w bt 4 (bv a)) (la : a.length = T) :
    Calls Try.prog 62 #[.slice (some ⟨bt, 0, none⟩) T T, .slice (some ⟨bt, 0, none⟩) T T] w fun e w' => e = .returned (.bool (newB a a)) ∧ Blk w' bt 4 (bv (orB a a)) ∧ Kp (fun j => j = bt) w w' := by
  rw [newB_self, orB_self]
  have HA := Lib.hid ha; have LA := Lib.hid la
  clear ha la
  go_enter Try.func62, Try.ntmps62
  go_wp2_with fail
  go_loop [5, 10] (fun v i => ∃ k : Nat, k ≤ T ∧ i = .int .i64 k ∧ v = .bool false) (fun _ i => T - (intOf i).toNat)
  case atStart => exact ⟨0, Nat.zero_le _, rfl, rfl⟩
  case round =>
    obtain ⟨k, hk, rfl, rfl⟩ := hrel
    by_cases hlt : k < T
    · have zt := HA.out.bcell (k := k) (by rw [LA.out]; exact hlt)
      generalize bth a k = av at zt
      cases av
      all_goals
        go_wp2
        go_round
        case rel => exact ⟨k + 1, by omega, by go_num, rfl⟩
        case measure => simp [intOf]; omega
    · go_wp2
      go_ret
      exact ⟨rfl, HA.out, Kp.refl _ _⟩

theorem add_any (bt bf T : Nat) (a c : List Bool) (w : World) (hT : T ≤ 1000) (ha : Blk w bt 4 (bv a)) (hc : Blk w bf 4 (bv c)) (la : a.length = T) (lc : c.length = T) (he : bt = bf → a = c) :
    Calls Try.prog 62 #[.slice (some ⟨bt, 0, none⟩) T T, .slice (some ⟨bf, 0, none⟩) T T] w fun e w' => e = .returned (.bool (newB a c)) ∧ Blk w' bt 4 (bv (orB a c)) ∧ Kp (fun j => j = bt) w w' := by
  by_cases h : bt = bf
  · have e := he h
    subst h e
    exact add_eq bt T a w hT ha la
  · exact add_ne bt bf T a c w hT h ha hc la lc
end Go.Proofs.Ytgfchgnebpogjaa
namespace Go.Proofs.Ytgfchgnebpogjaa
open Go.RowKit
set_option linter.unusedVariables false
set_option linter.unusedSimpArgs false
set_option maxRecDepth 100000

section
variable {P : Program} {t e : TypeId} {size bytes : Nat} {z : Value}

theorem run_app_zero (E : ElTy P t e size bytes z) (ty : TypeId) (w : World) (A : Option Addr) (n cap : Nat) (hc : n ≤ cap) (A' : Option Addr) (c : Nat) :
    (Builtin.append_ #[t, t] ty #[.slice A n cap, .slice A' 0 c]).run P w = .ok (.slice A n cap) w := by
  obtain ⟨i, hi, hz, hsz, hby⟩ := info_parts E.hi
  cases A <;> cases A' <;> simp [Builtin.append_, run_underlying E.ht, sizeOf, typeInfo, hi, Builtin.lenOf, Builtin.firstCells, loadCells, loadCellsFrom, storeCells, hc]

theorem wpList_app_rd (E : ElTy P t e size bytes z) {ops : Array Oper} {rest : List Oper} {o : Oper} {a : Act} {Q : Exit → Act → World → Prop} {w : World} (hgd : o.guard = none) (s x : Operand)
    (ho : o.op = .call { callee := .builtin .append, args := #[s, x], argTypes := #[t, t] })
    (base : Nat) (v : Value) (n m c B : Nat) (A : Option Addr) (xs news : List Value) (hs : a.eval s = v) (hown : w.ownsRow base e size v n xs)
    (hx : a.eval x = .slice A m c) (hl : news.length = m * size) (hr : Rd w B A news) (h1 : ∀ u ∈ news, u.oneCell' = true)
    (h63 : n + m ≤ 140737488355328) (hbytes : (n + m) * bytes ≤ 140737488355328) (hbase : base ≤ w.heap.size)
    (h : ∀ v' w', w'.ownsRow base e size v' (n + m) (xs ++ news) → w.grownBy w' v.ownBlock → (v'.ownBlock = v.ownBlock ∨ v'.ownBlock = some w.heap.size) → wpList P ops Q rest (a.put o.dst v') w') :
    wpList P ops Q (o :: rest) a w := by
  obtain ⟨i, hi, hz, hsz, hby⟩ := info_parts E.hi
  by_cases hm : m = 0
  · subst hm
    obtain rfl : news = [] := List.eq_nil_of_length_eq_zero (by simpa using hl)
    obtain ⟨A1, n1, c1, hv, hle⟩ : ∃ A1 n1 c1, v = .slice A1 n1 c1 ∧ n1 ≤ c1 := by
      rcases hown.2 with ⟨rfl, rfl⟩ | ⟨g, cap, cur, rfl, _, _, hn, _⟩
      · exact ⟨_, _, _, rfl, Nat.le_refl _⟩
      · exact ⟨_, _, _, rfl, hn⟩
    subst hv
    refine Lib.wpList_append_run w hgd s x t t ho _ _ hs hx _ w (run_app_zero E o.type w A1 n1 c1 hle A c) (h _ w ?_ ⟨rfl, rfl, rfl, Nat.le_refl _, fun _ _ _ => rfl⟩ (Or.inl rfl))
    rw [List.append_nil]; exact hown
  · have hne : news ≠ [] := by
      intro e0; subst e0
      have := E.hs
      have : 0 < m * size := Nat.mul_pos (by omega) this
      simp at hl; omega
    obtain ⟨b, off, rfl, hb, hc⟩ := hr hne
    refine wpList_append_own_at _ hgd s x t ho base e i z size bytes E.ht hi hz hsz hby E.hz E.hs v n xs hs hown ⟨b, off, none⟩ m c news hx hl (fun j u hu => ?_) h1 (by simp only [maxLen]; omega) hbytes hbase ?_
    · have hadd : (⟨b, off, none⟩ : Addr).add j = ⟨b, off + j, none⟩ := by unfold Addr.add; split <;> simp_all
      rw [hadd]; exact hc j u hu
    · intro v' w' h2 h3 _ h5
      exact h v' w' h2 h3 h5
end

theorem iv_one (l : List Int) : ∀ u ∈ iv l, u.oneCell' = true := by
  intro u hu
  unfold iv at hu
  rw [List.mem_map] at hu
  obtain ⟨x, _, rfl⟩ := hu
  rfl
end Go.Proofs.Ytgfchgnebpogjaa
namespace Go.Proofs.Ytgfchgnebpogjaa
set_option linter.unusedVariables false
set_option linter.unusedSimpArgs false

/-- a stands ahead of b: the first place that is not the same decides. -/
def lexlt : List Int → List Int → Bool
  | [], [] => false
  | [], _ :: _ => true
  | _ :: _, [] => false
  | a :: x, b :: y => decide (a < b) || (decide (a = b) && lexlt x y)
def earl (a b : List Int) : Bool := if a.length = b.length then lexlt a b else decide (a.length < b.length)

theorem lexlt_tri : ∀ (a b : List Int), a.length = b.length → lexlt a b = false → lexlt b a = false → a = b
  | [], [], _, _, _ => rfl
  | [], _ :: _, h, _, _ => by simp at h
  | _ :: _, [], h, _, _ => by simp at h
  | a :: x, b :: y, h, h1, h2 => by
    simp only [lexlt, Bool.or_eq_false_iff, Bool.and_eq_false_iff, decide_eq_false_iff_not] at h1 h2
    have e : a = b := by omega
    subst e
    have := lexlt_tri x y (by simpa using h) (by rcases h1.2 with h | h; exact absurd rfl h; exact h) (by rcases h2.2 with h | h; exact absurd rfl h; exact h)
    rw [this]
theorem lexlt_irrefl : ∀ (a : List Int), lexlt a a = false
  | [] => rfl
  | a :: x => by simp [lexlt, lexlt_irrefl x]
theorem lexlt_trans' : ∀ (a b c : List Int), a.length = b.length → b.length = c.length → lexlt c b = false → lexlt b a = false → lexlt c a = false
  | [], [], [], _, _, _, _ => rfl
  | [], _ :: _, _, h, _, _, _ => by simp at h
  | _ :: _, [], _, h, _, _, _ => by simp at h
  | _, [], _ :: _, _, h, _, _ => by simp at h
  | _, _ :: _, [], _, h, _, _ => by simp at h
  | a :: x, b :: y, c :: z, h1, h2, h3, h4 => by
    simp only [lexlt, Bool.or_eq_false_iff, Bool.and_eq_false_iff, decide_eq_false_iff_not] at h3 h4 ⊢
    refine ⟨by omega, ?_⟩
    by_cases e : c = a
    · right
      have e1 : c = b := by omega
      have e2 : b = a := by omega
      exact lexlt_trans' x y z (by simpa using h1) (by simpa using h2) (by rcases h3.2 with h | h; exact absurd e1 h; exact h) (by rcases h4.2 with h | h; exact absurd e2 h; exact h)
    · exact .inl e
/-- b is not behind a: as long, and not ahead the other way round. -/
def le (b a : List Int) : Prop := b.length = a.length ∧ lexlt a b = false
theorem le.refl (a : List Int) : le a a := ⟨rfl, lexlt_irrefl a⟩
theorem le.trans {a b c : List Int} (h : le a b) (k : le b c) : le a c := ⟨h.1.trans k.1, lexlt_trans' a b c h.1 k.1 k.2 h.2⟩
theorem le.cons (s : Int) {a b : List Int} (h : le a b) : le (s :: a) (s :: b) := ⟨by simp [h.1], by simp [lexlt, h.2]⟩
theorem le.app : ∀ {a b c d : List Int}, le a b → le c d → le (a ++ c) (b ++ d)
  | [], [], _, _, _, k => k
  | [], _ :: _, _, _, h, _ => by have := h.1; simp at this
  | _ :: _, [], _, _, h, _ => by have := h.1; simp at this
  | a :: x, b :: y, c, d, h, k => by
    have hl : x.length = y.length := by have := h.1; simpa using this
    have h2 := h.2
    simp only [lexlt, Bool.or_eq_false_iff, Bool.and_eq_false_iff, decide_eq_false_iff_not] at h2
    refine ⟨by simp [hl, k.1], ?_⟩
    simp only [List.cons_append, lexlt, Bool.or_eq_false_iff, Bool.and_eq_false_iff, decide_eq_false_iff_not]
    refine ⟨h2.1, ?_⟩
    by_cases e : b = a
    · right
      exact (le.app (a := x) (b := y) ⟨hl, by rcases h2.2 with h | h; exact absurd e h; exact h⟩ k).2
    · exact .inl e

/-! ### what is derived -/
section
variable (ps : List Pr)
/-- The pieces of a right side, each of R. -/
def Cat (R : Nat → List Int → Prop) : List Int → List Int → Prop
  | [], l => l = []
  | s :: r, l => ∃ a b, l = a ++ b ∧ (if s < 0 then R (-1 - s).toNat a else a = [s]) ∧ Cat R r b
theorem Cat.mono {R R' : Nat → List Int → Prop} (h : ∀ X a, R X a → R' X a) : ∀ (r l : List Int), Cat R r l → Cat R' r l
  | [], _, hc => hc
  | s :: r, l, ⟨a, b, e, h1, h2⟩ => by
    refine ⟨a, b, e, ?_, Cat.mono h r b h2⟩
    by_cases hs : s < 0
    · rw [if_pos hs] at h1 ⊢; exact h _ _ h1
    · rw [if_neg hs] at h1 ⊢; exact h1
/-- By a tree of at most that height. -/
def DerH : Nat → Nat → List Int → Prop
  | 0, _, _ => False
  | h + 1, X, l => ∃ p ∈ ps, p.1.toNat = X ∧ Cat (DerH h) p.2.1 l
def Der (X : Nat) (l : List Int) : Prop := ∃ h, DerH ps h X l
theorem DerH.up : ∀ {h : Nat} {X : Nat} {l : List Int}, DerH ps h X l → DerH ps (h + 1) X l
  | 0, _, _, hd => hd.elim
  | h + 1, _, _, ⟨p, hp, e, hc⟩ => ⟨p, hp, e, Cat.mono (fun X a => DerH.up (h := h)) _ _ hc⟩
theorem DerH.mono {h k : Nat} (hk : h ≤ k) {X : Nat} {l : List Int} (hd : DerH ps h X l) : DerH ps k X l := by
  induction k with
  | zero =>
    have e : h = 0 := by omega
    rw [e] at hd; exact hd
  | succ k ih =>
    by_cases e : h = k + 1
    · subst e; exact hd
    · exact (ih (by omega)).up
theorem Der.cat : ∀ {r l : List Int}, Cat (Der ps) r l → ∃ h, Cat (DerH ps h) r l
  | [], l, h => ⟨0, h⟩
  | s :: r, l, ⟨a, b, e, h1, h2⟩ => by
    obtain ⟨k, hk⟩ := Der.cat h2
    by_cases hs : s < 0
    · rw [if_pos hs] at h1
      obtain ⟨h, hh⟩ := h1
      exact ⟨max h k, a, b, e, by rw [if_pos hs]; exact hh.mono _ (by omega), Cat.mono (fun X a q => q.mono _ (by omega)) _ _ hk⟩
    · rw [if_neg hs] at h1
      exact ⟨k, a, b, e, by rw [if_neg hs]; exact h1, hk⟩
theorem Der.mk {p : Pr} (hp : p ∈ ps) {l : List Int} (h : Cat (Der ps) p.2.1 l) : Der ps p.1.toNat l := by
  obtain ⟨k, hk⟩ := Der.cat ps h
  exact ⟨k + 1, p, hp, rfl, hk⟩

/-! ### lengths -/
/-- x is what Short tells: nothing is new, and each number is of a sentence. -/
structure IsShort (x : List Int) : Prop where
  fix : ∀ p ∈ ps, lenF x 0 p.2.1 < 0 ∨ (0 ≤ nth x p.1.toNat ∧ nth x p.1.toNat ≤ lenF x 0 p.2.1)
  der : ∀ X, X < x.length → 0 ≤ nth x X → ∃ l, Der ps X l ∧ nth x X = min (l.length : Int) 1000000

theorem lenF_cat {x : List Int} {R : Nat → List Int → Prop} (hR : ∀ X a, R X a → 0 ≤ nth x X ∧ nth x X ≤ a.length) : ∀ (r l : List Int), Cat R r l → (∀ s ∈ r, 0 ≤ symL x s) ∧ sumS x r ≤ l.length
  | [], l, h => ⟨(fun s hs => by cases hs), by simp [sumS]⟩
  | s :: r, l, ⟨a, b, e, h1, h2⟩ => by
    obtain ⟨i1, i2⟩ := lenF_cat hR r b h2
    have hs : 0 ≤ symL x s ∧ symL x s ≤ a.length := by
      unfold symL
      by_cases hs : s < 0
      · rw [if_pos hs] at h1 ⊢; exact hR _ _ h1
      · rw [if_neg hs] at h1 ⊢; subst h1; simp
    refine ⟨fun t ht => ?_, ?_⟩
    · rcases List.mem_cons.1 ht with rfl | ht
      · exact hs.1
      · exact i1 t ht
    · subst e; simp only [sumS, List.length_append]; omega
theorem isShort_le {x : List Int} (hx : IsShort ps x) : ∀ (h : Nat) (X : Nat) (l : List Int), DerH ps h X l → 0 ≤ nth x X ∧ nth x X ≤ l.length
  | 0, _, _, hd => hd.elim
  | h + 1, X, l, ⟨p, hp, e, hc⟩ => by
    obtain ⟨i1, i2⟩ := lenF_cat (isShort_le hx h) _ _ hc
    have h1 := lenF_sum p.2.1 0 (by omega) (by omega) i1
    have h2 := sumS_nonneg p.2.1 i1
    subst e
    rcases hx.fix p hp with h | h <;> omega

/-- Where a sentence is as short as can be, all its pieces are. -/
theorem cat_tight {x : List Int} {R : Nat → List Int → Prop} (hR : ∀ X a, R X a → 0 ≤ nth x X ∧ nth x X ≤ a.length) : ∀ (r l : List Int), Cat R r l → (l.length : Int) ≤ sumS x r → Cat (fun X a => R X a ∧ (a.length : Int) = nth x X) r l
  | [], l, h, _ => h
  | s :: r, l, ⟨a, b, e, h1, h2⟩, hl => by
    obtain ⟨i1, i2⟩ := lenF_cat hR r b h2
    subst e
    simp only [sumS, List.length_append] at hl
    by_cases hs : s < 0
    · have h1' := h1
      rw [if_pos hs] at h1'
      have := hR _ _ h1'
      have hy : symL x s = nth x (-1 - s).toNat := by unfold symL; rw [if_pos hs]
      rw [hy] at hl
      exact ⟨a, b, rfl, by rw [if_pos hs]; exact ⟨h1', by omega⟩, cat_tight hR r b h2 (by omega)⟩
    · have h1' := h1
      rw [if_neg hs] at h1'
      have hy : symL x s = 1 := by unfold symL; rw [if_neg hs]
      rw [hy] at hl
      subst h1'
      exact ⟨[s], b, rfl, by rw [if_neg hs], cat_tight hR r b h2 (by simp at hl; omega)⟩

/-! ### states: of each name the sentence that is had -/
abbrev Sn := List (Option (List Int))
def sn (st : Sn) (k : Nat) : Option (List Int) := st.getD k none
theorem sn_set {st : Sn} {k j : Nat} {v : Option (List Int)} (hk : k < st.length) : sn (st.set k v) j = if k = j then v else sn st j := by
  unfold sn
  by_cases h : k = j
  · subst h; simp [List.getD, hk]
  · simp [List.getD, h]
/-- The sentence of symbols. -/
def sentF (st : Sn) : List Int → Option (List Int)
  | [] => some []
  | s :: r => match (if s < 0 then sn st (-1 - s).toNat else some [s]), sentF st r with
    | some a, some b => some (a ++ b)
    | _, _ => none
theorem sentF_cat {st : Sn} {R : Nat → List Int → Prop} (hR : ∀ X a, sn st X = some a → R X a) : ∀ (r l : List Int), sentF st r = some l → Cat R r l
  | [], l, h => by simp [sentF] at h; show l = []; exact h
  | s :: r, l, h => by
    simp only [sentF] at h
    split at h
    · rename_i a b h1 h2
      simp at h
      refine ⟨a, b, h.symm, ?_, sentF_cat hR r b h2⟩
      split at h1
      · rw [if_pos ‹_›]; exact hR _ _ h1
      · rw [if_neg ‹_›]; simp at h1; exact h1.symm
    · cases h
/-- What is had of each piece, joined, is not behind. -/
theorem cat_sent {st : Sn} {R : Nat → List Int → Prop} (hR : ∀ X a, R X a → ∃ b, sn st X = some b ∧ le b a) : ∀ (r l : List Int), Cat R r l → ∃ b, sentF st r = some b ∧ le b l
  | [], l, h => ⟨[], rfl, by rw [show l = [] from h]; exact le.refl _⟩
  | s :: r, l, ⟨a, b, e, h1, h2⟩ => by
    obtain ⟨b2, e2, l2⟩ := cat_sent hR r b h2
    subst e
    by_cases hs : s < 0
    · rw [if_pos hs] at h1
      obtain ⟨b1, e1, l1⟩ := hR _ _ h1
      exact ⟨b1 ++ b2, by simp only [sentF]; rw [if_pos hs, e1, e2], l1.app l2⟩
    · rw [if_neg hs] at h1
      subst h1
      exact ⟨[s] ++ b2, by simp only [sentF]; rw [if_neg hs, e2], (le.refl [s]).app l2⟩

/-- The program's step at a length. -/
def stepN (x : List Int) (size : Int) (_ : Nat) (p : Pr) (st : Sn) : Sn × Bool :=
  if nth x p.1.toNat ≠ size ∨ lenF x 0 p.2.1 ≠ size then (st, false) else
  match sentF st p.2.1 with
  | none => (st, false)
  | some l => match sn st p.1.toNat with
    | none => (st.set p.1.toNat (some l), true)
    | some b => if lexlt l b = true then (st.set p.1.toNat (some l), true) else (st, false)
/-- The document's. -/
def stepD (_ : Nat) (p : Pr) (st : Sn) : Sn × Bool :=
  match sentF st p.2.1 with
  | none => (st, false)
  | some l => if 1000 < l.length then (st, false) else match sn st p.1.toNat with
    | none => (st.set p.1.toNat (some l), true)
    | some b => if earl l b = true then (st.set p.1.toNat (some l), true) else (st, false)
theorem stepN_same {x : List Int} {size : Int} (i : Nat) (p : Pr) (st : Sn) (h : (stepN x size i p st).2 = false) : (stepN x size i p st).1 = st := by
  unfold stepN at h ⊢
  repeat' split at h
  all_goals simp_all
theorem stepD_same (i : Nat) (p : Pr) (st : Sn) (h : (stepD i p st).2 = false) : (stepD i p st).1 = st := by
  unfold stepD at h ⊢
  repeat' split at h
  all_goals simp_all
end
end Go.Proofs.Ytgfchgnebpogjaa
namespace Go.Proofs.Ytgfchgnebpogjaa
set_option linter.unusedVariables false
set_option linter.unusedSimpArgs false

section
variable {ps : List Pr} {N : Nat}

/-- Left sides and names are below N. -/
def Fits (N : Nat) (ps : List Pr) : Prop := ∀ p ∈ ps, p.1.toNat < N ∧ ∀ s ∈ p.2.1, s < 0 → (-1 - s).toNat < N

theorem cat_of_len {x : List Int} (hd : ∀ X, X < N → 0 ≤ nth x X → ∃ l, Der ps X l ∧ nth x X = min (l.length : Int) 1000000) : ∀ (r : List Int), (∀ s ∈ r, s < 0 → (-1 - s).toNat < N) → (∀ s ∈ r, 0 ≤ symL x s) → ∃ l, Cat (Der ps) r l ∧ min (l.length : Int) 1000000 = min (sumS x r) 1000000
  | [], _, _ => ⟨[], rfl, by simp [sumS]⟩
  | s :: r, hN, h => by
    obtain ⟨b, hb, eb⟩ := cat_of_len hd r (fun t ht => hN t (List.mem_cons_of_mem _ ht)) (fun t ht => h t (List.mem_cons_of_mem _ ht))
    have hs := h s (by simp)
    have hn := sumS_nonneg r (fun t ht => h t (List.mem_cons_of_mem _ ht))
    by_cases hc : s < 0
    · have hy : symL x s = nth x (-1 - s).toNat := by unfold symL; rw [if_pos hc]
      rw [hy] at hs
      obtain ⟨a, ha, ea⟩ := hd _ (hN s (by simp) hc) hs
      refine ⟨a ++ b, ⟨a, b, rfl, by rw [if_pos hc]; exact ha, hb⟩, ?_⟩
      simp only [sumS, List.length_append]
      omega
    · have hy : symL x s = 1 := by unfold symL; rw [if_neg hc]
      refine ⟨[s] ++ b, ⟨[s], b, rfl, by rw [if_neg hc], hb⟩, ?_⟩
      simp only [sumS, List.length_append, List.length_singleton]
      omega

theorem isShort_of {n : Nat} (hf : Fits N ps) (h : (passF stepS 0 ps (rounds stepS ps n (x0 N))).2 = false) : IsShort ps (rounds stepS ps n (x0 N)) := by
  refine ⟨fun p hp => ?_, ?_⟩
  · obtain ⟨k, hk, e⟩ := List.getElem_of_mem hp
    have h1 := pass_fixed stepS_same ps 0 _ h k p (by rw [List.getElem?_eq_getElem hk, e])
    unfold stepS at h1
    split at h1
    · assumption
    · cases h1
  · have := rounds_keep (step := stepS) (ps := ps) (Q := fun x : List Int => x.length = N ∧ ∀ X, X < N → 0 ≤ nth x X → ∃ l, Der ps X l ∧ nth x X = min (l.length : Int) 1000000) (fun k p y hk hy => by
      have hp := List.mem_of_getElem? hk
      refine ⟨by rw [step_len]; exact hy.1, ?_⟩
      unfold stepS
      split
      · exact hy.2
      · rename_i hc
        have h0 : 0 ≤ lenF y 0 p.2.1 := by omega
        have hpos := lenF_pos h0
        obtain ⟨l, hl, el⟩ := cat_of_len hy.2 _ (hf p hp).2 hpos
        intro X hXN hX
        rw [nth_set (by rw [hy.1]; exact (hf p hp).1)] at hX ⊢
        split
        · rename_i e
          subst e
          refine ⟨l, Der.mk ps hp hl, ?_⟩
          rw [lenF_sum p.2.1 0 (by omega) (by omega) hpos]; omega
        · rename_i e
          rw [if_neg e] at hX
          exact hy.2 X hXN hX) (x := x0 N) ⟨by simp [x0], fun X hXN hX => by
        unfold nth x0 at hX
        rw [List.getD_eq_getElem?_getD, List.getElem?_replicate, if_pos hXN] at hX
        simp at hX⟩ n
    exact fun X hX => this.2 X (by rw [this.1] at hX; exact hX)

theorem Cat.bound {R : Nat → List Int → Prop} : ∀ (r l : List Int), Cat R r l → Cat (fun X a => R X a ∧ a.length ≤ l.length) r l
  | [], _, h => h
  | s :: r, l, ⟨a, b, e, h1, h2⟩ => by
    subst e
    refine ⟨a, b, rfl, ?_, Cat.mono (fun X c hc => ⟨hc.1, by have := hc.2; rw [List.length_append]; omega⟩) _ _ (Cat.bound r b h2)⟩
    by_cases hs : s < 0
    · rw [if_pos hs] at h1 ⊢; exact ⟨h1, by rw [List.length_append]; omega⟩
    · rw [if_neg hs] at h1 ⊢; exact h1

/-! ### the program's -/
/-- b is the first of the shortest of X. -/
def Least (ps : List Pr) (x : List Int) (X : Nat) (b : List Int) : Prop := Der ps X b ∧ (b.length : Int) = nth x X ∧ ∀ l, Der ps X l → (l.length : Int) = nth x X → le b l
def Good (ps : List Pr) (x : List Int) (st : Sn) (s : Int) : Prop := ∀ X, X < x.length → 0 ≤ nth x X → nth x X ≤ s → ∃ b, sn st X = some b ∧ Least ps x X b
def HadN (ps : List Pr) (x : List Int) (st : Sn) (s : Int) : Prop := ∀ X b, sn st X = some b → Der ps X b ∧ (b.length : Int) = nth x X ∧ nth x X ≤ s

theorem sum_of_cat {x : List Int} : ∀ (r l : List Int), Cat (fun X a => (a.length : Int) = nth x X) r l → sumS x r = l.length
  | [], l, h => by rw [show l = [] from h]; rfl
  | s :: r, l, ⟨a, b, e, h1, h2⟩ => by
    have i := sum_of_cat r b h2
    subst e
    simp only [sumS, List.length_append]
    by_cases hs : s < 0
    · rw [if_pos hs] at h1
      have hy : symL x s = nth x (-1 - s).toNat := by unfold symL; rw [if_pos hs]
      omega
    · rw [if_neg hs] at h1
      have hy : symL x s = 1 := by unfold symL; rw [if_neg hs]
      subst h1; simp; omega

theorem stepN_had {x : List Int} {st : Sn} {s : Int} (hx : IsShort ps x) (hf : Fits N ps) (hl : st.length = N) (h : HadN ps x st s) {i : Nat} {p : Pr} (hp : p ∈ ps) (hs : s < 1000000) : HadN ps x (stepN x s i p st).1 s := by
  have key : ∀ l, ¬ (nth x p.1.toNat ≠ s ∨ lenF x 0 p.2.1 ≠ s) → sentF st p.2.1 = some l → HadN ps x (st.set p.1.toNat (some l)) s := by
    intro l hc hl2 X b hb
    rw [sn_set (by rw [hl]; exact (hf p hp).1)] at hb
    split at hb
    · rename_i e
      subst e
      simp at hb
      subst hb
      have h1 : nth x p.1.toNat = s := by omega
      have h2 : lenF x 0 p.2.1 = s := by omega
      have hc1 := sentF_cat (R := fun X a => (Der ps X a ∧ (a.length : Int) = nth x X)) (fun X a q => ⟨(h X a q).1, (h X a q).2.1⟩) _ _ hl2
      have hc2 := sum_of_cat _ _ (Cat.mono (fun X a q => q.2) _ _ hc1)
      have hd := Der.mk ps hp (Cat.mono (fun X a q => q.1) _ _ hc1)
      have h0 := (isShort_le ps hx _ _ _ hd.choose_spec).1
      have hpos := lenF_pos (x := x) (r := p.2.1) (by omega)
      have hsum := lenF_sum p.2.1 0 (by omega) (by omega) hpos
      exact ⟨hd, by omega, by omega⟩
    · exact h X b hb
  unfold stepN
  split
  · exact h
  · rename_i hc
    split
    · exact h
    · rename_i l hl2
      split
      · exact key l hc hl2
      · split
        · exact key l hc hl2
        · exact h

theorem stepN_keeps {x : List Int} {st : Sn} {s : Int} (hf : Fits N ps) (hl : st.length = N) {i : Nat} {p : Pr} (hp : p ∈ ps) (X : Nat) (hX : nth x X ≠ s) : sn (stepN x s i p st).1 X = sn st X := by
  have key : ∀ l, ¬ (nth x p.1.toNat ≠ s ∨ lenF x 0 p.2.1 ≠ s) → sn (st.set p.1.toNat (some l)) X = sn st X := by
    intro l hc
    rw [sn_set (by rw [hl]; exact (hf p hp).1), if_neg (fun e => by subst e; omega)]
  unfold stepN
  split
  · rfl
  · rename_i hc
    split
    · rfl
    · split
      · exact key _ hc
      · split
        · exact key _ hc
        · rfl

theorem good_next {x : List Int} {st : Sn} {s : Int} (hx : IsShort ps x) (hf : Fits N ps) (hl : st.length = N) (hxl : x.length = N) (h0 : 0 ≤ s) (h1 : s < 1000000) (hg : Good ps x st (s - 1)) (hh : HadN ps x st s) (hfix : ∀ k p, ps[k]? = some p → (stepN x s k p st).2 = false) : Good ps x st s := by
  have C : ∀ (h : Nat) (X : Nat) (l : List Int), DerH ps h X l → (l.length : Int) = nth x X → nth x X ≤ s → ∃ b, sn st X = some b ∧ le b l := by
    intro h
    induction h with
    | zero => intro X l hd; exact hd.elim
    | succ h ih =>
      intro X l hd hlen hXs
      by_cases hlt : nth x X ≤ s - 1
      · obtain ⟨b, hb, hb1, hb2, hb3⟩ := hg X (by obtain ⟨p, hp, e, _⟩ := hd; rw [hxl, ← e]; exact (hf p hp).1) (by omega) hlt
        exact ⟨b, hb, hb3 l ⟨_, hd⟩ hlen⟩
      · obtain ⟨p, hp, e, hc⟩ := hd
        subst e
        obtain ⟨i1, i2⟩ := lenF_cat (isShort_le ps hx h) _ _ hc
        have hsum := lenF_sum p.2.1 0 (by omega) (by omega) i1
        have hfx := hx.fix p hp
        have hnn := sumS_nonneg p.2.1 i1
        have htight : (l.length : Int) ≤ sumS x p.2.1 := by omega
        have hct := Cat.bound _ _ (cat_tight (isShort_le ps hx h) _ _ hc htight)
        obtain ⟨b', hb', hle⟩ := cat_sent (st := st) (fun X a (q : (DerH ps h X a ∧ (a.length : Int) = nth x X) ∧ a.length ≤ l.length) => ih X a q.1.1 q.1.2 (by have := q.2; have := q.1.2; omega)) _ _ hct
        obtain ⟨k, hk, ek⟩ := List.getElem_of_mem hp
        have hf1 := hfix k p (by rw [List.getElem?_eq_getElem hk, ek])
        unfold stepN at hf1
        rw [if_neg (by omega), hb'] at hf1
        simp only at hf1
        cases hs : sn st p.1.toNat with
        | none => rw [hs] at hf1; simp at hf1
        | some b =>
          rw [hs] at hf1
          simp only at hf1
          split at hf1
          · simp at hf1
          · rename_i hn
            have hbl := (hh _ _ hs).2.1
            exact ⟨b, rfl, le.trans ⟨by have := hle.1; omega, by simpa using hn⟩ hle⟩
  intro X hXN hX0 hXs
  obtain ⟨l, hl1, hl2⟩ := hx.der X hXN hX0
  have hlen : (l.length : Int) = nth x X := by omega
  obtain ⟨h, hh1⟩ := hl1
  obtain ⟨b, hb, hble⟩ := C h X l hh1 hlen hXs
  refine ⟨b, hb, (hh X b hb).1, (hh X b hb).2.1, fun l' hl' hlen' => ?_⟩
  obtain ⟨h', hh'⟩ := hl'
  obtain ⟨b2, hb2, hle2⟩ := C h' X l' hh' hlen' hXs
  rw [hb] at hb2
  cases hb2
  exact hle2

/-! ### the document's -/
def sle (b l : List Int) : Prop := b.length < l.length ∨ le b l
theorem sle.app {a b c d : List Int} (h : sle a b) (k : sle c d) : sle (a ++ c) (b ++ d) := by
  rcases h with h | h <;> rcases k with k | k
  · left; simp only [List.length_append]; omega
  · left; simp only [List.length_append]; have := k.1; omega
  · left; simp only [List.length_append]; have := h.1; omega
  · exact .inr (h.app k)
theorem sle.trans {a b c : List Int} (h : sle a b) (k : sle b c) : sle a c := by
  rcases h with h | h <;> rcases k with k | k
  · left; omega
  · left; have := k.1; omega
  · left; have := h.1; omega
  · exact .inr (h.trans k)
theorem earl_sle {a b : List Int} (h : earl a b = false) : sle b a := by
  unfold earl at h
  split at h
  · rename_i e; exact .inr ⟨e.symm, h⟩
  · rename_i e
    simp at h
    left; omega
theorem cat_sle {st : Sn} {R : Nat → List Int → Prop} (hR : ∀ X a, R X a → ∃ b, sn st X = some b ∧ sle b a) : ∀ (r l : List Int), Cat R r l → ∃ b, sentF st r = some b ∧ sle b l
  | [], l, h => ⟨[], rfl, by rw [show l = [] from h]; exact .inr (le.refl _)⟩
  | s :: r, l, ⟨a, b, e, h1, h2⟩ => by
    obtain ⟨b2, e2, l2⟩ := cat_sle hR r b h2
    subst e
    by_cases hs : s < 0
    · rw [if_pos hs] at h1
      obtain ⟨b1, e1, l1⟩ := hR _ _ h1
      exact ⟨b1 ++ b2, by simp only [sentF]; rw [if_pos hs, e1, e2], l1.app l2⟩
    · rw [if_neg hs] at h1
      subst h1
      exact ⟨[s] ++ b2, by simp only [sentF]; rw [if_neg hs, e2], sle.app (.inr (le.refl [s])) l2⟩
def HadD (ps : List Pr) (st : Sn) : Prop := ∀ X b, sn st X = some b → Der ps X b ∧ b.length ≤ 1000
theorem stepD_had {st : Sn} (hf : Fits N ps) (hl : st.length = N) (h : HadD ps st) {i : Nat} {p : Pr} (hp : p ∈ ps) : HadD ps (stepD i p st).1 := by
  have key : ∀ l, ¬ 1000 < l.length → sentF st p.2.1 = some l → HadD ps (st.set p.1.toNat (some l)) := by
    intro l hc hl2 X b hb
    rw [sn_set (by rw [hl]; exact (hf p hp).1)] at hb
    split at hb
    · rename_i e
      subst e
      simp at hb
      subst hb
      exact ⟨Der.mk ps hp (sentF_cat (fun X a q => (h X a q).1) _ _ hl2), by omega⟩
    · exact h X b hb
  unfold stepD
  split
  · exact h
  · rename_i l hl2
    split
    · exact h
    · rename_i hc
      split
      · exact key l hc hl2
      · split
        · exact key l hc hl2
        · exact h
theorem best_all {st : Sn} (hfix : ∀ k p, ps[k]? = some p → (stepD k p st).2 = false) : ∀ (h : Nat) (X : Nat) (l : List Int), DerH ps h X l → l.length ≤ 1000 → ∃ b, sn st X = some b ∧ sle b l
  | 0, _, _, hd, _ => hd.elim
  | h + 1, X, l, ⟨p, hp, e, hc⟩, hl => by
    subst e
    obtain ⟨b', hb', hle⟩ := cat_sle (st := st) (fun X a (q : DerH ps h X a ∧ a.length ≤ l.length) => best_all hfix h X a q.1 (by omega)) _ _ (Cat.bound _ _ hc)
    obtain ⟨k, hk, ek⟩ := List.getElem_of_mem hp
    have hf1 := hfix k p (by rw [List.getElem?_eq_getElem hk, ek])
    have hbl : b'.length ≤ l.length := by rcases hle with q | q; omega; exact Nat.le_of_eq q.1
    unfold stepD at hf1
    rw [hb'] at hf1
    simp only at hf1
    rw [if_neg (by omega)] at hf1
    cases hs : sn st p.1.toNat with
    | none => rw [hs] at hf1; simp at hf1
    | some b =>
      rw [hs] at hf1
      simp only at hf1
      split at hf1
      · simp at hf1
      · rename_i hn
        exact ⟨b, rfl, (earl_sle (by simpa using hn)).trans hle⟩

/-- Both come to the same. -/
theorem same_none {x : List Int} {st : Sn} (hx : IsShort ps x) (hh : HadD ps st) {n : Nat} (h : nth x n < 0 ∨ 1000 < nth x n) : sn st n = none := by
  cases hs : sn st n with
  | none => rfl
  | some b =>
    obtain ⟨h1, h2⟩ := hh n b hs
    have := isShort_le ps hx _ _ _ h1.choose_spec
    omega
theorem same_some {x : List Int} {st sp : Sn} (hx : IsShort ps x) (hh : HadD ps st) (hfix : ∀ k p, ps[k]? = some p → (stepD k p st).2 = false) {n : Nat} (hn : n < x.length) (h0 : 0 ≤ nth x n) (h1 : nth x n ≤ 1000) (hg : Good ps x sp (nth x n)) : ∃ b, sn sp n = some b ∧ sn st n = some b := by
  obtain ⟨b, hb, ⟨h, hd⟩, hb2, hb3⟩ := hg n hn h0 (Int.le_refl _)
  obtain ⟨r, hr, hrs⟩ := best_all hfix h n b hd (by omega)
  obtain ⟨hr1, hr2⟩ := hh n r hr
  have hrl := isShort_le ps hx _ _ _ hr1.choose_spec
  have hle : le r b := by
    rcases hrs with q | q
    · omega
    · exact q
  have hle2 := hb3 r hr1 (by have := hle.1; omega)
  have e := lexlt_tri r b hle.1 hle2.2 hle.2
  subst e
  exact ⟨r, hb, hr⟩
end
end Go.Proofs.Ytgfchgnebpogjaa
