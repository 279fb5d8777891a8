/- Plain: bests can't become better for ever. No program here. · Arguments opened: a slice of integers that came in. -/
import Derived.Test.YtklhjaohnimmnaaDoorQ6
import Derived.Test.YtklhjaohnimmnaaDoorProg
import Derived.Test.YtklhjaohnimmnaaDoorQ1
import Derived.ProofKit
import Derived.OpenShut
namespace Go.Proofs.YtklhjaohnimmnaaDoor
set_option linter.unusedVariables false
set_option linter.unusedSimpArgs false

/-- A list as one number, of digits below 301. -/
def lrk (l : List Int) : Nat := l.foldl (fun a x => a * 301 + x.toNat) 0
def DigB (l : List Int) : Prop := ∀ x ∈ l, 0 ≤ x ∧ x < 301
theorem lrk_foldl : ∀ (l : List Int) (a : Nat), l.foldl (fun a x => a * 301 + x.toNat) a = a * 301 ^ l.length + lrk l
  | [], a => by simp [lrk]
  | x :: l, a => by
    rw [List.foldl_cons, lrk_foldl l]
    unfold lrk
    rw [List.foldl_cons, lrk_foldl l (0 * 301 + x.toNat), List.length_cons, Nat.pow_succ, Nat.zero_mul, Nat.zero_add, Nat.add_mul]
    have : a * 301 * 301 ^ l.length = a * (301 ^ l.length * 301) := by rw [Nat.mul_assoc, Nat.mul_comm 301]
    unfold lrk
    omega
theorem lrk_cons (x : Int) (l : List Int) : lrk (x :: l) = x.toNat * 301 ^ l.length + lrk l := by
  have := lrk_foldl l x.toNat
  unfold lrk at *
  rw [List.foldl_cons, Nat.zero_mul, Nat.zero_add, this]
theorem lrk_lt : ∀ (l : List Int), DigB l → lrk l < 301 ^ l.length
  | [], _ => by simp [lrk]
  | x :: l, h => by
    have h1 := lrk_lt l (fun y hy => h y (by simp [hy]))
    have h2 := h x (by simp)
    rw [lrk_cons, List.length_cons, Nat.pow_succ]
    have h3 : x.toNat ≤ 300 := by omega
    have := Nat.mul_le_mul_right (301 ^ l.length) h3
    omega
theorem lrk_lex : ∀ (l k : List Int), l.length = k.length → DigB l → DigB k → lexlt l k = true → lrk l < lrk k
  | [], [], _, _, _, h => by simp [lexlt] at h
  | [], _ :: _, e, _, _, _ => by simp at e
  | _ :: _, [], e, _, _, _ => by simp at e
  | x :: l, y :: k, e, hl, hk, h => by
    have e2 : l.length = k.length := by simpa using e
    simp only [lexlt, Bool.or_eq_true, Bool.and_eq_true, decide_eq_true_eq] at h
    rw [lrk_cons, lrk_cons, e2]
    have hx := hl x (by simp); have hy := hk y (by simp)
    rcases h with h | ⟨rfl, h⟩
    · have h1 := lrk_lt l (fun z hz => hl z (by simp [hz]))
      rw [e2] at h1
      have h3 : x.toNat + 1 ≤ y.toNat := by omega
      have := Nat.mul_le_mul_right (301 ^ k.length) h3
      rw [Nat.add_mul] at this
      omega
    · have := lrk_lex l k e2 (fun z hz => hl z (by simp [hz])) (fun z hz => hk z (by simp [hz])) h
      omega
/-- Best as one number: the better, the smaller. -/
def rkB (W : Nat) : Bs → Nat
  | none => (1099511627777 * 1099511627777) * W
  | some (c, n, l) => (c.toNat * 1099511627777 + n.toNat) * W + lrk l
/-- A best whose numbers are such as they are. -/
structure NumB (W : Nat) (b : Bs) : Prop where
  c : ∀ c n l, b = some (c, n, l) → 0 ≤ c ∧ c ≤ 1099511627776 ∧ 0 ≤ n ∧ n ≤ 1099511627776 ∧ DigB l ∧ lrk l < W
theorem rk_lt {W : Nat} {a b : Bs} (ha : NumB W a) (hb : NumB W b) (wa : WfB a) (wb : WfB b) (h : betB a b = true) : rkB W a < rkB W b := by
  cases a with
  | none => simp [betB] at h
  | some x =>
    obtain ⟨c, n, l⟩ := x
    obtain ⟨a1, a2, a3, a4, a5, a6⟩ := ha.c c n l rfl
    have step : ∀ p q : Nat, p + 1 ≤ q → p * W + lrk l < q * W := fun p q hpq => by
      have := Nat.mul_le_mul_right W hpq
      rw [Nat.add_mul] at this
      omega
    cases b with
    | none =>
      show (c.toNat * 1099511627777 + n.toNat) * W + lrk l < (1099511627777 * 1099511627777) * W
      exact step _ _ (by omega)
    | some y =>
      obtain ⟨d, m, k⟩ := y
      obtain ⟨b1, b2, b3, b4, b5, b6⟩ := hb.c d m k rfl
      have h' : (if c ≠ d then decide (c < d) else if n ≠ m then decide (n < m) else lexlt l k) = true := h
      show (c.toNat * 1099511627777 + n.toNat) * W + lrk l < (d.toNat * 1099511627777 + m.toNat) * W + lrk k
      by_cases q : c ≠ d
      · rw [if_pos q] at h'
        simp at h'
        exact Nat.lt_of_lt_of_le (step _ (d.toNat * 1099511627777 + m.toNat) (by omega)) (Nat.le_add_right _ _)
      · rw [if_neg q] at h'
        by_cases q2 : n ≠ m
        · rw [if_pos q2] at h'
          simp at h'
          exact Nat.lt_of_lt_of_le (step _ (d.toNat * 1099511627777 + m.toNat) (by omega)) (Nat.le_add_right _ _)
        · rw [if_neg q2] at h'
          have e1 : c = d := by omega
          have e2 : n = m := by omega
          subst e1 e2
          have := lrk_lex l k (wf_len (wa _ rfl) (wb _ rfl) rfl) a5 b5 h'
          omega
def powN (e : Nat) : Nat := 301 ^ e
theorem powN_le {a e : Nat} (h : a ≤ e) : 301 ^ a ≤ powN e := Nat.pow_le_pow_right (by omega) h
def wB : Nat := powN 1001
theorem wB_lt {l : List Int} (hd : DigB l) (h : l.length ≤ 1001) : lrk l < wB := Nat.lt_of_lt_of_le (lrk_lt l hd) (powN_le h)
theorem Snd.num {put leave : Int → Int} {R : List Int → Prop} {a : List Int} {b : Bs} (h : Snd put leave R a b) (hR : ∀ s, R s → DigB s) : NumB wB b := ⟨fun c n l e => by
  obtain ⟨s, K, h1, h2, h3, h4, h5, h6⟩ := h c n l e
  unfold farC at h4 h5
  have hd := hR s h1
  by_cases q : 1000 < n
  · rw [if_pos q] at h6
    subst h6
    exact ⟨by omega, by omega, by omega, by omega, (fun x hx => by cases hx), wB_lt (fun x hx => by cases hx) (Nat.zero_le _)⟩
  · rw [if_neg q] at h6
    subst h6
    refine ⟨by omega, by omega, by omega, by omega, hd, wB_lt hd (by omega)⟩⟩
/-- How far bests of names may still go. -/
def muV (W N : Nat) (M : BCh) (f t : Nat) : Nat := ((List.range N).map fun X => rkB W (M X f t)).sum
theorem sum_le : ∀ (l : List Nat) (g h : Nat → Nat), (∀ x ∈ l, g x ≤ h x) → (l.map g).sum ≤ (l.map h).sum
  | [], _, _, _ => Nat.le_refl _
  | x :: l, g, h, hx => by
    have h1 := sum_le l g h (fun y hy => hx y (by simp [hy]))
    have h2 := hx x (by simp)
    simp only [List.map_cons, List.sum_cons]; omega
theorem sum_lt : ∀ (l : List Nat) (g h : Nat → Nat), (∀ x ∈ l, g x ≤ h x) → (∃ x ∈ l, g x < h x) → (l.map g).sum < (l.map h).sum
  | [], _, _, _, ⟨x, hx, _⟩ => by cases hx
  | x :: l, g, h, hx, ⟨y, hy, hlt⟩ => by
    have h2 := hx x (by simp)
    simp only [List.map_cons, List.sum_cons]
    rcases List.mem_cons.1 hy with rfl | hy
    · have h1 := sum_le l g h (fun y hy => hx y (by simp [hy])); omega
    · have h1 := sum_lt l g h (fun y hy => hx y (by simp [hy])) ⟨y, hy, hlt⟩; omega
/-- A best more. -/
def updB (M : BCh) (X f t : Nat) (b : Bs) : BCh := fun Y a c => if Y = X ∧ a = f ∧ c = t then b else M Y a c
theorem updB_at {M : BCh} {X f t : Nat} {b : Bs} : updB M X f t b X f t = b := by simp [updB]
theorem updB_off {M : BCh} {X f t Y a c : Nat} {b : Bs} (h : Y ≠ X ∨ a ≠ f ∨ c ≠ t) : updB M X f t b Y a c = M Y a c := by
  unfold updB
  rw [if_neg (by omega)]
theorem muV_upd {W N : Nat} {M : BCh} {X f t : Nat} {b : Bs} (hX : X < N) (h : rkB W b < rkB W (M X f t)) : muV W N (updB M X f t b) f t < muV W N M f t := by
  unfold muV
  refine sum_lt _ _ _ (fun Y _ => ?_) ⟨X, List.mem_range.2 hX, by rw [updB_at]; exact h⟩
  by_cases e : Y = X
  · subst e; rw [updB_at]; exact Nat.le_of_lt h
  · rw [updB_off (.inl e)]; exact Nat.le_refl _
end Go.Proofs.YtklhjaohnimmnaaDoor
namespace Go.Proofs.YtklhjaohnimmnaaDoor
open Go.ChangeShapes Go.WideShapes Go.ChangeAt Go.RowKit
set_option linter.unusedVariables false
set_option linter.unusedSimpArgs false
set_option maxRecDepth 100000

/-- The value is a slice of integers in memory below the heap's end. -/
def IsInts (W : World) (v : Value) : Prop := ∃ A n c l, v = .slice A n c ∧ List.length l = n ∧ n ≤ c ∧ c ≤ maxLen ∧ RdI W W.heap.size A l ∧ ∀ x ∈ l, (Lit.int .i64 x).wf = true

theorem take_nth (zs : List Int) (n j : Nat) (h : j < n) : nth (zs.take n) j = zs.getD j 0 := by
  unfold nth
  simp [List.getD, h]

theorem open_IsInts {H : Type} {enc : TypeId × Value → H} {W : World} {base : Nat} {r : Reach} {b0 : Nat} {v : Value} {d : DataW H} {p : List MemPlace} {held : Bool}
    (hv : Value.okWide Tryd.prog W r b0 23 v) (h : DataW.Trod enc Tryd.prog W base (fun _ => true) held 23 v d p) : IsInts W v := by
  obtain ⟨a, len, cap, rfl⟩ := okWide_slice Tryd.underlying23 hv
  obtain ⟨fuel, hf⟩ := h
  rcases open_ints Tryd.underlying23 Tryd.underlying3 (by kernel_rfl) hf with ⟨hcs, _⟩ | ⟨x, l, c, zs, hcs, _, hl, hm, hz, _, hcell, hwz⟩
  · simp [Value.cells] at hcs
    obtain ⟨rfl, rfl, rfl⟩ := hcs
    exact ⟨none, 0, 0, [], rfl, rfl, Nat.le_refl _, Nat.zero_le _, Rd.nil _ _ _, fun x hx => by cases hx⟩
  · simp [Value.cells] at hcs
    obtain ⟨rfl, rfl, rfl⟩ := hcs
    have hz : zs.length = cap := by simpa using hz
    refine ⟨some x, len, cap, zs.take len, rfl, by rw [List.length_take]; omega, hl, hm, fun hne => ?_, fun n hn => hwz n (List.mem_of_mem_take hn)⟩
    have hlen : 0 < len := by
      rcases Nat.eq_zero_or_pos len with h0 | h0
      · subst h0; simp at hne
      · exact h0
    obtain ⟨b, off, spot⟩ := x
    have hc0 := hcell 0 (by omega)
    have hspot : spot = none := by simpa [Addr.add] using World.cell?_spot hc0
    subst hspot
    refine ⟨b, off, rfl, World.block_lt_of_cell? W _ hc0, fun j u hu => ?_⟩
    rw [List.getElem?_map] at hu
    have hj : j < len := by
      rcases Nat.lt_or_ge j len with h0 | h0
      · exact h0
      · rw [List.getElem?_eq_none (by rw [List.length_take]; omega)] at hu; cases hu
    rw [nth_some (by rw [List.length_take]; omega), take_nth zs len j hj] at hu
    simp at hu
    subst hu
    have := hcell j (by omega)
    have hadd : (⟨b, off, none⟩ : Addr).add j = ⟨b, off + j, none⟩ := by unfold Addr.add; split <;> simp_all
    rw [hadd] at this
    simpa using this
end Go.Proofs.YtklhjaohnimmnaaDoor
