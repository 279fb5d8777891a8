/- The document's Apart and First. · Plain: numbers as lists of parts to a base, the lowest first: sums, products, decimals. · Plain: the program's whole numbers: parts to the base 10^9; sum, product, text. -/
import Derived.Test.YtkcpfpofimkkiaaGreatDoorQ29
import Derived.Test.YtkcpfpofimkkiaaGreatDoorQ30
import Derived.Lib.ItoaNum
import Derived.Lib.Repeat
namespace Go.Proofs.YtkcpfpofimkkiaaGreatDoor
open Go.RowKit BigFrame
set_option linter.unusedVariables false
set_option linter.unusedSimpArgs false
set_option maxRecDepth 100000

/-- The text of a way. -/
def wayT (r : Option (List Int)) : ByteArray := strOfNums (txtZ (r.getD []))

set_option maxHeartbeats 4000000 in
theorem rApart_any (A A' : Option Addr) (n c n' c' : Nat) (la lb : List St) (w : World) (B : Nat) (hB : B ≤ w.heap.size) (h : (shL shState).rd w (Lo B) la [.slice A n c]) (h' : (shL shState).rd w (Lo B) lb [.slice A' n' c'])
    (hok : okA la = true) (hok' : okA lb = true) (hl : la.length = n) (hl' : lb.length = n') (hn : n ≤ 14) (hn' : n' ≤ 14) (hm : totM la ≤ 60) (hm' : totM lb ≤ 60) :
    Calls Tryz.prog 11 #[.agg #[.slice A n c], .agg #[.slice A' n' c']] w fun e w' => ∃ r, AnsN (stP la lb) ((pts 0 1114112).filter vpt) (hitD la lb (-1)) r ∧ e = .returned (.tuple #[.string (wayT r), .bool r.isSome]) ∧ Below w.heap.size w w' := by
  obtain ⟨g, hg⟩ : ∃ g, w.heap.size = g := ⟨_, rfl⟩
  obtain ⟨W0, hW0⟩ : ∃ W0, W0 = (w.alloc (.cells #[.slice A n c] 24)).alloc (.cells #[.slice A' n' c'] 24) := ⟨_, rfl⟩
  have hb0 : Below g w W0 := by rw [hW0, ← hg]; exact ((Below.refl _ _).alloc (Nat.le_refl _) _).alloc (by simp) _
  have hs0 : W0.heap.size = g + 2 := by rw [hW0, ← hg]; simp
  have HF := Lib.hid (find_any A A' n c n' c' la lb (-1) W0 B (by omega) (Sh.below h (hb0.mono (by omega))) (Sh.below h' (hb0.mono (by omega))) hok hok' hl hl' hn hn' hm hm')
  have HB0 := Lib.hid hb0; have HG := Lib.hid hg; have HS0 := Lib.hid hs0
  clear h h' hok hok' hl hl' hm hm' hb0 hs0 hg
  go_enter Tryz.func11, Tryz.ntmps11
  go_wp2_with fail
  rw [← hW0]
  clear hW0
  refine HF.out.mono ?_
  rintro e w1 ⟨r, hr, ⟨A1, l1, c1, rfl, hr1, hl1, hn1⟩, hb1⟩
  have hz1 := hb1.size
  have HTX := Lib.hid (r1Text_any A1 c1 l1.length l1 w1 w1.heap.size hr1 rfl (by omega) (Nat.le_refl _))
  rw [hl1] at HTX
  have HR := Lib.hid hr
  have HB1 := Lib.hid (HB0.out.trans (hb1.mono (by have := HS0.out; omega)))
  have HWT : Hid (wayT r = strOfNums (txtZ (r.getD []))) := Lib.hid rfl
  rw [← HWT.out] at HTX
  rw [hl1]
  generalize (r.getD []).length = nn at *
  obtain ⟨tx, htx⟩ : ∃ tx, tx = wayT r := ⟨_, rfl⟩
  rw [← htx] at HTX
  have HTE := Lib.hid htx
  clear hr hr1 hl1 hn1 hb1 HF htx
  go_wp2_with fail
  refine HTX.out.mono ?_
  rintro e w2 ⟨rfl, hb2⟩
  have HB2 := Lib.hid (HB1.out.trans (hb2.mono (by have := HS0.out; omega)))
  clear hb2 HTX
  go_wp2_with fail
  go_ret2
  exact ⟨r, HR.out, by rw [← HTE.out]; rfl, by rw [HG.out]; exact HB2.out⟩

/-- What First answers: by the document, by points. -/
def FirR (l : List St) (rule : Int) (r : Option (List Int)) : Prop := (rule < 0 ∧ r = none) ∨ (0 ≤ rule ∧ AnsN (stP l l) ((pts 0 1114112).filter vpt) (hitD l l rule) r)
set_option maxHeartbeats 4000000 in
theorem rFirst_any (A : Option Addr) (n c : Nat) (l : List St) (rule : Int) (w : World) (B : Nat) (hB : B ≤ w.heap.size) (h : (shL shState).rd w (Lo B) l [.slice A n c])
    (hok : okA l = true) (hl : l.length = n) (hn : n ≤ 14) (hm : totM l ≤ 60) :
    Calls Tryz.prog 9 #[.agg #[.slice A n c], .int .i64 rule] w fun e w' => ∃ r, FirR l rule r ∧ e = .returned (.tuple #[.string (wayT r), .bool r.isSome]) ∧ Below w.heap.size w w' := by
  obtain ⟨g, hg⟩ : ∃ g, w.heap.size = g := ⟨_, rfl⟩
  obtain ⟨W0, hW0⟩ : ∃ W0, W0 = w.alloc (.cells #[.slice A n c] 24) := ⟨_, rfl⟩
  have hb0 : Below g w W0 := by rw [hW0, ← hg]; exact (Below.refl _ _).alloc (Nat.le_refl _) _
  have hs0 : W0.heap.size = g + 1 := by rw [hW0, ← hg]; simp
  have HB0 := Lib.hid hb0; have HG := Lib.hid hg; have HS0 := Lib.hid hs0
  by_cases hr0 : rule < 0
  · have d0 : decide (rule < 0) = true := decide_eq_true hr0
    have HFR : Hid (FirR l rule none) := Lib.hid (.inl ⟨hr0, rfl⟩)
    clear h hok hl hm hb0 hs0 hg
    go_enter Tryz.func9, Tryz.ntmps9
    go_wp2_with fail
    rw [← hW0]
    clear hW0
    go_ret2
    exact ⟨none, HFR.out, rfl, by rw [HG.out]; exact HB0.out⟩
  have d0 : decide (rule < 0) = false := decide_eq_false hr0
  have HF := Lib.hid (find_any A A n c n c l l rule W0 B (by omega) (Sh.below h (hb0.mono (by omega))) (Sh.below h (hb0.mono (by omega))) hok hok hl hl hn hn hm hm)
  clear h hok hl hm hb0 hs0 hg
  go_enter Tryz.func9, Tryz.ntmps9
  go_wp2_with fail
  rw [← hW0]
  clear hW0
  refine HF.out.mono ?_
  rintro e w1 ⟨r, hr, ⟨A1, l1, c1, rfl, hr1, hl1, hn1⟩, hb1⟩
  have hz1 := hb1.size
  have HTX := Lib.hid (r1Text_any A1 c1 l1.length l1 w1 w1.heap.size hr1 rfl (by omega) (Nat.le_refl _))
  rw [hl1] at HTX
  have HR : Hid (FirR l rule r) := Lib.hid (.inr ⟨by omega, hr⟩)
  have HB1 := Lib.hid (HB0.out.trans (hb1.mono (by have := HS0.out; omega)))
  have HWT : Hid (wayT r = strOfNums (txtZ (r.getD []))) := Lib.hid rfl
  rw [← HWT.out] at HTX
  rw [hl1]
  generalize (r.getD []).length = nn at *
  obtain ⟨tx, htx⟩ : ∃ tx, tx = wayT r := ⟨_, rfl⟩
  rw [← htx] at HTX
  have HTE := Lib.hid htx
  clear hr hr1 hl1 hn1 hb1 HF htx
  go_wp2_with fail
  refine HTX.out.mono ?_
  rintro e w2 ⟨rfl, hb2⟩
  have HB2 := Lib.hid (HB1.out.trans (hb2.mono (by have := HS0.out; omega)))
  clear hb2 HTX
  go_wp2_with fail
  go_ret2
  exact ⟨r, HR.out, by rw [← HTE.out]; rfl, by rw [HG.out]; exact HB2.out⟩
end Go.Proofs.YtkcpfpofimkkiaaGreatDoor
namespace Go.Proofs.YtkcpfpofimkkiaaGreatDoor
set_option linter.unusedVariables false
set_option linter.unusedSimpArgs false

/-- The value of a list of parts, the lowest first. -/
def vB (b : Nat) : List Nat → Nat
  | [] => 0
  | d :: t => d + b * vB b t
theorem vB_app (b : Nat) : ∀ (l m : List Nat), vB b (l ++ m) = vB b l + b ^ l.length * vB b m
  | [], m => by simp [vB]
  | d :: t, m => by
    simp only [List.cons_append, vB, List.length_cons, vB_app b t m, Nat.mul_add, Nat.pow_succ]
    rw [Nat.mul_comm (b ^ t.length) b, Nat.mul_assoc, Nat.add_assoc]
theorem vB_one (b d : Nat) : vB b [d] = d := by simp [vB]
theorem vB_snoc (b : Nat) (l : List Nat) (d : Nat) : vB b (l ++ [d]) = vB b l + b ^ l.length * d := by rw [vB_app, vB_one]
theorem vB_lt {b : Nat} : ∀ {l : List Nat}, (∀ d ∈ l, d < b) → vB b l < b ^ l.length
  | [], _ => by simp [vB]
  | d :: t, h => by
    have h1 := vB_lt (l := t) (fun x hx => h x (List.mem_cons_of_mem _ hx))
    have h2 : d < b := h d List.mem_cons_self
    have h3 : b * (vB b t + 1) ≤ b * b ^ t.length := Nat.mul_le_mul_left b h1
    simp only [vB, List.length_cons, Nat.pow_succ]
    rw [Nat.mul_comm (b ^ t.length) b]
    rw [Nat.mul_add] at h3
    omega
theorem vB_zeros (b : Nat) : ∀ n, vB b (List.replicate n 0) = 0
  | 0 => rfl
  | n + 1 => by simp [List.replicate_succ, vB, vB_zeros b n]
theorem vB_set {b : Nat} : ∀ {l : List Nat} {i : Nat} {d : Nat}, i < l.length → vB b (l.set i d) + b ^ i * l.getD i 0 = vB b l + b ^ i * d
  | x :: t, 0, d, _ => by simp [vB]; omega
  | x :: t, i + 1, d, h => by
    have h1 := vB_set (b := b) (l := t) (i := i) (d := d) (by simpa using h)
    simp only [List.set_cons_succ, vB, List.getD_cons_succ, Nat.pow_succ]
    rw [Nat.mul_comm (b ^ i) b, Nat.mul_assoc, Nat.mul_assoc, Nat.add_assoc, Nat.add_assoc, ← Nat.mul_add, ← Nat.mul_add, h1]
theorem vB_take_get (b : Nat) (l : List Nat) {i : Nat} {x : Nat} (h : l[i]? = some x) : vB b (l.take (i + 1)) = vB b (l.take i) + b ^ i * x := by
  obtain ⟨hi, rfl⟩ := List.getElem?_eq_some_iff.1 h
  rw [List.take_add_one, h]
  simp only [Option.toList_some]
  rw [vB_snoc, List.length_take, Nat.min_eq_left (Nat.le_of_lt hi)]

/-- Decimal parts times a small number, and what is carried. -/
def tby (n : Nat) : List Nat → Nat → List Nat
  | d :: t, c => (c + d * n) % 10 :: tby n t ((c + d * n) / 10)
  | [], c => if h : c = 0 then [] else c % 10 :: tby n [] (c / 10)
termination_by l c => (l.length, c)
decreasing_by
  · left; simp
  · right; omega
theorem tby_cons (n d : Nat) (t : List Nat) (c : Nat) : tby n (d :: t) c = (c + d * n) % 10 :: tby n t ((c + d * n) / 10) := by rw [tby]
theorem tby_nil0 (n : Nat) : tby n [] 0 = [] := by rw [tby, dif_pos rfl]
theorem tby_nil (n : Nat) {c : Nat} (h : 0 < c) : tby n [] c = c % 10 :: tby n [] (c / 10) := by rw [tby, dif_neg (by omega)]
theorem tby_val_nil (n : Nat) : ∀ (N c : Nat), c ≤ N → vB 10 (tby n [] c) = c
  | 0, c, h => by obtain rfl : c = 0 := by omega
                  rw [tby_nil0]; rfl
  | N + 1, c, h => by
    by_cases h0 : c = 0
    · rw [h0, tby_nil0]; rfl
    · rw [tby_nil n (by omega), vB, tby_val_nil n N (c / 10) (by omega)]
      omega
theorem tby_val (n : Nat) : ∀ (l : List Nat) (c : Nat), vB 10 (tby n l c) = c + n * vB 10 l
  | [], c => by rw [tby_val_nil n c c (Nat.le_refl _)]; simp [vB]
  | d :: t, c => by
    rw [tby_cons, vB, tby_val n t, vB, Nat.mul_add, Nat.mul_add, ← Nat.mul_assoc, ← Nat.mul_assoc, Nat.mul_comm d n, Nat.mul_comm n 10]
    omega
theorem tby_small_nil (n : Nat) : ∀ (N c : Nat), c ≤ N → ∀ d ∈ tby n [] c, d < 10
  | 0, c, h => by obtain rfl : c = 0 := by omega
                  rw [tby_nil0]; simp
  | N + 1, c, h => by
    by_cases h0 : c = 0
    · rw [h0, tby_nil0]; simp
    · rw [tby_nil n (by omega)]
      intro d hd
      rcases List.mem_cons.1 hd with rfl | hd
      · omega
      · exact tby_small_nil n N (c / 10) (by omega) d hd
theorem tby_small (n : Nat) : ∀ (l : List Nat) (c : Nat), ∀ d ∈ tby n l c, d < 10
  | [], c => tby_small_nil n c c (Nat.le_refl _)
  | d :: t, c => by
    rw [tby_cons]
    intro x hx
    rcases List.mem_cons.1 hx with rfl | hx
    · omega
    · exact tby_small n t _ x hx
theorem tby_len_nil (n : Nat) : ∀ (k c : Nat), c < 10 ^ k → (tby n [] c).length ≤ k
  | 0, c, h => by obtain rfl : c = 0 := by simpa using h
                  rw [tby_nil0]; simp
  | k + 1, c, h => by
    by_cases h0 : c = 0
    · rw [h0, tby_nil0]; simp
    · rw [tby_nil n (by omega), List.length_cons]
      have := tby_len_nil n k (c / 10) (by rw [Nat.pow_succ] at h; omega)
      omega
theorem tby_len (n k : Nat) (hn : n < 10 ^ k) : ∀ (l : List Nat) (c : Nat), (∀ d ∈ l, d < 10) → c ≤ n → (tby n l c).length ≤ l.length + k
  | [], c, _, hc => by have := tby_len_nil n k c (by omega); simpa using this
  | d :: t, c, hl, hc => by
    rw [tby_cons, List.length_cons, List.length_cons]
    have hd : d < 10 := hl d List.mem_cons_self
    have h2 : d * n ≤ 9 * n := Nat.mul_le_mul_right n (by omega)
    have := tby_len n k hn t ((c + d * n) / 10) (fun x hx => hl x (List.mem_cons_of_mem _ hx)) (by omega)
    omega
/-- The carry stays small. -/
theorem tby_carry {n c d : Nat} (hd : d < 10) (hc : c ≤ n) : (c + d * n) / 10 ≤ n := by
  have h2 : d * n ≤ 9 * n := Nat.mul_le_mul_right n (by omega)
  omega

/-- Decimal parts added, and what is carried. -/
def pls : List Nat → List Nat → Nat → List Nat
  | x :: a, y :: b, c => (c + x + y) % 10 :: pls a b ((c + x + y) / 10)
  | x :: a, [], c => (c + x) % 10 :: pls a [] ((c + x) / 10)
  | [], y :: b, c => (c + y) % 10 :: pls [] b ((c + y) / 10)
  | [], [], c => if h : c = 0 then [] else c % 10 :: pls [] [] (c / 10)
termination_by a b c => (a.length + b.length, c)
decreasing_by
  · left; simp; omega
  · left; simp
  · left; simp
  · right; omega
theorem pls_cc (x y : Nat) (a b : List Nat) (c : Nat) : pls (x :: a) (y :: b) c = (c + x + y) % 10 :: pls a b ((c + x + y) / 10) := by rw [pls]
theorem pls_cn (x : Nat) (a : List Nat) (c : Nat) : pls (x :: a) [] c = (c + x) % 10 :: pls a [] ((c + x) / 10) := by rw [pls]
theorem pls_nc (y : Nat) (b : List Nat) (c : Nat) : pls [] (y :: b) c = (c + y) % 10 :: pls [] b ((c + y) / 10) := by rw [pls]
theorem pls_nn0 : pls [] [] 0 = [] := by rw [pls, dif_pos rfl]
theorem pls_nn {c : Nat} (h : 0 < c) : pls [] [] c = c % 10 :: pls [] [] (c / 10) := by rw [pls, dif_neg (by omega)]
/-- What one round adds. -/
theorem pls_round (a b : List Nat) (c : Nat) (h : a ≠ [] ∨ b ≠ [] ∨ 0 < c) : pls a b c = (c + a.headD 0 + b.headD 0) % 10 :: pls a.tail b.tail ((c + a.headD 0 + b.headD 0) / 10) := by
  match a, b with
  | x :: a, y :: b => rw [pls_cc]; rfl
  | x :: a, [] => rw [pls_cn]; rfl
  | [], y :: b => rw [pls_nc]; rfl
  | [], [] =>
    rw [pls_nn (by simpa using h)]; rfl
theorem vB_head (b : Nat) (l : List Nat) : vB b l = l.headD 0 + b * vB b l.tail := by cases l <;> simp [vB]
theorem head_lt {b : Nat} {l : List Nat} (hb : 0 < b) (h : ∀ d ∈ l, d < b) : l.headD 0 < b := by
  cases l with
  | nil => simpa using hb
  | cons x a => exact h x List.mem_cons_self
theorem pls_val_nn : ∀ (N c : Nat), c ≤ N → vB 10 (pls [] [] c) = c ∧ ∀ d ∈ pls [] [] c, d < 10
  | 0, c, h => by obtain rfl : c = 0 := by omega
                  rw [pls_nn0]; simp [vB]
  | N + 1, c, h => by
    by_cases h0 : c = 0
    · rw [h0, pls_nn0]; simp [vB]
    · obtain ⟨h1, h2⟩ := pls_val_nn N (c / 10) (by omega)
      rw [pls_nn (by omega), vB, h1]
      refine ⟨by omega, fun d hd => ?_⟩
      rcases List.mem_cons.1 hd with rfl | hd
      · omega
      · exact h2 d hd
theorem pls_val : ∀ (N : Nat) (a b : List Nat) (c : Nat), a.length + b.length ≤ N → vB 10 (pls a b c) = c + vB 10 a + vB 10 b ∧ ∀ d ∈ pls a b c, d < 10
  | 0, a, b, c, hN => by
    obtain rfl : a = [] := List.length_eq_zero_iff.1 (by omega)
    obtain rfl : b = [] := List.length_eq_zero_iff.1 (by simpa using hN)
    have := pls_val_nn c c (Nat.le_refl _)
    simpa [vB] using this
  | N + 1, a, b, c, hN => by
    by_cases h : a ≠ [] ∨ b ≠ []
    · rw [pls_round a b c (by rcases h with h | h; exact Or.inl h; exact Or.inr (Or.inl h))]
      have hl : a.tail.length + b.tail.length ≤ N := by
        simp only [List.length_tail]
        rcases h with h | h
        · have := List.length_pos_iff.2 h; omega
        · have := List.length_pos_iff.2 h; omega
      obtain ⟨h1, h2⟩ := pls_val N a.tail b.tail ((c + a.headD 0 + b.headD 0) / 10) hl
      refine ⟨?_, ?_⟩
      · rw [vB, h1, vB_head 10 a, vB_head 10 b]
        omega
      · intro d hd
        rcases List.mem_cons.1 hd with rfl | hd
        · omega
        · exact h2 d hd
    · have h1 : a = [] := Classical.byContradiction fun q => h (Or.inl q)
      have h2 : b = [] := Classical.byContradiction fun q => h (Or.inr q)
      have := pls_val_nn c c (Nat.le_refl _)
      rw [h1, h2]
      simpa [vB] using this
theorem pls_len : ∀ (N : Nat) (a b : List Nat) (c : Nat), a.length ≤ N → b.length ≤ N → (∀ d ∈ a, d < 10) → (∀ d ∈ b, d < 10) → c ≤ 1 → (pls a b c).length ≤ N + 1
  | 0, a, b, c, h1, h2, _, _, hc => by
    obtain rfl : a = [] := List.length_eq_zero_iff.1 (by omega)
    obtain rfl : b = [] := List.length_eq_zero_iff.1 (by omega)
    by_cases h0 : c = 0
    · rw [h0, pls_nn0]; simp
    · obtain rfl : c = 1 := by omega
      rw [pls_nn (by omega), show 1 / 10 = 0 from rfl, pls_nn0]; simp
  | N + 1, a, b, c, h1, h2, ha, hb, hc => by
    by_cases h : a ≠ [] ∨ b ≠ [] ∨ 0 < c
    · rw [pls_round a b c h, List.length_cons]
      have ha1 := head_lt (by decide) ha
      have hb1 := head_lt (by decide) hb
      have := pls_len N a.tail b.tail ((c + a.headD 0 + b.headD 0) / 10) (by rw [List.length_tail]; omega) (by rw [List.length_tail]; omega) (fun d hd => ha d (List.mem_of_mem_tail hd)) (fun d hd => hb d (List.mem_of_mem_tail hd)) (by omega)
      omega
    · have h1 : a = [] := Classical.byContradiction fun q => h (Or.inl q)
      have h2 : b = [] := Classical.byContradiction fun q => h (Or.inr (Or.inl q))
      have h3 : c = 0 := by omega
      rw [h1, h2, h3, pls_nn0]; simp

theorem vB_zero {b : Nat} : ∀ {l : List Nat}, vB b l = 0 → 0 < b → ∀ d ∈ l, d = 0
  | [], _, _, d, hd => by simp at hd
  | x :: t, h, hb, d, hd => by
    simp only [vB] at h
    have h1 : b * vB b t = 0 := by omega
    have h2 : vB b t = 0 := by
      rcases Nat.mul_eq_zero.1 h1 with h | h
      · omega
      · exact h
    rcases List.mem_cons.1 hd with rfl | hd
    · omega
    · exact vB_zero h2 hb d hd

/-! Decimals. -/
def dg (u : Nat) : UInt8 := UInt8.ofNat (48 + u % 10)
theorem dd_big (u : Nat) (h : ¬ u < 10) : Lib.decDigits u = Lib.decDigits (u / 10) ++ [dg u] := by rw [Lib.decDigits, dif_neg h]; rfl
theorem dd_small (u : Nat) (h : u < 10) : Lib.decDigits u = [dg u] := by rw [Lib.decDigits, dif_pos h]; unfold dg; rw [Nat.mod_eq_of_lt h]
/-- Decimal parts, the last one not 0: their decimal is the parts from behind. -/
theorem dd_parts : ∀ (l : List Nat), (∀ d ∈ l, d < 10) → ∀ h : l ≠ [], l.getLast h ≠ 0 → Lib.decDigits (vB 10 l) = l.reverse.map dg
  | [x], hl, h, h0 => by
    rw [vB_one, dd_small x (hl x List.mem_cons_self)]; rfl
  | x :: y :: t, hl, h, h0 => by
    have hx : x < 10 := hl x List.mem_cons_self
    have ih := dd_parts (y :: t) (fun d hd => hl d (List.mem_cons_of_mem _ hd)) (by simp) (by rw [List.getLast_cons (by simp)] at h0; exact h0)
    have hv : vB 10 (x :: y :: t) = x + 10 * vB 10 (y :: t) := rfl
    have hpos : 0 < vB 10 (y :: t) := by
      by_cases hz : vB 10 (y :: t) = 0
      · have e1 : Lib.decDigits (vB 10 (y :: t)) = [dg 0] := by rw [hz]; exact dd_small 0 (by decide)
        exact absurd (vB_zero hz (by decide) _ (List.getLast_mem (by simp))) (by rw [List.getLast_cons (by simp)] at h0; exact h0)
      · omega
    rw [dd_big _ (by omega), hv]
    have e2 : (x + 10 * vB 10 (y :: t)) / 10 = vB 10 (y :: t) := by omega
    have e3 : dg (x + 10 * vB 10 (y :: t)) = dg x := by unfold dg; congr 2; omega
    rw [e2, ih, e3, List.reverse_cons (a := x), List.map_append]
    rfl
end Go.Proofs.YtkcpfpofimkkiaaGreatDoor
namespace Go.Proofs.YtkcpfpofimkkiaaGreatDoor
set_option linter.unusedVariables false
set_option linter.unusedSimpArgs false

/-- A number in its parts: each below the base, the last one not 0. -/
structure Nm (l : List Nat) : Prop where
  d : ∀ x ∈ l, x < 1000000000
  n : l = [] ∨ 1000000000 ^ (l.length - 1) ≤ vB 1000000000 l
theorem Nm.nil : Nm [] := ⟨fun x hx => by simp at hx, Or.inl rfl⟩
theorem Nm.pos {l : List Nat} (h : Nm l) (hl : l ≠ []) : 0 < vB 1000000000 l := by
  rcases h.n with h | h
  · exact absurd h hl
  · exact Nat.lt_of_lt_of_le (Nat.pow_pos (by decide)) h
theorem Nm.last {l : List Nat} {x : Nat} (h : Nm (l ++ [x])) : 0 < x := by
  rcases h.n with q | q
  · simp at q
  · rw [vB_snoc] at q
    have h1 : vB 1000000000 l < 1000000000 ^ l.length := vB_lt (fun y hy => h.d y (List.mem_append_left _ hy))
    simp only [List.length_append, List.length_singleton, Nat.add_sub_cancel] at q
    rcases Nat.eq_zero_or_pos x with hx | hx
    · rw [hx, Nat.mul_zero] at q; omega
    · exact hx
theorem Nm.of_last {l : List Nat} {x : Nat} (hl : ∀ y ∈ l, y < 1000000000) (hx : 0 < x) (hx2 : x < 1000000000) : Nm (l ++ [x]) := by
  refine ⟨fun y hy => ?_, Or.inr ?_⟩
  · rcases List.mem_append.1 hy with hy | hy
    · exact hl y hy
    · rw [List.mem_singleton] at hy; rw [hy]; exact hx2
  · rw [vB_snoc]
    simp only [List.length_append, List.length_singleton, Nat.add_sub_cancel]
    exact Nat.le_trans (Nat.le_mul_of_pos_right _ hx) (Nat.le_add_left _ _)

/-- The parts of a small number. -/
def ofN (n : Nat) : List Nat := if h : n = 0 then [] else n % 1000000000 :: ofN (n / 1000000000)
termination_by n
decreasing_by omega
theorem ofN_zero : ofN 0 = [] := by rw [ofN, dif_pos rfl]
theorem ofN_pos {n : Nat} (h : 0 < n) : ofN n = n % 1000000000 :: ofN (n / 1000000000) := by rw [ofN, dif_neg (by omega)]
theorem ofN_one {n : Nat} (h : 0 < n) (h2 : n < 1000000000) : ofN n = [n] := by
  rw [ofN_pos h, Nat.div_eq_of_lt h2, Nat.mod_eq_of_lt h2, ofN_zero]
theorem ofN_Nm1 {n : Nat} (h : 0 < n) (h2 : n < 1000000000) : Nm (ofN n) := by
  rw [ofN_one h h2]; exact Nm.of_last (l := []) (fun y hy => by simp at hy) h h2
theorem ofN_val1 {n : Nat} (h : 0 < n) (h2 : n < 1000000000) : vB 1000000000 (ofN n) = n := by rw [ofN_one h h2, vB_one]

/-- A sum under way: what is added so far, and the carry. -/
structure SmI (a b : List Nat) (i : Nat) (out : List Nat) (c : Nat) : Prop where
  l : out.length = i
  d : ∀ x ∈ out, x < 1000000000
  cy : c ≤ 1
  v : vB 1000000000 out + 1000000000 ^ i * c = vB 1000000000 (a.take i) + vB 1000000000 (b.take i)
theorem SmI.start (a b : List Nat) : SmI a b 0 [] 0 := ⟨rfl, fun x hx => by simp at hx, by decide, by simp [vB]⟩
theorem vB_take_getD (b : Nat) (l : List Nat) (i : Nat) : vB b (l.take (i + 1)) = vB b (l.take i) + b ^ i * l.getD i 0 := by
  by_cases h : i < l.length
  · rw [vB_take_get b l (List.getElem?_eq_getElem h), List.getD_eq_getElem?_getD, List.getElem?_eq_getElem h]; rfl
  · rw [List.take_of_length_le (by omega), List.take_of_length_le (by omega), List.getD_eq_getElem?_getD, List.getElem?_eq_none (by omega)]; simp
theorem getD_lt {l : List Nat} {b : Nat} (hb : 0 < b) (h : ∀ x ∈ l, x < b) (i : Nat) : l.getD i 0 < b := by
  by_cases hi : i < l.length
  · rw [List.getD_eq_getElem?_getD, List.getElem?_eq_getElem hi]; exact h _ (List.getElem_mem hi)
  · rw [List.getD_eq_getElem?_getD, List.getElem?_eq_none (by omega)]; exact hb
theorem SmI.step {a b : List Nat} {i : Nat} {out : List Nat} {c : Nat} (h : SmI a b i out c) (ha : ∀ x ∈ a, x < 1000000000) (hb : ∀ x ∈ b, x < 1000000000) :
    SmI a b (i + 1) (out ++ [(c + a.getD i 0 + b.getD i 0) % 1000000000]) ((c + a.getD i 0 + b.getD i 0) / 1000000000) := by
  have h1 := getD_lt (by decide) ha i
  have h2 := getD_lt (by decide) hb i
  have hc := h.cy
  refine ⟨by rw [List.length_append, h.l]; rfl, fun x hx => ?_, by omega, ?_⟩
  · rcases List.mem_append.1 hx with hx | hx
    · exact h.d x hx
    · rw [List.mem_singleton] at hx; rw [hx]; exact Nat.mod_lt _ (by decide)
  · rw [vB_snoc, vB_take_getD, vB_take_getD, h.l, Nat.pow_succ]
    have hv := h.v
    have e : c + a.getD i 0 + b.getD i 0 = (c + a.getD i 0 + b.getD i 0) % 1000000000 + 1000000000 * ((c + a.getD i 0 + b.getD i 0) / 1000000000) := by omega
    generalize (c + a.getD i 0 + b.getD i 0) % 1000000000 = r at *
    generalize (c + a.getD i 0 + b.getD i 0) / 1000000000 = q at *
    generalize 1000000000 ^ i = p at *
    have e2 : p * (c + a.getD i 0 + b.getD i 0) = p * (r + 1000000000 * q) := by rw [← e]
    rw [Nat.mul_add, Nat.mul_add, Nat.mul_add, ← Nat.mul_assoc] at e2
    omega
theorem SmI.done {a b out : List Nat} {c : Nat} (h : SmI a b (max a.length b.length) out c) (ha : Nm a) (hb : Nm b) :
    (c = 0 → Nm out ∧ vB 1000000000 out = vB 1000000000 a + vB 1000000000 b) ∧ (0 < c → Nm (out ++ [c]) ∧ vB 1000000000 (out ++ [c]) = vB 1000000000 a + vB 1000000000 b) := by
  have hv := h.v
  rw [List.take_of_length_le (Nat.le_max_left _ _), List.take_of_length_le (Nat.le_max_right _ _)] at hv
  refine ⟨fun hc => ?_, fun hc => ⟨Nm.of_last h.d hc (by have := h.cy; omega), by rw [vB_snoc, h.l]; exact hv⟩⟩
  rw [hc, Nat.mul_zero, Nat.add_zero] at hv
  refine ⟨⟨h.d, ?_⟩, hv⟩
  rw [hv, h.l]
  by_cases hab : a.length ≤ b.length
  · rw [Nat.max_eq_right hab]
    rcases hb.n with q | q
    · left
      refine List.length_eq_zero_iff.1 ?_
      rw [h.l, Nat.max_eq_right hab, q]; rfl
    · right; omega
  · rw [Nat.max_eq_left (by omega)]
    rcases ha.n with q | q
    · rw [q] at hab; simp at hab
    · right; omega

/-- A product under way: one row of it. -/
structure RwI (out0 : List Nat) (b : List Nat) (x i k : Nat) (out : List Nat) (c : Nat) : Prop where
  l : out.length = out0.length
  d : ∀ y ∈ out, y < 1000000000
  cy : c < 1000000000
  v : vB 1000000000 out + 1000000000 ^ (i + k) * c = vB 1000000000 out0 + 1000000000 ^ i * (x * vB 1000000000 (b.take k))
  z : ∀ j, i + k ≤ j → out.getD j 0 = out0.getD j 0
theorem RwI.start {out0 b : List Nat} {x i : Nat} (h : ∀ y ∈ out0, y < 1000000000) : RwI out0 b x i 0 out0 0 := ⟨rfl, h, by decide, by simp [vB], fun _ _ => rfl⟩
theorem mul_part {o x y c : Nat} (ho : o < 1000000000) (hx : x < 1000000000) (hy : y < 1000000000) (hc : c < 1000000000) : (c + (o + x * y)) / 1000000000 < 1000000000 ∧ c + (o + x * y) < 1000000000000000000 := by
  have h : x * y ≤ 999999999 * 999999999 := Nat.mul_le_mul (by omega) (by omega)
  omega
theorem getD_set_ne {l : List Nat} {i j d : Nat} (h : i ≠ j) : (l.set i d).getD j 0 = l.getD j 0 := by
  rw [List.getD_eq_getElem?_getD, List.getD_eq_getElem?_getD, List.getElem?_set_ne h]
theorem set_lt {l : List Nat} {i d : Nat} {b : Nat} (h : ∀ y ∈ l, y < b) (hd : d < b) : ∀ y ∈ l.set i d, y < b := fun y hy => by
  rcases List.mem_or_eq_of_mem_set hy with q | q
  · exact h y q
  · rw [q]; exact hd
theorem RwI.step {out0 b : List Nat} {x i k : Nat} {out : List Nat} {c : Nat} (h : RwI out0 b x i k out c) (hx : x < 1000000000) (hb : ∀ y ∈ b, y < 1000000000) (hk : k < b.length) (hl : i + b.length < out0.length + 1) :
    RwI out0 b x i (k + 1) (out.set (i + k) ((c + (out.getD (i + k) 0 + x * b.getD k 0)) % 1000000000)) ((c + (out.getD (i + k) 0 + x * b.getD k 0)) / 1000000000) := by
  have hy := getD_lt (by decide) hb k
  have ho := getD_lt (by decide) h.d (i + k)
  have hm := mul_part ho hx hy h.cy
  have hi : i + k < out.length := by rw [h.l]; omega
  refine ⟨by rw [List.length_set, h.l], set_lt h.d (Nat.mod_lt _ (by decide)), hm.1, ?_, fun j hj => ?_⟩
  · have hs := vB_set (b := 1000000000) (d := (c + (out.getD (i + k) 0 + x * b.getD k 0)) % 1000000000) hi
    rw [vB_take_getD]
    have hv := h.v
    have e : c + (out.getD (i + k) 0 + x * b.getD k 0) = (c + (out.getD (i + k) 0 + x * b.getD k 0)) % 1000000000 + 1000000000 * ((c + (out.getD (i + k) 0 + x * b.getD k 0)) / 1000000000) := by omega
    generalize (c + (out.getD (i + k) 0 + x * b.getD k 0)) % 1000000000 = r at *
    generalize (c + (out.getD (i + k) 0 + x * b.getD k 0)) / 1000000000 = q at *
    have e2 : 1000000000 ^ (i + k) * (c + (out.getD (i + k) 0 + x * b.getD k 0)) = 1000000000 ^ (i + k) * (r + 1000000000 * q) := by rw [← e]
    have e3 : 1000000000 ^ i * (x * (vB 1000000000 (b.take k) + 1000000000 ^ k * b.getD k 0)) = 1000000000 ^ i * (x * vB 1000000000 (b.take k)) + 1000000000 ^ (i + k) * (x * b.getD k 0) := by
      rw [Nat.mul_add, Nat.mul_add, Nat.pow_add, Nat.mul_assoc, Nat.mul_left_comm x]
    have e4 : 1000000000 ^ (i + (k + 1)) * q = 1000000000 ^ (i + k) * (1000000000 * q) := by rw [← Nat.add_assoc, Nat.pow_succ, Nat.mul_assoc]
    rw [e3, e4]
    rw [Nat.mul_add, Nat.mul_add, Nat.mul_add] at e2
    generalize 1000000000 ^ (i + k) * (1000000000 * q) = A1 at *
    generalize 1000000000 ^ (i + k) * (x * b.getD k 0) = A2 at *
    generalize 1000000000 ^ (i + k) * out.getD (i + k) 0 = A3 at *
    generalize 1000000000 ^ (i + k) * r = A4 at *
    generalize 1000000000 ^ (i + k) * c = A5 at *
    generalize 1000000000 ^ i * (x * vB 1000000000 (b.take k)) = A6 at *
    omega
  · rw [getD_set_ne (by omega)]; exact h.z j (by omega)
/-- A product under way: rows done. -/
structure PrI (a b : List Nat) (i : Nat) (out : List Nat) : Prop where
  l : out.length = a.length + b.length
  d : ∀ y ∈ out, y < 1000000000
  v : vB 1000000000 out = vB 1000000000 (a.take i) * vB 1000000000 b
  z : ∀ j, i + b.length ≤ j → out.getD j 0 = 0
theorem PrI.start (a b : List Nat) : PrI a b 0 (List.replicate (a.length + b.length) 0) := by
  refine ⟨by simp, fun y hy => by rw [(List.mem_replicate.1 hy).2]; decide, by rw [vB_zeros]; simp [vB], fun j _ => ?_⟩
  rw [List.getD_eq_getElem?_getD, List.getElem?_replicate]
  by_cases q : j < a.length + b.length
  · rw [if_pos q]; rfl
  · rw [if_neg q]; rfl
theorem PrI.row {a b : List Nat} {i : Nat} {out0 out : List Nat} {c : Nat} (h : PrI a b i out0) (hi : i < a.length) (hr : RwI out0 b (a.getD i 0) i b.length out c) : PrI a b (i + 1) (out.set (i + b.length) c) := by
  have hs := vB_set (b := 1000000000) (l := out) (i := i + b.length) (d := c) (by rw [hr.l, h.l]; omega)
  have h0 : out.getD (i + b.length) 0 = 0 := by rw [hr.z _ (Nat.le_refl _)]; exact h.z _ (Nat.le_refl _)
  rw [h0, Nat.mul_zero, Nat.add_zero] at hs
  refine ⟨by rw [List.length_set, hr.l, h.l], set_lt hr.d hr.cy, ?_, fun j hj => ?_⟩
  · rw [hs, hr.v, h.v, vB_take_getD, List.take_of_length_le (Nat.le_refl _), Nat.add_mul, Nat.mul_assoc]
  · rw [getD_set_ne (by omega), hr.z j (by omega)]; exact h.z j (by omega)
theorem PrI.done {a b out : List Nat} (h : PrI a b a.length out) (ha : Nm a) (hb : Nm b) (ha0 : a ≠ []) (hb0 : b ≠ []) :
    (∃ o x, out = o ++ [x] ∧ o.length + 1 = a.length + b.length ∧ (x ≠ 0 → Nm out) ∧ (x = 0 → Nm o ∧ vB 1000000000 o = vB 1000000000 a * vB 1000000000 b)) ∧ vB 1000000000 out = vB 1000000000 a * vB 1000000000 b := by
  have hv := h.v
  rw [List.take_of_length_le (Nat.le_refl _)] at hv
  refine ⟨?_, hv⟩
  have la : 0 < a.length := List.length_pos_iff.2 ha0
  have lb : 0 < b.length := List.length_pos_iff.2 hb0
  have hne : out ≠ [] := fun q => by have := h.l; rw [q] at this; simp at this; omega
  refine ⟨out.dropLast, out.getLast hne, (List.dropLast_concat_getLast hne).symm, by rw [List.length_dropLast, h.l]; omega, fun hx => ?_, fun hx => ?_⟩
  · rw [← List.dropLast_concat_getLast hne]
    exact Nm.of_last (fun y hy => h.d y (List.dropLast_subset _ hy)) (by omega) (h.d _ (List.getLast_mem hne))
  · have hvo : vB 1000000000 out.dropLast = vB 1000000000 a * vB 1000000000 b := by
      rw [← hv]
      conv => rhs; rw [← List.dropLast_concat_getLast hne]
      rw [vB_snoc, hx, Nat.mul_zero, Nat.add_zero]
    refine ⟨⟨fun y hy => h.d y (List.dropLast_subset _ hy), Or.inr ?_⟩, hvo⟩
    rw [hvo, List.length_dropLast, h.l]
    have q1 := ha.n.resolve_left ha0
    have q2 := hb.n.resolve_left hb0
    have := Nat.mul_le_mul q1 q2
    rw [← Nat.pow_add] at this
    rw [show a.length + b.length - 1 - 1 = a.length - 1 + (b.length - 1) by omega]
    exact this

/-! The text. -/
def pad (k r : Nat) : List UInt8 := List.replicate (k - (Lib.decDigits r).length) 48 ++ Lib.decDigits r
theorem dd_len_pos (u : Nat) : 0 < (Lib.decDigits u).length := by
  by_cases h : u < 10
  · rw [dd_small u h]; simp
  · rw [dd_big u h]; simp
theorem dd_len : ∀ (k u : Nat), u < 10 ^ k → 0 < k → (Lib.decDigits u).length ≤ k
  | k, u, h, hk => by
    by_cases h1 : u < 10
    · rw [dd_small u h1]; simp; omega
    · match k, hk with
      | 1, _ => simp at h; omega
      | k + 2, _ =>
        rw [dd_big u h1, List.length_append, List.length_singleton]
        have := dd_len (k + 1) (u / 10) (by rw [Nat.pow_succ] at h; omega) (by omega)
        omega
theorem pad_succ {k r : Nat} (hk : 0 < k) (h : r < 10 ^ (k + 1)) : pad (k + 1) r = pad k (r / 10) ++ [dg r] := by
  unfold pad
  by_cases h1 : r < 10
  · rw [dd_small r h1, Nat.div_eq_of_lt h1, dd_small 0 (by decide)]
    simp only [List.length_singleton, Nat.add_sub_cancel]
    obtain ⟨j, rfl⟩ : ∃ j, k = j + 1 := ⟨k - 1, by omega⟩
    rw [Nat.add_sub_cancel, List.replicate_succ']
    rfl
  · rw [dd_big r h1, List.length_append, List.length_singleton, Nat.add_sub_add_right, List.append_assoc]
theorem dd_pad : ∀ (k : Nat), 0 < k → ∀ (q r : Nat), 0 < q → r < 10 ^ k → Lib.decDigits (q * 10 ^ k + r) = Lib.decDigits q ++ pad k r
  | 1, _, q, r, hq, hr => by
    simp only [Nat.pow_one] at hr ⊢
    rw [dd_big _ (by omega), show (q * 10 + r) / 10 = q by omega]
    have e1 : dg (q * 10 + r) = dg r := by unfold dg; congr 2; omega
    rw [e1]
    unfold pad
    rw [dd_small r hr]
    simp
  | k + 2, _, q, r, hq, hr => by
    have hr0 := hr
    rw [Nat.pow_succ] at hr ⊢
    have e1 : (q * (10 ^ (k + 1) * 10) + r) / 10 = q * 10 ^ (k + 1) + r / 10 := by rw [← Nat.mul_assoc]; omega
    have e2 : dg (q * (10 ^ (k + 1) * 10) + r) = dg r := by unfold dg; rw [← Nat.mul_assoc]; congr 2; omega
    have p0 : 0 < 10 ^ (k + 1) := Nat.pow_pos (by decide)
    have p1 : 1 * 10 ≤ q * (10 ^ (k + 1) * 10) := by
      rw [← Nat.mul_assoc]
      exact Nat.mul_le_mul_right 10 (Nat.mul_le_mul hq p0)
    rw [dd_big _ (by omega), e1, e2, dd_pad (k + 1) (by omega) q (r / 10) hq (by omega), pad_succ (k := k + 1) (by omega) hr0, List.append_assoc]
/-- One part more. -/
theorem dd_drop {l : List Nat} (h : Nm l) {i : Nat} (hi : i + 1 < l.length) : Lib.decDigits (vB 1000000000 (l.drop i)) = Lib.decDigits (vB 1000000000 (l.drop (i + 1))) ++ pad 9 (l.getD i 0) := by
  have hx : l.getD i 0 < 10 ^ 9 := getD_lt (by decide) h.d i
  have hne : l.drop (i + 1) ≠ [] := by rw [Ne, List.drop_eq_nil_iff]; omega
  have hpos : 0 < vB 1000000000 (l.drop (i + 1)) := by
    rcases Nat.eq_zero_or_pos (vB 1000000000 (l.drop (i + 1))) with q | q
    · have hl : l ≠ [] := fun e => by rw [e] at hi; simp at hi
      have e1 := vB_zero q (by decide) (l.getLast hl) (by rw [← List.getLast_drop hne]; exact List.getLast_mem _)
      have h2 := h
      rw [← List.dropLast_concat_getLast hl] at h2
      have := h2.last
      omega
    · exact q
  rw [← dd_pad 9 (by decide) _ _ hpos hx]
  congr 1
  rw [List.drop_eq_getElem_cons (by omega : i < l.length), vB, List.getD_eq_getElem?_getD, List.getElem?_eq_getElem (by omega)]
  simp only [Option.getD_some]
  rw [show (10 : Nat) ^ 9 = 1000000000 from rfl]
  omega
theorem dd_top {l : List Nat} (h : l ≠ []) : vB 1000000000 (l.drop (l.length - 1)) = l.getD (l.length - 1) 0 := by
  have : l.length - 1 < l.length := by have := List.length_pos_iff.2 h; omega
  rw [List.drop_eq_getElem_cons this, List.drop_of_length_le (by omega), vB_one, List.getD_eq_getElem?_getD, List.getElem?_eq_getElem this]
  rfl
theorem Nm.zero {l : List Nat} (h : Nm l) (h0 : vB 1000000000 l = 0) : l = [] := by
  rcases h.n with q | q
  · exact q
  · have : 0 < 1000000000 ^ (l.length - 1) := Nat.pow_pos (by decide)
    omega
end Go.Proofs.YtkcpfpofimkkiaaGreatDoor
