/- Plain: the program's whole numbers: parts to the base 10^9; sum, product, text. · Memory: the program's whole numbers as slices of parts; Of, Plus. · The program's sum of whole numbers. -/
import Derived.Test.YtiklbannoinioaaDoorQ18
import Derived.Test.YtiklbannoinioaaDoorQ6
import Derived.Test.YtiklbannoinioaaDoorQ3
import Derived.Test.YtiklbannoinioaaDoorQ7
import Derived.Test.YtiklbannoinioaaDoorQ2
import Derived.Test.YtiklbannoinioaaDoorQ1
import Derived.Lib.Hide
namespace Go.Proofs.YtiklbannoinioaaDoor
set_option linter.unusedVariables false
set_option linter.unusedSimpArgs false

/-- A number in its parts: each below the base, the last one not 0. -/
structure Nm (l : List Nat) : Prop where
  d : ∀ x ∈ l, x < 1000000000
  n : l = [] ∨ 1000000000 ^ (l.length - 1) ≤ vB 1000000000 l
theorem Nm.nil : Nm [] := ⟨fun x hx => by simp at hx, Or.inl rfl⟩
theorem Nm.pos {l : List Nat} (h : Nm l) (hl : l ≠ []) : 0 < vB 1000000000 l := by
  rcases h.n with h | h
  · exact absurd h hl
  · exact Nat.lt_of_lt_of_le (Nat.pow_pos (by decide)) h
theorem Nm.last {l : List Nat} {x : Nat} (h : Nm (l ++ [x])) : 0 < x := by
  rcases h.n with q | q
  · simp at q
  · rw [vB_snoc] at q
    have h1 : vB 1000000000 l < 1000000000 ^ l.length := vB_lt (fun y hy => h.d y (List.mem_append_left _ hy))
    simp only [List.length_append, List.length_singleton, Nat.add_sub_cancel] at q
    rcases Nat.eq_zero_or_pos x with hx | hx
    · rw [hx, Nat.mul_zero] at q; omega
    · exact hx
theorem Nm.of_last {l : List Nat} {x : Nat} (hl : ∀ y ∈ l, y < 1000000000) (hx : 0 < x) (hx2 : x < 1000000000) : Nm (l ++ [x]) := by
  refine ⟨fun y hy => ?_, Or.inr ?_⟩
  · rcases List.mem_append.1 hy with hy | hy
    · exact hl y hy
    · rw [List.mem_singleton] at hy; rw [hy]; exact hx2
  · rw [vB_snoc]
    simp only [List.length_append, List.length_singleton, Nat.add_sub_cancel]
    exact Nat.le_trans (Nat.le_mul_of_pos_right _ hx) (Nat.le_add_left _ _)

/-- The parts of a small number. -/
def ofN (n : Nat) : List Nat := if h : n = 0 then [] else n % 1000000000 :: ofN (n / 1000000000)
termination_by n
decreasing_by omega
theorem ofN_zero : ofN 0 = [] := by rw [ofN, dif_pos rfl]
theorem ofN_pos {n : Nat} (h : 0 < n) : ofN n = n % 1000000000 :: ofN (n / 1000000000) := by rw [ofN, dif_neg (by omega)]
theorem ofN_one {n : Nat} (h : 0 < n) (h2 : n < 1000000000) : ofN n = [n] := by
  rw [ofN_pos h, Nat.div_eq_of_lt h2, Nat.mod_eq_of_lt h2, ofN_zero]
theorem ofN_Nm1 {n : Nat} (h : 0 < n) (h2 : n < 1000000000) : Nm (ofN n) := by
  rw [ofN_one h h2]; exact Nm.of_last (l := []) (fun y hy => by simp at hy) h h2
theorem ofN_val1 {n : Nat} (h : 0 < n) (h2 : n < 1000000000) : vB 1000000000 (ofN n) = n := by rw [ofN_one h h2, vB_one]

/-- A sum under way: what is added so far, and the carry. -/
structure SmI (a b : List Nat) (i : Nat) (out : List Nat) (c : Nat) : Prop where
  l : out.length = i
  d : ∀ x ∈ out, x < 1000000000
  cy : c ≤ 1
  v : vB 1000000000 out + 1000000000 ^ i * c = vB 1000000000 (a.take i) + vB 1000000000 (b.take i)
theorem SmI.start (a b : List Nat) : SmI a b 0 [] 0 := ⟨rfl, fun x hx => by simp at hx, by decide, by simp [vB]⟩
theorem vB_take_getD (b : Nat) (l : List Nat) (i : Nat) : vB b (l.take (i + 1)) = vB b (l.take i) + b ^ i * l.getD i 0 := by
  by_cases h : i < l.length
  · rw [vB_take_get b l (List.getElem?_eq_getElem h), List.getD_eq_getElem?_getD, List.getElem?_eq_getElem h]; rfl
  · rw [List.take_of_length_le (by omega), List.take_of_length_le (by omega), List.getD_eq_getElem?_getD, List.getElem?_eq_none (by omega)]; simp
theorem getD_lt {l : List Nat} {b : Nat} (hb : 0 < b) (h : ∀ x ∈ l, x < b) (i : Nat) : l.getD i 0 < b := by
  by_cases hi : i < l.length
  · rw [List.getD_eq_getElem?_getD, List.getElem?_eq_getElem hi]; exact h _ (List.getElem_mem hi)
  · rw [List.getD_eq_getElem?_getD, List.getElem?_eq_none (by omega)]; exact hb
theorem SmI.step {a b : List Nat} {i : Nat} {out : List Nat} {c : Nat} (h : SmI a b i out c) (ha : ∀ x ∈ a, x < 1000000000) (hb : ∀ x ∈ b, x < 1000000000) :
    SmI a b (i + 1) (out ++ [(c + a.getD i 0 + b.getD i 0) % 1000000000]) ((c + a.getD i 0 + b.getD i 0) / 1000000000) := by
  have h1 := getD_lt (by decide) ha i
  have h2 := getD_lt (by decide) hb i
  have hc := h.cy
  refine ⟨by rw [List.length_append, h.l]; rfl, fun x hx => ?_, by omega, ?_⟩
  · rcases List.mem_append.1 hx with hx | hx
    · exact h.d x hx
    · rw [List.mem_singleton] at hx; rw [hx]; exact Nat.mod_lt _ (by decide)
  · rw [vB_snoc, vB_take_getD, vB_take_getD, h.l, Nat.pow_succ]
    have hv := h.v
    have e : c + a.getD i 0 + b.getD i 0 = (c + a.getD i 0 + b.getD i 0) % 1000000000 + 1000000000 * ((c + a.getD i 0 + b.getD i 0) / 1000000000) := by omega
    generalize (c + a.getD i 0 + b.getD i 0) % 1000000000 = r at *
    generalize (c + a.getD i 0 + b.getD i 0) / 1000000000 = q at *
    generalize 1000000000 ^ i = p at *
    have e2 : p * (c + a.getD i 0 + b.getD i 0) = p * (r + 1000000000 * q) := by rw [← e]
    rw [Nat.mul_add, Nat.mul_add, Nat.mul_add, ← Nat.mul_assoc] at e2
    omega
theorem SmI.done {a b out : List Nat} {c : Nat} (h : SmI a b (max a.length b.length) out c) (ha : Nm a) (hb : Nm b) :
    (c = 0 → Nm out ∧ vB 1000000000 out = vB 1000000000 a + vB 1000000000 b) ∧ (0 < c → Nm (out ++ [c]) ∧ vB 1000000000 (out ++ [c]) = vB 1000000000 a + vB 1000000000 b) := by
  have hv := h.v
  rw [List.take_of_length_le (Nat.le_max_left _ _), List.take_of_length_le (Nat.le_max_right _ _)] at hv
  refine ⟨fun hc => ?_, fun hc => ⟨Nm.of_last h.d hc (by have := h.cy; omega), by rw [vB_snoc, h.l]; exact hv⟩⟩
  rw [hc, Nat.mul_zero, Nat.add_zero] at hv
  refine ⟨⟨h.d, ?_⟩, hv⟩
  rw [hv, h.l]
  by_cases hab : a.length ≤ b.length
  · rw [Nat.max_eq_right hab]
    rcases hb.n with q | q
    · left
      refine List.length_eq_zero_iff.1 ?_
      rw [h.l, Nat.max_eq_right hab, q]; rfl
    · right; omega
  · rw [Nat.max_eq_left (by omega)]
    rcases ha.n with q | q
    · rw [q] at hab; simp at hab
    · right; omega

/-- A product under way: one row of it. -/
structure RwI (out0 : List Nat) (b : List Nat) (x i k : Nat) (out : List Nat) (c : Nat) : Prop where
  l : out.length = out0.length
  d : ∀ y ∈ out, y < 1000000000
  cy : c < 1000000000
  v : vB 1000000000 out + 1000000000 ^ (i + k) * c = vB 1000000000 out0 + 1000000000 ^ i * (x * vB 1000000000 (b.take k))
  z : ∀ j, i + k ≤ j → out.getD j 0 = out0.getD j 0
theorem RwI.start {out0 b : List Nat} {x i : Nat} (h : ∀ y ∈ out0, y < 1000000000) : RwI out0 b x i 0 out0 0 := ⟨rfl, h, by decide, by simp [vB], fun _ _ => rfl⟩
theorem mul_part {o x y c : Nat} (ho : o < 1000000000) (hx : x < 1000000000) (hy : y < 1000000000) (hc : c < 1000000000) : (c + (o + x * y)) / 1000000000 < 1000000000 ∧ c + (o + x * y) < 1000000000000000000 := by
  have h : x * y ≤ 999999999 * 999999999 := Nat.mul_le_mul (by omega) (by omega)
  omega
theorem getD_set_ne {l : List Nat} {i j d : Nat} (h : i ≠ j) : (l.set i d).getD j 0 = l.getD j 0 := by
  rw [List.getD_eq_getElem?_getD, List.getD_eq_getElem?_getD, List.getElem?_set_ne h]
theorem set_lt {l : List Nat} {i d : Nat} {b : Nat} (h : ∀ y ∈ l, y < b) (hd : d < b) : ∀ y ∈ l.set i d, y < b := fun y hy => by
  rcases List.mem_or_eq_of_mem_set hy with q | q
  · exact h y q
  · rw [q]; exact hd
theorem RwI.step {out0 b : List Nat} {x i k : Nat} {out : List Nat} {c : Nat} (h : RwI out0 b x i k out c) (hx : x < 1000000000) (hb : ∀ y ∈ b, y < 1000000000) (hk : k < b.length) (hl : i + b.length < out0.length + 1) :
    RwI out0 b x i (k + 1) (out.set (i + k) ((c + (out.getD (i + k) 0 + x * b.getD k 0)) % 1000000000)) ((c + (out.getD (i + k) 0 + x * b.getD k 0)) / 1000000000) := by
  have hy := getD_lt (by decide) hb k
  have ho := getD_lt (by decide) h.d (i + k)
  have hm := mul_part ho hx hy h.cy
  have hi : i + k < out.length := by rw [h.l]; omega
  refine ⟨by rw [List.length_set, h.l], set_lt h.d (Nat.mod_lt _ (by decide)), hm.1, ?_, fun j hj => ?_⟩
  · have hs := vB_set (b := 1000000000) (d := (c + (out.getD (i + k) 0 + x * b.getD k 0)) % 1000000000) hi
    rw [vB_take_getD]
    have hv := h.v
    have e : c + (out.getD (i + k) 0 + x * b.getD k 0) = (c + (out.getD (i + k) 0 + x * b.getD k 0)) % 1000000000 + 1000000000 * ((c + (out.getD (i + k) 0 + x * b.getD k 0)) / 1000000000) := by omega
    generalize (c + (out.getD (i + k) 0 + x * b.getD k 0)) % 1000000000 = r at *
    generalize (c + (out.getD (i + k) 0 + x * b.getD k 0)) / 1000000000 = q at *
    have e2 : 1000000000 ^ (i + k) * (c + (out.getD (i + k) 0 + x * b.getD k 0)) = 1000000000 ^ (i + k) * (r + 1000000000 * q) := by rw [← e]
    have e3 : 1000000000 ^ i * (x * (vB 1000000000 (b.take k) + 1000000000 ^ k * b.getD k 0)) = 1000000000 ^ i * (x * vB 1000000000 (b.take k)) + 1000000000 ^ (i + k) * (x * b.getD k 0) := by
      rw [Nat.mul_add, Nat.mul_add, Nat.pow_add, Nat.mul_assoc, Nat.mul_left_comm x]
    have e4 : 1000000000 ^ (i + (k + 1)) * q = 1000000000 ^ (i + k) * (1000000000 * q) := by rw [← Nat.add_assoc, Nat.pow_succ, Nat.mul_assoc]
    rw [e3, e4]
    rw [Nat.mul_add, Nat.mul_add, Nat.mul_add] at e2
    generalize 1000000000 ^ (i + k) * (1000000000 * q) = A1 at *
    generalize 1000000000 ^ (i + k) * (x * b.getD k 0) = A2 at *
    generalize 1000000000 ^ (i + k) * out.getD (i + k) 0 = A3 at *
    generalize 1000000000 ^ (i + k) * r = A4 at *
    generalize 1000000000 ^ (i + k) * c = A5 at *
    generalize 1000000000 ^ i * (x * vB 1000000000 (b.take k)) = A6 at *
    omega
  · rw [getD_set_ne (by omega)]; exact h.z j (by omega)
/-- A product under way: rows done. -/
structure PrI (a b : List Nat) (i : Nat) (out : List Nat) : Prop where
  l : out.length = a.length + b.length
  d : ∀ y ∈ out, y < 1000000000
  v : vB 1000000000 out = vB 1000000000 (a.take i) * vB 1000000000 b
  z : ∀ j, i + b.length ≤ j → out.getD j 0 = 0
theorem PrI.start (a b : List Nat) : PrI a b 0 (List.replicate (a.length + b.length) 0) := by
  refine ⟨by simp, fun y hy => by rw [(List.mem_replicate.1 hy).2]; decide, by rw [vB_zeros]; simp [vB], fun j _ => ?_⟩
  rw [List.getD_eq_getElem?_getD, List.getElem?_replicate]
  by_cases q : j < a.length + b.length
  · rw [if_pos q]; rfl
  · rw [if_neg q]; rfl
theorem PrI.row {a b : List Nat} {i : Nat} {out0 out : List Nat} {c : Nat} (h : PrI a b i out0) (hi : i < a.length) (hr : RwI out0 b (a.getD i 0) i b.length out c) : PrI a b (i + 1) (out.set (i + b.length) c) := by
  have hs := vB_set (b := 1000000000) (l := out) (i := i + b.length) (d := c) (by rw [hr.l, h.l]; omega)
  have h0 : out.getD (i + b.length) 0 = 0 := by rw [hr.z _ (Nat.le_refl _)]; exact h.z _ (Nat.le_refl _)
  rw [h0, Nat.mul_zero, Nat.add_zero] at hs
  refine ⟨by rw [List.length_set, hr.l, h.l], set_lt hr.d hr.cy, ?_, fun j hj => ?_⟩
  · rw [hs, hr.v, h.v, vB_take_getD, List.take_of_length_le (Nat.le_refl _), Nat.add_mul, Nat.mul_assoc]
  · rw [getD_set_ne (by omega), hr.z j (by omega)]; exact h.z j (by omega)
theorem PrI.done {a b out : List Nat} (h : PrI a b a.length out) (ha : Nm a) (hb : Nm b) (ha0 : a ≠ []) (hb0 : b ≠ []) :
    (∃ o x, out = o ++ [x] ∧ o.length + 1 = a.length + b.length ∧ (x ≠ 0 → Nm out) ∧ (x = 0 → Nm o ∧ vB 1000000000 o = vB 1000000000 a * vB 1000000000 b)) ∧ vB 1000000000 out = vB 1000000000 a * vB 1000000000 b := by
  have hv := h.v
  rw [List.take_of_length_le (Nat.le_refl _)] at hv
  refine ⟨?_, hv⟩
  have la : 0 < a.length := List.length_pos_iff.2 ha0
  have lb : 0 < b.length := List.length_pos_iff.2 hb0
  have hne : out ≠ [] := fun q => by have := h.l; rw [q] at this; simp at this; omega
  refine ⟨out.dropLast, out.getLast hne, (List.dropLast_concat_getLast hne).symm, by rw [List.length_dropLast, h.l]; omega, fun hx => ?_, fun hx => ?_⟩
  · rw [← List.dropLast_concat_getLast hne]
    exact Nm.of_last (fun y hy => h.d y (List.dropLast_subset _ hy)) (by omega) (h.d _ (List.getLast_mem hne))
  · have hvo : vB 1000000000 out.dropLast = vB 1000000000 a * vB 1000000000 b := by
      rw [← hv]
      conv => rhs; rw [← List.dropLast_concat_getLast hne]
      rw [vB_snoc, hx, Nat.mul_zero, Nat.add_zero]
    refine ⟨⟨fun y hy => h.d y (List.dropLast_subset _ hy), Or.inr ?_⟩, hvo⟩
    rw [hvo, List.length_dropLast, h.l]
    have q1 := ha.n.resolve_left ha0
    have q2 := hb.n.resolve_left hb0
    have := Nat.mul_le_mul q1 q2
    rw [← Nat.pow_add] at this
    rw [show a.length + b.length - 1 - 1 = a.length - 1 + (b.length - 1) by omega]
    exact this

/-! The text. -/
def pad (k r : Nat) : List UInt8 := List.replicate (k - (Lib.decDigits r).length) 48 ++ Lib.decDigits r
theorem dd_len_pos (u : Nat) : 0 < (Lib.decDigits u).length := by
  by_cases h : u < 10
  · rw [dd_small u h]; simp
  · rw [dd_big u h]; simp
theorem dd_len : ∀ (k u : Nat), u < 10 ^ k → 0 < k → (Lib.decDigits u).length ≤ k
  | k, u, h, hk => by
    by_cases h1 : u < 10
    · rw [dd_small u h1]; simp; omega
    · match k, hk with
      | 1, _ => simp at h; omega
      | k + 2, _ =>
        rw [dd_big u h1, List.length_append, List.length_singleton]
        have := dd_len (k + 1) (u / 10) (by rw [Nat.pow_succ] at h; omega) (by omega)
        omega
theorem pad_succ {k r : Nat} (hk : 0 < k) (h : r < 10 ^ (k + 1)) : pad (k + 1) r = pad k (r / 10) ++ [dg r] := by
  unfold pad
  by_cases h1 : r < 10
  · rw [dd_small r h1, Nat.div_eq_of_lt h1, dd_small 0 (by decide)]
    simp only [List.length_singleton, Nat.add_sub_cancel]
    obtain ⟨j, rfl⟩ : ∃ j, k = j + 1 := ⟨k - 1, by omega⟩
    rw [Nat.add_sub_cancel, List.replicate_succ']
    rfl
  · rw [dd_big r h1, List.length_append, List.length_singleton, Nat.add_sub_add_right, List.append_assoc]
theorem dd_pad : ∀ (k : Nat), 0 < k → ∀ (q r : Nat), 0 < q → r < 10 ^ k → Lib.decDigits (q * 10 ^ k + r) = Lib.decDigits q ++ pad k r
  | 1, _, q, r, hq, hr => by
    simp only [Nat.pow_one] at hr ⊢
    rw [dd_big _ (by omega), show (q * 10 + r) / 10 = q by omega]
    have e1 : dg (q * 10 + r) = dg r := by unfold dg; congr 2; omega
    rw [e1]
    unfold pad
    rw [dd_small r hr]
    simp
  | k + 2, _, q, r, hq, hr => by
    have hr0 := hr
    rw [Nat.pow_succ] at hr ⊢
    have e1 : (q * (10 ^ (k + 1) * 10) + r) / 10 = q * 10 ^ (k + 1) + r / 10 := by rw [← Nat.mul_assoc]; omega
    have e2 : dg (q * (10 ^ (k + 1) * 10) + r) = dg r := by unfold dg; rw [← Nat.mul_assoc]; congr 2; omega
    have p0 : 0 < 10 ^ (k + 1) := Nat.pow_pos (by decide)
    have p1 : 1 * 10 ≤ q * (10 ^ (k + 1) * 10) := by
      rw [← Nat.mul_assoc]
      exact Nat.mul_le_mul_right 10 (Nat.mul_le_mul hq p0)
    rw [dd_big _ (by omega), e1, e2, dd_pad (k + 1) (by omega) q (r / 10) hq (by omega), pad_succ (k := k + 1) (by omega) hr0, List.append_assoc]
/-- One part more. -/
theorem dd_drop {l : List Nat} (h : Nm l) {i : Nat} (hi : i + 1 < l.length) : Lib.decDigits (vB 1000000000 (l.drop i)) = Lib.decDigits (vB 1000000000 (l.drop (i + 1))) ++ pad 9 (l.getD i 0) := by
  have hx : l.getD i 0 < 10 ^ 9 := getD_lt (by decide) h.d i
  have hne : l.drop (i + 1) ≠ [] := by rw [Ne, List.drop_eq_nil_iff]; omega
  have hpos : 0 < vB 1000000000 (l.drop (i + 1)) := by
    rcases Nat.eq_zero_or_pos (vB 1000000000 (l.drop (i + 1))) with q | q
    · have hl : l ≠ [] := fun e => by rw [e] at hi; simp at hi
      have e1 := vB_zero q (by decide) (l.getLast hl) (by rw [← List.getLast_drop hne]; exact List.getLast_mem _)
      have h2 := h
      rw [← List.dropLast_concat_getLast hl] at h2
      have := h2.last
      omega
    · exact q
  rw [← dd_pad 9 (by decide) _ _ hpos hx]
  congr 1
  rw [List.drop_eq_getElem_cons (by omega : i < l.length), vB, List.getD_eq_getElem?_getD, List.getElem?_eq_getElem (by omega)]
  simp only [Option.getD_some]
  rw [show (10 : Nat) ^ 9 = 1000000000 from rfl]
  omega
theorem dd_top {l : List Nat} (h : l ≠ []) : vB 1000000000 (l.drop (l.length - 1)) = l.getD (l.length - 1) 0 := by
  have : l.length - 1 < l.length := by have := List.length_pos_iff.2 h; omega
  rw [List.drop_eq_getElem_cons this, List.drop_of_length_le (by omega), vB_one, List.getD_eq_getElem?_getD, List.getElem?_eq_getElem this]
  rfl
theorem Nm.zero {l : List Nat} (h : Nm l) (h0 : vB 1000000000 l = 0) : l = [] := by
  rcases h.n with q | q
  · exact q
  · have : 0 < 1000000000 ^ (l.length - 1) := Nat.pow_pos (by decide)
    omega
end Go.Proofs.YtiklbannoinioaaDoor
namespace Go.Proofs.YtiklbannoinioaaDoor
open Go.RowKit BigFrame
set_option linter.unusedVariables false
set_option linter.unusedSimpArgs false
set_option maxRecDepth 100000

theorem elU : ElTy Tryd.prog 52 88 1 4 (.int .u32 0) := ⟨Tryd.underlying52, by kernel_rfl, rfl, by decide⟩
/-- Parts as cells. -/
def uv (l : List Nat) : List Value := l.map fun (x : Nat) => .int .u32 (x : Int)
theorem uv_len (l : List Nat) : (uv l).length = l.length := List.length_map _
theorem uv_append (l m : List Nat) : uv (l ++ m) = uv l ++ uv m := by unfold uv; rw [List.map_append]
theorem uv_get {l : List Nat} {k : Nat} (h : k < l.length) : (uv l)[k]? = some (.int .u32 ((l.getD k 0 : Nat) : Int)) := by
  unfold uv; rw [List.getElem?_map, List.getElem?_eq_getElem h, List.getD_eq_getElem?_getD, List.getElem?_eq_getElem h]; rfl
theorem uv_set (l : List Nat) (k x : Nat) : (uv l).set k (.int .u32 (x : Int)) = uv (l.set k x) := by unfold uv; rw [List.map_set]
theorem uv_rep (n x : Nat) : List.replicate n (Value.int .u32 (x : Int)) = uv (List.replicate n x) := by unfold uv; rw [List.map_replicate]
/-- A slice of parts. -/
def RdU (w : World) (B : Nat) (A : Option Addr) (l : List Nat) : Prop := Rd w B A (uv l)
theorem RdU.at_ {w : World} {B : Nat} {A : Option Addr} {l : List Nat} (h : RdU w B A l) (hn : 0 < l.length) :
    ∃ b off, A = some ⟨b, off, none⟩ ∧ b < B ∧ ∀ k, k < l.length → w.cell? ⟨b, off + k, none⟩ = some (.int .u32 ((l.getD k 0 : Nat) : Int)) := by
  obtain ⟨b, off, e, hb, hc⟩ := h (by intro e; have := uv_len l; rw [e] at this; simp at this; omega)
  exact ⟨b, off, e, hb, fun k hk => hc _ _ (uv_get hk)⟩
theorem RdU.below {w w' : World} {B : Nat} {A : Option Addr} {l : List Nat} (h : RdU w B A l) (hb : Below B w w') : RdU w' B A l := Rd.below h hb
theorem RdU.more {w : World} {B B' : Nat} {A : Option Addr} {l : List Nat} (h : RdU w B A l) (hB : B ≤ B') : RdU w B' A l := Rd.more h hB
/-- A row of the call's own: parts. -/
def OwU (w : World) (base : Nat) (v : Value) (l : List Nat) : Prop := w.ownsRow base 88 1 v l.length (uv l)
theorem OwU.nil (w : World) (base : Nat) : OwU w base (.slice none 0 0) [] := World.ownsRow_nil _ _ _ _
theorem OwU.form {w : World} {base : Nat} {v : Value} {l : List Nat} (h : OwU w base v l) : ∃ A c, v = .slice A l.length c ∧ l.length ≤ c ∧ c ≤ maxLen ∧ RdU w w.heap.size A l := own_form h
theorem OwU.ext {w w' : World} {base : Nat} {v : Value} {l : List Nat} (h : OwU w base v l) (hb : Below w.heap.size w w') : OwU w' base v l := own_ext h hb
theorem OwU.snoc {w : World} {base : Nat} {v : Value} {l : List Nat} {t : Int} {x : Nat} (h : w.ownsRow base 88 1 v (l.length + 1) (uv l ++ [.int .u32 t])) (e : t = (x : Int)) : OwU w base v (l ++ [x]) := by
  subst e
  unfold OwU
  rw [List.length_append, uv_append]; exact h
theorem mk_capU (w : World) (n : Nat) (hn : n ≤ 1000000000) : (Instr.makeSlice 52 (.int .i64 0) (.int .i64 (n : Int))).run Tryd.prog w = .ok (.slice (some ⟨w.heap.size, 0, none⟩) 0 n) (w.alloc (.cells (zs (.int .u32 0) n) 88)) := by
  obtain ⟨i, hi, hz, hs, hb⟩ := info_parts elU.hi
  have h := run_make w 52 88 i (.int .u32 0) Tryd.underlying52 hi hz .i64 .i64 0 n (by omega) (by omega) (by rw [hb]; omega) (by omega)
  simp only [hs, Int.toNat_natCast, Nat.mul_one] at h
  rw [h, show (Value.int .u32 0).cells = #[Value.int .u32 0] from rfl, madeCells_one]
  rfl
theorem OwU.cap (w : World) (n : Nat) (hn : n ≤ 1000000000) : OwU (w.alloc (.cells (zs (.int .u32 0) n) 88)) w.heap.size (.slice (some ⟨w.heap.size, 0, none⟩) 0 n) [] :=
  ⟨rfl, .inr ⟨w.heap.size, n, zs (.int .u32 0) n, rfl, Nat.le_refl _, heap_alloc_new w _, Nat.zero_le _, by unfold maxLen; omega, by simp [zs], by simp [uv]⟩⟩
/-- make([]uint32, n). -/
theorem mk_zerU (w : World) (n : Nat) (k : Int) (hk : k = n) (hn : n ≤ 1000000000) : (Instr.makeSlice 52 (.int .i64 k) (.int .i64 k)).run Tryd.prog w = .ok (.slice (some ⟨w.heap.size, 0, none⟩) n n) (w.alloc (.cells (zs (.int .u32 0) n) 88)) :=
  mk_row elU rfl .i64 .i64 n k hk (by omega) (by omega) w

theorem wof_any (n : Nat) (w : World) (h0 : 0 < n) (hn : n < 1000000000) :
    Calls Tryd.prog 40 #[.int .i64 (n : Int)] w fun e w' => ∃ v, e = .returned v ∧ OwU w' w.heap.size v (ofN n) ∧ Below w.heap.size w w' := by
  have HO := Lib.hid (ofN_one h0 hn)
  go_enter Tryd.func40, Tryd.ntmps40
  go_wp2_with fail
  go_loopw [0, 3] (fun x v wr => (x = .int .i64 (n : Int) ∧ v = .slice none 0 0 ∧ wr = w) ∨ (x = .int .i64 0 ∧ Hid (OwU wr w.heap.size v [n]) ∧ Hid (Below w.heap.size w wr))) (fun x _ _ => (intOf x).toNat)
  case atStart => exact .inl ⟨rfl, rfl, rfl⟩
  case round =>
    rcases hrel with ⟨rfl, rfl, rfl⟩ | ⟨rfl, HV, HB⟩
    · have d1 : decide ((n : Int) > 0) = true := decide_eq_true (by omega)
      have e1 : (n : Int) % 1000000000 = n := by omega
      have e2 : (n : Int) / 1000000000 = 0 := by omega
      go_wp2_with (at_builtin; refine wpList_app elU rfl (.tmp 8) (.tmp 12) rfl wr.heap.size (.slice none 0 0) 0 1 [] [.int .u32 (n : Int)] rfl (World.ownsRow_nil _ _ _ _) rfl rfl (by simp [Value.oneCell']) (by omega) (by omega) (Nat.le_refl _) ?_; intro v' w1 hown2 hg hat)
      go_roundw
      case rel => exact .inr ⟨rfl, OwU.snoc (l := []) hown2 rfl, (Below.refl _ _).grown hg (Nat.le_refl _) (fun k e => by simp [Value.ownBlock] at e)⟩
      case measure => simp [intOf]; omega
    · go_wp2_with fail
      go_ret
      exact ⟨_, rfl, by rw [HO.out]; exact HV.out, HB.out⟩
end Go.Proofs.YtiklbannoinioaaDoor
namespace Go.Proofs.YtiklbannoinioaaDoor
open Go.RowKit BigFrame
set_option linter.unusedVariables false
set_option linter.unusedSimpArgs false
set_option maxRecDepth 100000

theorem run_max2 (P : Program) (a b m : Int) (h : m = max a b) : ∀ (ts : Array TypeId) (t : TypeId) (w : World), (Builtin.max_ ts t #[.int .i64 a, .int .i64 b]).run P w = .ok (.int .i64 m) w := by
  intro ts t w
  rw [run_max_int2, show (if a < b then b else a) = m from by split <;> omega]
theorem plus_u (A A' : Option Addr) (n c n' c' : Nat) (a b : List Nat) (w : World) (B : Nat) (hB : B ≤ w.heap.size) (ha : RdU w B A a) (hla : a.length = n) (hb : RdU w B A' b) (hlb : b.length = n') (hn : n ≤ 100000000) (hn' : n' ≤ 100000000) (Ha : Nm a) (Hb : Nm b) :
    Calls Tryd.prog 28 #[.slice A n c, .slice A' n' c'] w fun e w' => ∃ v l, e = .returned v ∧ OwU w' w.heap.size v l ∧ Nm l ∧ vB 1000000000 l = vB 1000000000 a + vB 1000000000 b ∧ l.length ≤ max n n' + 1 ∧ Below w.heap.size w w' := by
  have HA := Lib.hid ha; have HLA := Lib.hid hla; have HB := Lib.hid hb; have HLB := Lib.hid hlb; have HNA := Lib.hid Ha; have HNB := Lib.hid Hb
  obtain ⟨M, hM⟩ : ∃ M : Nat, max n n' = M := ⟨_, rfl⟩
  have hM0 : max (n : Int) (n' : Int) = (M : Int) := by omega
  have hmax := run_max2 Tryd.prog (n : Int) (n' : Int) M hM0.symm
  have hM1 : M ≤ 100000000 := by omega
  have hmk := mk_capU w (M + 1) (by omega)
  have HCP := Lib.hid (OwU.cap w (M + 1) (by omega))
  have HBC : Hid (Below w.heap.size w (w.alloc (.cells (zs (.int .u32 0) (M + 1)) 88))) := Lib.hid ((Below.refl _ _).alloc (Nat.le_refl _) _)
  have HM := Lib.hid hM
  rw [show ((M + 1 : Nat) : Int) = (M : Int) + 1 by omega] at hmk
  clear ha hla hb hlb Ha Hb hM hM0
  go_enter Tryd.func28, Tryd.ntmps28
  go_wp2_with fail
  go_loopw [5, 6, 20] (fun v cy i wr => ∃ (k c : Nat) (out : List Nat), k ≤ M ∧ i = .int .i64 (k : Int) ∧ cy = .int .u64 (c : Int) ∧ c ≤ 1 ∧ Hid (OwU wr w.heap.size v out) ∧ Hid (SmI a b k out c) ∧ Hid (Below w.heap.size w wr)) (fun _ _ i _ => M - (intOf i).toNat)
  case atStart => exact ⟨0, 0, [], Nat.zero_le _, rfl, rfl, by omega, HCP.out, SmI.start _ _, HBC.out⟩
  case round =>
    as_aux_lemma =>
      clear HCP HBC
      obtain ⟨k, cy, out, hk, rfl, rfl, hcy, HV, HS, HW⟩ := hrel
      have hz := HW.out.size
      have hol : out.length = k := HS.out.l
      have hol2 : out.length ≤ 100000000 := by omega
      have HOL := Lib.hid hol; clear hol
      by_cases hlt : k < M
      · as_aux_lemma =>
          have d0 : decide ((k : Int) < (M : Int)) = true := decide_eq_true (by omega)
          have hx := getD_lt (b := 1000000000) (by decide) HNA.out.d k
          have hy := getD_lt (b := 1000000000) (by decide) HNB.out.d k
          have HST := Lib.hid (HS.out.step HNA.out.d HNB.out.d)
          by_cases h1 : k < n <;> by_cases h2 : k < n'
          all_goals
            obtain ⟨x, hxe⟩ : ∃ x, x = a.getD k 0 := ⟨_, rfl⟩
            obtain ⟨y, hye⟩ : ∃ y, y = b.getD k 0 := ⟨_, rfl⟩
            rw [← hxe, ← hye] at HST
            rw [← hxe] at hx
            rw [← hye] at hy
          · as_aux_lemma =>
              have d1 : decide ((k : Int) < (n : Int)) = true := decide_eq_true (by omega)
              have d2 : decide ((k : Int) < (n' : Int)) = true := decide_eq_true (by omega)
              obtain ⟨ba, oa, rfl, hba, hca⟩ := (HA.out.below (HW.out.mono hB)).at_ (by rw [HLA.out]; omega)
              have ca := hca k (by rw [HLA.out]; exact h1)
              rw [← hxe] at ca
              clear hca
              obtain ⟨bb, ob, rfl, hbb, hcb⟩ := (HB.out.below (HW.out.mono hB)).at_ (by rw [HLB.out]; omega)
              have cb := hcb k (by rw [HLB.out]; exact h2)
              rw [← hye] at cb
              clear hcb
              clear hxe hye HA HB
              go_wp2_with (at_builtin; refine wpList_app elU rfl (.tmp 45) (.tmp 49) rfl w.heap.size _ out.length 1 (uv out) [.int .u32 (((cy : Int) + (x : Int) + (y : Int)) % 1000000000)] rfl HV.out rfl rfl (by simp [Value.oneCell']) (by omega) (by omega) hz ?_; intro v' w1 hown2 hg hat)
              go_roundw
              case rel =>
                exact ⟨k + 1, (cy + x + y) / 1000000000, out ++ [(cy + x + y) % 1000000000], by omega, by go_num, by congr 1, by omega, OwU.snoc hown2 (by omega), HST.out, HW.out.grown hg hz (own_base HV.out)⟩
              case measure => simp [intOf]; omega
          · as_aux_lemma =>
              have d1 : decide ((k : Int) < (n : Int)) = true := decide_eq_true (by omega)
              have d2 : decide ((k : Int) < (n' : Int)) = false := decide_eq_false (by omega)
              obtain ⟨ba, oa, rfl, hba, hca⟩ := (HA.out.below (HW.out.mono hB)).at_ (by rw [HLA.out]; omega)
              have ca := hca k (by rw [HLA.out]; exact h1)
              rw [← hxe] at ca
              clear hca
              have hy0 : y = 0 := by rw [hye, List.getD_eq_getElem?_getD, List.getElem?_eq_none (by rw [HLB.out]; omega)]; rfl
              have HY0 := Lib.hid hy0; clear hy0
              clear hxe hye HA HB
              go_wp2_with (at_builtin; refine wpList_app elU rfl (.tmp 45) (.tmp 49) rfl w.heap.size _ out.length 1 (uv out) [.int .u32 (((cy : Int) + (x : Int)) % 1000000000)] rfl HV.out rfl rfl (by simp [Value.oneCell']) (by omega) (by omega) hz ?_; intro v' w1 hown2 hg hat)
              go_roundw
              case rel =>
                obtain rfl := HY0.out
                exact ⟨k + 1, (cy + x + 0) / 1000000000, out ++ [(cy + x + 0) % 1000000000], by omega, by go_num, by congr 1, by omega, OwU.snoc hown2 (by omega), HST.out, HW.out.grown hg hz (own_base HV.out)⟩
              case measure => simp [intOf]; omega
          · as_aux_lemma =>
              have d1 : decide ((k : Int) < (n : Int)) = false := decide_eq_false (by omega)
              have d2 : decide ((k : Int) < (n' : Int)) = true := decide_eq_true (by omega)
              have hx0 : x = 0 := by rw [hxe, List.getD_eq_getElem?_getD, List.getElem?_eq_none (by rw [HLA.out]; omega)]; rfl
              have HX0 := Lib.hid hx0; clear hx0
              obtain ⟨bb, ob, rfl, hbb, hcb⟩ := (HB.out.below (HW.out.mono hB)).at_ (by rw [HLB.out]; omega)
              have cb := hcb k (by rw [HLB.out]; exact h2)
              rw [← hye] at cb
              clear hcb
              clear hxe hye HA HB
              go_wp2_with (at_builtin; refine wpList_app elU rfl (.tmp 45) (.tmp 49) rfl w.heap.size _ out.length 1 (uv out) [.int .u32 (((cy : Int) + (y : Int)) % 1000000000)] rfl HV.out rfl rfl (by simp [Value.oneCell']) (by omega) (by omega) hz ?_; intro v' w1 hown2 hg hat)
              go_roundw
              case rel =>
                obtain rfl := HX0.out
                exact ⟨k + 1, (cy + 0 + y) / 1000000000, out ++ [(cy + 0 + y) % 1000000000], by omega, by go_num, by congr 1, by omega, OwU.snoc hown2 (by omega), HST.out, HW.out.grown hg hz (own_base HV.out)⟩
              case measure => simp [intOf]; omega
          · as_aux_lemma =>
              have d1 : decide ((k : Int) < (n : Int)) = false := decide_eq_false (by omega)
              have d2 : decide ((k : Int) < (n' : Int)) = false := decide_eq_false (by omega)
              have hx0 : x = 0 := by rw [hxe, List.getD_eq_getElem?_getD, List.getElem?_eq_none (by rw [HLA.out]; omega)]; rfl
              have HX0 := Lib.hid hx0; clear hx0
              have hy0 : y = 0 := by rw [hye, List.getD_eq_getElem?_getD, List.getElem?_eq_none (by rw [HLB.out]; omega)]; rfl
              have HY0 := Lib.hid hy0; clear hy0
              clear hxe hye HA HB
              go_wp2_with (at_builtin; refine wpList_app elU rfl (.tmp 45) (.tmp 49) rfl w.heap.size _ out.length 1 (uv out) [.int .u32 (((cy : Int)) % 1000000000)] rfl HV.out rfl rfl (by simp [Value.oneCell']) (by omega) (by omega) hz ?_; intro v' w1 hown2 hg hat)
              go_roundw
              case rel =>
                obtain rfl := HX0.out
                obtain rfl := HY0.out
                exact ⟨k + 1, (cy + 0 + 0) / 1000000000, out ++ [(cy + 0 + 0) % 1000000000], by omega, by go_num, by congr 1, by omega, OwU.snoc hown2 (by omega), HST.out, HW.out.grown hg hz (own_base HV.out)⟩
              case measure => simp [intOf]; omega
      · as_aux_lemma =>
          have d0 : decide ((k : Int) < (M : Int)) = false := decide_eq_false (by omega)
          obtain rfl : k = M := by omega
          have HDN := Lib.hid (SmI.done (a := a) (b := b) (out := out) (c := cy) (by rw [HLA.out, HLB.out, HM.out]; exact HS.out) HNA.out HNB.out)
          clear HA HB
          by_cases h0 : 0 < cy
          · have d1 : decide ((cy : Int) > 0) = true := decide_eq_true (by omega)
            go_wp2_with (at_builtin; refine wpList_app elU rfl (.tmp 56) (.tmp 59) rfl w.heap.size _ out.length 1 (uv out) [.int .u32 (cy : Int)] rfl HV.out rfl rfl (by simp [Value.oneCell']) (by omega) (by omega) hz ?_; intro v' w1 hown2 hg hat)
            go_ret
            exact ⟨_, _, rfl, OwU.snoc hown2 rfl, (HDN.out.2 h0).1, (HDN.out.2 h0).2, by rw [List.length_append, List.length_singleton, HM.out, HOL.out]; exact Nat.le_refl _, HW.out.grown hg hz (own_base HV.out)⟩
          · have d1 : decide ((cy : Int) > 0) = false := decide_eq_false (by omega)
            have hc0 : cy = 0 := by omega
            go_wp2_with fail
            go_ret
            exact ⟨_, _, rfl, HV.out, (HDN.out.1 hc0).1, (HDN.out.1 hc0).2, by rw [HM.out, HOL.out]; omega, HW.out⟩
end Go.Proofs.YtiklbannoinioaaDoor
