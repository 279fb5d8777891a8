/- Lists of parts in memory. · Arguments opened: a slice of integers that came in. · Lists of parts that came in. -/
import Derived.Test.YtaachamblagbhaaGreatDoorQ1
import Derived.Test.YtaachamblagbhaaGreatDoorQ2
import Derived.Test.YtaachamblagbhaaGreatDoorQ4
import Derived.Test.YtaachamblagbhaaGreatDoorProg
import Derived.ProofKit
import Derived.OpenShut
import Derived.LaidMore
namespace Go.Proofs.YtaachamblagbhaaGreatDoor
open Go.RowKit BigFrame
set_option linter.unusedVariables false
set_option linter.unusedSimpArgs false
set_option maxRecDepth 100000

theorem rdI_sh {w : World} {B : Nat} {l : List Int} {A : Option Addr} {n c : Nat} (h : (shL shInt).rd w (Lo B) l [.slice A n c]) : l.length = n ∧ n ≤ c ∧ c ≤ maxLen ∧ RdI w B A l := by
  obtain ⟨A', c', css, e, h1, h2, h3, h4, h5⟩ := h
  simp at e
  obtain ⟨rfl, rfl, rfl⟩ := e
  have hcs : css = l.map (fun x => [Value.int .i64 x]) := by
    apply List.ext_getElem?
    intro i
    rw [List.getElem?_map]
    by_cases hi : i < l.length
    · have h := h4 i l[i] (css[i]'(by omega)) (List.getElem?_eq_getElem hi) (List.getElem?_eq_getElem (by omega))
      rw [List.getElem?_eq_getElem hi, List.getElem?_eq_getElem (by omega : i < css.length), h.1]; rfl
    · rw [List.getElem?_eq_none (by omega), List.getElem?_eq_none (by omega)]; rfl
  have hf : css.flatten = l.map (Value.int .i64) := by
    rw [hcs]
    clear hcs h4 h5 h3 h1
    induction l with
    | nil => rfl
    | cons x l ih => simp only [List.map_cons, List.flatten_cons, ih]; rfl
  refine ⟨rfl, h1, h2, fun hne => ?_⟩
  obtain ⟨b, off, e, hb, hc⟩ := h5 (by rw [hf]; exact hne)
  exact ⟨b, off, e, hb, fun j u hu => hc j u (by rw [hf]; exact hu)⟩
abbrev shRg : Sh Rg := shP (shI .i64) (shI .i64)
theorem css_rv : ∀ (l : List Rg) (css : List (List Value)), css.length = l.length → (∀ (i : Nat) (a : Rg) (d : List Value), l[i]? = some a → css[i]? = some d → d = [.int .i64 a.1, .int .i64 a.2]) → css.flatten = rv l
  | [], [], _, _ => rfl
  | [], _ :: _, h, _ => by simp at h
  | _ :: _, [], h, _ => by simp at h
  | r :: l, d :: css, h, hd => by
    have h0 := hd 0 r d rfl rfl
    have ih := css_rv l css (by simpa using h) (fun i a e ha he => hd (i + 1) a e (by simpa using ha) (by simpa using he))
    rw [List.flatten_cons, ih, h0]; rfl
theorem rdG_sh {W : World} {B : Nat} {l : List Rg} {A : Option Addr} {n c : Nat} (h : (shL shRg).rd W (Lo B) l [.slice A n c]) : l.length = n ∧ n ≤ c ∧ c ≤ maxLen ∧ RdG W B A l := by
  obtain ⟨A', c', css, e, h1, h2, h3, h4, h5⟩ := h
  simp at e
  obtain ⟨rfl, rfl, rfl⟩ := e
  have hf : css.flatten = rv l := css_rv l css h3 fun i x d hx hd => by
    obtain ⟨c1, c2, e, ⟨q1, _⟩, ⟨q2, _⟩⟩ := h4 i x d hx hd
    rw [e, q1, q2]; rfl
  rw [hf] at h5
  exact ⟨rfl, h1, h2, h5⟩
def shPw : Sh Pw := shP shInt (shP shInt (shP shInt (shP (shZ (shL shRg) fun l => l.length * 16 ≤ reachBytes) (shZ (shL shInt) fun l => l.length * 8 ≤ reachBytes))))
def RdPw (w : World) (B : Nat) (A : Option Addr) (n c : Nat) (Q : List Pw) : Prop := (shL shPw).rd w (Lo B) Q [.slice A n c]
theorem RdPw.below {w w' : World} {B : Nat} {A : Option Addr} {n c : Nat} {Q : List Pw} (h : RdPw w B A n c Q) (hb : Below B w w') : RdPw w' B A n c Q := Sh.below h hb
theorem RdPw.len {w : World} {B : Nat} {A : Option Addr} {n c : Nat} {Q : List Pw} (h : RdPw w B A n c Q) : Q.length = n ∧ n ≤ c ∧ c ≤ maxLen := by
  obtain ⟨A', c', e, h1, h2⟩ := shL_form h
  simp at e
  obtain ⟨rfl, rfl, rfl⟩ := e
  exact ⟨rfl, h1, h2⟩
def IntB (x : Int) : Prop := -9223372036854775808 ≤ x ∧ x ≤ 9223372036854775807
theorem intB_of {x : Int} (h : (Lit.int .i64 x).wf = true) : IntB x := by
  unfold IntB
  simp [Lit.wf, IntKind.wrap, IntKind.min, IntKind.max, IntKind.bits, IntKind.signed] at h
  omega
theorem RdPw.at_ {w : World} {B : Nat} {A : Option Addr} {n c : Nat} {Q : List Pw} (h : RdPw w B A n c Q) (h0 : 0 < n) :
    ∃ b off, A = some ⟨b, off, none⟩ ∧ b < B ∧ ∀ k, k < n → ∃ kd mn mx s r A1 n1 c1 A2 n2 c2, Q[k]? = some (kd, mn, mx, s, r) ∧ w.cell? ⟨b, off + k * 5, none⟩ = some (.int .i64 kd) ∧ w.cell? ⟨b, off + k * 5 + 1, none⟩ = some (.int .i64 mn) ∧ w.cell? ⟨b, off + k * 5 + 2, none⟩ = some (.int .i64 mx) ∧
      w.cell? ⟨b, off + k * 5 + 3, none⟩ = some (.slice A1 n1 c1) ∧ w.cell? ⟨b, off + k * 5 + 4, none⟩ = some (.slice A2 n2 c2) ∧ s.length = n1 ∧ n1 ≤ c1 ∧ c1 ≤ maxLen ∧ RdG w B A1 s ∧
      r.length = n2 ∧ n2 ≤ c2 ∧ c2 ≤ maxLen ∧ RdI w B A2 r ∧ IntB kd ∧ IntB mn ∧ IntB mx ∧ n1 * 16 ≤ reachBytes ∧ n2 * 8 ≤ reachBytes := by
  obtain ⟨hl, hm, hm2⟩ := h.len
  obtain ⟨b, off, e, hb, hc⟩ := shL_at h (by decide) (by omega)
  refine ⟨b, off, e, hb, fun k hk => ?_⟩
  have hq : Q[k]? = some (Q[k]'(by omega)) := List.getElem?_eq_getElem (by omega)
  obtain ⟨d, hd, hcell⟩ := hc k _ hq
  obtain ⟨d1, d2345, rfl, h1, d2, d345, rfl, h2, d3, d45, rfl, h3, d4, d5, rfl, h4, h5⟩ := hd
  obtain ⟨h4, h4z⟩ := h4
  obtain ⟨h5, h5z⟩ := h5
  obtain ⟨A1, c1, e2, -, -⟩ := shL_form h4
  subst e2
  obtain ⟨A2, c2, e3, g1, g2⟩ := shL_form h5
  subst e3
  obtain ⟨x1, x2, x3, x4⟩ := rdG_sh h4
  obtain ⟨_, _, _, r2⟩ := rdI_sh h5
  obtain ⟨rfl, w1⟩ := h1
  obtain ⟨rfl, w2⟩ := h2
  obtain ⟨rfl, w3⟩ := h3
  refine ⟨_, _, _, _, _, A1, _, c1, A2, _, c2, hq, ?_, ?_, ?_, ?_, ?_, rfl, x2, x3, x4, rfl, g1, g2, r2, intB_of w1, intB_of w2, intB_of w3, h4z, h5z⟩
  · have := hcell 0 _ rfl; simpa [shPw, shP, shI, shL, shZ] using this
  · have := hcell 1 _ rfl; simpa [shPw, shP, shI, shL, shZ, Nat.add_assoc] using this
  · have := hcell 2 _ rfl; simpa [shPw, shP, shI, shL, shZ, Nat.add_assoc] using this
  · have := hcell 3 _ rfl; simpa [shPw, shP, shI, shL, shZ, Nat.add_assoc] using this
  · have := hcell 4 _ rfl; simpa [shPw, shP, shI, shL, shZ, Nat.add_assoc] using this
end Go.Proofs.YtaachamblagbhaaGreatDoor
namespace Go.Proofs.YtaachamblagbhaaGreatDoor
open Go.ChangeShapes Go.WideShapes Go.ChangeAt Go.RowKit
set_option linter.unusedVariables false
set_option linter.unusedSimpArgs false
set_option maxRecDepth 100000

/-- The value is a slice of integers in memory below the heap's end. -/
def IsInts (W : World) (v : Value) : Prop := ∃ A n c l, v = .slice A n c ∧ List.length l = n ∧ n ≤ c ∧ c ≤ maxLen ∧ RdI W W.heap.size A l ∧ ∀ x ∈ l, (Lit.int .i64 x).wf = true

theorem take_nth (zs : List Int) (n j : Nat) (h : j < n) : nth (zs.take n) j = zs.getD j 0 := by
  unfold nth
  simp [List.getD, h]

theorem open_IsInts {H : Type} {enc : TypeId × Value → H} {W : World} {base : Nat} {r : Reach} {b0 : Nat} {v : Value} {d : DataW H} {p : List MemPlace} {held : Bool}
    (hv : Value.okWide Tryz.prog W r b0 24 v) (h : DataW.Trod enc Tryz.prog W base (fun _ => true) held 24 v d p) : IsInts W v := by
  obtain ⟨a, len, cap, rfl⟩ := okWide_slice Tryz.underlying24 hv
  obtain ⟨fuel, hf⟩ := h
  rcases open_ints Tryz.underlying24 Tryz.underlying3 (by kernel_rfl) hf with ⟨hcs, _⟩ | ⟨x, l, c, zs, hcs, _, hl, hm, hz, _, hcell, hwz⟩
  · simp [Value.cells] at hcs
    obtain ⟨rfl, rfl, rfl⟩ := hcs
    exact ⟨none, 0, 0, [], rfl, rfl, Nat.le_refl _, Nat.zero_le _, Rd.nil _ _ _, fun x hx => by cases hx⟩
  · simp [Value.cells] at hcs
    obtain ⟨rfl, rfl, rfl⟩ := hcs
    have hz : zs.length = cap := by simpa using hz
    refine ⟨some x, len, cap, zs.take len, rfl, by rw [List.length_take]; omega, hl, hm, fun hne => ?_, fun n hn => hwz n (List.mem_of_mem_take hn)⟩
    have hlen : 0 < len := by
      rcases Nat.eq_zero_or_pos len with h0 | h0
      · subst h0; simp at hne
      · exact h0
    obtain ⟨b, off, spot⟩ := x
    have hc0 := hcell 0 (by omega)
    have hspot : spot = none := by simpa [Addr.add] using World.cell?_spot hc0
    subst hspot
    refine ⟨b, off, rfl, World.block_lt_of_cell? W _ hc0, fun j u hu => ?_⟩
    rw [List.getElem?_map] at hu
    have hj : j < len := by
      rcases Nat.lt_or_ge j len with h0 | h0
      · exact h0
      · rw [List.getElem?_eq_none (by rw [List.length_take]; omega)] at hu; cases hu
    rw [nth_some (by rw [List.length_take]; omega), take_nth zs len j hj] at hu
    simp at hu
    subst hu
    have := hcell j (by omega)
    have hadd : (⟨b, off, none⟩ : Addr).add j = ⟨b, off + j, none⟩ := by unfold Addr.add; split <;> simp_all
    rw [hadd] at this
    simpa using this
end Go.Proofs.YtaachamblagbhaaGreatDoor
namespace Go.Proofs.YtaachamblagbhaaGreatDoor
open Go.ChangeShapes Go.WideShapes Go.RowKit
set_option linter.unusedVariables false
set_option linter.unusedSimpArgs false
set_option maxRecDepth 100000

theorem opens_RangeP : Opens Tryz.prog 57 shRg :=
  opens_struct Tryz.underlying57 (by kernel_rfl) (opF_cons rfl (opens_int Tryz.underlying3 (by kernel_rfl)) (opF_one rfl (opens_int Tryz.underlying3 (by kernel_rfl))))
theorem opensW_RangesP : OpensW Tryz.prog 23 (shZ (shL shRg) fun l => l.length * 16 ≤ reachBytes) := opensW_slice Tryz.underlying23 (by kernel_rfl) (by decide) (by kernel_rfl) (Opens.w opens_RangeP)
theorem opensW_IntsP : OpensW Tryz.prog 24 (shZ (shL shInt) fun l => l.length * 8 ≤ reachBytes) := opensW_slice Tryz.underlying24 (by kernel_rfl) (by decide) (by kernel_rfl) (Opens.w (opens_int Tryz.underlying3 (by kernel_rfl)))
theorem opensW_Part : OpensW Tryz.prog 26 shPw :=
  opensW_struct Tryz.underlying26 (by kernel_rfl) (opFW_cons rfl (Opens.w (opens_int Tryz.underlying3 (by kernel_rfl))) (opFW_cons rfl (Opens.w (opens_int Tryz.underlying3 (by kernel_rfl))) (opFW_cons rfl (Opens.w (opens_int Tryz.underlying3 (by kernel_rfl))) (opFW_cons rfl opensW_RangesP (opFW_one rfl opensW_IntsP)))))
theorem opensW_Parts : OpensW Tryz.prog 22 (shZ (shL shPw) fun l => l.length * 72 ≤ reachBytes) := opensW_slice Tryz.underlying22 (by kernel_rfl) (by decide) (by kernel_rfl) opensW_Part
/-- Parts that came in. -/
def IsParts (W : World) (v : Value) : Prop := ∃ A c Q, v = .slice A (List.length Q) c ∧ RdPw W W.heap.size A Q.length c Q
theorem open_IsParts {H : Type} {enc : TypeId × Value → H} {W : World} {base : Nat} {r : Reach} {b0 : Nat} {v : Value} {d : DataW H} {p : List MemPlace} {held : Bool}
    (hv : Value.okWide Tryz.prog W r b0 22 v) (h : DataW.Trod enc Tryz.prog W base (fun _ => true) held 22 v d p) (hw : ∀ n ∈ d.weights Tryz.prog 22, n ≤ reachBytes) : IsParts W v := by
  obtain ⟨Q, hQ, hz⟩ := isIn_ofW opensW_Parts h hw
  obtain ⟨A, c, e, h1, h2⟩ := shL_form hQ
  obtain ⟨a, n, c', rfl⟩ := Go.WideShapes.okWide_slice Tryz.underlying22 hv
  have e' : Value.slice a n c' = Value.slice A Q.length c := by simpa [Value.cells] using e
  cases e'
  exact ⟨A, c, Q, rfl, hQ⟩
end Go.Proofs.YtaachamblagbhaaGreatDoor
