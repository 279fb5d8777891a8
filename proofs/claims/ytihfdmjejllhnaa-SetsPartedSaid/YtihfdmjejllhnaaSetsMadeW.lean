/- The law SetsMade walked: it returns true. -/
import Derived.Test.YtihfdmjejllhnaaRgL
import Derived.Test.YtihfdmjejllhnaaSh
import Derived.Test.YtihfdmjejllhnaaOpen
namespace Go.Proofs.Ytihfdmjejllhnaa
open Go.RowKit
set_option linter.unusedVariables false
set_option linter.unusedSimpArgs false
set_option maxRecDepth 100000

abbrev shRg : Sh Rg := shP (shI .i64) (shI .i64)
theorem opens_Rg : Opens Try.prog 59 shRg :=
  opens_struct Try.underlying59 (by kernel_rfl) (opF_cons rfl (opens_int Try.underlying3 (by kernel_rfl)) (opF_one rfl (opens_int Try.underlying3 (by kernel_rfl))))
theorem opens_Rgs : Opens Try.prog 35 (shL shRg) := opens_slice Try.underlying35 (by kernel_rfl) (by decide) opens_Rg
/-- Ranges that came in. -/
def IsRgs (W : World) (v : Value) : Prop := ∃ A n c l, v = .slice A n c ∧ List.length l = n ∧ n ≤ c ∧ c ≤ maxLen ∧ RdG W W.heap.size A l
theorem css_rv : ∀ (l : List Rg) (css : List (List Value)), css.length = l.length → (∀ (i : Nat) (a : Rg) (d : List Value), l[i]? = some a → css[i]? = some d → d = [.int .i64 a.1, .int .i64 a.2]) → css.flatten = rv l
  | [], [], _, _ => rfl
  | [], _ :: _, h, _ => by simp at h
  | _ :: _, [], h, _ => by simp at h
  | r :: l, d :: css, h, hd => by
    have h0 := hd 0 r d rfl rfl
    have ih := css_rv l css (by simpa using h) (fun i a e ha he => hd (i + 1) a e (by simpa using ha) (by simpa using he))
    rw [List.flatten_cons, ih, h0]; rfl
theorem open_IsRgs {H : Type} {enc : TypeId × Value → H} {W : World} {base : Nat} {r : Reach} {b0 : Nat} {v : Value} {d : DataW H} {p : List MemPlace} {held : Bool}
    (hv : Value.okWide Try.prog W r b0 35 v) (h : DataW.Trod enc Try.prog W base (fun _ => true) held 35 v d p) : IsRgs W v := by
  obtain ⟨a, len, cap, rfl⟩ := Go.WideShapes.okWide_slice Try.underlying35 hv
  obtain ⟨l, hl⟩ := isIn_of opens_Rgs h
  obtain ⟨A, c, css, e, h1, h2, h3, h4, h5⟩ := hl
  simp [Value.cells] at e
  obtain ⟨rfl, rfl, rfl⟩ := e
  have hf : css.flatten = rv l := css_rv l css h3 fun i x d hx hd => by
    obtain ⟨c1, c2, e, ⟨q1, _⟩, ⟨q2, _⟩⟩ := h4 i x d hx hd
    rw [e, q1, q2]; rfl
  rw [hf] at h5
  exact ⟨a, _, cap, l, rfl, rfl, h1, h2, h5⟩

theorem inR_all {p : Int} : inR [(0, 1114111)] p = isPt p := by
  unfold inR memR isPt MP
  simp
theorem both1 {l l2 : List Rg} {p : Int} : bothP 1 l l2 p = (inR l p || inR l2 p) := by unfold bothP wantB; rw [if_pos rfl]
theorem both2 {l l2 : List Rg} {p : Int} : bothP 2 l l2 p = (inR l p && inR l2 p) := by unfold bothP wantB; rw [if_neg (by decide), if_pos rfl]
theorem both3 {l l2 : List Rg} {p : Int} : bothP 3 l l2 p = (inR l p && !inR l2 p) := by unfold bothP wantB; rw [if_neg (by decide), if_neg (by decide)]

set_option maxHeartbeats 4000000 in
theorem walk_SetsMade (w : World) (v : Value) (hv : IsRgs w v) (v2 : Value) (hv2 : IsRgs w v2) (p : Int) (hp : (Lit.int .i64 p).wf = true) :
    Calls Try.prog 7 #[v, v2, .int .i64 p] w fun e w' => e = .returned (.bool true) ∧ Below w.heap.size w w' := by
  obtain ⟨A, n, c, la, rfl, hla, hnc, hc, hra⟩ := hv
  obtain ⟨A', n', c', lb, rfl, hlb, hnc', hc', hrb⟩ := hv2
  have HLA := Lib.hid hla; have HLB := Lib.hid hlb; have HA := Lib.hid hra; have HB' := Lib.hid hrb
  unfold maxLen at hc hc'
  clear hla hlb hra hrb
  by_cases h1 : 12 < n
  · go_enter Try.func7, Try.ntmps7
    go_wp2
    go_ret
    exact ⟨rfl, Below.refl _ _⟩
  by_cases h2 : 12 < n'
  · go_enter Try.func7, Try.ntmps7
    go_wp2
    go_ret
    exact ⟨rfl, Below.refl _ _⟩
  have hn1 : n ≤ 12 := by omega
  have hn2 : n' ≤ 12 := by omega
  have HBa : Hid (Below w.heap.size w w) := Lib.hid (Below.refl _ _)
  go_enter Try.func7, Try.ntmps7
  have hcall1 := canon_any A n c la w w.heap.size HBa.out.size (HA.out.below HBa.out) HLA.out (by omega)
  have HCALL1 := Lib.hid hcall1
  clear hcall1
  go_wp2_with fail
  refine HCALL1.out.mono ?_
  clear HCALL1
  rintro e w1 ⟨u1, d1, rfl, o1, k1, b1, l1⟩
  obtain ⟨X1, e1, rfl, _, _, p1⟩ := o1.form
  have R1 := Lib.hid p1; have K1 := Lib.hid k1; have HBw1 := Lib.hid (HBa.out.trans (b1.mono HBa.out.size)); have BB1 := Lib.hid b1
  clear o1 k1 b1 p1
  have hcall2 := rCanon_any A n c la w1 w.heap.size HBw1.out.size (HA.out.below HBw1.out) HLA.out (by omega)
  have HCALL2 := Lib.hid hcall2
  clear hcall2
  go_wp2_with fail
  refine HCALL2.out.mono ?_
  clear HCALL2
  rintro e w2 ⟨u2, d2, rfl, o2, k2, b2, l2⟩
  obtain ⟨X2, e2, rfl, _, _, p2⟩ := o2.form
  have R2 := Lib.hid p2; have K2 := Lib.hid k2; have HBw2 := Lib.hid (HBw1.out.trans (b2.mono HBw1.out.size)); have BB2 := Lib.hid b2
  clear o2 k2 b2 p2
  have heq2 : decide (d1 = d2) = true := decide_eq_true (K1.out.same K2.out (fun p => by rfl))
  have HEQ2 := Lib.hid heq2
  have HSM2 := Lib.hid (same_any X1 X2 d1.length e1 d2.length e2 d1 d2 w2 w1.heap.size w2.heap.size (R1.out.below BB2.out) rfl (by omega) R2.out rfl (by omega))
  rw [heq2] at HSM2
  clear heq2 R2 K2
  go_wp2_with fail
  refine HSM2.out.mono ?_
  clear HSM2
  rintro e ws2 ⟨rfl, bs2⟩
  have HBs2 := Lib.hid (HBw2.out.trans (bs2.mono HBw2.out.size))
  clear bs2
  have hcall3 := join_any A A' n c n' c' la lb ws2 w.heap.size HBs2.out.size (HA.out.below HBs2.out) HLA.out (by omega) (HB'.out.below HBs2.out) HLB.out (by omega)
  have HCALL3 := Lib.hid hcall3
  clear hcall3
  go_wp2_with fail
  refine HCALL3.out.mono ?_
  clear HCALL3
  rintro e w3 ⟨u3, d3, rfl, o3, k3, b3, l3⟩
  obtain ⟨X3, e3, rfl, _, _, p3⟩ := o3.form
  have R3 := Lib.hid p3; have K3 := Lib.hid k3; have HBw3 := Lib.hid (HBs2.out.trans (b3.mono HBs2.out.size)); have BB3 := Lib.hid b3
  clear o3 k3 b3 p3
  have hcall4 := both_any A A' n c n' c' la lb 1 w3 w.heap.size HBw3.out.size (HA.out.below HBw3.out) HLA.out (by omega) (HB'.out.below HBw3.out) HLB.out (by omega)
  have HCALL4 := Lib.hid hcall4
  clear hcall4
  go_wp2_with fail
  refine HCALL4.out.mono ?_
  clear HCALL4
  rintro e w4 ⟨u4, d4, rfl, o4, k4, b4, l4⟩
  obtain ⟨X4, e4, rfl, _, _, p4⟩ := o4.form
  have R4 := Lib.hid p4; have K4 := Lib.hid k4; have HBw4 := Lib.hid (HBw3.out.trans (b4.mono HBw3.out.size)); have BB4 := Lib.hid b4
  clear o4 k4 b4 p4
  have heq4 : decide (d3 = d4) = true := decide_eq_true (K3.out.same K4.out (fun p => by exact both1.symm))
  have HEQ4 := Lib.hid heq4
  have HSM4 := Lib.hid (same_any X3 X4 d3.length e3 d4.length e4 d3 d4 w4 w3.heap.size w4.heap.size (R3.out.below BB4.out) rfl (by omega) R4.out rfl (by omega))
  rw [heq4] at HSM4
  clear heq4 R4 K4 K3
  go_wp2_with fail
  refine HSM4.out.mono ?_
  clear HSM4
  rintro e ws4 ⟨rfl, bs4⟩
  have HBs4 := Lib.hid (HBw4.out.trans (bs4.mono HBw4.out.size))
  clear bs4
  have hcall5 := meet_any A A' n c n' c' la lb ws4 w.heap.size w.heap.size HBs4.out.size HBs4.out.size (HA.out.below HBs4.out) HLA.out (by omega) (HB'.out.below HBs4.out) HLB.out (by omega)
  have HCALL5 := Lib.hid hcall5
  clear hcall5
  go_wp2_with fail
  refine HCALL5.out.mono ?_
  clear HCALL5
  rintro e w5 ⟨u5, d5, rfl, o5, k5, b5, l5⟩
  obtain ⟨X5, e5, rfl, _, _, p5⟩ := o5.form
  have R5 := Lib.hid p5; have K5 := Lib.hid k5; have HBw5 := Lib.hid (HBs4.out.trans (b5.mono HBs4.out.size)); have BB5 := Lib.hid b5
  clear o5 k5 b5 p5
  have hcall6 := both_any A A' n c n' c' la lb 2 w5 w.heap.size HBw5.out.size (HA.out.below HBw5.out) HLA.out (by omega) (HB'.out.below HBw5.out) HLB.out (by omega)
  have HCALL6 := Lib.hid hcall6
  clear hcall6
  go_wp2_with fail
  refine HCALL6.out.mono ?_
  clear HCALL6
  rintro e w6 ⟨u6, d6, rfl, o6, k6, b6, l6⟩
  obtain ⟨X6, e6, rfl, _, _, p6⟩ := o6.form
  have R6 := Lib.hid p6; have K6 := Lib.hid k6; have HBw6 := Lib.hid (HBw5.out.trans (b6.mono HBw5.out.size)); have BB6 := Lib.hid b6
  clear o6 k6 b6 p6
  have heq6 : decide (d5 = d6) = true := decide_eq_true (K5.out.same K6.out (fun p => by exact both2.symm))
  have HEQ6 := Lib.hid heq6
  have HSM6 := Lib.hid (same_any X5 X6 d5.length e5 d6.length e6 d5 d6 w6 w5.heap.size w6.heap.size (R5.out.below BB6.out) rfl (by omega) R6.out rfl (by omega))
  rw [heq6] at HSM6
  clear heq6 R6 K6 K5
  go_wp2_with fail
  refine HSM6.out.mono ?_
  clear HSM6
  rintro e ws6 ⟨rfl, bs6⟩
  have HBs6 := Lib.hid (HBw6.out.trans (bs6.mono HBw6.out.size))
  clear bs6
  have hcall7 := less_any A A' n c n' c' la lb ws6 w.heap.size HBs6.out.size (HA.out.below HBs6.out) HLA.out (by omega) (HB'.out.below HBs6.out) HLB.out (by omega)
  have HCALL7 := Lib.hid hcall7
  clear hcall7
  go_wp2_with fail
  refine HCALL7.out.mono ?_
  clear HCALL7
  rintro e w7 ⟨u7, d7, rfl, o7, k7, b7, l7⟩
  obtain ⟨X7, e7, rfl, _, _, p7⟩ := o7.form
  have R7 := Lib.hid p7; have K7 := Lib.hid k7; have HBw7 := Lib.hid (HBs6.out.trans (b7.mono HBs6.out.size)); have BB7 := Lib.hid b7
  clear o7 k7 b7 p7
  have hcall8 := both_any A A' n c n' c' la lb 3 w7 w.heap.size HBw7.out.size (HA.out.below HBw7.out) HLA.out (by omega) (HB'.out.below HBw7.out) HLB.out (by omega)
  have HCALL8 := Lib.hid hcall8
  clear hcall8
  go_wp2_with fail
  refine HCALL8.out.mono ?_
  clear HCALL8
  rintro e w8 ⟨u8, d8, rfl, o8, k8, b8, l8⟩
  obtain ⟨X8, e8, rfl, _, _, p8⟩ := o8.form
  have R8 := Lib.hid p8; have K8 := Lib.hid k8; have HBw8 := Lib.hid (HBw7.out.trans (b8.mono HBw7.out.size)); have BB8 := Lib.hid b8
  clear o8 k8 b8 p8
  have heq8 : decide (d7 = d8) = true := decide_eq_true (K7.out.same K8.out (fun p => by exact both3.symm))
  have HEQ8 := Lib.hid heq8
  have HSM8 := Lib.hid (same_any X7 X8 d7.length e7 d8.length e8 d7 d8 w8 w7.heap.size w8.heap.size (R7.out.below BB8.out) rfl (by omega) R8.out rfl (by omega))
  rw [heq8] at HSM8
  clear heq8 R8 K8 K7
  go_wp2_with fail
  refine HSM8.out.mono ?_
  clear HSM8
  rintro e ws8 ⟨rfl, bs8⟩
  have HBs8 := Lib.hid (HBw8.out.trans (bs8.mono HBw8.out.size))
  clear bs8
  have hcall9 := other_any A n c la ws8 w.heap.size HBs8.out.size (HA.out.below HBs8.out) HLA.out (by omega)
  have HCALL9 := Lib.hid hcall9
  clear hcall9
  go_wp2_with fail
  refine HCALL9.out.mono ?_
  clear HCALL9
  rintro e w9 ⟨u9, d9, rfl, o9, k9, b9, l9⟩
  obtain ⟨X9, e9, rfl, _, _, p9⟩ := o9.form
  have R9 := Lib.hid p9; have K9 := Lib.hid k9; have HBw9 := Lib.hid (HBs8.out.trans (b9.mono HBs8.out.size)); have BB9 := Lib.hid b9
  clear o9 k9 b9 p9
  go_wp2_with fail
  refine (rAll_any w9).mono ?_
  rintro e wa ⟨ua, rfl, oa, ba⟩
  obtain ⟨Xa, ea, rfl, _, _, pa⟩ := oa.form
  have Ra := Lib.hid pa; have HBwa := Lib.hid (HBw9.out.trans (ba.mono HBw9.out.size)); have BBa := Lib.hid ba; have RI := Lib.hid (R9.out.below ba); have SZ := Lib.hid ba.size
  clear oa ba pa
  have hcall10 := both_any Xa A (List.length [((0 : Int), (1114111 : Int))]) ea n c [(0, 1114111)] la 3 wa wa.heap.size (Nat.le_refl _) Ra.out rfl (by decide) ((HA.out.below HBwa.out).more HBwa.out.size) HLA.out (by omega)
  have HCALL10 := Lib.hid hcall10
  clear hcall10
  go_wp2_with fail
  refine HCALL10.out.mono ?_
  clear HCALL10
  rintro e w10 ⟨u10, d10, rfl, o10, k10, b10, l10⟩
  obtain ⟨X10, e10, rfl, _, _, p10⟩ := o10.form
  have R10 := Lib.hid p10; have K10 := Lib.hid k10; have HBw10 := Lib.hid (HBwa.out.trans (b10.mono HBwa.out.size)); have BB10 := Lib.hid b10
  clear o10 k10 b10 p10
  clear R9
  have R9 := Lib.hid (RI.out.more SZ.out)
  clear RI
  have BBQ := BB10
  have heq10 : decide (d9 = d10) = true := decide_eq_true (K9.out.same K10.out (fun p => by rw [both3, inR_all]))
  have HSM10 := Lib.hid (same_any X9 X10 d9.length e9 d10.length e10 d9 d10 w10 wa.heap.size w10.heap.size (R9.out.below BB10.out) rfl (by omega) R10.out rfl (by omega))
  rw [heq10] at HSM10
  clear heq10
  go_wp2_with fail
  refine HSM10.out.mono ?_
  rintro e ws10 ⟨rfl, bs10⟩
  have HBs10 := Lib.hid (HBw10.out.trans (bs10.mono HBw10.out.size))
  clear bs10 HSM10
  have H6 := Lib.hid (has_any A n c la p ws10 w.heap.size HBs10.out.size (HA.out.below HBs10.out) HLA.out (by omega))
  go_wp2_with fail
  refine H6.out.mono ?_
  rintro e y1 ⟨rfl, by1⟩
  have HY1 := Lib.hid (HBs10.out.trans (by1.mono HBs10.out.size))
  clear by1 H6
  have H7 := Lib.hid (rHas_any A n c la p y1 w.heap.size (HA.out.below HY1.out) HLA.out (by omega))
  go_wp2_with fail
  refine H7.out.mono ?_
  rintro e y2 ⟨rfl, rfl⟩
  clear H7
  have H8 := Lib.hid (size_any A n c la y1 w.heap.size HY1.out.size (HA.out.below HY1.out) HLA.out (by omega))
  generalize inR la p = q
  cases q
  all_goals
    go_wp2_with fail
    refine H8.out.mono ?_
    rintro e y3 ⟨hy3, by3⟩
    obtain rfl := hy3 d1 K1.out
    have HY3 := Lib.hid (HY1.out.trans (by3.mono HY1.out.size))
    clear hy3 by3
    have H9 := Lib.hid (rSize_any A n c la y3 w.heap.size HY3.out.size (HA.out.below HY3.out) HLA.out (by omega))
    generalize hsd : sizeR d1 = sd
    go_wp2_with fail
    refine H9.out.mono ?_
    rintro e y4 ⟨hy4, by4⟩
    obtain rfl := hy4 d1 K1.out
    rw [hsd]
    have HY4 := Lib.hid (HY3.out.trans (by4.mono HY3.out.size))
    clear hy4 by4 hsd
    go_wp2_with fail
    go_ret
    exact ⟨rfl, HY4.out⟩
end Go.Proofs.Ytihfdmjejllhnaa
