/- The document's sets: Canon, All, SameSet, Size. -/
import Derived.Test.YtihfdmjejllhnaaRgD
namespace Go.Proofs.Ytihfdmjejllhnaa
open Go.RowKit BigFrame
set_option linter.unusedVariables false
set_option linter.unusedSimpArgs false
set_option maxRecDepth 100000

theorem bothP_one {l : List Rg} {p : Int} : bothP 1 l [] p = inR l p := by
  unfold bothP wantB
  rw [if_pos rfl]
  have : inR [] p = false := by unfold inR memR; simp
  rw [this, Bool.or_false]

theorem rCanon_any (A : Option Addr) (n c : Nat) (l : List Rg) (w : World) (B : Nat) (hB : B ≤ w.heap.size) (hr : RdG w B A l) (hl : l.length = n) (hn : n ≤ 400) :
    Calls Try.prog 22 #[.slice A n c] w fun e w' => ∃ v out, e = .returned v ∧ OwG w' w.heap.size v out ∧ IsCan out (inR l) ∧ Below w.heap.size w w' ∧ out.length ≤ 2000 := by
  have hb := both_any A none n c 0 0 l [] 1 w B hB hr hl hn (Rd.nil _ _ _) rfl (by omega)
  have HB := Lib.hid hb
  clear hb hr hl
  go_enter Try.func22, Try.ntmps22
  go_wp2_with fail
  refine HB.out.mono ?_
  rintro e w1 ⟨v, out, rfl, h1, h2, h3, h4⟩
  have H1 := Lib.hid h1; have H2 := Lib.hid (h2.congr fun p => bothP_one); have H3 := Lib.hid h3; have H4 := Lib.hid h4
  clear h1 h2 h3 h4
  go_wp2_with fail
  go_ret
  exact ⟨v, out, rfl, H1.out, H2.out, H3.out, H4.out⟩

theorem rAll_any (w : World) : Calls Try.prog 28 #[] w fun e w' => ∃ v, e = .returned v ∧ OwG w' w.heap.size v [(0, 1114111)] ∧ Below w.heap.size w w' := by
  go_enter Try.func28, Try.ntmps28
  go_wp2_with fail
  go_ret
  refine ⟨_, rfl, ⟨rfl, .inr ⟨w.heap.size, 1, #[.int .i64 0, .int .i64 1114111], rfl, Nat.le_refl _, heap_alloc_new w _, Nat.le_refl _, by unfold maxLen; decide, rfl, rfl⟩⟩, (Below.refl _ w).alloc (Nat.le_refl _) _⟩

theorem ext_nthR {l l2 : List Rg} (hl : l.length = l2.length) (h : ∀ k, k < l.length → nthR l k = nthR l2 k) : l = l2 := by
  apply List.ext_getElem hl
  intro k h1 h2
  have := h k h1
  rwa [nthR_get h1, nthR_get h2] at this

theorem same_any (A A2 : Option Addr) (n c n2 c2 : Nat) (l l2 : List Rg) (w : World) (B B2 : Nat) (hr : RdG w B A l) (hl : l.length = n) (hn : n ≤ 100000) (hr2 : RdG w B2 A2 l2) (hl2 : l2.length = n2) (hn2 : n2 ≤ 100000) :
    Calls Try.prog 20 #[.slice A n c, .slice A2 n2 c2] w fun e w' => e = .returned (.bool (decide (l = l2))) ∧ Below w.heap.size w w' := by
  have HR := Lib.hid hr; have HL := Lib.hid hl; have HR2 := Lib.hid hr2; have HL2 := Lib.hid hl2
  clear hr hl hr2 hl2
  by_cases he : n = n2
  · subst he
    go_enter Try.func20, Try.ntmps20
    go_wp2_with fail
    go_loopw [5] (fun i wr => ∃ k : Nat, k ≤ n ∧ i = .int .i64 (k : Int) ∧ Hid (∀ j, j < k → nthR l j = nthR l2 j) ∧ Hid (Below w.heap.size w wr) ∧ Hid (RdG wr B A l) ∧ Hid (RdG wr B2 A2 l2)) (fun i _ => n - (intOf i).toNat)
    case atStart => exact ⟨0, Nat.zero_le _, rfl, fun j hj => by omega, Below.refl _ _, HR.out, HR2.out⟩
    case round =>
      as_aux_lemma =>
        clear HR HR2
        obtain ⟨k, hk, rfl, HT, HB, HR, HR2⟩ := hrel
        by_cases hlt : k < n
        · obtain ⟨b, off, rfl, hb, hc⟩ := HR.out.at_ (by rw [HL.out]; omega)
          obtain ⟨b2, off2, rfl, hb2, hc2⟩ := HR2.out.at_ (by rw [HL2.out]; omega)
          obtain ⟨z1, z2⟩ := hc k (by rw [HL.out]; exact hlt)
          obtain ⟨z3, z4⟩ := hc2 k (by rw [HL2.out]; exact hlt)
          have hs : nthR l k = nthR l2 k → ∀ j, j < k + 1 → nthR l j = nthR l2 j := fun q j hj => by
            by_cases e : j = k
            · subst e; exact q
            · exact HT.out j (by omega)
          have hno : nthR l k ≠ nthR l2 k → decide (l = l2) = false := fun q => decide_eq_false fun e => q (by rw [e])
          generalize nthR l k = r at *
          generalize nthR l2 k = r2 at *
          obtain ⟨x, y⟩ := r
          obtain ⟨x2, y2⟩ := r2
          simp only at z1 z2 z3 z4
          have hbd : Below w.heap.size w wr.drew := HB.out.drew
          have hrd : RdG wr.drew B (some ⟨b, off, none⟩) l ∧ RdG wr.drew B2 (some ⟨b2, off2, none⟩) l2 := ⟨HR.out.below ⟨rfl, rfl, rfl, Nat.le_refl _, fun _ _ => rfl⟩, HR2.out.below ⟨rfl, rfl, rfl, Nat.le_refl _, fun _ _ => rfl⟩⟩
          have HBD := Lib.hid hbd; have HRD := Lib.hid hrd.1; have HRD2 := Lib.hid hrd.2
          clear hc hc2 hbd hrd
          by_cases hq : (x, y) = (x2, y2)
          · cases hq
            have HS := Lib.hid (hs rfl)
            clear hs hno
            go_wp2_with fail
            go_quiet (fail)
            go_wp2_with fail
            go_roundw
            case rel => exact ⟨k + 1, by omega, by go_num, HS.out, below_drewN HB.out nq, HR.out.below (below_drewN (Below.refl B wr) nq), HR2.out.below (below_drewN (Below.refl B2 wr) nq)⟩
            case measure => simp [intOf]; omega
          · have HNO := Lib.hid (hno hq)
            clear hs hno
            by_cases hx : x = x2
            · subst hx
              have hy : ¬ y = y2 := fun e => hq (by rw [e])
              have d2 : (y == y2) = false := by simpa using hy
              have d3 : decide (y = y2) = false := decide_eq_false hy
              clear hq
              go_wp2_with fail
              go_quiet (fail)
              go_wp2_with fail
              go_ret
              exact ⟨by rw [HNO.out]; rfl, below_drewN HB.out nq⟩
            · have d2 : (x == x2) = false := by simpa using hx
              have d3 : decide (x = x2) = false := decide_eq_false hx
              clear hq
              go_wp2_with fail
              go_quiet (fail)
              go_wp2_with fail
              go_ret
              exact ⟨by rw [HNO.out]; rfl, below_drewN HB.out nq⟩
        · have hx : l = l2 := ext_nthR (by rw [HL.out, HL2.out]) (fun j hj => HT.out j (by rw [HL.out] at hj; omega))
          have HX := Lib.hid (show decide (l = l2) = true from decide_eq_true hx)
          clear hx
          go_wp2_with fail
          go_ret
          exact ⟨by rw [HX.out]; rfl, HB.out⟩
  · have hne : decide (l = l2) = false := decide_eq_false fun e => he (by rw [← HL.out, ← HL2.out, e])
    have d1 : ((n : Int) == (n2 : Int)) = false := by simp; omega
    have HNE := Lib.hid hne
    clear hne
    go_enter Try.func20, Try.ntmps20
    go_wp2_with fail
    go_ret
    exact ⟨by rw [HNE.out]; rfl, Below.refl _ _⟩

/-- How many points. -/
def sizeR : List Rg → Int
  | [] => 0
  | (a, b) :: t => (b - a + 1) + sizeR t
theorem sizeR_snoc : ∀ (l : List Rg) (a b : Int), sizeR (l ++ [(a, b)]) = sizeR l + (b - a + 1)
  | [], a, b => by simp [sizeR]
  | (x, y) :: t, a, b => by rw [List.cons_append, sizeR, sizeR, sizeR_snoc t a b]; omega
theorem CanF.take : ∀ {l : List Rg} {f : Int} (k : Nat), CanF f l → CanF f (l.take k)
  | [], f, k, h => by simpa using h
  | (a, b) :: t, f, 0, h => trivial
  | (a, b) :: t, f, k + 1, h => ⟨h.1, h.2.1, h.2.2.1, CanF.take k h.2.2.2⟩
theorem CanF.size : ∀ {l : List Rg} {f : Int}, CanF f l → 0 ≤ sizeR l ∧ (sizeR l = 0 ∨ sizeR l ≤ MP + 1 - f)
  | [], f, _ => ⟨Int.le_refl _, .inl rfl⟩
  | (a, b) :: t, f, h => by
    obtain ⟨h1, h2, h3, h4⟩ := h
    have := CanF.size h4
    unfold sizeR
    omega
theorem sizeR_take {l : List Rg} {k : Nat} (h : k < l.length) : sizeR (l.take (k + 1)) = sizeR (l.take k) + ((nthR l k).2 - (nthR l k).1 + 1) := by
  rw [List.take_succ_eq_append_getElem h, nthR_get h, ← sizeR_snoc]

theorem rSize_any (A : Option Addr) (n c : Nat) (l : List Rg) (w : World) (B : Nat) (hB : B ≤ w.heap.size) (hr : RdG w B A l) (hl : l.length = n) (hn : n ≤ 400) :
    Calls Try.prog 32 #[.slice A n c] w fun e w' => (∀ out, IsCan out (inR l) → e = .returned (.int .i64 (sizeR out))) ∧ Below w.heap.size w w' := by
  have hb := rCanon_any A n c l w B hB hr hl hn
  have HB := Lib.hid hb
  clear hb hr hl
  go_enter Try.func32, Try.ntmps32
  go_wp2_with fail
  refine HB.out.mono ?_
  rintro e w1 ⟨v, out, rfl, h1, h2, h3, h4⟩
  clear HB
  obtain ⟨A1, c1, rfl, q1, q2, q3⟩ := h1.form
  have H1 := Lib.hid q3; have H2 := Lib.hid h2; have H3 := Lib.hid h3; have H4 := Lib.hid h4
  clear h1 h2 h3 h4 q3
  go_wp2_with fail
  go_loopw [4, 5] (fun v i wr => ∃ k : Nat, k ≤ out.length ∧ i = .int .i64 (k : Int) ∧ v = .int .i64 (sizeR (out.take k)) ∧ Hid (Below w.heap.size w wr) ∧ Hid (RdG wr w1.heap.size A1 out)) (fun _ i _ => out.length - (intOf i).toNat)
  case atStart => exact ⟨0, Nat.zero_le _, rfl, rfl, H3.out, H1.out⟩
  case round =>
    as_aux_lemma =>
      obtain ⟨k, hk, rfl, rfl, HB, HR⟩ := hrel
      by_cases hlt : k < out.length
      · obtain ⟨b, off, rfl, hb, hc⟩ := HR.out.at_ (by omega)
        obtain ⟨z1, z2⟩ := hc k hlt
        have hs := sizeR_take hlt
        have c0 := CanF.size (CanF.take k H2.out.can)
        have bd := CanF.bd H2.out.can _ (mem_nthR hlt)
        have c1 := CanF.size (CanF.take (k + 1) H2.out.can)
        rw [hs] at c1
        have HS := Lib.hid hs
        unfold MP at bd c0 c1
        have hll := H4.out
        clear hc hs
        generalize nthR out k = r at *
        generalize sizeR (out.take k) = s at *
        obtain ⟨x, y⟩ := r
        simp only at z1 z2 bd c1
        go_wp2_with fail
        go_quiet (fail)
        go_wp2_with fail
        go_roundw
        case rel => exact ⟨k + 1, by omega, by go_num, by rw [HS.out]; exact congrArg (Value.int .i64) (by omega), below_drewN HB.out _, HR.out.below (below_drewN (Below.refl _ wr) _)⟩
        case measure => simp [intOf]; omega
      · have he : out.take k = out := List.take_of_length_le (by omega)
        have HE := Lib.hid he
        clear he
        go_wp2_with fail
        go_ret
        exact ⟨fun out2 h2 => by rw [HE.out, H2.out.same h2 (fun _ => rfl)]; rfl, HB.out⟩
end Go.Proofs.Ytihfdmjejllhnaa
