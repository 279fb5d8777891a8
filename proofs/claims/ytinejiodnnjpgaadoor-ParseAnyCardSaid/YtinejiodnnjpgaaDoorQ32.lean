/- The contract of grammarsmithlaw1.sameInts. · Plain: the errors' numbers, the tree's size, how many may come next; a table that came in. -/
import Derived.Test.YtinejiodnnjpgaaDoorProg
import Derived.Test.YtinejiodnnjpgaaDoorQ1
import Derived.WalkSpells
import Derived.WalkLawsBesides
import Derived.Handy
import Derived.Deep.QuietTactic
import Derived.BigQuiet
import Derived.Test.YtinejiodnnjpgaaDoorQ25
import Derived.Test.YtinejiodnnjpgaaDoorQ26
import Derived.Test.YtinejiodnnjpgaaDoorQ28
import Derived.Test.YtinejiodnnjpgaaDoorQ29
import Derived.Test.YtinejiodnnjpgaaDoorQ31
namespace Go.Proofs.YtinejiodnnjpgaaDoor
open Go.RowKit
set_option linter.unusedVariables false
set_option linter.unusedSimpArgs false

theorem take_more {l l' : List Int} {k : Nat} (h : l.take k = l'.take k) (hk : k < l.length) (hk' : k < l'.length) (he : nth l k = nth l' k) : l.take (k + 1) = l'.take (k + 1) := by
  rw [List.take_succ_eq_append_getElem hk, List.take_succ_eq_append_getElem hk', h, ← nth_get hk, ← nth_get hk', he]

theorem sameInts_len (A A' : Option Addr) (c c' n : Nat) (l l' : List Int) (w : World) (B : Nat) (h : RdI w B A l) (h' : RdI w B A' l') (hl : l.length = n) (hl' : l'.length = n) (hm : n ≤ maxLen) :
    Calls Tryd.prog 23 #[.slice A n c, .slice A' n c'] w fun e w' => e = .returned (.bool (decide (l = l'))) ∧ ∃ n, w' = w.drewN n := by
  unfold maxLen at hm
  have Hl := Lib.hid hl; clear hl
  have Hl' := Lib.hid hl'; clear hl'
  have e' : ((n : Int) != (n : Int)) = false := by simp
  go_enter Tryd.func23, Tryd.ntmps23
  go_wp2
  go_loopw [5] (fun i wr => ∃ k : Nat, k ≤ n ∧ i = .int .i64 k ∧ Hid (l.take k = l'.take k) ∧ ∃ d, wr = w.drewN d) (fun i _ => n - (intOf i).toNat)
  case atStart => exact ⟨0, Nat.zero_le _, rfl, rfl, 0, rfl⟩
  case round =>
    obtain ⟨k, hk, rfl, HE, d, rfl⟩ := hrel
    by_cases hlt : k < n
    · obtain ⟨b, off, rfl, hb, hc⟩ := h.at_ (by rw [Hl.out]; omega)
      obtain ⟨b', off', rfl, hb', hc'⟩ := h'.at_ (by rw [Hl'.out]; omega)
      have c1 := hc k (by rw [Hl.out]; omega)
      have c2 := hc' k (by rw [Hl'.out]; omega)
      clear hc hc'
      by_cases hd : nth l k = nth l' k
      · have hB : (nth l k != nth l' k) = false := by simp [hd]
        have Hd := Lib.hid hd; clear hd
        go_wp2
        go_quiet (fail)
        go_wp2
        go_roundw
        case rel => exact ⟨k + 1, by omega, by go_num, take_more HE.out (by rw [Hl.out]; omega) (by rw [Hl'.out]; omega) Hd.out, _, rfl⟩
        case measure => simp [intOf]; omega
      · have hB : (nth l k != nth l' k) = true := by simp [hd]
        have Hd := Lib.hid hd; clear hd
        go_wp2
        go_quiet (fail)
        go_wp2
        go_ret
        exact ⟨ret_eq (by simp; intro h; exact Hd.out (by rw [h])), _, World.drewN_drewN _ _ _⟩
    · go_wp2
      go_ret
      refine ⟨ret_eq ?_, _, rfl⟩
      have := HE.out
      rw [List.take_of_length_le (by rw [Hl.out]; omega), List.take_of_length_le (by rw [Hl'.out]; omega)] at this
      simp [this]

theorem sameInts_any (A A' : Option Addr) (c c' n n' : Nat) (l l' : List Int) (w : World) (B : Nat) (h : RdI w B A l) (h' : RdI w B A' l') (hl : l.length = n) (hl' : l'.length = n') (hm : n ≤ maxLen) :
    Calls Tryd.prog 23 #[.slice A n c, .slice A' n' c'] w fun e w' => e = .returned (.bool (decide (l = l'))) ∧ ∃ n, w' = w.drewN n := by
  by_cases e : n = n'
  · subst e
    exact sameInts_len A A' c c' n l l' w B h h' hl hl' hm
  · have e' : ((n : Int) != (n' : Int)) = true := by simp; omega
    have hne : decide (l = l') = false := by simp; intro h; subst h; omega
    have Hn := Lib.hid hne; clear hne
    have Hl := Lib.hid hl; clear hl
    have Hl' := Lib.hid hl'; clear hl'
    go_enter Tryd.func23, Tryd.ntmps23
    go_wp2
    go_ret
    exact ⟨by rw [Hn.out]; rfl, 0, rfl⟩
end Go.Proofs.YtinejiodnnjpgaaDoor
namespace Go.Proofs.YtinejiodnnjpgaaDoor
open Go.ChangeShapes Go.WideShapes Go.RowKit BigFrame
set_option linter.unusedVariables false
set_option linter.unusedSimpArgs false
set_option maxRecDepth 100000

theorem settle_code {G : Gr} {T : Tb} {term : Int} : ∀ (f : Nat) (st : St) (c : Nat), settleP G T term f st = .error c → c < 7 := by
  intro f
  induction f with
  | zero =>
    intro st c e
    unfold settleP at e
    split at e
    · cases e; omega
    · split at e
      · cases e
      · split at e
        · split at e
          · cases e
          · cases e; omega
        · cases e; omega
  | succ f ih =>
    intro st c e
    unfold settleP at e
    split at e
    · cases e; omega
    · split at e
      · cases e
      · split at e
        · split at e
          · cases e
          · cases e; omega
        · simp only at e
          split at e
          · cases e; omega
          · exact ih _ c e
theorem take_code {G : Gr} {T : Tb} {term : Int} {i : Nat} {st : St} {c : Nat} (e : takeP G T term i st = .error c) : c < 7 := by
  unfold takeP at e
  split at e
  · cases e; omega
  · split at e
    · rename_i c' hs
      cases e
      exact settle_code _ _ _ hs
    · cases e
theorem read_code {G : Gr} {T : Tb} : ∀ (l : List Int) (i : Nat) (st : St) (c j : Nat), readP G T l i st = .error (c, j) → c < 7
  | [], i, st, c, j, e => by unfold readP at e; cases e
  | t :: l, i, st, c, j, e => by
    unfold readP at e
    split at e
    · rename_i c' hs
      cases e
      exact take_code hs
    · exact read_code l _ _ _ _ e
theorem parse_code {G : Gr} {T : Tb} {l : List Int} {c j : Nat} (e : parseP G T l = .error (c, j)) : c < 7 := by
  unfold parseP at e
  split at e
  · rename_i x hs
    cases e
    exact read_code _ _ _ _ _ hs
  · split at e
    · rename_i x hs
      cases e
      exact settle_code _ _ _ hs
    · cases e
theorem read_sz {G : Gr} {T : Tb} : ∀ (l : List Int) (i : Nat) (st st' : St), readP G T l i st = .ok st' → szL st'.2 ≤ szL st.2 + 10001 * l.length
  | [], i, st, st', e => by unfold readP at e; cases e; omega
  | t :: l, i, st, st', e => by
    unfold readP at e
    split at e
    · cases e
    · rename_i s hs
      have h1 := take_sz hs
      have h2 := read_sz l (i + 1) s st' e
      rw [List.length_cons]; omega
theorem parse_sz {G : Gr} {T : Tb} {l : List Int} {t : Tr} (e : parseP G T l = .ok t) : szT t ≤ 10001 * l.length + 10001 := by
  unfold parseP at e
  split at e
  · cases e
  · rename_i s hs
    split at e
    · cases e
    · rename_i s' to hs'
      cases e
      have h1 := read_sz l 0 _ _ hs
      have h2 := settle_sz _ _ _ _ hs'
      simp only [szL] at h1
      cases hl : s'.2 with
      | nil => simp [szT]
      | cons x xs =>
        rw [hl] at h2
        simp only [List.headD_cons, szL] at h2 ⊢
        omega
theorem next_len {G : Gr} {T : Tb} {l : List Int} (hf : TFits G T) : (nextP G T l).length ≤ 400 := by
  unfold nextP
  split
  · simp
  · rw [List.length_map]
    refine Nat.le_trans (List.length_filter_le _ _) ?_
    rw [List.length_range]
    have h1 := hf.ok.t1; have h2 := hf.ok.t0
    omega

theorem opens_Act : Opens Tryd.prog 82 shAc := opens_struct Tryd.underlying82 (by kernel_rfl) (opF_cons rfl (opens_int Tryd.underlying3 (by kernel_rfl)) (opF_one rfl (opens_int Tryd.underlying3 (by kernel_rfl))))
theorem opens_Acts : Opens Tryd.prog 79 (shL shAc) := opens_slice Tryd.underlying79 (by kernel_rfl) (by decide) opens_Act
theorem opens_Actss : Opens Tryd.prog 43 (shL (shL shAc)) := opens_slice Tryd.underlying43 (by kernel_rfl) (by decide) opens_Acts
theorem opens_Intss : Opens Tryd.prog 44 (shL (shL shInt)) := opens_slice Tryd.underlying44 (by kernel_rfl) (by decide) opens_Ints
theorem opens_Conf : Opens Tryd.prog 173 (shP shInt (shP shInt (shP shInt (shP shInt shInt)))) :=
  opens_struct Tryd.underlying173 (by kernel_rfl) (opF_cons rfl (opens_int Tryd.underlying3 (by kernel_rfl)) (opF_cons rfl (opens_int Tryd.underlying3 (by kernel_rfl)) (opF_cons rfl (opens_int Tryd.underlying3 (by kernel_rfl)) (opF_cons rfl (opens_int Tryd.underlying3 (by kernel_rfl)) (opF_one rfl (opens_int Tryd.underlying3 (by kernel_rfl)))))))
theorem opens_Confs : Opens Tryd.prog 45 (shL (shP shInt (shP shInt (shP shInt (shP shInt shInt))))) := opens_slice Tryd.underlying45 (by kernel_rfl) (by decide) opens_Conf
theorem opens_Table : Opens Tryd.prog 47 (shP (shL (shL shAc)) (shP (shL (shL shInt)) (shL (shP shInt (shP shInt (shP shInt (shP shInt shInt))))))) :=
  opens_struct Tryd.underlying47 (by kernel_rfl) (opF_cons rfl opens_Actss (opF_cons rfl opens_Intss (opF_one rfl opens_Confs)))
/-- A table that came in. -/
def IsTable (W : World) (v : Value) : Prop := ∃ T Aa na ca Ag ng cg Ac nc cc, v = .agg #[.slice Aa na ca, .slice Ag ng cg, .slice Ac nc cc] ∧ TbIn W W.heap.size T Aa na ca Ag ng cg
theorem open_IsTable {H : Type} {enc : TypeId × Value → H} {W : World} {base : Nat} {r : Reach} {b0 : Nat} {v : Value} {d : DataW H} {p : List MemPlace} {held : Bool}
    (hv : Value.okWide Tryd.prog W r b0 47 v) (h : DataW.Trod enc Tryd.prog W base (fun _ => true) held 47 v d p) : IsTable W v := by
  obtain ⟨cs, rfl, hsz⟩ := Go.WideShapes.okWide_struct Tryd.underlying47 hv
  obtain ⟨⟨Q, L, S⟩, c4, d4, e4, h4, c5, c6, e5, h5, h6⟩ := isIn_of opens_Table h
  obtain ⟨A4, k4, q4, f4, g4⟩ := shL_form h4
  obtain ⟨A5, k5, q5, f5, g5⟩ := shL_form h5
  obtain ⟨A6, k6, q6, f6, g6⟩ := shL_form h6
  subst q4 q5 q6
  refine ⟨⟨Q, L⟩, A4, Q.length, k4, A5, L.length, k5, A6, S.length, k6, ?_, ⟨h4, h5⟩⟩
  have e' : cs = #[.slice A4 Q.length k4, .slice A5 L.length k5, .slice A6 S.length k6] := by
    apply Array.ext'
    subst e5
    simpa [Value.cells] using e4
  rw [e']
end Go.Proofs.YtinejiodnnjpgaaDoor
