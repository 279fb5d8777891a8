/- Sets of ranges read; the document's alike. -/
import Derived.Test.YtihfdmjejllhnaaRgT
namespace Go.Proofs.Ytihfdmjejllhnaa
open Go.RowKit BigFrame
set_option linter.unusedVariables false
set_option linter.unusedSimpArgs false
set_option maxRecDepth 100000

def nthS (S : List (List Rg)) (k : Nat) : List Rg := S.getD k []
theorem nthS_get {S : List (List Rg)} {k : Nat} (h : k < S.length) : nthS S k = S[k] := by simp [nthS, h]
/-- A slice of slices of ranges. -/
def RdS (w : World) (B : Nat) (A : Option Addr) (S : List (List Rg)) : Prop :=
  0 < S.length → ∃ b off, A = some ⟨b, off, none⟩ ∧ b < B ∧ ∀ k, k < S.length → ∃ A' c', w.cell? ⟨b, off + k, none⟩ = some (.slice A' (nthS S k).length c') ∧ (nthS S k).length ≤ c' ∧ c' ≤ maxLen ∧ RdG w B A' (nthS S k)
theorem RdS.below {w w' : World} {B : Nat} {A : Option Addr} {S : List (List Rg)} (h : RdS w B A S) (hb : Below B w w') : RdS w' B A S := fun h0 => by
  obtain ⟨b, off, e, hlt, hc⟩ := h h0
  refine ⟨b, off, e, hlt, fun k hk => ?_⟩
  obtain ⟨A', c', z, q1, q2, r⟩ := hc k hk
  exact ⟨A', c', (hb.cell (p := ⟨b, off + k, none⟩) hlt).trans z, q1, q2, r.below hb⟩
theorem RdS.more {w : World} {B B' : Nat} {A : Option Addr} {S : List (List Rg)} (h : RdS w B A S) (hB : B ≤ B') : RdS w B' A S := fun h0 => by
  obtain ⟨b, off, e, hlt, hc⟩ := h h0
  refine ⟨b, off, e, by omega, fun k hk => ?_⟩
  obtain ⟨A', c', z, q1, q2, r⟩ := hc k hk
  exact ⟨A', c', z, q1, q2, r.more hB⟩
theorem sig_take {S : List (List Rg)} {k : Nat} {p q : Int} (h : k < S.length) : (sig (S.take (k + 1)) p = sig (S.take (k + 1)) q) ↔ sig (S.take k) p = sig (S.take k) q ∧ inR (nthS S k) p = inR (nthS S k) q := by
  rw [List.take_succ_eq_append_getElem h, sig_snoc, nthS_get h]
theorem sig_take_ne {S : List (List Rg)} {k : Nat} {p q : Int} (h : k < S.length) (hne : inR (nthS S k) p ≠ inR (nthS S k) q) : sig S p ≠ sig S q := fun e => hne (by
  have h2 : (sig S p)[k]? = (sig S q)[k]? := by rw [e]
  unfold sig at h2
  rw [List.getElem?_map, List.getElem?_map, List.getElem?_eq_getElem h] at h2
  rw [nthS_get h]
  simpa using h2)

set_option maxHeartbeats 1000000 in
theorem alike_any (A : Option Addr) (n c : Nat) (S : List (List Rg)) (p q : Int) (w : World) (B : Nat) (hr : RdS w B A S) (hl : S.length = n) (hn : n ≤ 100) (hs : ∀ s ∈ S, s.length ≤ 100) :
    Calls Try.prog 42 #[.slice A n c, .int .i64 p, .int .i64 q] w fun e w' => e = .returned (.bool (decide (sig S p = sig S q))) ∧ w = w' := by
  have HR := Lib.hid hr; have HL := Lib.hid hl; have HS := Lib.hid hs
  clear hr hl hs
  go_enter Try.func42, Try.ntmps42
  go_wp2_with fail
  go_loop [7] (fun i => ∃ k : Nat, k ≤ n ∧ i = .int .i64 (k : Int) ∧ Hid (sig (S.take k) p = sig (S.take k) q)) (fun i => n - (intOf i).toNat)
  case atStart => exact ⟨0, Nat.zero_le _, rfl, rfl⟩
  case round =>
    as_aux_lemma =>
      obtain ⟨k, hk, rfl, HT⟩ := hrel
      by_cases hlt : k < n
      · as_aux_lemma =>
          have hkl : k < S.length := by rw [HL.out]; exact hlt
          obtain ⟨b, off, rfl, hb, hc⟩ := HR.out (by omega)
          obtain ⟨A', c', z1, q1, q2, hrd⟩ := hc k hkl
          have hlen : (nthS S k).length ≤ 100 := by rw [nthS_get hkl]; exact HS.out _ (List.getElem_mem hkl)
          have H1 := Lib.hid (rHas_any A' (nthS S k).length c' (nthS S k) p w B hrd rfl (by omega))
          have H2 := Lib.hid (rHas_any A' (nthS S k).length c' (nthS S k) q w B hrd rfl (by omega))
          have hst := (sig_take (p := p) (q := q) hkl).2
          have hno := sig_take_ne (p := p) (q := q) hkl
          have hyes : inR (nthS S k) p = inR (nthS S k) q → sig (S.take (k + 1)) p = sig (S.take (k + 1)) q := fun e => hst ⟨HT.out, e⟩
          have HYES := Lib.hid hyes; have HNO := Lib.hid hno
          clear hc hrd hst hno hyes hlen
          generalize inR (nthS S k) p = x at *
          generalize inR (nthS S k) q = y at *
          generalize nthS S k = s at *
          by_cases hxy : x = y
          · have HY := Lib.hid (HYES.out hxy)
            subst hxy
            clear HYES HNO
            cases x
            all_goals
              go_wp2_with fail
              refine H1.out.mono ?_
              rintro e w1 ⟨rfl, rfl⟩
              go_wp2_with fail
              refine H2.out.mono ?_
              rintro e w1 ⟨rfl, rfl⟩
              go_wp2_with fail
              go_round
              case rel => exact ⟨k + 1, by omega, by go_num, HY⟩
              case measure => simp [intOf]; omega
          · have HN := Lib.hid (show decide (sig S p = sig S q) = false from decide_eq_false (HNO.out hxy))
            clear HYES HNO
            cases x <;> cases y
            · exact absurd rfl hxy
            · clear hxy
              go_wp2_with fail
              refine H1.out.mono ?_
              rintro e w1 ⟨rfl, rfl⟩
              go_wp2_with fail
              refine H2.out.mono ?_
              rintro e w1 ⟨rfl, rfl⟩
              go_wp2_with fail
              go_ret
              exact ⟨ret_eq (by rw [HN.out]; rfl), rfl⟩
            · clear hxy
              go_wp2_with fail
              refine H1.out.mono ?_
              rintro e w1 ⟨rfl, rfl⟩
              go_wp2_with fail
              refine H2.out.mono ?_
              rintro e w1 ⟨rfl, rfl⟩
              go_wp2_with fail
              go_ret
              exact ⟨ret_eq (by rw [HN.out]; rfl), rfl⟩
            · exact absurd rfl hxy
      · as_aux_lemma =>
          have ht := HT.out
          rw [List.take_of_length_le (by rw [HL.out]; omega)] at ht
          have HX := Lib.hid (show decide (sig S p = sig S q) = true from decide_eq_true ht)
          clear ht
          go_wp2_with fail
          go_ret
          exact ⟨ret_eq (by rw [HX.out]; rfl), rfl⟩
end Go.Proofs.Ytihfdmjejllhnaa
