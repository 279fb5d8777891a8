/- The document's Shrink, walked. -/
import Derived.Test.YthikgdogfkjioaaGreatDoorQ19
import Derived.Test.YthikgdogfkjioaaGreatDoorQ20
import Derived.Test.YthikgdogfkjioaaGreatDoorQ21
import Derived.Test.YthikgdogfkjioaaGreatDoorQ22
namespace Go.Proofs.YthikgdogfkjioaaGreatDoor
open Go.RowKit BigFrame
set_option linter.unusedVariables false
set_option linter.unusedSimpArgs false
set_option maxRecDepth 100000

def shE (T : List (List Bool)) (L : List Bool) (mv : Nat → Nat → Nat) (C : List (List Rg)) (ru : Nat → Int) : Env Nat := ⟨fun s => !bth L s, fun s t => !dM T s t, fun s p => mv s (clsOf C p), ru⟩
/-- Rows built so far. -/
structure ShI (n : Nat) (e : Env Nat) (pcs : List (Int × Int)) (i : Nat) (ord : List Nat) (acc : List St) : Prop where
  b : build e pcs i 0 [0] [] = (ord, acc)
  p : OrdP n ord
  l : acc.length = i
  m : ∀ s ∈ acc, s.2.length ≤ pcs.length

theorem lt_cellS {w : World} {b o : Nat} {v : Value} (h : w.cell? ⟨b, o, none⟩ = some v) : b < w.heap.size := by
  apply Classical.byContradiction
  intro q
  have : w.heap[b]? = none := Array.getElem?_eq_none (by omega)
  simp [World.cell?, this] at h
theorem sh_go {T : List (List Bool)} {L : List Bool} {mv : Nat → Nat → Nat} {C : List (List Rg)} {ru : Nat → Int} {s t : Nat} {od : List Nat} {ms : List Mv} {x y : Int} (ht : mv s (clsOf C x) = t) (h : bth L t = false) :
    stepPc (shE T L mv C ru) s (od, ms) (x, y) = (if idxO (shE T L mv C ru).same od t < od.length then od else od ++ [t], joinM ms x y (idxO (shE T L mv C ru).same od t)) := by
  have h1 : (shE T L mv C ru).tg s x = t := ht
  have h2 : (shE T L mv C ru).alive t = true := by show (!bth L t) = true; rw [h]; rfl
  unfold stepPc
  simp only [h1, h2, if_true]
theorem sh_skip {T : List (List Bool)} {L : List Bool} {mv : Nat → Nat → Nat} {C : List (List Rg)} {ru : Nat → Int} {s : Nat} {od : List Nat} {ms : List Mv} {x y : Int} (h : bth L (mv s (clsOf C x)) = true) :
    stepPc (shE T L mv C ru) s (od, ms) (x, y) = (od, ms) := by
  have h2 : (shE T L mv C ru).alive ((shE T L mv C ru).tg s x) = false := by show (!bth L (mv s (clsOf C x))) = false; rw [h]; rfl
  unfold stepPc
  simp [h2]
theorem idx_at {T : List (List Bool)} {L : List Bool} {mv : Nat → Nat → Nat} {C : List (List Rg)} {ru : Nat → Int} {od : List Nat} {t j : Nat} (hj : j ≤ od.length) (h1 : ∀ o, o < j → dM T (nthN od o) t = true) (h2 : ∀ h : j < od.length, dM T od[j] t = false) :
    idxO (shE T L mv C ru).same od t = j := by
  unfold idxO
  have hlow : ∀ i (hi : i < j), (shE T L mv C ru).same (od[i]'(by omega)) t = false := fun i hi => by
    show (!dM T _ t) = false
    have := h1 i hi
    rw [nthN_get (by omega)] at this
    rw [this]; rfl
  by_cases q : j < od.length
  · refine (List.findIdx_eq q).2 ⟨?_, fun i hi => hlow i hi⟩
    show (!dM T od[j] t) = true
    rw [h2 q]; rfl
  · have e : j = od.length := by omega
    rw [e]
    refine List.findIdx_eq_length.2 fun x hx => ?_
    obtain ⟨i, hi, rfl⟩ := List.getElem_of_mem hx
    rw [hlow i (by omega)]
theorem bd_snoc {ms : List Mv} {a hi b : Int} (h : ∀ m ∈ ms, 0 ≤ m.2.1 ∧ m.2.1 ≤ 1114111) (hx : 0 ≤ hi ∧ hi ≤ 1114111) : ∀ m ∈ ms ++ [(a, hi, b)], 0 ≤ m.2.1 ∧ m.2.1 ≤ 1114111 := fun m hm => by
  rcases List.mem_append.1 hm with hm | hm
  · exact h m hm
  · rw [List.mem_singleton] at hm; subst hm; exact hx
/-- An own row that is not empty. -/
theorem row_at {w : World} {base n : Nat} {e : TypeId} {v : Value} {xs : List Value} (h : w.ownsRow base e 1 v n xs) (h0 : 0 < n) :
    ∃ g cap, v = .slice (some ⟨g, 0, none⟩) n cap ∧ n ≤ cap ∧ cap ≤ maxLen ∧ base ≤ g ∧ g < w.heap.size ∧ (∀ i, w.frozen? ⟨g, i, none⟩ = false) ∧ ∀ k u, xs[k]? = some u → w.cell? ⟨g, k, none⟩ = some u := by
  rcases h.2 with ⟨_, q⟩ | ⟨g, cap, cur, rfl, hb, hg, hn, hc, hs, ht⟩
  · omega
  · refine ⟨g, cap, rfl, hn, hc, hb, (Array.getElem?_eq_some_iff.1 hg).1, fun i => by simp [World.frozen?, hg], fun k u hu => ?_⟩
    rw [cell_of_row w g k cur e (0, 0) hg, ← Array.getElem?_toList]
    rw [← ht, List.getElem?_take] at hu
    split at hu
    · exact hu
    · cases hu

set_option maxHeartbeats 8000000 in
theorem shrink_any (Ac Ar Am : Option Addr) (cc cr cm K n : Nat) (S C : List (List Rg)) (R : List Int) (M : List (List Int)) (ru : Nat → Int) (mv : Nat → Nat → Nat) (w : World) (B : Nat) (hB : B ≤ w.heap.size) (h : FuR w B C R M Ac Ar Am cc cr cm) (hp : FuP K n ru mv R M) (hC : C.length = K) (hK : K ≤ 400) (h0 : 0 < n) (hn : n ≤ 1001)
    (hS : Parted S C) (hcl : ∀ c ∈ C, c.length ≤ 100000) (ht : totR C ≤ 400) :
    Calls Tryz.prog 18 #[.agg #[.slice Ac K cc, .slice Ar n cr, .slice Am n cm]] w fun e w' => ∃ A c acc, e = .returned (.agg #[.slice A (List.length acc) c]) ∧ acc.length ≤ n ∧ RdA w' w'.heap.size A acc ∧ Below w.heap.size w w' ∧ ∃ T L,
      (∀ s t, s < n → t < n → (dM T s t = false ↔ Eqv ru mv (· < K) s t)) ∧ (∀ s, s < n → (bth L s = false ↔ Live ru mv (· < K) s)) ∧
      ((bth L 0 = true ∧ acc = []) ∨ (bth L 0 = false ∧ ∃ E ord, EdS E C ∧ ShI n (shE T L mv C ru) (stretches E) ord.length ord acc)) := by
  have HP := Lib.hid hp; have HF := Lib.hid h; have HS := Lib.hid hS; have HCL := Lib.hid hcl; have HL := Lib.hid hC
  have hcK := h.c1
  obtain ⟨g, hg⟩ : ∃ g, w.heap.size = g := ⟨_, rfl⟩
  obtain ⟨W1, hW1⟩ : ∃ W1, W1 = (w.alloc (.cells #[.slice Ac K cc, .slice Ar n cr, .slice Am n cm] 48)).alloc (.cells #[.slice none 0 0] 24) := ⟨_, rfl⟩
  have hs1 : W1.heap.size = g + 1 + 1 := by rw [hW1, ← hg]; simp
  have hb1 : Below g w W1 := by rw [hW1, ← hg]; exact ((Below.refl _ _).alloc (Nat.le_refl _) _).alloc (by simp) _
  have hk1 : Blk W1 g 48 [.slice Ac K cc, .slice Ar n cr, .slice Am n cm] := by rw [hW1, ← hg]; exact (Blk.new w _ _).alloc _
  have hr1 : Blk W1 (g + 1) 24 [.slice none 0 0] := by
    have := Blk.new (w.alloc (.cells #[.slice Ac K cc, .slice Ar n cr, .slice Am n cm] 48)) 24 [.slice none 0 0]
    rw [show (w.alloc (.cells #[.slice Ac K cc, .slice Ar n cr, .slice Am n cm] 48)).heap.size = g + 1 by rw [← hg]; simp] at this
    rw [hW1]; exact this
  have hgB : B ≤ g := by omega
  have HB1 := Lib.hid hb1; have HK1 := Lib.hid hk1; have HS1 := Lib.hid hs1; have HG := Lib.hid hg; have HR1 := Lib.hid hr1
  have hF1 := h.below (hb1.mono hgB)
  have HA := Lib.hid (apart_any Ac Ar Am cc cr cm K n C R M ru mv W1 B (by omega) hF1 hp hC (by omega) h0 hn)
  have z0 := hk1.cell (i := 0) rfl
  have z1 := hk1.cell (i := 1) rfl
  have z2 := hk1.cell (i := 2) rfl
  clear hb1 hk1 hs1 h hp hC hS hcl hF1 hr1
  go_enter Tryz.func18, Tryz.ntmps18
  go_wp2_with fail
  rw [← hW1]
  clear hW1
  go_wp2_with fail
  refine HA.out.mono ?_
  clear HA hg
  rintro e w2 ⟨D, cD, ρ, T, rfl, hD1, hD2, hD3, hD4, hD5, hb2, hD6⟩
  have hs1 := HS1.out
  have hz2 := hb2.size
  have hk2 := HK1.out.below' hb2
  have HA := Lib.hid (dead_any Ac Ar Am cc cr cm K n C R M ru mv w2 B (by omega) (HF.out.below ((HB1.out.trans (hb2.mono (by omega))).mono hgB)) HP.out HL.out (by omega) h0 hn)
  have z0 := hk2.cell (i := 0) rfl
  have z1 := hk2.cell (i := 1) rfl
  have z2 := hk2.cell (i := 2) rfl
  have HB2 := Lib.hid hb2; have HD4 := Lib.hid hD4; have HD5 := Lib.hid hD5; have HD6 := Lib.hid hD6; have HD2 := Lib.hid hD2
  clear hb2 hD4 hD5 hD6 hk2 hD2
  go_wp2_with fail
  refine HA.out.mono ?_
  clear HA z0 z1 z2
  rintro e w3 ⟨N0, rfl, hN1, L, hN2, hN3, hb3, hN4⟩
  have hz3 := hb3.size
  have hk3 := (HK1.out.below' HB2.out).below' hb3
  obtain ⟨ga, hga⟩ : ∃ ga, w3.heap.size = ga := ⟨_, rfl⟩
  have hD5 := HD5.out.below hb3
  have hdl := HD5.out.dl
  have hrl := fun k hk => (HD5.out.rows k hk).1.lt
  have HB3 : Hid (Below (g + 1 + 1) W1 w3) := Lib.hid (by have h1 := HB2.out.trans (hb3.mono hz2); rw [hs1] at h1; exact h1)
  obtain ⟨w4, hw4⟩ : ∃ w4, w4 = w3.alloc (.cells #[.slice none 0 0] 24) := ⟨_, rfl⟩
  have hs4 : w4.heap.size = ga + 1 := by rw [hw4, ← hga]; simp
  have hb4 : Below ga w3 w4 := by rw [hw4, ← hga]; exact (Below.refl _ _).alloc (Nat.le_refl _) _
  have hk4 : Blk w4 ga 24 [.slice none 0 0] := by rw [hw4, ← hga]; exact Blk.new w3 _ _
  have hn4 := hN2.below (w' := w4) hb4 (by have := hN2.lt; omega)
  have HNL := Lib.hid hN3; have HN4 := Lib.hid hN4
  have HZ : Hid (g + 1 < ga ∧ D < ga ∧ (∀ k, k < n → nthN ρ k < ga) ∧ N0 < ga ∧ g + 1 + 1 ≤ D ∧ g + 1 + 1 ≤ N0) := Lib.hid ⟨by omega, by omega, fun k hk => by have := hrl k hk; omega, by have := hN2.lt; omega, by omega, by omega⟩
  have HK4 := Lib.hid (hk3.below (w' := w4) hb4 (by have := hk3.lt; omega))
  have HR4 := Lib.hid ((HR1.out.below HB3.out (by omega)).below (w' := w4) hb4 (by omega))
  have HA4 := Lib.hid hk4; have HNB := Lib.hid hn4
  have HM4 := Lib.hid (hD5.below (w' := w4) (by rw [hga]; exact hb4))
  have HB4 := Lib.hid (HB3.out.trans (hb4.mono (by omega)))
  have y0 := hn4.bcell (k := 0) (by rw [hN3]; exact h0)
  have HGA := Lib.hid hga; have HS4 := Lib.hid hs4
  clear hN2 hN3 hN4 hb3 hk3 hD5 hdl hrl hb4 hk4 hn4 hs4
  rw [hw4] at y0
  have hkf := HK4.out
  have z0 := hkf.cell (i := 0) rfl
  have z1 := hkf.cell (i := 1) rfl
  have z2 := hkf.cell (i := 2) rfl
  rw [hw4] at z0 z1 z2
  clear hkf
  have hkf := HK4.out
  have z0 := hkf.cell (i := 0) rfl
  have z1 := hkf.cell (i := 1) rfl
  have z2 := hkf.cell (i := 2) rfl
  rw [hw4] at z0 z1 z2
  clear hkf
  have hkf := HK4.out
  have z0 := hkf.cell (i := 0) rfl
  have z1 := hkf.cell (i := 1) rfl
  have z2 := hkf.cell (i := 2) rfl
  rw [hw4] at z0 z1 z2
  clear hkf
  have hkf := HK4.out
  have z0 := hkf.cell (i := 0) rfl
  have z1 := hkf.cell (i := 1) rfl
  have z2 := hkf.cell (i := 2) rfl
  rw [hw4] at z0 z1 z2
  clear hkf
  have hkf := HK4.out
  have z0 := hkf.cell (i := 0) rfl
  have z1 := hkf.cell (i := 1) rfl
  have z2 := hkf.cell (i := 2) rfl
  rw [hw4] at z0 z1 z2
  clear hkf
  have hkf := HK4.out
  have z0 := hkf.cell (i := 0) rfl
  have z1 := hkf.cell (i := 1) rfl
  have z2 := hkf.cell (i := 2) rfl
  rw [hw4] at z0 z1 z2
  clear hkf
  have hkf := HK4.out
  have z0 := hkf.cell (i := 0) rfl
  have z1 := hkf.cell (i := 1) rfl
  have z2 := hkf.cell (i := 2) rfl
  rw [hw4] at z0 z1 z2
  clear hkf
  have hkf := HK4.out
  have z0 := hkf.cell (i := 0) rfl
  have z1 := hkf.cell (i := 1) rfl
  have z2 := hkf.cell (i := 2) rfl
  rw [hw4] at z0 z1 z2
  clear hkf
  have hkf := HK4.out
  have z0 := hkf.cell (i := 0) rfl
  have z1 := hkf.cell (i := 1) rfl
  have z2 := hkf.cell (i := 2) rfl
  rw [hw4] at z0 z1 z2
  clear hkf
  have hkf := HK4.out
  have z0 := hkf.cell (i := 0) rfl
  have z1 := hkf.cell (i := 1) rfl
  have z2 := hkf.cell (i := 2) rfl
  rw [hw4] at z0 z1 z2
  clear hkf
  have hkf := HK4.out
  have z0 := hkf.cell (i := 0) rfl
  have z1 := hkf.cell (i := 1) rfl
  have z2 := hkf.cell (i := 2) rfl
  rw [hw4] at z0 z1 z2
  clear hkf
  have hkf := HK4.out
  have z0 := hkf.cell (i := 0) rfl
  have z1 := hkf.cell (i := 1) rfl
  have z2 := hkf.cell (i := 2) rfl
  rw [hw4] at z0 z1 z2
  clear hkf
  have hkf := HK4.out
  have z0 := hkf.cell (i := 0) rfl
  have z1 := hkf.cell (i := 1) rfl
  have z2 := hkf.cell (i := 2) rfl
  rw [hw4] at z0 z1 z2
  clear hkf
  have hkf := HK4.out
  have z0 := hkf.cell (i := 0) rfl
  have z1 := hkf.cell (i := 1) rfl
  have z2 := hkf.cell (i := 2) rfl
  rw [hw4] at z0 z1 z2
  clear hkf
  have hkf := HK4.out
  have z0 := hkf.cell (i := 0) rfl
  have z1 := hkf.cell (i := 1) rfl
  have z2 := hkf.cell (i := 2) rfl
  rw [hw4] at z0 z1 z2
  clear hkf
  have hkf := HK4.out
  have z0 := hkf.cell (i := 0) rfl
  have z1 := hkf.cell (i := 1) rfl
  have z2 := hkf.cell (i := 2) rfl
  rw [hw4] at z0 z1 z2
  clear hkf
  have hkf := HK4.out
  have z0 := hkf.cell (i := 0) rfl
  have z1 := hkf.cell (i := 1) rfl
  have z2 := hkf.cell (i := 2) rfl
  rw [hw4] at z0 z1 z2
  clear hkf
  have hkf := HK4.out
  have z0 := hkf.cell (i := 0) rfl
  have z1 := hkf.cell (i := 1) rfl
  have z2 := hkf.cell (i := 2) rfl
  rw [hw4] at z0 z1 z2
  clear hkf
  have hkf := HK4.out
  have z0 := hkf.cell (i := 0) rfl
  have z1 := hkf.cell (i := 1) rfl
  have z2 := hkf.cell (i := 2) rfl
  rw [hw4] at z0 z1 z2
  clear hkf
  have hkf := HK4.out
  have z0 := hkf.cell (i := 0) rfl
  have z1 := hkf.cell (i := 1) rfl
  have z2 := hkf.cell (i := 2) rfl
  rw [hw4] at z0 z1 z2
  clear hkf
  have hkf := HK4.out
  have z0 := hkf.cell (i := 0) rfl
  have z1 := hkf.cell (i := 1) rfl
  have z2 := hkf.cell (i := 2) rfl
  rw [hw4] at z0 z1 z2
  clear hkf
  cases hb0 : bth L 0
  · as_aux_lemma =>
      rw [hb0] at y0
      have HB0 := Lib.hid hb0
      clear hb0
      have hbw4 : Below g w w4 := HB1.out.trans (HB4.out.mono (by omega))
      have HE := Lib.hid (begins_any Ac (.slice Ar n cr) (.slice Am n cm) cc K C w4 B (by have := HS4.out; omega) ((HF.out.below (hbw4.mono hgB)).c) HL.out (by rw [← HL.out]; exact hcK.1) hcK.2 ht hK)
      have HBW4 := Lib.hid hbw4
      clear hbw4
      go_wp2_with fail
      rw [← hw4]
      refine HE.out.mono ?_
      clear y0 hw4 z0 z1 z2 HE
      rintro e w5 ⟨eb, eo, cE, E, rfl, hE1, hE2, hE3, hE4⟩
      obtain ⟨z, hz⟩ : ∃ z, w5.heap.size = z := ⟨_, rfl⟩
      have hz5 := hE1.bel.size
      have hs4 := HS4.out
      obtain ⟨q1, q2, q3, q4, q5, q6⟩ := HZ.out
      have ha5 := HA4.out.below' hE1.bel
      have hec := hE1.r.at_ (by omega)
      obtain ⟨eb', eo', e1, heb, hec⟩ := hec
      cases e1
      have hne : eb ≠ ga := fun e => by
        subst e
        have h1 := hec 0 (by omega)
        by_cases h2 : eo = 0
        · subst h2
          have h3 := ha5.cell (i := 0) rfl
          rw [h3] at h1; cases h1
        · have h3 : w5.cell? ⟨eb, eo + 0, none⟩ = none := by
            rw [cell_of_row w5 eb (eo + 0) #[.slice none 0 0] 24 (0, 0) ha5]
            exact Array.getElem?_eq_none (by simp; omega)
          rw [h3] at h1; cases h1
      have HG0 : Hid (∀ wr, Kp (fun q => q = ga) w5 wr → Blk wr g 48 [.slice Ac K cc, .slice Ar n cr, .slice Am n cm]) := Lib.hid (fun wr hk => (hk.block g (by omega) (by omega)).trans (HK4.out.below' hE1.bel))
      have HR0 : Hid (∀ wr, Kp (fun q => q = ga) w5 wr → Blk wr (g + 1) 24 [.slice none 0 0]) := Lib.hid (fun wr hk => (hk.block (g + 1) (by omega) (by omega)).trans (HR4.out.below' hE1.bel))
      have HMT : Hid (∀ wr, Kp (fun q => q = ga) w5 wr → MtSt wr D n n ρ T) := Lib.hid (fun wr hk => (HM4.out.below hE1.bel).keep hk (by omega) (fun k hk' e => by have := q3 k hk'; omega))
      have HNO : Hid (∀ wr, Kp (fun q => q = ga) w5 wr → Blk wr N0 4 (bv L)) := Lib.hid (fun wr hk => (hk.block N0 (by omega) (by omega)).trans (HNB.out.below' hE1.bel))
      have HEC : Hid (∀ wr, Kp (fun q => q = ga) w5 wr → ∀ j, j < E.length → wr.cell? ⟨eb, eo + j, none⟩ = some (.int .i64 (nth E j))) := Lib.hid (fun wr hk j hj => (hk.cell (p := ⟨eb, eo + j, none⟩) heb hne).trans (hec j hj))
      have HBW5 : Hid (Below g w w5) := Lib.hid (HBW4.out.trans (hE1.bel.mono (by omega)))
      have HBK : Hid (∀ wr, Kp (fun q => q = ga) w5 wr → Below g w wr) := Lib.hid (fun wr hk => HBW5.out.trans (hk.bel (by omega) (fun q h1 h2 => by omega)))
      have HA5 := Lib.hid ha5
      have HE2 := Lib.hid hE2; have HZ5 := Lib.hid hz
      have HGZ : Hid (ga < z) := Lib.hid (by omega)
      have hE5 := hE1.c1
      clear hE1 hE2 hec heb hne ha5 hz5 q1 q2 q3 q4 q5 q6 HK4 HR4 HM4 HNB HA4
      have hrr := HF.out.r.at_ (by rw [HP.out.rl]; exact h0)
      have hmm := HF.out.m (by rw [HP.out.ml]; exact h0)
      obtain ⟨rb, ro, rfl, hrb, hrc⟩ := hrr
      obtain ⟨mb, mo, rfl, hmb, hmr⟩ := hmm
      have HRC : Hid (∀ wr, Below g w wr → ∀ j, j < n → wr.cell? ⟨rb, ro + j, none⟩ = some (.int .i64 (ru j))) := Lib.hid (fun wr hb j hj => by
        have := hrc j (by rw [HP.out.rl]; exact hj)
        rw [HP.out.r j hj] at this
        exact (hb.cell (p := ⟨rb, ro + j, none⟩) (show rb < g by omega)).trans this)
      have HMR : Hid (∀ wr, Below g w wr → ∀ k c, k < n → c < K → ∃ b2 o2 c2, wr.cell? ⟨mb, mo + k, none⟩ = some (.slice (some ⟨b2, o2, none⟩) K c2) ∧ K ≤ c2 ∧ c2 ≤ maxLen ∧ wr.cell? ⟨b2, o2 + c, none⟩ = some (.int .i64 (mv k c : Int))) := Lib.hid (fun wr hb k c hk hc => by
        obtain ⟨A', c', y, q1, q2, r⟩ := hmr k (by rw [HP.out.ml]; exact hk)
        obtain ⟨e1, e2⟩ := HP.out.m k hk
        rw [e1] at y q1
        obtain ⟨b2, o2, rfl, hb3, hc3⟩ := r.at_ (by rw [e1]; omega)
        have := hc3 c (by rw [e1]; exact hc)
        rw [e2 c hc] at this
        exact ⟨b2, o2, c', (hb.cell (p := ⟨mb, mo + k, none⟩) (show mb < g by omega)).trans y, q1, q2, (hb.cell (p := ⟨b2, o2 + c, none⟩) (show b2 < g by omega)).trans this⟩)
      have HCR : Hid (∀ wr, Below g w wr → RdS wr B Ac C) := Lib.hid (fun wr hb => (HF.out.c).below (hb.mono hgB))
      clear hrc hmr
      go_wp2_with fail
      obtain ⟨w6, hw6⟩ : ∃ w6, w6 = w5.alloc (.cells #[.int .i64 0] 3) := ⟨_, rfl⟩
      rw [← hw6]
      have hkp6 : Kp (fun q => q = ga) w5 w6 := by rw [hw6]; exact (Kp.refl _ _).alloc _
      have ho6 : w6.ownsRow z 3 1 (.slice (some ⟨z, 0, none⟩) 1 1) 1 (iv (iN [0])) := by rw [hw6]; exact ⟨rfl, .inr ⟨z, 1, #[.int .i64 0], rfl, Nat.le_refl _, by rw [← hz]; exact heap_alloc_new _ _, Nat.le_refl _, by unfold maxLen; decide, rfl, rfl⟩⟩
      have ha6 : Blk w6 ga 24 [.slice none 0 0] := by rw [hw6]; exact HA5.out.alloc _
      have HK6 := Lib.hid hkp6; have HO6 := Lib.hid ho6; have HA6 := Lib.hid ha6
      clear hw6 hkp6 ho6 ha6
      go_loopw [7, 8] (fun ov ix wr => ∃ (i : Nat) (va : Value) (vs : List Value) (ord : List Nat) (acc : List St), i ≤ ord.length ∧ ix = .int .i64 (i : Int) ∧ Hid (Kp (fun q => q = ga) w5 wr) ∧ Hid (Blk wr ga 24 [va]) ∧ Hid (wr.ownsRow z 3 1 ov ord.length (iv (iN ord))) ∧ Hid (OwS wr z va vs acc) ∧ Hid (ShI n (shE T L mv C ru) (stretches E) i ord acc)) (fun _ ix _ => n - (intOf ix).toNat)
      case atStart => exact ⟨0, .slice none 0 0, [], [0], [], Nat.zero_le _, rfl, HK6.out, HA6.out, HO6.out, OwS.nil _ _, ⟨rfl, OrdP.one h0, rfl, fun s hs => (by cases hs)⟩⟩
      case round =>
        as_aux_lemma =>
          clear HK6 HO6 HA6
          obtain ⟨i, va, vs, ord, acc, hi, rfl, HKP, HVA, HOV, HOS, HI⟩ := hrel
          have hol := HI.out.p.len
          have hzk := HKP.out.size
          have hgz := HGZ.out
          have hz5 := HZ5.out
          obtain ⟨q1, q2, q3, q4, q5, q6⟩ := HZ.out
          by_cases hio : i < ord.length
          · as_aux_lemma =>
              have dio : decide ((i : Int) < (ord.length : Int)) = true := decide_eq_true (by omega)
              obtain ⟨ob, oc, rfl, ho1, ho2, ho3, ho4, hof, hoc⟩ := row_at HOV.out (by omega)
              have hsn : ord[i] < n := HI.out.p.lt _ (List.getElem_mem hio)
              have x1 := hoc i (.int .i64 ((ord[i] : Nat) : Int)) (by rw [iv_get (by rw [iN_len]; exact hio), iN_nth hio])
              have hbw := HBK.out wr HKP.out
              have x2 := HRC.out wr hbw _ hsn
              have hg0 := HG0.out wr HKP.out
              have x3 := hg0.cell (i := 1) rfl
              have hgl := hg0.lt
              obtain ⟨s, hs⟩ : ∃ s, s = ord[i] := ⟨_, rfl⟩
              rw [← hs] at x1 x2 hsn
              have HSO : Hid (ord[i]? = some s) := Lib.hid (by rw [hs]; exact List.getElem?_eq_getElem hio)
              clear hs hoc hg0
              obtain ⟨wd, hwd⟩ : ∃ wd, wd = wr.drew := ⟨_, rfl⟩
              have hcd : ∀ p, wd.cell? p = wr.cell? p := by intro p; rw [hwd]; rfl
              have hzd : wd.heap.size = wr.heap.size := by rw [hwd]; rfl
              have k1 : ∀ X : WB wd.heap.size wd, X.val.cell? ⟨ob, i, none⟩ = some (.int .i64 (s : Int)) := fun X => (X.bel.cell (p := ⟨ob, i, none⟩) (by rw [hzd]; exact ho4)).trans ((hcd _).trans x1)
              have k2 : ∀ X : WB wd.heap.size wd, X.val.cell? ⟨rb, ro + s, none⟩ = some (.int .i64 (ru s)) := fun X => (X.bel.cell (p := ⟨rb, ro + s, none⟩) (by rw [hzd]; show rb < _; omega)).trans ((hcd _).trans x2)
              have k3 : ∀ X : WB wd.heap.size wd, X.val.cell? ⟨g, 1, none⟩ = some (.slice (some ⟨rb, ro, none⟩) n cr) := fun X => (X.bel.cell (p := ⟨g, 1, none⟩) (by rw [hzd]; exact hgl)).trans ((hcd _).trans x3)
              have HWD := Lib.hid hwd
              clear hcd x1 x2 x3
              go_wp2_with fail
              refine wp_region_S (fun w' => ∃ X : WB wd.heap.size wd, w' = X.val) (by kernel_rfl) ?_
              rw [← hwd]
              clear hwd
              show wpAnyS _ _ _ _ _ (2 + 9) _ _ _
              refine takeS 2 0 9 (by kernel_rfl) (by kernel_rfl) (fun _ _ d _ _ h => by cases d <;> exact h) ⟨⟨_, Below.refl _ _⟩, rfl⟩ ?_
              simp only [List.take_succ_cons, List.take_zero, List.drop_succ_cons, List.drop_zero]
              repeat (first | go_big_quiet_skip | (go_big_quiet_want; go_big_quiet_op; go_big_quiet_on))
              refine wpQuiet_nil ?_
              clear k1 k2 k3
              refine oneS 1 9 (by kernel_rfl) (by decide) ?_
              simp only [List.take_succ_cons, List.take_zero, List.drop_succ_cons, List.drop_zero]
              go_wp2_with fail
              refine ⟨⟨WB.mk _ ((Below.refl _ _).alloc (Nat.le_refl _) _), rfl⟩, ?_⟩
              refine oneS 0 10 (by kernel_rfl) (by decide) ?_
              simp only [List.take_succ_cons, List.take_zero, List.drop_succ_cons, List.drop_zero]
              go_wp2_with fail
              refine ⟨⟨WB.mk _ ((Below.refl _ _).alloc (Nat.le_refl _) _), rfl⟩, ?_⟩
              refine endS (by kernel_rfl) ?_
              obtain ⟨wn, hwn⟩ : ∃ wn, wn = wd.alloc (.cells #[.int .i64 (ru s), .slice none 0 0] 30) := ⟨_, rfl⟩
              rw [← hwn]
              have hsn2 : wn.heap.size = wr.heap.size + 1 := by rw [hwn]; simp [hzd]
              have hbn : Below wr.heap.size wr wn := by
                rw [hwn, HWD.out]
                exact (show Below wr.heap.size wr wr.drew from ⟨rfl, rfl, rfl, Nat.le_refl _, fun _ _ => rfl⟩).alloc (Nat.le_refl _) _
              have hgs : Blk wn wr.heap.size 30 [.int .i64 (ru s), .slice none 0 0] := by
                rw [hwn, ← hzd]; exact Blk.new wd _ _
              have HKPn := Lib.hid (HKP.out.trans (Kp.of hbn))
              have HVAn := Lib.hid (HVA.out.below' hbn)
              have HOVn := Lib.hid (own_ext HOV.out hbn)
              have HOSn := Lib.hid (HOS.out.ext hbn)
              have HGSn := Lib.hid hgs
              have hzg : z ≤ wr.heap.size := by omega
              have HLTV : Hid (∀ (k : Nat) (u : Value) (q : Nat), vs[k]? = some u → u.ownBlock = some q → q < wr.heap.size) := Lib.hid (fun k u q h1 h2 => HOS.out.lt k u q h1 h2)
              have HLTA : Hid (∀ q, va.ownBlock = some q → z ≤ q ∧ q < wr.heap.size) := Lib.hid (fun q h1 => HOS.out.row.lt q h1)
              obtain ⟨N, hN⟩ : ∃ N, N = (stretches E).length := ⟨_, rfl⟩
              have hNE : N + 1 = E.length := by rw [hN, stretches_len]; omega
              have HN := Lib.hid hN
              have HIN0 : Hid (Inn w5 wn ga wr.heap.size z (ru s) va vs acc (.slice (some ⟨ob, 0, none⟩) ord.length oc) (.slice none 0 0) ord []) := Lib.hid ⟨HKPn.out, HVAn.out, HOVn.out, HOSn.out, HGSn.out, OwV.nil _ _, HGZ.out, hzg, HZ5.out, HLTV.out, HLTA.out⟩
              have hob : ob < wr.heap.size := ho4
              clear hwn hbn hgs HKP HVA HOV HOS hN HKPn HVAn HOVn HOSn HGSn HLTV HLTA HWD hzd hbw hof ho4
              obtain ⟨wo, rfl⟩ : ∃ wo : World, wo = wr := ⟨_, rfl⟩
              go_wp2_with fail
              go_loopw [7, 10] (fun ov kx wr => ∃ (k : Nat) (vm : Value) (od : List Nat) (ms : List Mv), k ≤ N ∧ kx = .int .i64 (k : Int) ∧ Hid (Inn w5 wr ga wo.heap.size z (ru s) va vs acc ov vm od ms) ∧
                Hid (rowK (shE T L mv C ru) (stretches E) s ord k = (od, ms) ∧ OrdP n od ∧ ms.length ≤ k ∧ ord.length ≤ od.length ∧ od[i]? = some s ∧ ∀ m ∈ ms, 0 ≤ m.2.1 ∧ m.2.1 ≤ 1114111)) (fun _ kx _ => N - (intOf kx).toNat)
              case atStart => exact ⟨0, .slice none 0 0, ord, [], Nat.zero_le _, rfl, HIN0.out, ⟨rowK_zero, HI.out.p, Nat.le_refl _, Nat.le_refl _, HSO.out, fun m hm => (by cases hm)⟩⟩
              case round =>
                as_aux_lemma =>
                  clear HIN0
                  obtain ⟨k, vm, od, ms, hk, rfl, HIN, HX⟩ := hrel
                  have hzk2 := HIN.out.kp.size
                  have hgl2 := HIN.out.gs_.lt
                  by_cases hkN : k < N
                  · as_aux_lemma =>
                      have dk : decide ((k : Int) + 1 < (E.length : Int)) = true := decide_eq_true (by omega)
                      have hodn := HX.out.2.1.len
                      have hbk := HE2.out.o.bd _ (nth_mem (show k < E.length by omega))
                      have hbk1 := HE2.out.o.bd _ (nth_mem (show k + 1 < E.length by omega))
                      have hlt1 := asc_nth HE2.out.o.asc (Nat.lt_succ_self k) (show k + 1 < E.length by omega)
                      have y1 := HEC.out wr HIN.out.kp k (by omega)
                      have y2 := HEC.out wr HIN.out.kp (k + 1) (by omega)
                      have hpc : (stretches E)[k]'(by rw [← HN.out]; exact hkN) = (nth E k, nth E (k + 1) - 1) := by
                        rw [stretches_get E k (by omega), nth_get (show k < E.length by omega), nth_get (show k + 1 < E.length by omega)]
                      have hrs := rowK_succ (e := shE T L mv C ru) (s := s) (ord := ord) (show k < (stretches E).length by rw [← HN.out]; exact hkN)
                      rw [hpc, HX.out.1] at hrs
                      obtain ⟨ek, hek⟩ : ∃ ek, ek = nth E k := ⟨_, rfl⟩
                      obtain ⟨ek1, hek1⟩ : ∃ ek1, ek1 = nth E (k + 1) := ⟨_, rfl⟩
                      rw [← hek] at hbk hlt1 y1 hrs
                      rw [← hek1] at hbk1 hlt1 y2 hrs
                      unfold MP at hbk hbk1
                      have HRS := Lib.hid hrs
                      have hip : isP ek := ⟨hbk.1, by omega⟩
                      have hbw := HBK.out wr HIN.out.kp
                      have hct := fun X : WB wr.heap.size wr => classAt_any Ac (.slice (some ⟨rb, ro, none⟩) n cr) (.slice (some ⟨mb, mo, none⟩) n cm) cc K S C ek X.val B (by have := X.bel.size; omega) ((HCR.out wr hbw).below (X.bel.mono (by omega))) HL.out HS.out hip HCL.out (by omega)
                      have hclK : clsOf C ek < K := by
                        have : clsOf C ek < C.length := List.findIdx_lt_length_of_exists (by obtain ⟨c, hc, hm⟩ := HS.out.all ek (isPt_iff.2 hip); exact ⟨c, hc, hm⟩)
                        rw [HL.out] at this; exact this
                      have hg0 := HG0.out wr HIN.out.kp
                      have x0 := fun X : WB wr.heap.size wr => (X.bel.cell (p := ⟨g, 0, none⟩) hg0.lt).trans (hg0.cell (i := 0) rfl)
                      have x1 := fun X : WB wr.heap.size wr => (X.bel.cell (p := ⟨g, 1, none⟩) hg0.lt).trans (hg0.cell (i := 1) rfl)
                      have x2 := fun X : WB wr.heap.size wr => (X.bel.cell (p := ⟨g, 2, none⟩) hg0.lt).trans (hg0.cell (i := 2) rfl)
                      have x3 := fun X : WB wr.heap.size wr => (X.bel.cell (p := ⟨eb, eo + k, none⟩) (lt_cellS y1)).trans y1
                      have HCT := Lib.hid hct
                      obtain ⟨c, hc⟩ : ∃ c, c = clsOf C ek := ⟨_, rfl⟩
                      rw [← hc] at HCT hclK
                      have HC := Lib.hid hc
                      have hwzz : wo.heap.size < wr.heap.size := hgl2
                      have HEK := Lib.hid hek; have HEK1 := Lib.hid hek1
                      clear hct hrs hpc hek hek1 hip hg0 hc
                      go_wp2_with fail
                      refine wp_region_cls (B := wr.heap.size) (w0 := wr) (by kernel_rfl) (by kernel_rfl) (Below.refl _ _) ?_
                      repeat (first | go_big_quiet_skip | (go_big_quiet_want; go_big_quiet_op; go_big_quiet_on))
                      go_big_quiet_want
                      go_big_quiet_op
                      refine ⟨.int .i64 (c : Int), fun X => X.call (Nat.le_refl _) (HCT.out X), ?_⟩
                      go_big_quiet_on
                      repeat (first | go_big_quiet_skip | (go_big_quiet_want; go_big_quiet_op; go_big_quiet_on))
                      refine wpQuiet_nil ?_
                      intro X
                      obtain ⟨w7, hw7⟩ : ∃ w7, w7 = X.val := ⟨_, rfl⟩
                      have hb7 := X.bel
                      rw [← hw7] at hb7 ⊢
                      clear hw7 X x0 x1 x2 x3 HCT y1 y2
                      have hin7 := HIN.out.ext hb7
                      have hkp7 := hin7.kp
                      have hov7 := hin7.ov_
                      have hbw7 := HBK.out w7 hkp7
                      have hisd := HX.out.2.2.2.2.1
                      have hiol : i < od.length := by have := HX.out.2.2.2.1; omega
                      obtain ⟨ob2, oc2, rfl, hp1, hp2, hp3, hp4, hpf, hpc⟩ := row_at hov7 (by omega)
                      have x1 := hpc i (.int .i64 (s : Int)) (by rw [iv_get (by rw [iN_len]; exact hiol), iN_nth hiol]; rw [List.getElem?_eq_getElem hiol] at hisd; simp only [Option.some.injEq] at hisd; rw [hisd])
                      have hg7 := HG0.out w7 hkp7
                      have x2 := hg7.cell (i := 2) rfl
                      obtain ⟨b2, o2, c2, x3, p1, p2, x4⟩ := HMR.out w7 hbw7 s c hsn hclK
                      have htn := HP.out.lt s c hsn hclK
                      obtain ⟨t, ht⟩ : ∃ t, t = mv s c := ⟨_, rfl⟩
                      rw [← ht] at x4 htn
                      have HT := Lib.hid ht
                      have hgl7 := hg7.lt
                      have hww : w7.heap.size ≥ wr.heap.size := hb7.size
                      have HB7 := Lib.hid hb7
                      have hpc0 := hpc 0
                      have HPC := Lib.hid hpc
                      clear hin7 hkp7 hov7 hbw7 hisd hpf hg7 ht hb7 hpc0 hpc
                      unfold maxLen at hp2
                      go_wp2_with fail
                      go_quiet (fail)
                      obtain ⟨w8, hw8⟩ : ∃ w8, w8 = w7.drewN nq := ⟨_, rfl⟩
                      have hb8 : Below wr.heap.size wr w8 := by rw [hw8]; exact below_drewN HB7.out nq
                      have hcl8 : ∀ q, w8.cell? q = w7.cell? q := fun q => by rw [hw8]; rfl
                      have hz8 : w8.heap.size = w7.heap.size := by rw [hw8]; rfl
                      rw [← hw8]
                      clear hw8 x2 x3 x4 x1
                      have HIN8 := Lib.hid (HIN.out.ext hb8)
                      have HOC8 : Hid (∀ j, (h : j < od.length) → w8.cell? ⟨ob2, j, none⟩ = some (.int .i64 ((nthN od j : Nat) : Int)) ∧ nthN od j < n) := Lib.hid (fun j h => by
                        have h1 := HPC.out j (.int .i64 ((od[j] : Nat) : Int)) (by rw [iv_get (by rw [iN_len]; exact h), iN_nth h])
                        rw [nthN_get h]
                        exact ⟨(hcl8 _).trans h1, HX.out.2.1.lt _ (List.getElem_mem h)⟩)
                      have y0 := (HNO.out w8 HIN8.out.kp).bcell (k := t) (by rw [HNL.out]; exact htn)
                      have hgl8 : wo.heap.size < w8.heap.size := by omega
                      have hob8 : ob2 < w8.heap.size := by omega
                      clear HIN HPC hcl8 HB7 hb8
                      cases hnt : bth L t
                      · as_aux_lemma =>
                          rw [hnt] at y0
                          have HRS2 : Hid (rowK (shE T L mv C ru) (stretches E) s ord (k + 1) = (if idxO (shE T L mv C ru).same od t < od.length then od else od ++ [t], joinM ms ek (ek1 - 1) (idxO (shE T L mv C ru).same od t))) := Lib.hid (by
                            rw [HRS.out]
                            exact sh_go (by rw [← HC.out]; exact HT.out.symm) hnt)
                          clear hnt
                          go_wp2_with fail
                          go_loop [13] (fun jx => ∃ j : Nat, j ≤ od.length ∧ jx = .int .i64 (j : Int) ∧ Hid (∀ o, o < j → dM T (nthN od o) t = true)) (fun jx => od.length - (intOf jx).toNat)
                          case atStart => exact ⟨0, Nat.zero_le _, rfl, fun o h => absurd h (by omega)⟩
                          case round =>
                            as_aux_lemma =>
                              obtain ⟨j, hj, rfl, HJ⟩ := hrel
                              by_cases hjl : j < od.length
                              · have dj : decide ((j : Int) < (od.length : Int)) = true := decide_eq_true (by omega)
                                obtain ⟨v1, v2⟩ := HOC8.out j hjl
                                have hm8 := HMT.out w8 HIN8.out.kp
                                have v3 := hm8.d (nthN od j) v2
                                have v4 := (hm8.rows _ v2).1.bcell (k := t) (by rw [(hm8.rows _ v2).2]; exact htn)
                                change w8.cell? ⟨nthN ρ (nthN od j), t, none⟩ = some (.bool (dM T (nthN od j) t)) at v4
                                clear hm8
                                cases hd : dM T (nthN od j) t
                                · rw [hd] at v4
                                  have HIX : Hid (idxO (shE T L mv C ru).same od t = j) := Lib.hid (idx_at hj HJ.out (fun h => by rw [← nthN_get h]; exact hd))
                                  have HROW : Hid (rowK (shE T L mv C ru) (stretches E) s ord (k + 1) = (od, joinM ms ek (ek1 - 1) j)) := Lib.hid (by rw [HRS2.out, HIX.out, if_pos hjl])
                                  have dq : ((j : Int) == (od.length : Int)) = false := by simp; omega
                                  clear hd HRS2 HIX
                                  have HXO : Hid (OrdP n od ∧ ord.length ≤ od.length ∧ od[i]? = some s) := Lib.hid ⟨HX.out.2.1, HX.out.2.2.2.1, HX.out.2.2.2.2.1⟩
                                  have HJN : Hid (nthN od j < n) := Lib.hid v2
                                  generalize nthN od j = oj at *
                                  clear v2
                                  have y1 := HEC.out w8 HIN8.out.kp k (by omega)
                                  have y2 := HEC.out w8 HIN8.out.kp (k + 1) (by omega)
                                  have h1 := HEK.out
                                  have h2 := HEK1.out
                                  rw [← h1] at y1
                                  rw [← h2] at y2
                                  clear h1 h2
                                  have hgsl := HIN8.out.gs_.lt
                                  have hekb : eb < w8.heap.size := lt_cellS (HEC.out w8 HIN8.out.kp k (by omega))
                                  have hml := HX.out.2.2.1
                                  have hmb := HX.out.2.2.2.2.2
                                  clear HX
                                  rcases List.eq_nil_or_concat ms with rfl | ⟨l0, ⟨mx, my, mz⟩, rfl⟩
                                  · as_aux_lemma =>
                                      obtain ⟨Av, cv, hvm, -, -⟩ := own_len HIN8.out.om
                                      simp only [List.length_nil] at hvm
                                      subst hvm
                                      have s1 := HIN8.out.gs_.cell (i := 1) rfl
                                      have HROW2 : Hid (rowK (shE T L mv C ru) (stretches E) s ord (k + 1) = (od, [] ++ [(ek, ek1 - 1, (j : Int))])) := Lib.hid (by rw [HROW.out, joinM_nil]; rfl)
                                      go_wp2_with fail
                                      go_quiet (fail)
                                      obtain ⟨wt, hwt⟩ : ∃ wt, wt = (w8.drewN nq).drew := ⟨_, rfl⟩
                                      have HINt : Hid (Inn w5 wt ga wo.heap.size z (ru s) va vs acc _ _ od []) := Lib.hid (by rw [hwt]; exact (HIN8.out.drewN nq).drew)
                                      have hzt : wt.heap.size = w8.heap.size := by rw [hwt]; rfl
                                      have hct : ∀ q, wt.cell? q = w8.cell? q := fun q => by rw [hwt]; rfl
                                      have k1 : ∀ X : WB wt.heap.size wt, X.val.cell? ⟨wo.heap.size, 1, none⟩ = _ := fun X => (X.bel.cell (p := ⟨wo.heap.size, 1, none⟩) (by rw [hzt]; exact hgsl)).trans ((hct _).trans s1)
                                      have k2 : ∀ X : WB wt.heap.size wt, X.val.cell? ⟨eb, eo + k, none⟩ = some (.int .i64 ek) := fun X => (X.bel.cell (p := ⟨eb, eo + k, none⟩) (by rw [hzt]; exact hekb)).trans ((hct _).trans y1)
                                      have k3 : ∀ X : WB wt.heap.size wt, X.val.cell? ⟨eb, eo + (k + 1), none⟩ = some (.int .i64 ek1) := fun X => (X.bel.cell (p := ⟨eb, eo + (k + 1), none⟩) (by rw [hzt]; exact hekb)).trans ((hct _).trans y2)
                                      go_wp2_with fail
                                      refine wp_region_keep (fun w' => ∃ X : WB wt.heap.size wt, w' = X.val) 0 14 (by kernel_rfl) (by kernel_rfl) (by kernel_rfl) (by kernel_rfl) (fun _ _ d _ _ h => by cases d <;> exact h) ⟨⟨_, Below.refl _ _⟩, hwt.symm⟩ ?_
                                      rw [← hwt]
                                      clear hwt hct
                                      simp only [List.take_succ_cons, List.take_zero, List.drop_succ_cons, List.drop_zero]
                                      repeat (first | go_big_quiet_skip | (go_big_quiet_want; go_big_quiet_op; go_big_quiet_on))
                                      refine wpQuiet_nil ?_
                                      clear k1 k2 k3
                                      go_wp2_with fail
                                      refine And.intro ⟨WB.mk _ ((Below.refl _ _).alloc (Nat.le_refl _) _), rfl⟩ ?_
                                      have hgt : wo.heap.size + 1 ≤ wt.heap.size := by rw [hzt]; exact hgsl
                                      go_wp2_with (at_builtin; go_must (refine wpList_app elMvs rfl (.tmp 137) (.tmp 150) rfl (wo.heap.size + 1) _ (0) 1 _ [.int .i64 ek, .int .i64 (ek1 - 1), .int .i64 (j : Int)] rfl HINt.out.om (by rw [hzt, hz8]; rfl) rfl (by simp [Value.oneCell']) (by omega) (by omega) hgt ?_); intro v11 w11 hown11 hg11 hat11; go_must (obtain ⟨A11, c11, rfl, -, -⟩ := own_len hown11); go_must (have hc11 := HINt.out.pushV_cells hg11); have t1 := hc11.1; have t2 := hc11.2; go_must (have HIN11 := Lib.hid (HINt.out.pushV hg11 hown11)); clear hown11 hg11 hat11 hc11)
                                      go_roundw
                                      case rel => exact ⟨k + 1, _, od, [] ++ [(ek, ek1 - 1, (j : Int))], by omega, by go_num, HIN11, ⟨HROW2.out, HXO.out.1, by simp only [List.length_append, List.length_singleton, List.length_nil] at hml ⊢; omega, HXO.out.2.1, HXO.out.2.2, bd_snoc hmb ⟨by omega, by omega⟩⟩⟩
                                      case measure => simp [intOf]; omega
                                  · rw [List.concat_eq_append] at HIN8 hml hmb HROW
                                    have hmyb := hmb (mx, my, mz) (by simp)
                                    simp only at hmyb
                                    obtain ⟨vg, vc, rfl, e2, e3, e4, e5, e6, e7, e8, e9⟩ := HIN8.out.last
                                    have s1 := HIN8.out.gs_.cell (i := 1) rfl
                                    have hll : l0.length + 1 ≤ 1000 := by simp only [List.length_append, List.length_singleton] at hml; omega
                                    have dl : decide ((0 : Int) ≤ (l0.length : Int)) = true := decide_eq_true (by omega)
                                    unfold maxLen at e3
                                    clear e9
                                    by_cases hz1 : mz = (j : Int)
                                    · have dz : (mz == (j : Int)) = true := by simpa using hz1
                                      by_cases hz2 : my + 1 = ek
                                      · as_aux_lemma =>
                                          have dy : ((my + 1) == ek) = true := by simpa using hz2
                                          subst hz1
                                          have HROW2 : Hid (rowK (shE T L mv C ru) (stretches E) s ord (k + 1) = (od, l0 ++ [(mx, ek1 - 1, (j : Int))])) := Lib.hid (by rw [HROW.out, joinM_yes _ _ _ _ _ _ hz2])
                                          go_wp2_with fail
                                          go_quiet (fail)
                                          go_wp2_with fail
                                          refine wp_region_still_tail 11 (by kernel_rfl) (by kernel_rfl) ?_
                                          simp only [List.take_succ_cons, List.take_zero, List.drop_succ_cons, List.drop_zero]
                                          change wpStill _ _ (w8.drewN nq).drew (fun a' => wpList _ _ _ _ a' (w8.drewN nq).drew) _ _
                                          obtain ⟨wt, hwt⟩ : ∃ wt, wt = (w8.drewN nq).drew := ⟨_, rfl⟩
                                          rw [← hwt]
                                          have hct : ∀ q, wt.cell? q = w8.cell? q := fun q => by rw [hwt]; rfl
                                          have hf := show wt.frozen? ⟨vg, l0.length * 3 + 1, none⟩ = false by rw [hwt]; exact e6 _
                                          have hin11 := ((HIN8.out.drewN nq).drew).setV rfl (ek1 - 1)
                                          rw [← hwt] at hin11
                                          have HIN11 := Lib.hid hin11
                                          clear hin11
                                          have s1 := (hct _).trans s1
                                          have y2 := (hct _).trans y2
                                          have e7 := (hct _).trans e7
                                          clear hct hwt e6 e8 y1
                                          refine wpStill_of_quiet _ _ ?_
                                          repeat (first | go_big_quiet_skip | (go_big_quiet_want; go_big_quiet_op; go_big_quiet_on))
                                          refine wpQuiet_nil ?_
                                          go_wp2_with fail
                                          go_roundw
                                          case rel => exact ⟨k + 1, _, od, l0 ++ [(mx, ek1 - 1, (j : Int))], by omega, by go_num, HIN11, ⟨HROW2.out, HXO.out.1, by simp only [List.length_append, List.length_singleton] at hml ⊢; omega, HXO.out.2.1, HXO.out.2.2, bd_snoc (fun m hm => hmb m (List.mem_append_left _ hm)) ⟨by omega, by omega⟩⟩⟩
                                          case measure => simp [intOf]; omega
                                      · as_aux_lemma =>
                                          have dy : ((my + 1) == ek) = false := by simpa using hz2
                                          have HROW2 : Hid (rowK (shE T L mv C ru) (stretches E) s ord (k + 1) = (od, l0 ++ [(mx, my, mz)] ++ [(ek, ek1 - 1, (j : Int))])) := Lib.hid (by rw [HROW.out, joinM_no _ _ _ _ _ _ _ (fun q => hz2 q.2)])
                                          go_wp2_with fail
                                          go_quiet (fail)
                                          obtain ⟨wt, hwt⟩ : ∃ wt, wt = (w8.drewN nq).drew := ⟨_, rfl⟩
                                          have HINt : Hid (Inn w5 wt ga wo.heap.size z (ru s) va vs acc _ _ od (l0 ++ [(mx, my, mz)])) := Lib.hid (by rw [hwt]; exact (HIN8.out.drewN nq).drew)
                                          have hzt : wt.heap.size = w8.heap.size := by rw [hwt]; rfl
                                          have hct : ∀ q, wt.cell? q = w8.cell? q := fun q => by rw [hwt]; rfl
                                          have k1 : ∀ X : WB wt.heap.size wt, X.val.cell? ⟨wo.heap.size, 1, none⟩ = _ := fun X => (X.bel.cell (p := ⟨wo.heap.size, 1, none⟩) (by rw [hzt]; exact hgsl)).trans ((hct _).trans s1)
                                          have k2 : ∀ X : WB wt.heap.size wt, X.val.cell? ⟨eb, eo + k, none⟩ = some (.int .i64 ek) := fun X => (X.bel.cell (p := ⟨eb, eo + k, none⟩) (by rw [hzt]; exact hekb)).trans ((hct _).trans y1)
                                          have k3 : ∀ X : WB wt.heap.size wt, X.val.cell? ⟨eb, eo + (k + 1), none⟩ = some (.int .i64 ek1) := fun X => (X.bel.cell (p := ⟨eb, eo + (k + 1), none⟩) (by rw [hzt]; exact hekb)).trans ((hct _).trans y2)
                                          go_wp2_with fail
                                          refine wp_region_keep (fun w' => ∃ X : WB wt.heap.size wt, w' = X.val) 0 14 (by kernel_rfl) (by kernel_rfl) (by kernel_rfl) (by kernel_rfl) (fun _ _ d _ _ h => by cases d <;> exact h) ⟨⟨_, Below.refl _ _⟩, hwt.symm⟩ ?_
                                          rw [← hwt]
                                          clear hwt hct
                                          simp only [List.take_succ_cons, List.take_zero, List.drop_succ_cons, List.drop_zero]
                                          repeat (first | go_big_quiet_skip | (go_big_quiet_want; go_big_quiet_op; go_big_quiet_on))
                                          refine wpQuiet_nil ?_
                                          clear k1 k2 k3
                                          go_wp2_with fail
                                          refine And.intro ⟨WB.mk _ ((Below.refl _ _).alloc (Nat.le_refl _) _), rfl⟩ ?_
                                          have hgt : wo.heap.size + 1 ≤ wt.heap.size := by rw [hzt]; exact hgsl
                                          go_wp2_with (at_builtin; go_must (refine wpList_app elMvs rfl (.tmp 137) (.tmp 150) rfl (wo.heap.size + 1) _ (l0.length + 1) 1 _ [.int .i64 ek, .int .i64 (ek1 - 1), .int .i64 (j : Int)] rfl (by have := HINt.out.om; unfold OwV at this; rw [show ((l0 ++ [(mx, my, mz)])).length = l0.length + 1 by simp] at this; exact this) (by rw [hzt, hz8]; rfl) rfl (by simp [Value.oneCell']) (by omega) (by omega) hgt ?_); intro v11 w11 hown11 hg11 hat11; go_must (obtain ⟨A11, c11, rfl, -, -⟩ := own_len hown11); go_must (have hc11 := HINt.out.pushV_cells hg11); have t1 := hc11.1; have t2 := hc11.2; go_must (have HIN11 := Lib.hid (HINt.out.pushV hg11 (by rw [show ((l0 ++ [(mx, my, mz)])).length = l0.length + 1 by simp]; exact hown11))); clear hown11 hg11 hat11 hc11)
                                          go_roundw
                                          case rel => exact ⟨k + 1, _, od, (l0 ++ [(mx, my, mz)]) ++ [(ek, ek1 - 1, (j : Int))], by omega, by go_num, HIN11, ⟨HROW2.out, HXO.out.1, by simp only [List.length_append, List.length_singleton, List.length_nil] at hml ⊢; omega, HXO.out.2.1, HXO.out.2.2, bd_snoc hmb ⟨by omega, by omega⟩⟩⟩
                                          case measure => simp [intOf]; omega
                                    · as_aux_lemma =>
                                        have dz : (mz == (j : Int)) = false := by simpa using hz1
                                        have HROW2 : Hid (rowK (shE T L mv C ru) (stretches E) s ord (k + 1) = (od, l0 ++ [(mx, my, mz)] ++ [(ek, ek1 - 1, (j : Int))])) := Lib.hid (by rw [HROW.out, joinM_no _ _ _ _ _ _ _ (fun q => hz1 q.1)])
                                        go_wp2_with fail
                                        go_quiet (fail)
                                        obtain ⟨wt, hwt⟩ : ∃ wt, wt = (w8.drewN nq).drew := ⟨_, rfl⟩
                                        have HINt : Hid (Inn w5 wt ga wo.heap.size z (ru s) va vs acc _ _ od (l0 ++ [(mx, my, mz)])) := Lib.hid (by rw [hwt]; exact (HIN8.out.drewN nq).drew)
                                        have hzt : wt.heap.size = w8.heap.size := by rw [hwt]; rfl
                                        have hct : ∀ q, wt.cell? q = w8.cell? q := fun q => by rw [hwt]; rfl
                                        have k1 : ∀ X : WB wt.heap.size wt, X.val.cell? ⟨wo.heap.size, 1, none⟩ = _ := fun X => (X.bel.cell (p := ⟨wo.heap.size, 1, none⟩) (by rw [hzt]; exact hgsl)).trans ((hct _).trans s1)
                                        have k2 : ∀ X : WB wt.heap.size wt, X.val.cell? ⟨eb, eo + k, none⟩ = some (.int .i64 ek) := fun X => (X.bel.cell (p := ⟨eb, eo + k, none⟩) (by rw [hzt]; exact hekb)).trans ((hct _).trans y1)
                                        have k3 : ∀ X : WB wt.heap.size wt, X.val.cell? ⟨eb, eo + (k + 1), none⟩ = some (.int .i64 ek1) := fun X => (X.bel.cell (p := ⟨eb, eo + (k + 1), none⟩) (by rw [hzt]; exact hekb)).trans ((hct _).trans y2)
                                        go_wp2_with fail
                                        refine wp_region_keep (fun w' => ∃ X : WB wt.heap.size wt, w' = X.val) 0 14 (by kernel_rfl) (by kernel_rfl) (by kernel_rfl) (by kernel_rfl) (fun _ _ d _ _ h => by cases d <;> exact h) ⟨⟨_, Below.refl _ _⟩, hwt.symm⟩ ?_
                                        rw [← hwt]
                                        clear hwt hct
                                        simp only [List.take_succ_cons, List.take_zero, List.drop_succ_cons, List.drop_zero]
                                        repeat (first | go_big_quiet_skip | (go_big_quiet_want; go_big_quiet_op; go_big_quiet_on))
                                        refine wpQuiet_nil ?_
                                        clear k1 k2 k3
                                        go_wp2_with fail
                                        refine And.intro ⟨WB.mk _ ((Below.refl _ _).alloc (Nat.le_refl _) _), rfl⟩ ?_
                                        have hgt : wo.heap.size + 1 ≤ wt.heap.size := by rw [hzt]; exact hgsl
                                        go_wp2_with (at_builtin; go_must (refine wpList_app elMvs rfl (.tmp 137) (.tmp 150) rfl (wo.heap.size + 1) _ (l0.length + 1) 1 _ [.int .i64 ek, .int .i64 (ek1 - 1), .int .i64 (j : Int)] rfl (by have := HINt.out.om; unfold OwV at this; rw [show ((l0 ++ [(mx, my, mz)])).length = l0.length + 1 by simp] at this; exact this) (by rw [hzt, hz8]; rfl) rfl (by simp [Value.oneCell']) (by omega) (by omega) hgt ?_); intro v11 w11 hown11 hg11 hat11; go_must (obtain ⟨A11, c11, rfl, -, -⟩ := own_len hown11); go_must (have hc11 := HINt.out.pushV_cells hg11); have t1 := hc11.1; have t2 := hc11.2; go_must (have HIN11 := Lib.hid (HINt.out.pushV hg11 (by rw [show ((l0 ++ [(mx, my, mz)])).length = l0.length + 1 by simp]; exact hown11))); clear hown11 hg11 hat11 hc11)
                                        go_roundw
                                        case rel => exact ⟨k + 1, _, od, (l0 ++ [(mx, my, mz)]) ++ [(ek, ek1 - 1, (j : Int))], by omega, by go_num, HIN11, ⟨HROW2.out, HXO.out.1, by simp only [List.length_append, List.length_singleton, List.length_nil] at hml ⊢; omega, HXO.out.2.1, HXO.out.2.2, bd_snoc hmb ⟨by omega, by omega⟩⟩⟩
                                        case measure => simp [intOf]; omega
                                · as_aux_lemma =>
                                    rw [hd] at v4
                                    have HJ2 : Hid (∀ o, o < j + 1 → dM T (nthN od o) t = true) := Lib.hid (fun o ho => by
                                      by_cases e : o = j
                                      · subst e; exact hd
                                      · exact HJ.out o (by omega))
                                    clear hd
                                    generalize nthN od j = oj at *
                                    go_wp2_with fail
                                    go_roundw
                                    case rel => exact ⟨j + 1, by omega, by go_num, HJ2⟩
                                    case measure => simp [intOf]; omega
                              · have dj : decide ((j : Int) < (od.length : Int)) = false := decide_eq_false (by omega)
                                have ej : j = od.length := by omega
                                have HIX : Hid (idxO (shE T L mv C ru).same od t = j) := Lib.hid (idx_at hj HJ.out (fun h => absurd h hjl))
                                have HROW : Hid (rowK (shE T L mv C ru) (stretches E) s ord (k + 1) = (od ++ [t], joinM ms ek (ek1 - 1) j)) := Lib.hid (by rw [HRS2.out, HIX.out, if_neg hjl])
                                have dq : ((j : Int) == (od.length : Int)) = true := by simp; omega
                                have hod9 := HIX.out
                                have HXO : Hid (OrdP n (od ++ [t]) ∧ ord.length ≤ (od ++ [t]).length ∧ (od ++ [t])[i]? = some s) := Lib.hid (by
                                  have e := HRS.out.symm.trans HROW.out
                                  have h1 := OrdP.step (e := shE T L mv C ru) (s := s) (st := (od, ms)) (pc := (ek, ek1 - 1)) HX.out.2.1 (by show mv s (clsOf C ek) < n; rw [← HC.out, ← HT.out]; exact htn) (by show (!dM T (mv s (clsOf C ek)) (mv s (clsOf C ek))) = true; rw [← HC.out, ← HT.out, (HD6.out t t htn htn).2 (Eqv.refl t)]; rfl)
                                  rw [e] at h1
                                  exact ⟨h1, by have := HX.out.2.2.2.1; simp; omega, by rw [List.getElem?_append_left (by have := HX.out.2.2.2.1; omega)]; exact HX.out.2.2.2.2.1⟩)
                                have hodl : od.length + 1 ≤ 1001 := by have := HXO.out.1.len; simp only [List.length_append, List.length_singleton] at this; omega
                                clear hz8 hod9 ej
                                have hml := HX.out.2.2.1
                                have hmb := HX.out.2.2.2.2.2
                                clear HX
                                rcases List.eq_nil_or_concat ms with rfl | ⟨l0, ⟨mx, my, mz⟩, rfl⟩
                                · as_aux_lemma =>
                                    obtain ⟨Av, cv, hvm, -, -⟩ := own_len HIN8.out.om
                                    simp only [List.length_nil] at hvm
                                    subst hvm
                                    have HROW2 : Hid (rowK (shE T L mv C ru) (stretches E) s ord (k + 1) = ((od ++ [t]), [] ++ [(ek, ek1 - 1, (j : Int))])) := Lib.hid (by rw [HROW.out, joinM_nil]; rfl)
                                    go_wp2_with (at_builtin; refine wpList_app elInts rfl (.tmp 91) (.tmp 93) rfl z _ od.length 1 _ [.int .i64 (t : Int)] rfl HIN8.out.ov_ rfl rfl (by simp [Value.oneCell']) (by omega) (by omega) HIN8.out.base ?_; intro v9 w9 hown9 hg9 hat9; obtain ⟨A9, c9, rfl, -, -⟩ := own_len hown9; have HIN9 := Lib.hid (HIN8.out.pushO hg9 hown9); clear hown9 hg9 hat9; have s1 := HIN9.out.gs_.cell (i := 1) rfl; have hgsl := HIN9.out.gs_.lt; have y1 := HEC.out w9 HIN9.out.kp k (by omega); have y2 := HEC.out w9 HIN9.out.kp (k + 1) (by omega); rw [← HEK.out] at y1; rw [← HEK1.out] at y2; have hekb : eb < w9.heap.size := lt_cellS y1; have HDN : Hid True := Lib.hid trivial)
                                    go_quiet (fail)
                                    obtain ⟨wt, hwt⟩ : ∃ wt, wt = (w9.drewN nq).drew := ⟨_, rfl⟩
                                    have HINt : Hid (Inn w5 wt ga wo.heap.size z (ru s) va vs acc _ _ (od ++ [t]) []) := Lib.hid (by rw [hwt]; exact (HIN9.out.drewN nq).drew)
                                    have hzt : wt.heap.size = w9.heap.size := by rw [hwt]; rfl
                                    have hct : ∀ q, wt.cell? q = w9.cell? q := fun q => by rw [hwt]; rfl
                                    have k1 : ∀ X : WB wt.heap.size wt, X.val.cell? ⟨wo.heap.size, 1, none⟩ = _ := fun X => (X.bel.cell (p := ⟨wo.heap.size, 1, none⟩) (by rw [hzt]; exact hgsl)).trans ((hct _).trans s1)
                                    have k2 : ∀ X : WB wt.heap.size wt, X.val.cell? ⟨eb, eo + k, none⟩ = some (.int .i64 ek) := fun X => (X.bel.cell (p := ⟨eb, eo + k, none⟩) (by rw [hzt]; exact hekb)).trans ((hct _).trans y1)
                                    have k3 : ∀ X : WB wt.heap.size wt, X.val.cell? ⟨eb, eo + (k + 1), none⟩ = some (.int .i64 ek1) := fun X => (X.bel.cell (p := ⟨eb, eo + (k + 1), none⟩) (by rw [hzt]; exact hekb)).trans ((hct _).trans y2)
                                    go_wp2_with fail
                                    refine wp_region_keep (fun w' => ∃ X : WB wt.heap.size wt, w' = X.val) 0 14 (by kernel_rfl) (by kernel_rfl) (by kernel_rfl) (by kernel_rfl) (fun _ _ d _ _ h => by cases d <;> exact h) ⟨⟨_, Below.refl _ _⟩, hwt.symm⟩ ?_
                                    rw [← hwt]
                                    clear hwt hct
                                    simp only [List.take_succ_cons, List.take_zero, List.drop_succ_cons, List.drop_zero]
                                    repeat (first | go_big_quiet_skip | (go_big_quiet_want; go_big_quiet_op; go_big_quiet_on))
                                    refine wpQuiet_nil ?_
                                    clear k1 k2 k3
                                    go_wp2_with fail
                                    refine And.intro ⟨WB.mk _ ((Below.refl _ _).alloc (Nat.le_refl _) _), rfl⟩ ?_
                                    have hgt : wo.heap.size + 1 ≤ wt.heap.size := by rw [hzt]; exact hgsl
                                    go_wp2_with (at_builtin; go_must (refine wpList_app elMvs rfl (.tmp 137) (.tmp 150) rfl (wo.heap.size + 1) _ (0) 1 _ [.int .i64 ek, .int .i64 (ek1 - 1), .int .i64 (j : Int)] rfl HINt.out.om (by rw [hzt]; rfl) rfl (by simp [Value.oneCell']) (by omega) (by omega) hgt ?_); intro v11 w11 hown11 hg11 hat11; go_must (obtain ⟨A11, c11, rfl, -, -⟩ := own_len hown11); go_must (have hc11 := HINt.out.pushV_cells hg11); have t1 := hc11.1; have t2 := hc11.2; go_must (have HIN11 := Lib.hid (HINt.out.pushV hg11 hown11)); clear hown11 hg11 hat11 hc11)
                                    go_roundw
                                    case rel => exact ⟨k + 1, _, (od ++ [t]), [] ++ [(ek, ek1 - 1, (j : Int))], by omega, by go_num, HIN11, ⟨HROW2.out, HXO.out.1, by simp only [List.length_append, List.length_singleton, List.length_nil] at hml ⊢; omega, HXO.out.2.1, HXO.out.2.2, bd_snoc hmb ⟨by omega, by omega⟩⟩⟩
                                    case measure => simp [intOf]; omega
                                · rw [List.concat_eq_append] at HIN8 hml hmb HROW
                                  have hmyb := hmb (mx, my, mz) (by simp)
                                  simp only at hmyb
                                  obtain ⟨vg, vc, rfl, e2, e3, e4, e5, e6, e7, e8, e9⟩ := HIN8.out.last
                                  clear e6 e7 e8
                                  have hll : l0.length + 1 ≤ 1000 := by simp only [List.length_append, List.length_singleton] at hml; omega
                                  have dl : decide ((0 : Int) ≤ (l0.length : Int)) = true := decide_eq_true (by omega)
                                  unfold maxLen at e3
                                  clear e9
                                  by_cases hz1 : mz = (j : Int)
                                  · have dz : (mz == (j : Int)) = true := by simpa using hz1
                                    by_cases hz2 : my + 1 = ek
                                    · as_aux_lemma =>
                                        have dy : ((my + 1) == ek) = true := by simpa using hz2
                                        subst hz1
                                        have HROW2 : Hid (rowK (shE T L mv C ru) (stretches E) s ord (k + 1) = ((od ++ [t]), l0 ++ [(mx, ek1 - 1, (j : Int))])) := Lib.hid (by rw [HROW.out, joinM_yes _ _ _ _ _ _ hz2])
                                        go_wp2_with (at_builtin; refine wpList_app elInts rfl (.tmp 91) (.tmp 93) rfl z _ od.length 1 _ [.int .i64 (t : Int)] rfl HIN8.out.ov_ rfl rfl (by simp [Value.oneCell']) (by omega) (by omega) HIN8.out.base ?_; intro v9 w9 hown9 hg9 hat9; obtain ⟨A9, c9, rfl, -, -⟩ := own_len hown9; have HIN9 := Lib.hid (HIN8.out.pushO hg9 hown9); clear hown9 hg9 hat9; have s1 := HIN9.out.gs_.cell (i := 1) rfl; have hgsl := HIN9.out.gs_.lt; have y1 := HEC.out w9 HIN9.out.kp k (by omega); have y2 := HEC.out w9 HIN9.out.kp (k + 1) (by omega); rw [← HEK.out] at y1; rw [← HEK1.out] at y2; have hekb : eb < w9.heap.size := lt_cellS y1; have hlc := HIN9.out.lastC rfl; have e6 := hlc.1; have e7 := hlc.2.1; have e8 := hlc.2.2.1; have e5 := hlc.2.2.2; clear hlc; have HDN : Hid True := Lib.hid trivial)
                                        go_quiet (fail)
                                        go_wp2_with fail
                                        refine wp_region_still_tail 11 (by kernel_rfl) (by kernel_rfl) ?_
                                        simp only [List.take_succ_cons, List.take_zero, List.drop_succ_cons, List.drop_zero]
                                        change wpStill _ _ (w9.drewN nq).drew (fun a' => wpList _ _ _ _ a' (w9.drewN nq).drew) _ _
                                        obtain ⟨wt, hwt⟩ : ∃ wt, wt = (w9.drewN nq).drew := ⟨_, rfl⟩
                                        rw [← hwt]
                                        have hct : ∀ q, wt.cell? q = w9.cell? q := fun q => by rw [hwt]; rfl
                                        have hf := show wt.frozen? ⟨vg, l0.length * 3 + 1, none⟩ = false by rw [hwt]; exact e6 _
                                        have hin11 := ((HIN9.out.drewN nq).drew).setV rfl (ek1 - 1)
                                        rw [← hwt] at hin11
                                        have HIN11 := Lib.hid hin11
                                        clear hin11
                                        have s1 := (hct _).trans s1
                                        have y2 := (hct _).trans y2
                                        have e7 := (hct _).trans e7
                                        clear hct hwt e6 e8 y1
                                        refine wpStill_of_quiet _ _ ?_
                                        repeat (first | go_big_quiet_skip | (go_big_quiet_want; go_big_quiet_op; go_big_quiet_on))
                                        refine wpQuiet_nil ?_
                                        go_wp2_with fail
                                        go_roundw
                                        case rel => exact ⟨k + 1, _, (od ++ [t]), l0 ++ [(mx, ek1 - 1, (j : Int))], by omega, by go_num, HIN11, ⟨HROW2.out, HXO.out.1, by simp only [List.length_append, List.length_singleton] at hml ⊢; omega, HXO.out.2.1, HXO.out.2.2, bd_snoc (fun m hm => hmb m (List.mem_append_left _ hm)) ⟨by omega, by omega⟩⟩⟩
                                        case measure => simp [intOf]; omega
                                    · as_aux_lemma =>
                                        have dy : ((my + 1) == ek) = false := by simpa using hz2
                                        have HROW2 : Hid (rowK (shE T L mv C ru) (stretches E) s ord (k + 1) = ((od ++ [t]), l0 ++ [(mx, my, mz)] ++ [(ek, ek1 - 1, (j : Int))])) := Lib.hid (by rw [HROW.out, joinM_no _ _ _ _ _ _ _ (fun q => hz2 q.2)])
                                        go_wp2_with (at_builtin; refine wpList_app elInts rfl (.tmp 91) (.tmp 93) rfl z _ od.length 1 _ [.int .i64 (t : Int)] rfl HIN8.out.ov_ rfl rfl (by simp [Value.oneCell']) (by omega) (by omega) HIN8.out.base ?_; intro v9 w9 hown9 hg9 hat9; obtain ⟨A9, c9, rfl, -, -⟩ := own_len hown9; have HIN9 := Lib.hid (HIN8.out.pushO hg9 hown9); clear hown9 hg9 hat9; have s1 := HIN9.out.gs_.cell (i := 1) rfl; have hgsl := HIN9.out.gs_.lt; have y1 := HEC.out w9 HIN9.out.kp k (by omega); have y2 := HEC.out w9 HIN9.out.kp (k + 1) (by omega); rw [← HEK.out] at y1; rw [← HEK1.out] at y2; have hekb : eb < w9.heap.size := lt_cellS y1; have hlc := HIN9.out.lastC rfl; have e6 := hlc.1; have e7 := hlc.2.1; have e8 := hlc.2.2.1; have e5 := hlc.2.2.2; clear hlc; have HDN : Hid True := Lib.hid trivial)
                                        go_quiet (fail)
                                        obtain ⟨wt, hwt⟩ : ∃ wt, wt = (w9.drewN nq).drew := ⟨_, rfl⟩
                                        have HINt : Hid (Inn w5 wt ga wo.heap.size z (ru s) va vs acc _ _ (od ++ [t]) (l0 ++ [(mx, my, mz)])) := Lib.hid (by rw [hwt]; exact (HIN9.out.drewN nq).drew)
                                        have hzt : wt.heap.size = w9.heap.size := by rw [hwt]; rfl
                                        have hct : ∀ q, wt.cell? q = w9.cell? q := fun q => by rw [hwt]; rfl
                                        have k1 : ∀ X : WB wt.heap.size wt, X.val.cell? ⟨wo.heap.size, 1, none⟩ = _ := fun X => (X.bel.cell (p := ⟨wo.heap.size, 1, none⟩) (by rw [hzt]; exact hgsl)).trans ((hct _).trans s1)
                                        have k2 : ∀ X : WB wt.heap.size wt, X.val.cell? ⟨eb, eo + k, none⟩ = some (.int .i64 ek) := fun X => (X.bel.cell (p := ⟨eb, eo + k, none⟩) (by rw [hzt]; exact hekb)).trans ((hct _).trans y1)
                                        have k3 : ∀ X : WB wt.heap.size wt, X.val.cell? ⟨eb, eo + (k + 1), none⟩ = some (.int .i64 ek1) := fun X => (X.bel.cell (p := ⟨eb, eo + (k + 1), none⟩) (by rw [hzt]; exact hekb)).trans ((hct _).trans y2)
                                        go_wp2_with fail
                                        refine wp_region_keep (fun w' => ∃ X : WB wt.heap.size wt, w' = X.val) 0 14 (by kernel_rfl) (by kernel_rfl) (by kernel_rfl) (by kernel_rfl) (fun _ _ d _ _ h => by cases d <;> exact h) ⟨⟨_, Below.refl _ _⟩, hwt.symm⟩ ?_
                                        rw [← hwt]
                                        clear hwt hct
                                        simp only [List.take_succ_cons, List.take_zero, List.drop_succ_cons, List.drop_zero]
                                        repeat (first | go_big_quiet_skip | (go_big_quiet_want; go_big_quiet_op; go_big_quiet_on))
                                        refine wpQuiet_nil ?_
                                        clear k1 k2 k3
                                        go_wp2_with fail
                                        refine And.intro ⟨WB.mk _ ((Below.refl _ _).alloc (Nat.le_refl _) _), rfl⟩ ?_
                                        have hgt : wo.heap.size + 1 ≤ wt.heap.size := by rw [hzt]; exact hgsl
                                        go_wp2_with (at_builtin; go_must (refine wpList_app elMvs rfl (.tmp 137) (.tmp 150) rfl (wo.heap.size + 1) _ (l0.length + 1) 1 _ [.int .i64 ek, .int .i64 (ek1 - 1), .int .i64 (j : Int)] rfl (by have := HINt.out.om; unfold OwV at this; rw [show ((l0 ++ [(mx, my, mz)])).length = l0.length + 1 by simp] at this; exact this) (by rw [hzt]; rfl) rfl (by simp [Value.oneCell']) (by omega) (by omega) hgt ?_); intro v11 w11 hown11 hg11 hat11; go_must (obtain ⟨A11, c11, rfl, -, -⟩ := own_len hown11); go_must (have hc11 := HINt.out.pushV_cells hg11); have t1 := hc11.1; have t2 := hc11.2; go_must (have HIN11 := Lib.hid (HINt.out.pushV hg11 (by rw [show ((l0 ++ [(mx, my, mz)])).length = l0.length + 1 by simp]; exact hown11))); clear hown11 hg11 hat11 hc11)
                                        go_roundw
                                        case rel => exact ⟨k + 1, _, (od ++ [t]), (l0 ++ [(mx, my, mz)]) ++ [(ek, ek1 - 1, (j : Int))], by omega, by go_num, HIN11, ⟨HROW2.out, HXO.out.1, by simp only [List.length_append, List.length_singleton, List.length_nil] at hml ⊢; omega, HXO.out.2.1, HXO.out.2.2, bd_snoc hmb ⟨by omega, by omega⟩⟩⟩
                                        case measure => simp [intOf]; omega
                                  · as_aux_lemma =>
                                      have dz : (mz == (j : Int)) = false := by simpa using hz1
                                      have HROW2 : Hid (rowK (shE T L mv C ru) (stretches E) s ord (k + 1) = ((od ++ [t]), l0 ++ [(mx, my, mz)] ++ [(ek, ek1 - 1, (j : Int))])) := Lib.hid (by rw [HROW.out, joinM_no _ _ _ _ _ _ _ (fun q => hz1 q.1)])
                                      go_wp2_with (at_builtin; refine wpList_app elInts rfl (.tmp 91) (.tmp 93) rfl z _ od.length 1 _ [.int .i64 (t : Int)] rfl HIN8.out.ov_ rfl rfl (by simp [Value.oneCell']) (by omega) (by omega) HIN8.out.base ?_; intro v9 w9 hown9 hg9 hat9; obtain ⟨A9, c9, rfl, -, -⟩ := own_len hown9; have HIN9 := Lib.hid (HIN8.out.pushO hg9 hown9); clear hown9 hg9 hat9; have s1 := HIN9.out.gs_.cell (i := 1) rfl; have hgsl := HIN9.out.gs_.lt; have y1 := HEC.out w9 HIN9.out.kp k (by omega); have y2 := HEC.out w9 HIN9.out.kp (k + 1) (by omega); rw [← HEK.out] at y1; rw [← HEK1.out] at y2; have hekb : eb < w9.heap.size := lt_cellS y1; have hlc := HIN9.out.lastC rfl; have e6 := hlc.1; have e7 := hlc.2.1; have e8 := hlc.2.2.1; have e5 := hlc.2.2.2; clear hlc; have HDN : Hid True := Lib.hid trivial)
                                      go_quiet (fail)
                                      obtain ⟨wt, hwt⟩ : ∃ wt, wt = (w9.drewN nq).drew := ⟨_, rfl⟩
                                      have HINt : Hid (Inn w5 wt ga wo.heap.size z (ru s) va vs acc _ _ (od ++ [t]) (l0 ++ [(mx, my, mz)])) := Lib.hid (by rw [hwt]; exact (HIN9.out.drewN nq).drew)
                                      have hzt : wt.heap.size = w9.heap.size := by rw [hwt]; rfl
                                      have hct : ∀ q, wt.cell? q = w9.cell? q := fun q => by rw [hwt]; rfl
                                      have k1 : ∀ X : WB wt.heap.size wt, X.val.cell? ⟨wo.heap.size, 1, none⟩ = _ := fun X => (X.bel.cell (p := ⟨wo.heap.size, 1, none⟩) (by rw [hzt]; exact hgsl)).trans ((hct _).trans s1)
                                      have k2 : ∀ X : WB wt.heap.size wt, X.val.cell? ⟨eb, eo + k, none⟩ = some (.int .i64 ek) := fun X => (X.bel.cell (p := ⟨eb, eo + k, none⟩) (by rw [hzt]; exact hekb)).trans ((hct _).trans y1)
                                      have k3 : ∀ X : WB wt.heap.size wt, X.val.cell? ⟨eb, eo + (k + 1), none⟩ = some (.int .i64 ek1) := fun X => (X.bel.cell (p := ⟨eb, eo + (k + 1), none⟩) (by rw [hzt]; exact hekb)).trans ((hct _).trans y2)
                                      go_wp2_with fail
                                      refine wp_region_keep (fun w' => ∃ X : WB wt.heap.size wt, w' = X.val) 0 14 (by kernel_rfl) (by kernel_rfl) (by kernel_rfl) (by kernel_rfl) (fun _ _ d _ _ h => by cases d <;> exact h) ⟨⟨_, Below.refl _ _⟩, hwt.symm⟩ ?_
                                      rw [← hwt]
                                      clear hwt hct
                                      simp only [List.take_succ_cons, List.take_zero, List.drop_succ_cons, List.drop_zero]
                                      repeat (first | go_big_quiet_skip | (go_big_quiet_want; go_big_quiet_op; go_big_quiet_on))
                                      refine wpQuiet_nil ?_
                                      clear k1 k2 k3
                                      go_wp2_with fail
                                      refine And.intro ⟨WB.mk _ ((Below.refl _ _).alloc (Nat.le_refl _) _), rfl⟩ ?_
                                      have hgt : wo.heap.size + 1 ≤ wt.heap.size := by rw [hzt]; exact hgsl
                                      go_wp2_with (at_builtin; go_must (refine wpList_app elMvs rfl (.tmp 137) (.tmp 150) rfl (wo.heap.size + 1) _ (l0.length + 1) 1 _ [.int .i64 ek, .int .i64 (ek1 - 1), .int .i64 (j : Int)] rfl (by have := HINt.out.om; unfold OwV at this; rw [show ((l0 ++ [(mx, my, mz)])).length = l0.length + 1 by simp] at this; exact this) (by rw [hzt]; rfl) rfl (by simp [Value.oneCell']) (by omega) (by omega) hgt ?_); intro v11 w11 hown11 hg11 hat11; go_must (obtain ⟨A11, c11, rfl, -, -⟩ := own_len hown11); go_must (have hc11 := HINt.out.pushV_cells hg11); have t1 := hc11.1; have t2 := hc11.2; go_must (have HIN11 := Lib.hid (HINt.out.pushV hg11 (by rw [show ((l0 ++ [(mx, my, mz)])).length = l0.length + 1 by simp]; exact hown11))); clear hown11 hg11 hat11 hc11)
                                      go_roundw
                                      case rel => exact ⟨k + 1, _, (od ++ [t]), (l0 ++ [(mx, my, mz)]) ++ [(ek, ek1 - 1, (j : Int))], by omega, by go_num, HIN11, ⟨HROW2.out, HXO.out.1, by simp only [List.length_append, List.length_singleton, List.length_nil] at hml ⊢; omega, HXO.out.2.1, HXO.out.2.2, bd_snoc hmb ⟨by omega, by omega⟩⟩⟩
                                      case measure => simp [intOf]; omega
                      · as_aux_lemma =>
                          rw [hnt] at y0
                          have HRS2 : Hid (rowK (shE T L mv C ru) (stretches E) s ord (k + 1) = (od, ms)) := Lib.hid (by
                            rw [HRS.out]
                            exact sh_skip (by rw [← HC.out, ← HT.out]; exact hnt))
                          have HX2 : Hid (rowK (shE T L mv C ru) (stretches E) s ord (k + 1) = (od, ms) ∧ OrdP n od ∧ ms.length ≤ k + 1 ∧ ord.length ≤ od.length ∧ od[i]? = some s ∧ ∀ m ∈ ms, 0 ≤ m.2.1 ∧ m.2.1 ≤ 1114111) := Lib.hid ⟨HRS2.out, HX.out.2.1, Nat.le_succ_of_le HX.out.2.2.1, HX.out.2.2.2⟩
                          clear hnt
                          go_wp2_with fail
                          go_roundw
                          case rel => exact ⟨k + 1, vm, od, ms, by omega, by go_num, HIN8, HX2⟩
                          case measure => simp [intOf]; omega
                  · as_aux_lemma =>
                      have dk : decide ((k : Int) + 1 < (E.length : Int)) = false := decide_eq_false (by omega)
                      have ek : k = (stretches E).length := by rw [← HN.out]; omega
                      have hx := HX.out
                      have hil : i + 1 ≤ od.length := (List.getElem?_eq_some_iff.1 hx.2.2.2.2.1).1
                      have hro : rowOf (shE T L mv C ru) (stretches E) s ord = (od, ms) := by rw [← rowK_all (k := k) (by omega)]; exact hx.1
                      have hbr := build_round HI.out.b HSO.out
                      rw [hro] at hbr
                      have HSH : Hid (ShI n (shE T L mv C ru) (stretches E) (i + 1) od (acc ++ [(ru s, ms)])) := Lib.hid ⟨hbr, hx.2.1, by rw [List.length_append, HI.out.l]; rfl, fun q hq => by
                        rcases List.mem_append.1 hq with hq | hq
                        · exact HI.out.m q hq
                        · rw [List.mem_singleton] at hq; subst hq; have := hx.2.2.1; show ms.length ≤ _; omega⟩
                      have hal : acc.length ≤ 1001 := by rw [HI.out.l]; omega
                      have s0 := HIN.out.gs_.cell (i := 0) rfl
                      have s1 := HIN.out.gs_.cell (i := 1) rfl
                      have a0 := HIN.out.va_.cell (i := 0) rfl
                      have h1v := own1 HIN.out.om
                      have hinb := HIN.out.base
                      clear hx hro hbr ek HX HI
                      go_wp2_with (at_builtin; refine wpList_app elSts rfl (.tmp 154) (.tmp 156) rfl z va acc.length 1 (stc acc vs) [.int .i64 (ru s), vm] rfl HIN.out.os.row rfl rfl (by intro u hu; simp only [List.mem_cons, List.not_mem_nil, or_false] at hu; rcases hu with rfl | rfl; exact rfl; exact h1v) (by omega) (by omega) hinb ?_; intro v8 w8 hown8 hg8 hat8; obtain ⟨A8, c8, rfl, -, -⟩ := own_len hown8; have HR8 := Lib.hid (HIN.out.pushS hg8 hown8); have a1 := (HIN.out.pushS_cells hg8).1; have a2 := (HIN.out.pushS_cells hg8).2; clear hown8 hg8 hat8)
                      go_roundw
                      case rel => exact ⟨i + 1, _, vs ++ [vm], od, acc ++ [(ru s, ms)], hil, by go_num, HR8.out.1, HR8.out.2.1, HR8.out.2.2.1, HR8.out.2.2.2, HSH⟩
                      case measure => simp [intOf]; omega
          · as_aux_lemma =>
              have dio : decide ((i : Int) < (ord.length : Int)) = false := decide_eq_false (by omega)
              have ei : i = ord.length := by omega
              have a0 := HVA.out.cell (i := 0) rfl
              have hgr := HR0.out wr HKP.out
              have r0 := hgr.cell (i := 0) rfl
              have r1 := hgr.frozen 0
              have r2 := hgr.lt
              have HR9 := Lib.hid (hgr.set_ 0 va)
              obtain ⟨Av, cv, hva, -, -⟩ := own_len HOS.out.row
              obtain ⟨Ao, co, rfl, -, -⟩ := own_len HOV.out
              have hos9 : OwS (wr.setCell ⟨g + 1, 0, none⟩ va) z va vs acc := HOS.out.far (p := ⟨g + 1, 0, none⟩) (fun e => by have := (HOS.out.row.lt _ e).1; simp at this; omega) (fun k u hu e => by
                have hkl : k < acc.length := by rw [← HOS.out.ln]; exact (List.getElem?_eq_some_iff.1 hu).1
                have := (World.ownsRow.lt (HOS.out.cl k u _ hu (List.getElem?_eq_getElem hkl)) _ e).1
                simp at this; omega)
              have HO9 := Lib.hid hos9
              have HB9 := Lib.hid ((HBK.out wr HKP.out).setCell (p := ⟨g + 1, 0, none⟩) (show g ≤ g + 1 by omega) va)
              have HI2 : Hid (acc.length = ord.length ∧ ShI n (shE T L mv C ru) (stretches E) ord.length ord acc) := Lib.hid ⟨by rw [HI.out.l]; exact ei, by have := HI.out; rw [ei] at this; exact this⟩
              subst hva
              clear hgr hos9 ei HI
              go_wp2_with fail
              refine bodyPost_ret (results_cell_row rfl _ _ (g + 1) _ #[.slice Av acc.length cv] _ _ rfl HR9.out Tryz.underlying24 rfl (by kernel_rfl)) rfl ?_
              have hgw := HG.out
              exact ⟨Av, cv, acc, rfl, by rw [HI2.out.1]; exact hol, HO9.out.rdS, by rw [hgw]; exact HB9.out, T, L, HD6.out, HN4.out, .inr ⟨HB0.out, E, ord, HE2.out, HI2.out.2⟩⟩
  · as_aux_lemma =>
      rw [hb0] at y0
      have HB0 := Lib.hid hb0
      clear hb0
      have r0 := HR4.out.cell (i := 0) rfl
      have r1 := HR4.out.frozen 0
      have r2 := HA4.out.cell (i := 0) rfl
      have r3 := HR4.out.lt
      have HKR := Lib.hid (HR4.out.set_ 0 (.slice none 0 0))
      rw [hw4] at r0 r1 r2 r3 HKR
      have hbw4 : Below g w w4 := HB1.out.trans (HB4.out.mono (by omega))
      rw [hw4] at hbw4
      have HBX := Lib.hid (hbw4.setCell (p := ⟨g + 1, 0, none⟩) (show g ≤ g + 1 by omega) (.slice none 0 0))
      go_wp2_with fail
      refine bodyPost_ret (results_cell_row rfl _ _ (g + 1) _ #[.slice none 0 0] _ _ rfl HKR.out Tryz.underlying24 rfl (by kernel_rfl)) rfl ?_
      have hgw := HG.out
      exact ⟨none, 0, [], rfl, Nat.zero_le _, fun q => absurd q (by simp), by rw [hgw]; exact HBX.out, T, L, HD6.out, HN4.out, .inl ⟨HB0.out, rfl⟩⟩
end Go.Proofs.YthikgdogfkjioaaGreatDoor
