/- Plain: the program's sets of moves: by state and by where they lead. No program here. · Plain: the program's least automaton is the document's. No program here. · The document's edges of classes, and the class of a point. -/
import Derived.Test.YtkcpfpofimkkiaaGreatDoorQ15
import Derived.Test.YtkcpfpofimkkiaaGreatDoorQ13
import Derived.Test.YtkcpfpofimkkiaaGreatDoorQ14
namespace Go.Proofs.YtkcpfpofimkkiaaGreatDoor
set_option linter.unusedVariables false
set_option linter.unusedSimpArgs false

/-- The points of the moves to t. -/
def toSet (ms : List Mv) (t : Int) : List Rg := (ms.filter fun m => m.2.2 == t).map fun m => (m.1, m.2.1)
/-- Where moves lead, in the order in which they come. -/
def tosOf (ms : List Mv) : List Int := distinct (ms.map fun m => m.2.2)
def setsP (l : List St) : List (List Rg) := l.flatMap fun s => (tosOf s.2).map (toSet s.2)
theorem stp_in {n : Nat} {p : Int} : ∀ {ms : List Mv} {last : Int}, okM n last ms = true → ∀ m ∈ ms, m.1 ≤ p → p ≤ m.2.1 → stp ms p = m.2.2
  | [], _, _, m, hm, _, _ => by cases hm
  | a :: r, last, h, m, hm, h1, h2 => by
    obtain ⟨_, hr⟩ := okM_cons h
    unfold stp
    rcases List.mem_cons.1 hm with rfl | q
    · rw [if_pos ⟨h1, h2⟩]
    · have := (okM_mem hr m q).1
      rw [if_neg (by omega)]
      exact stp_in hr m q h1 h2
theorem stp_out {p : Int} : ∀ {ms : List Mv}, (∀ m ∈ ms, ¬ (m.1 ≤ p ∧ p ≤ m.2.1)) → stp ms p = -1
  | [], _ => rfl
  | a :: r, h => by
    unfold stp
    rw [if_neg (h a (List.mem_cons_self ..))]
    exact stp_out fun m hm => h m (List.mem_cons_of_mem _ hm)
theorem mem_toSet {ms : List Mv} {t p : Int} : memR (toSet ms t) p = true ↔ ∃ m ∈ ms, m.2.2 = t ∧ m.1 ≤ p ∧ p ≤ m.2.1 := by
  unfold memR toSet
  simp only [List.any_map, List.any_eq_true, List.mem_filter, Function.comp, Bool.and_eq_true, decide_eq_true_eq, beq_iff_eq]
  exact ⟨fun ⟨m, ⟨h1, h2⟩, h3⟩ => ⟨m, h1, h2, h3⟩, fun ⟨m, h1, h2, h3⟩ => ⟨m, ⟨h1, h2⟩, h3⟩⟩
theorem setsP_const {l : List St} (hok : okA l = true) {s : Nat} {p q : Int} (hp : isP p) (hq : isP q) (h : sig (setsP l) p = sig (setsP l) q) : dlt l s p = dlt l s q := by
  unfold dlt
  cases e : l[s]? with
  | none => rfl
  | some st =>
    have hst := List.mem_of_getElem? e
    have hm := (okA_state hok e).2
    have key : ∀ t ∈ tosOf st.2, memR (toSet st.2 t) p = memR (toSet st.2 t) q := fun t ht => by
      have h1 := sig_mem h (s := toSet st.2 t) (List.mem_flatMap.2 ⟨st, hst, List.mem_map.2 ⟨t, ht, rfl⟩⟩)
      unfold inR at h1
      rw [isPt_iff.2 hp, isPt_iff.2 hq] at h1
      simpa using h1
    have go : ∀ {a b : Int}, (∀ t ∈ tosOf st.2, memR (toSet st.2 t) a = memR (toSet st.2 t) b) → (∃ m ∈ st.2, m.1 ≤ a ∧ a ≤ m.2.1) → stp st.2 a = stp st.2 b := fun {a b} hk ⟨m, hmm, h1, h2⟩ => by
      have ht : m.2.2 ∈ tosOf st.2 := mem_distinct.2 (List.mem_map.2 ⟨m, hmm, rfl⟩)
      have h3 := hk _ ht
      rw [mem_toSet.2 ⟨m, hmm, rfl, h1, h2⟩] at h3
      obtain ⟨m', g1, g2, g3, g4⟩ := mem_toSet.1 h3.symm
      rw [stp_in hm m hmm h1 h2, stp_in hm m' g1 g3 g4, g2]
    have : stp st.2 p = stp st.2 q := by
      by_cases h1 : ∃ m ∈ st.2, m.1 ≤ p ∧ p ≤ m.2.1
      · exact go key h1
      · by_cases h2 : ∃ m ∈ st.2, m.1 ≤ q ∧ q ≤ m.2.1
        · exact (go (fun t ht => (key t ht).symm) h2).symm
        · rw [stp_out fun m hmm k => h1 ⟨m, hmm, k⟩, stp_out fun m hmm k => h2 ⟨m, hmm, k⟩]
    simp only [this]
/-- On stretches between edges all states step alike. -/
theorem Cls.edged {l : List St} {C : List (List Rg)} {e : List Int} (h : Cls l C.length (repOf C) (clsOf C)) (he : Edged e C) (h0 : ∀ x ∈ e, 0 ≤ x ∧ x ≤ 1114112) (s : Nat) : ∀ pc ∈ stretches e, ∀ p, pc.1 ≤ p → p ≤ pc.2 → dlt l s p = dlt l s pc.1 := fun pc hpc p h1 h2 => by
  obtain ⟨k, hk, rfl⟩ := stretches_at hpc
  simp only at h1 h2 ⊢
  have a0 := h0 _ (List.getElem_mem (show k < e.length by omega))
  have a1 := h0 _ (List.getElem_mem hk)
  have hlt := List.pairwise_iff_getElem.1 he.asc k (k + 1) (by omega) hk (by omega)
  rw [h.co s p ⟨by omega, by omega⟩, h.co s e[k] ⟨by omega, by omega⟩, he.cls hk h1 (by omega)]
end Go.Proofs.YtkcpfpofimkkiaaGreatDoor
namespace Go.Proofs.YtkcpfpofimkkiaaGreatDoor
set_option linter.unusedVariables false
set_option linter.unusedSimpArgs false

/-- What the document's shrinking takes. -/
structure DocL (l : List St) (C : List (List Rg)) (e : List Int) (d : Nat → Nat → Bool) (no : Nat → Bool) : Prop where
  f_c : Parted (setsR l) C
  f_e : Edged e C
  f_r : ∀ x ∈ e, 0 ≤ x ∧ x ≤ 1114112
  f_t : Tiles 0 (stretches e) 1114111
  f_d : ∀ s t, s ≤ l.length → t ≤ l.length → (d s t = false ↔ Eqv (rul l) (fun s c => dlt l s (repOf C c)) (· < C.length) s t)
  f_no : ∀ s, s ≤ l.length → (no s = false ↔ Live (rul l) (fun s c => dlt l s (repOf C c)) (· < C.length) s)
/-- What the program's thinning takes. -/
structure ProL (l : List St) (C : List (List Rg)) (L : List Rg) (m : Nat) (o at_ part : Nat → Nat) (al : Nat → Bool) : Prop where
  f_c : Parted (setsP l) C
  f_l : Cover 0 1114111 L
  f_k : ∀ r ∈ L, ∀ p, r.1 ≤ p → p ≤ r.2 → clsOf C p = clsOf C r.1
  f_p : PartsR (rul l) (fun s c => dlt l s (repOf C c)) C.length m o at_ part
  f_m : 0 < m
  f_o : o 0 = 0
  f_al : ∀ i, i < m → (al (part i) = true ↔ Live (fun k => rul l (o (fstOf m part k))) (fun k c => part (at_ (dlt l (o (fstOf m part k)) (repOf C c)))) (· < C.length) (part i))
def docE (l : List St) (C : List (List Rg)) (d : Nat → Nat → Bool) (no : Nat → Bool) : Env Nat := ⟨fun s => !no s, fun s t => !d s t, fun s p => dlt l s (repOf C (clsOf C p)), rul l⟩
def proE (l : List St) (C : List (List Rg)) (m : Nat) (o at_ part : Nat → Nat) (al : Nat → Bool) : Env Nat := ⟨al, fun a b => decide (a = b), fun k p => part (at_ (dlt l (o (fstOf m part k)) (repOf C (clsOf C p)))), fun k => rul l (o (fstOf m part k))⟩
theorem tiles_in : ∀ {a b : Int} {pcs : List (Int × Int)}, Tiles a pcs b → ∀ pc ∈ pcs, a ≤ pc.1 ∧ pc.1 ≤ pc.2 ∧ pc.2 ≤ b := by
  intro a b pcs h
  have low : ∀ {a b : Int} {r : List (Int × Int)}, Tiles a r b → a - 1 ≤ b := by
    intro a b r h
    induction h with
    | nil a => omega
    | cons q _ ih => omega
  induction h with
  | nil a => intro pc hp; cases hp
  | @cons lo hi b r h1 h2 ih =>
    intro pc hp
    have := low h2
    rcases List.mem_cons.1 hp with rfl | q
    · exact ⟨Int.le_refl _, h1, by show hi ≤ b; omega⟩
    · have := ih pc q
      omega
theorem least_joined {l : List St} (hok : okA l = true) {CR CP : List (List Rg)} {e : List Int} {d : Nat → Nat → Bool} {no : Nat → Bool} {L : List Rg} {m : Nat} {o at_ part : Nat → Nat} {al : Nat → Bool} (hD : DocL l CR e d no) (hP : ProL l CP L m o at_ part al) (f : Nat) :
    (build (docE l CR d no) (stretches e) f 0 [0] []).2 = (build (proE l CP m o at_ part al) L f 0 [part 0] []).2 ∧ (build (docE l CR d no) (stretches e) f 0 [0] []).1.length = (build (proE l CP m o at_ part al) L f 0 [part 0] []).1.length := by
  have k1 := cls_of_parted hD.f_c (fun s p q hp hq h => setsR_const hp hq h)
  have k2 := cls_of_parted hP.f_c (fun s p q hp hq h => setsP_const hok hp hq h)
  have t2 := hP.f_l.tiles (by omega)
  have i1 := tiles_in hD.f_t
  have i2 := tiles_in t2
  have E1 := table_env hok k1 hD.f_d hD.f_no (pcs := stretches e) (fun pc hp => by have := i1 pc hp; exact ⟨by omega, by omega⟩)
  have E2 := parts_env k2 (R := StandsFor m o part) (ruM := fun k => rul l (o (fstOf m part k))) (mvM := fun k c => part (at_ (dlt l (o (fstOf m part k)) (repOf CP c)))) (al := al) (fun k s h => hP.f_p.ru h) (fun k s c h hc => hP.f_p.step h hc) (fun k s k' s' h h' => hP.f_p.same h h')
    (fun k s ⟨i, hi, _, e⟩ => by subst e; exact hP.f_al i hi) (pcs := L) (fun pc hp => by have := i2 pc hp; exact ⟨by omega, by omega⟩)
  exact builds_same E1 E2 hD.f_t t2 (fun s => k1.edged hD.f_e hD.f_r s) (fun s pc hp p h1 h2 => by
    have := i2 pc hp
    rw [k2.co s p ⟨by omega, by omega⟩, k2.co s pc.1 ⟨by omega, by omega⟩, hP.f_k pc hp p h1 h2]) ⟨rfl, Nat.zero_le _⟩ ⟨0, hP.f_m, hP.f_o, rfl⟩ f
end Go.Proofs.YtkcpfpofimkkiaaGreatDoor
namespace Go.Proofs.YtkcpfpofimkkiaaGreatDoor
open Go.RowKit BigFrame
set_option linter.unusedVariables false
set_option linter.unusedSimpArgs false
set_option maxRecDepth 100000

theorem edged_of {E : List Int} {S C : List (List Rg)} (h : EdS E C) (hC : Parted S C) : Edged E C := by
  refine ⟨h.o.asc, fun c hc r hr => ?_, fun c hc r hr => ?_⟩
  · obtain ⟨x, hx, k⟩ := hC.each c hc
    have hb := CanF.bd k.can r hr
    by_cases e : r.1 = 0
    · rw [e]; exact h.o.z
    · exact (h.b c hc r hr).1 (by omega) (by omega)
  · obtain ⟨x, hx, k⟩ := hC.each c hc
    have hb := CanF.bd k.can r hr
    by_cases e : r.2 = MP
    · rw [e]; exact h.o.t
    · exact (h.b c hc r hr).2 (by omega) (by omega)
theorem edges_tiles {E : List Int} (h : EdgO E) : Tiles 0 (stretches E) 1114111 := by
  have h2 := edg_two h
  have hf := edg_first h
  have hl := edg_last h (k := E.length - 1) (by omega)
  cases E with
  | nil => simp at h2
  | cons x r =>
    have hx : x = 0 := by unfold nth at hf; simpa using hf
    subst hx
    have := stretches_tiles (e := r) (x := 0) h.asc
    have hlast : ((0 : Int) :: r).getLast (by simp) = MP + 1 := by
      rw [List.getLast_eq_getElem]
      rw [nth_get (by simp)] at hl
      exact hl
    rw [hlast] at this
    exact this

set_option maxHeartbeats 4000000 in
theorem begins_any (Ac : Option Addr) (vr vm : Value) (cc K : Nat) (C : List (List Rg)) (w : World) (B : Nat) (hB : B ≤ w.heap.size) (hr : RdS w B Ac C) (hC : C.length = K) (hK1 : K ≤ cc) (hK2 : cc ≤ maxLen) (ht : totR C ≤ 400) (hK : K ≤ 400) :
    Calls Tryz.prog 41 #[.agg #[.slice Ac K cc, vr, vm]] w fun e w' => ∃ b off c E, e = .returned (.slice (some ⟨b, off, none⟩) (List.length E) c) ∧ EdW w w' b off c E ∧ EdS E C ∧ 2 ≤ E.length ∧ E.length ≤ 802 := by
  have HR := Lib.hid hr; have HL := Lib.hid hC; have HT := Lib.hid ht
  obtain ⟨W1, hW1⟩ : ∃ W1, W1 = w.alloc (.cells #[.slice Ac K cc, vr, vm] 89) := ⟨_, rfl⟩
  have hk1 : Blk W1 w.heap.size 89 [.slice Ac K cc, vr, vm] := by rw [hW1]; exact Blk.new w _ _
  have hb1 : Below w.heap.size w W1 := by rw [hW1]; exact (Below.refl _ _).alloc (Nat.le_refl _) _
  have hw1 : EdW w (W1.alloc (.cells #[.int .i64 0, .int .i64 1114112] 3)) W1.heap.size 0 2 [0, 1114112] := ⟨by decide, by unfold maxLen; decide, fun _ => ⟨W1.heap.size, 0, rfl, by simp, fun j u hu => by
    rw [cell_of_row _ W1.heap.size (0 + j) #[.int .i64 0, .int .i64 1114112] 3 (0, 0) (heap_alloc_new W1 _), Nat.zero_add]; simpa using hu⟩, hb1.alloc hb1.size _⟩
  have hk2 := hk1.alloc (.cells #[.int .i64 0, .int .i64 1114112] 3)
  have HW1 := Lib.hid hw1; have HK2 := Lib.hid hk2
  clear hr hC hw1 ht hk1 hb1 hk2
  go_enter Tryz.func41, Tryz.ntmps41
  go_wp2_with fail
  rw [← hW1]
  refine (ends_any W1).mono ?_
  clear hW1
  rintro e w1 ⟨rfl, hw1e⟩
  rw [← hw1e] at HW1 HK2
  clear hw1e
  go_wp2_with fail
  go_loopw [3, 4] (fun v i wr => ∃ (k : Nat) (b off ce : Nat) (E : List Int), k ≤ K ∧ i = .int .i64 (k : Int) ∧ v = .slice (some ⟨b, off, none⟩) E.length ce ∧ Hid (EdW w wr b off ce E) ∧ Hid (Blk wr w.heap.size 89 [.slice Ac K cc, vr, vm]) ∧ Hid (EdS E (C.take k)) ∧ Hid (2 ≤ E.length ∧ E.length ≤ 2 + 2 * totR (C.take k))) (fun _ i _ => K - (intOf i).toNat)
  case atStart => exact ⟨0, _, _, _, [0, 1114112], Nat.zero_le _, rfl, rfl, HW1.out, HK2.out, ⟨edg0, fun s hs => (by cases hs)⟩, ⟨by decide, by simp⟩⟩
  case round =>
    as_aux_lemma =>
      clear HW1 HK2
      obtain ⟨k, b, off, ce, E, hk, rfl, rfl, HE, HK, HD, HN⟩ := hrel
      have z0 := HK.out.cell (i := 0) rfl
      by_cases hlt : k < K
      · as_aux_lemma =>
          have hkl : k < C.length := by rw [HL.out]; exact hlt
          obtain ⟨sb, so, rfl, hsb, hsc⟩ := (HR.out.below (HE.out.bel.mono hB)) (by omega)
          obtain ⟨A', c', z1, q1, q2, hrd⟩ := hsc k hkl
          have htt := totR_take_le C (k + 1)
          have htq : totR (C.take (k + 1)) = totR (C.take k) + (nthS C k).length := by rw [totR_take hkl, nthS_get hkl]
          obtain ⟨n1, n2⟩ := HN.out
          have htl := HT.out
          have HC := Lib.hid (edges_any b off ce E A' (nthS C k).length c' (nthS C k) wr B (by have := HE.out.bel.size; omega) HE.out.self (by omega) (by omega) hrd rfl (by omega))
          have hsn := HD.out.snoc (s := nthS C k)
          have htk : C.take (k + 1) = C.take k ++ [nthS C k] := by rw [List.take_succ_eq_append_getElem hkl, nthS_get hkl]
          rw [← htk] at hsn
          have hel := edg_len (s := nthS C k) (e := E)
          have HSN := Lib.hid hsn
          have HLN : Hid (2 ≤ (edg E (nthS C k)).length ∧ (edg E (nthS C k)).length ≤ 2 + 2 * totR (C.take (k + 1))) := Lib.hid ⟨by omega, by omega⟩
          clear htt htq hsc hrd hsn htk hel n1 n2 htl
          generalize nthS C k = s at *
          go_wp2_with fail
          refine HC.out.mono ?_
          rintro e w2 ⟨b2, off2, c2, rfl, hW2⟩
          have HE2 := Lib.hid (HE.out.from hW2)
          have HK2 := Lib.hid (HK.out.below' hW2.bel)
          clear hW2 HC
          go_wp2_with fail
          go_roundw
          case rel => exact ⟨k + 1, b2, off2, c2, edg E s, by omega, by go_num, rfl, HE2, HK2, HSN, HLN⟩
          case measure => simp [intOf]; omega
      · as_aux_lemma =>
          have htk : C.take k = C := List.take_of_length_le (by rw [HL.out]; omega)
          rw [htk] at HD HN
          clear htk
          go_wp2_with fail
          go_ret
          exact ⟨b, off, ce, E, rfl, HE.out, HD.out, HN.out.1, by have h1 := HN.out.2; have h2 := HT.out; omega⟩

set_option maxHeartbeats 4000000 in
theorem classAt_any (Ac : Option Addr) (vr vm : Value) (cc K : Nat) (S C : List (List Rg)) (p : Int) (w : World) (B : Nat) (hB : B ≤ w.heap.size) (hr : RdS w B Ac C) (hC : C.length = K) (hP : Parted S C) (hp : isP p) (hs : ∀ c ∈ C, c.length ≤ 100000) (hK : K ≤ 100000) :
    Calls Tryz.prog 43 #[.agg #[.slice Ac K cc, vr, vm], .int .i64 p] w fun e w' => e = .returned (.int .i64 (clsOf C p : Int)) ∧ Below w.heap.size w w' := by
  have HR := Lib.hid hr; have HL := Lib.hid hC; have HS := Lib.hid hs
  have hlt := (show clsOf C p < C.length from List.findIdx_lt_length_of_exists (by obtain ⟨c, hc, hm⟩ := hP.all p (isPt_iff.2 hp); exact ⟨c, hc, hm⟩))
  have hpt := isPt_iff.2 hp
  have HIN : Hid (∀ k, inR (nthS C k) p = memR (nthS C k) p) := Lib.hid (fun k => by unfold inR; rw [hpt]; simp)
  obtain ⟨q, hq⟩ : ∃ q, q = clsOf C p := ⟨_, rfl⟩
  have HNO : Hid (∀ k, k < q → memR (nthS C k) p = false) := Lib.hid (fun k hk => by
    rw [nthS_get (by omega)]
    have := List.not_of_lt_findIdx (p := fun c => memR c p) (xs := C) (i := k) (by rw [← show clsOf C p = C.findIdx (fun c => memR c p) from rfl, ← hq]; exact hk)
    simpa using this)
  have HYES : Hid (memR (nthS C q) p = true) := Lib.hid (by
    rw [hq, nthS_get hlt]
    exact List.findIdx_getElem (w := hlt))
  rw [← hq, hC] at hlt
  rw [← hq]
  obtain ⟨W1, hW1⟩ : ∃ W1, W1 = w.alloc (.cells #[.slice Ac K cc, vr, vm] 89) := ⟨_, rfl⟩
  have hk1 : Blk W1 w.heap.size 89 [.slice Ac K cc, vr, vm] := by rw [hW1]; exact Blk.new w _ _
  have hb1 : Below w.heap.size w W1 := by rw [hW1]; exact (Below.refl _ _).alloc (Nat.le_refl _) _
  have z0 := hk1.cell (i := 0) rfl
  have HB1 := Lib.hid hb1
  clear hr hC hP hp hs hpt hq hk1 hb1
  go_enter Tryz.func43, Tryz.ntmps43
  go_wp2_with fail
  rw [← hW1]
  clear hW1
  go_loop [5] (fun i => ∃ k : Nat, k ≤ q ∧ i = .int .i64 (k : Int)) (fun i => K - (intOf i).toNat)
  case atStart => exact ⟨0, Nat.zero_le _, rfl⟩
  case round =>
    as_aux_lemma =>
      obtain ⟨k, hk, rfl⟩ := hrel
      have hkl : k < C.length := by rw [HL.out]; omega
      have dk : decide ((k : Int) < (K : Int)) = true := decide_eq_true (by omega)
      have hRS := HR.out.below (HB1.out.mono hB)
      obtain ⟨sb, so, rfl, hsb, hsc⟩ := hRS (by omega)
      obtain ⟨A', c', z1, q1, q2, hrd⟩ := hsc k hkl
      have hlen : (nthS C k).length ≤ 100000 := by rw [nthS_get hkl]; exact HS.out _ (List.getElem_mem hkl)
      have hc := rHas_any A' (nthS C k).length c' (nthS C k) p W1 B hrd rfl hlen
      rw [HIN.out k] at hc
      clear hsc hrd hRS hlen
      by_cases e : k = q
      · as_aux_lemma =>
          subst e
          rw [HYES.out] at hc
          have HC := Lib.hid hc
          clear hc HYES
          generalize nthS C k = s at *
          go_wp2_with fail
          refine HC.out.mono ?_
          rintro e w2 ⟨rfl, rfl⟩
          go_wp2_with fail
          go_ret
          exact ⟨rfl, HB1.out⟩
      · as_aux_lemma =>
          rw [HNO.out k (by omega)] at hc
          have HC := Lib.hid hc
          have hkq : k + 1 ≤ q := by omega
          clear hc e
          generalize nthS C k = s at *
          go_wp2_with fail
          refine HC.out.mono ?_
          rintro e w2 ⟨rfl, rfl⟩
          go_wp2_with fail
          go_roundw
          case rel => exact ⟨k + 1, hkq, by go_num⟩
          case measure => simp [intOf]; omega
end Go.Proofs.YtkcpfpofimkkiaaGreatDoor
