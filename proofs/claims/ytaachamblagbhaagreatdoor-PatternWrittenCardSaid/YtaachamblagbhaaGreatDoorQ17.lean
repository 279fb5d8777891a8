/- The document's point: a code point of a pattern's text. · The document's times: how often a pattern stands. · slices.SortFunc laid at this program: written by the kit's laying tool (lay-plain) for this seat, names turned. -/
import Derived.Test.YtaachamblagbhaaGreatDoorQ16
import Derived.Deep.Cut
import Derived.Shelf.SlSortCmp.WholeK
import Derived.Shelf.SlSortCmp.Whole1
import Derived.Shelf.SlGeneric
import Derived.Ground.SlsfProg
import Derived.Test.YtaachamblagbhaaGreatDoorProg
namespace Go.Proofs.YtaachamblagbhaaGreatDoor
open Go.RowKit BigFrame
set_option linter.unusedVariables false
set_option linter.unusedSimpArgs false
set_option maxRecDepth 100000

def okC (c : Int) : Prop := c = 92 ∨ (48 ≤ c ∧ c ≤ 57) ∨ (65 ≤ c ∧ c ≤ 90) ∨ (97 ≤ c ∧ c ≤ 122)
/-- Signs of which none begins a point. -/
structure Bars (s : ByteArray) : Prop where
  len : s.size ≤ 100
  no : ∀ c, okC c → ∀ k, k < s.size → byt s k ≠ c
theorem byt_in {l : List UInt8} {k : Nat} (hk : k < (ByteArray.mk l.toArray).size) : ∃ x ∈ l, byt ⟨l.toArray⟩ k = (x.toNat : Int) := by
  have h2 : k < l.length := by simpa [ByteArray.size] using hk
  refine ⟨l[k], List.getElem_mem h2, ?_⟩
  unfold byt
  rw [dif_pos hk]
  have : (ByteArray.mk l.toArray)[k] = l[k] := by
    show (l.toArray)[k] = l[k]
    simp
  rw [this]
theorem bars_of {l : List UInt8} (h : l.length ≤ 100) (hl : ∀ x ∈ l, ¬ okC (x.toNat : Int)) : Bars ⟨l.toArray⟩ :=
  ⟨by simpa [ByteArray.size] using h, fun c hc k hk e => by
    obtain ⟨x, hx, e2⟩ := byt_in hk
    exact hl x hx (by rw [← e2, e]; exact hc)⟩
theorem bars_outside : Bars { data := #[124, 38, 42, 43, 63, 123, 125, 126, 40, 41, 91, 93, 46] } := by
  refine bars_of (l := [124, 38, 42, 43, 63, 123, 125, 126, 40, 41, 91, 93, 46]) (by decide) ?_
  unfold okC
  decide
theorem bars_inside : Bars { data := #[91, 93, 45, 94] } := by
  refine bars_of (l := [91, 93, 45, 94]) (by decide) ?_
  unfold okC
  decide
theorem esc_no (k : Nat) (hk : k < (ByteArray.mk #[124, 38, 42, 43, 63, 123, 125, 126, 40, 41, 91, 93, 46, 92, 45, 94, 34, 39, 32]).size) : byt (ByteArray.mk #[124, 38, 42, 43, 63, 123, 125, 126, 40, 41, 91, 93, 46, 92, 45, 94, 34, 39, 32]) k ≠ 117 := by
  obtain ⟨x, hx, e⟩ := byt_in (l := [124, 38, 42, 43, 63, 123, 125, 126, 40, 41, 91, 93, 46, 92, 45, 94, 34, 39, 32]) hk
  have key : ∀ x ∈ ([124, 38, 42, 43, 63, 123, 125, 126, 40, 41, 91, 93, 46, 92, 45, 94, 34, 39, 32] : List UInt8), x.toNat ≠ 117 := by decide
  have := key x hx
  intro e2
  have e3 : byt ⟨#[124, 38, 42, 43, 63, 123, 125, 126, 40, 41, 91, 93, 46, 92, 45, 94, 34, 39, 32]⟩ k = (x.toNat : Int) := e
  omega

set_option maxHeartbeats 4000000 in
theorem rpoint_any (rb i o : Nat) (s bad : ByteArray) (a : Int) (t : List UInt8) (w : World) (h : RS w rb s i o (ptx a ++ t)) (h0 : 0 ≤ a) (h1 : a ≤ MP) (hb : Bars bad) :
    Calls Tryz.prog 100 #[rdp rb, .string bad] w fun e w' => e = .returned (.int .i64 a) ∧ RS w' rb s (i + (ptx a).length) o t ∧ Kp (· = rb) w w' := by
  unfold MP at h1
  by_cases hal : (48 ≤ a ∧ a ≤ 57) ∨ (65 ≤ a ∧ a ≤ 90) ∨ (97 ≤ a ∧ a ≤ 122)
  · as_aux_lemma =>
      have hp : ptx a = [a.toNat.toUInt8] := if_pos hal
      rw [hp] at h ⊢
      obtain ⟨c, hc⟩ : ∃ c, c = a.toNat.toUInt8 := ⟨_, rfl⟩
      have hca : (c.toNat : Int) = a := by
        have : ∀ n : Nat, n < 123 → n.toUInt8.toNat = n := by decide
        rw [hc, this _ (by omega)]; omega
      rw [← hc] at h ⊢
      have HN := Lib.hid (now_any rb i o s (c :: t) w h)
      have hh : hdI (c :: t) = a := hca
      rw [hh] at HN
      have HW : Hid (∀ W, Calls Tryz.prog 107 #[.string bad, .int .i64 a] W fun e w' => e = .returned (.bool false) ∧ w' = W) := Lib.hid (fun W => within_no bad a W hb.len (hb.no a (.inr hal)))
      have e1 : decide (a < 0) = false := decide_eq_false (by omega)
      have e2 : (a != 92) = true := by rw [bne_iff_ne]; omega
      have H := Lib.hid h
      clear h hp hc hca hh hb
      go_enter Tryz.func100, Tryz.ntmps100
      go_wp2_with fail
      refine HN.out.mono ?_
      clear HN
      rintro e w1 ⟨rfl, hb1⟩
      have hr1 := H.out.below hb1
      have z1 := hr1.b.cell (i := 1) rfl
      have HS := Lib.hid (skip_any rb i o s c t w1 hr1)
      have HK1 := Lib.hid (Kp.of (S := (· = rb)) hb1)
      clear hr1 hb1
      go_wp2_with fail
      refine (HW.out w1).mono ?_
      rintro e w1' ⟨rfl, rfl⟩
      go_wp2_with fail
      refine HS.out.mono ?_
      rintro e w2 ⟨rfl, hr2, hk2⟩
      have HF := Lib.hid (show RS w2 rb s (i + [c].length) o t ∧ Kp (· = rb) w w2 from ⟨hr2, HK1.out.trans hk2⟩)
      clear hr2 hk2
      go_wp2_with fail
      go_ret
      exact ⟨rfl, HF.out.1, HF.out.2⟩
  · as_aux_lemma =>
      have hp : ptx a = [92, 117, 123] ++ hexD a.toNat ++ [125] := if_neg hal
      obtain ⟨u, rfl⟩ : ∃ u : Nat, a = (u : Int) := ⟨a.toNat, by omega⟩
      rw [Int.toNat_natCast] at hp
      rw [hp] at h ⊢
      have hlist : [92, 117, 123] ++ hexD u ++ [125] ++ t = 92 :: 117 :: 123 :: (hexD u ++ 125 :: t) := by simp
      rw [hlist] at h
      have hlen : i + ([92, 117, 123] ++ hexD u ++ [125]).length = i + 1 + 1 + 1 + (hexD u).length + 1 := by simp; omega
      rw [hlen]
      have HN := Lib.hid (now_any rb i o s _ w h)
      have hh : hdI (92 :: 117 :: 123 :: (hexD u ++ 125 :: t)) = 92 := rfl
      rw [hh] at HN
      have HW : Hid (∀ W, Calls Tryz.prog 107 #[.string bad, .int .i64 92] W fun e w' => e = .returned (.bool false) ∧ w' = W) := Lib.hid (fun W => within_no bad 92 W hb.len (hb.no 92 (.inl rfl)))
      have HE : Hid (∀ W, Calls Tryz.prog 107 #[.string { data := #[124, 38, 42, 43, 63, 123, 125, 126, 40, 41, 91, 93, 46, 92, 45, 94, 34, 39, 32] }, .int .i64 117] W fun e w' => e = .returned (.bool false) ∧ w' = W) :=
        Lib.hid (fun W => within_no _ 117 W (by decide) esc_no)
      have H := Lib.hid h
      have hu : u ≤ 1114111 := by omega
      have HU := Lib.hid hu
      clear h hp hlist hlen hh hb hu
      go_enter Tryz.func100, Tryz.ntmps100
      go_wp2_with fail
      refine HN.out.mono ?_
      clear HN
      rintro e w1 ⟨rfl, hb1⟩
      have hr1 := H.out.below hb1
      have z1 := hr1.b.cell (i := 1) rfl
      have HS := Lib.hid (skip_any rb i o s 92 _ w1 hr1)
      have HK1 := Lib.hid (Kp.of (S := (· = rb)) hb1)
      clear hr1 hb1
      go_wp2_with fail
      refine (HW.out w1).mono ?_
      rintro e w1' ⟨rfl, rfl⟩
      go_wp2_with fail
      refine HS.out.mono ?_
      rintro e w2 ⟨rfl, hr2, hk2⟩
      have HN := Lib.hid (now_any rb (i + 1) o s _ w2 hr2)
      have hh : hdI (117 :: 123 :: (hexD u ++ 125 :: t)) = 117 := rfl
      rw [hh] at HN
      have HR2 := Lib.hid hr2
      have HK2 := Lib.hid (HK1.out.trans hk2)
      clear hr2 hk2 hh z1
      go_wp2_with fail
      refine HN.out.mono ?_
      clear HN
      rintro e w3 ⟨rfl, hb3⟩
      have hr3 := HR2.out.below hb3
      have z3 := hr3.b.cell (i := 3) rfl
      have HS := Lib.hid (skip_any rb (i + 1) o s 117 _ w3 hr3)
      have HK3 := Lib.hid (HK2.out.trans (Kp.of hb3))
      clear hr3 hb3
      go_wp2_with fail
      refine (HE.out w3).mono ?_
      rintro e w3' ⟨rfl, rfl⟩
      go_wp2_with fail
      refine HS.out.mono ?_
      rintro e w4 ⟨rfl, hr4, hk4⟩
      have HD := Lib.hid (digits_any rb (i + 1 + 1) o u s t (i : Int) w4 hr4 HU.out)
      have HK4 := Lib.hid (HK3.out.trans hk4)
      clear hr4 hk4
      go_wp2_with fail
      refine HD.out.mono ?_
      rintro e w5 ⟨rfl, hr5, hk5⟩
      have HF := Lib.hid (And.intro hr5 (HK4.out.trans hk5))
      clear hr5 hk5
      go_wp2_with fail
      go_ret
      exact ⟨rfl, HF.out.1, HF.out.2⟩
end Go.Proofs.YtaachamblagbhaaGreatDoor
namespace Go.Proofs.YtaachamblagbhaaGreatDoor
open Go.RowKit BigFrame
set_option linter.unusedVariables false
set_option linter.unusedSimpArgs false
set_option maxRecDepth 100000

/-- The block of a pattern repeated. -/
abbrev RpB (w : World) (qb : Nat) (mn mx : Int) (v : Value) : Prop := Blk w qb 41 [.int .i64 6, .slice none 0 0, .int .i64 mn, .int .i64 mx, v]
theorem RS.far {w : World} {rb i o : Nat} {s : ByteArray} {t : List UInt8} (h : RS w rb s i o t) {p : Addr} (hp : rb ≠ p.block) (u : Value) : RS (w.setCell p u) rb s i o t := ⟨h.asc, h.len, h.b.far hp u, h.at_, h.le⟩
theorem RS.kp {S : Nat → Prop} {w w' : World} {rb i o : Nat} {s : ByteArray} {t : List UInt8} (h : RS w rb s i o t) (hk : Kp S w w') (hs : ¬ S rb) : RS w' rb s i o t := ⟨h.asc, h.len, (hk.block rb h.lt hs).trans h.b, h.at_, h.le⟩
theorem Blk.kp {S : Nat → Prop} {w w' : World} {g : Nat} {e : TypeId} {vs : List Value} (h : Blk w g e vs) (hk : Kp S w w') (hs : ¬ S g) : Blk w' g e vs := (hk.block g h.lt hs).trans h
theorem digit_not {n : Int} {t : List UInt8} (h0 : 0 ≤ n) (h1 : n ≤ 50) : 48 ≤ hdI (Lib.itoa n ++ t) ∧ hdI (Lib.itoa n ++ t) ≤ 57 := by
  obtain ⟨l, hl, _, hd, _, hs⟩ := small_digits h0 h1
  rw [hl]
  cases l with
  | nil => simp at hs
  | cons a r =>
    have := hd 0 a rfl
    simp only [List.cons_append, hdI]
    omega
/-- What stands behind the opening brace. -/
def cntx (mn mx : Int) : List UInt8 := if mx = -1 then Lib.itoa mn ++ [44, 125] else if mn = mx then Lib.itoa mn ++ [125] else Lib.itoa mn ++ [44] ++ Lib.itoa mx ++ [125]

set_option maxHeartbeats 4000000 in
theorem times_any' (rb qb i o : Nat) (s : ByteArray) (mn mx : Int) (v : Value) (t : List UInt8) (w : World) (h : RS w rb s i o (cntx mn mx ++ t)) (hq : RpB w qb 0 0 v) (hne : rb ≠ qb) (ht : tmsOk 6 mn mx = true) :
    Calls Tryz.prog 88 #[rdp rb, .pointer (some ⟨qb, 0, none⟩)] w fun e w' => e = .returned (.tuple #[]) ∧ RS w' rb s (i + (cntx mn mx).length) o t ∧ RpB w' qb mn mx v ∧ Kp (fun b => b = rb ∨ b = qb) w w' := by
  unfold tmsOk at ht
  rw [if_pos rfl] at ht
  simp only [Bool.and_eq_true, Bool.or_eq_true, decide_eq_true_eq] at ht
  obtain ⟨⟨m0, m1⟩, mm⟩ := ht
  -- what follows the first number
  obtain ⟨c, t1, hc, hc48⟩ : ∃ c t1, cntx mn mx ++ t = Lib.itoa mn ++ (c :: t1) ∧ (c.toNat < 48 ∨ 57 < c.toNat) := by
    unfold cntx
    split
    · exact ⟨44, 125 :: t, by simp, by decide⟩
    · split
      · exact ⟨125, t, by simp, by decide⟩
      · exact ⟨44, Lib.itoa mx ++ 125 :: t, by simp, by decide⟩
  have hr0 := h
  rw [hc] at hr0
  have HC1 := Lib.hid (count_any rb i o s mn c t1 w hr0 m0 m1 hc48)
  have z1 := h.b.cell (i := 1) rfl
  have HQ := Lib.hid hq; have HCE := Lib.hid hc
  have hi60 : i ≤ 65536 := Nat.le_trans h.le h.len
  clear h hr0 hc hq
  go_enter Tryz.func88, Tryz.ntmps88
  go_wp2_with fail
  refine HC1.out.mono ?_
  clear HC1
  rintro e w1 ⟨rfl, hr1, hk1⟩
  have hnr : ¬ qb = rb := fun e => hne e.symm
  have hq1 := HQ.out.kp hk1 hnr
  have q2 := hq1.frozen 2
  have q3 := hq1.cell (i := 2) rfl
  have hq2 : RpB (w1.setCell ⟨qb, 2, none⟩ (.int .i64 mn)) qb mn 0 v := hq1.set_ 2 (.int .i64 mn)
  obtain ⟨w2, hw2⟩ : ∃ w2, w2 = w1.setCell ⟨qb, 2, none⟩ (.int .i64 mn) := ⟨_, rfl⟩
  rw [← hw2] at hq2
  have hk2 : Kp (fun b => b = rb ∨ b = qb) w w2 := by rw [hw2]; exact (hk1.mono fun k _ q => .inl q).set_ (.inr (.inr rfl)) _
  have hr2 : RS w2 rb s (i + (Lib.itoa mn).length) o (c :: t1) := by rw [hw2]; exact hr1.far (p := ⟨qb, 2, none⟩) hne _
  have HQ2 := Lib.hid hq2; have HK2 := Lib.hid hk2; have HR2 := Lib.hid hr2
  clear hr1 hk1 hq1 hq2 hk2 hr2 z1
  go_upto_region 2 with (fail)
  rw [← hw2]
  clear hw2 q2 q3
  have q2 := HQ2.out.cell (i := 2) rfl
  have q3 := HQ2.out.cell (i := 3) rfl
  have f3 := HQ2.out.frozen 3
  have hq3 : RpB (w2.setCell ⟨qb, 3, none⟩ (.int .i64 mn)) qb mn mn v := HQ2.out.set_ 3 (.int .i64 mn)
  obtain ⟨w3, hw3⟩ : ∃ w3, w3 = w2.setCell ⟨qb, 3, none⟩ (.int .i64 mn) := ⟨_, rfl⟩
  rw [← hw3] at hq3
  have hk3 : Kp (fun b => b = rb ∨ b = qb) w w3 := by rw [hw3]; exact HK2.out.set_ (.inr (.inr rfl)) _
  have hr3 : RS w3 rb s (i + (Lib.itoa mn).length) o (c :: t1) := by rw [hw3]; exact HR2.out.far (p := ⟨qb, 3, none⟩) hne _
  have HQ3 := Lib.hid hq3; have HK3 := Lib.hid hk3; have HR3 := Lib.hid hr3
  obtain ⟨j, hj⟩ : ∃ j, j = i + (Lib.itoa mn).length := ⟨_, rfl⟩
  rw [← hj] at HR3
  have HJ := Lib.hid hj
  clear hq3 hk3 hr3 HQ2 HK2 HR2 hj
  go_upto_region 3 with (fail)
  rw [← hw3]
  clear hw3 q2 q3 f3
  have kpw : ∀ (a b c : World), Kp (fun b => b = rb ∨ b = qb) a b → Kp (· = rb) b c → Kp (fun b => b = rb ∨ b = qb) a c := fun _ _ _ h k => h.trans (k.mono fun _ _ q => .inl q)
  have KPW := Lib.hid kpw
  clear kpw
  by_cases hx : mx = -1
  · as_aux_lemma =>
      subst hx
      have hce := HCE.out
      unfold cntx at hce
      rw [if_pos rfl] at hce
      have hcc : c = 44 ∧ t1 = 125 :: t := by
        rw [List.append_assoc] at hce
        have := List.append_cancel_left hce
        simp at this
        exact ⟨this.1.symm, this.2.symm⟩
      obtain ⟨rfl, rfl⟩ := hcc
      have HE := Lib.hid (eat_yes rb j o s 44 (125 :: t) 44 w3 HR3.out rfl)
      clear hce HCE
      go_wp2_with fail
      refine HE.out.mono ?_
      clear HE
      rintro e w4 ⟨rfl, hr4, hk4⟩
      have z1 := hr4.b.cell (i := 1) rfl
      have HN := Lib.hid (now_any rb (j + 1) o s (125 :: t) w4 hr4)
      have HQ4 := Lib.hid (HQ3.out.kp hk4 hnr)
      have HK4 := Lib.hid (KPW.out _ _ _ HK3.out hk4)
      have HR4 := Lib.hid hr4
      clear hr4 hk4
      go_wp2_with fail
      refine HN.out.mono ?_
      clear HN
      rintro e w5 ⟨rfl, hb5⟩
      have hq5 := HQ4.out.below' hb5
      have f3 := hq5.frozen 3
      have f4 := hq5.cell (i := 3) rfl
      have hq6 : RpB (w5.setCell ⟨qb, 3, none⟩ (.int .i64 (-1))) qb mn (-1) v := hq5.set_ 3 (.int .i64 (-1))
      obtain ⟨w6, hw6⟩ : ∃ w6, w6 = w5.setCell ⟨qb, 3, none⟩ (.int .i64 (-1)) := ⟨_, rfl⟩
      rw [← hw6] at hq6
      have HQ6 := Lib.hid hq6
      have HK6 : Hid (Kp (fun b => b = rb ∨ b = qb) w w6) := Lib.hid (by rw [hw6]; exact (HK4.out.trans (Kp.of hb5)).set_ (.inr (.inr rfl)) _)
      have HR6 : Hid (RS w6 rb s (j + 1) o (125 :: t)) := Lib.hid (by rw [hw6]; exact (HR4.out.below hb5).far (p := ⟨qb, 3, none⟩) hne _)
      have hh : hdI (125 :: t) = 125 := rfl
      rw [hh]
      clear hq5 hq6 hb5 hh
      go_upto_region 10 with (fail)
      rw [← hw6]
      clear hw6 f3 f4
      have q2 := HQ6.out.cell (i := 2) rfl
      have q3 := HQ6.out.cell (i := 3) rfl
      go_wp2_with fail
      go_quiet (fail)
      obtain ⟨w7, hw7⟩ : ∃ w7, w7 = w6.drewN nq := ⟨_, rfl⟩
      have hb7 : Below w6.heap.size w6 w7 := by rw [hw7]; exact dn_below _ _
      have HE := Lib.hid (need_yes rb (j + 1) o s 125 t 125 w7 (HR6.out.below hb7) rfl)
      have HQ7 := Lib.hid (HQ6.out.below' hb7)
      have HK7 := Lib.hid (HK6.out.trans (Kp.of hb7))
      rw [← hw7]
      clear hw7 hb7
      go_wp2_with fail
      refine HE.out.mono ?_
      rintro e w8 ⟨rfl, hr8, hk8⟩
      have HF := Lib.hid (show RS w8 rb s (i + (cntx mn (-1)).length) o t ∧ RpB w8 qb mn (-1) v ∧ Kp (fun b => b = rb ∨ b = qb) w w8 from ⟨by
        unfold cntx; rw [if_pos rfl, List.length_append, ← Nat.add_assoc, ← HJ.out]; exact hr8, HQ7.out.kp hk8 hnr, KPW.out _ _ _ HK7.out hk8⟩)
      clear hr8 hk8
      go_wp2_with fail
      go_end0
      exact ⟨rfl, HF.out.1, HF.out.2.1, HF.out.2.2⟩
  · have hmx : 1 ≤ mx ∧ mn ≤ mx ∧ mx ≤ 50 := by omega
    obtain ⟨x1, x2, x3⟩ := hmx
    have e1 : decide (0 ≤ mx) = true := decide_eq_true (by omega)
    have e2 : decide (mx < mn) = false := decide_eq_false (by omega)
    have e3 : (mx == 0) = false := by rw [beq_eq_false_iff_ne]; omega
    by_cases hmm : mn = mx
    · as_aux_lemma =>
        subst hmm
        have hce := HCE.out
        unfold cntx at hce
        rw [if_neg hx, if_pos rfl] at hce
        have hcc : c = 125 ∧ t1 = t := by
          rw [List.append_assoc] at hce
          have := List.append_cancel_left hce
          simp at this
          exact ⟨this.1.symm, this.2.symm⟩
        obtain ⟨rfl, rfl⟩ := hcc
        have HE := Lib.hid (eat_no rb j o s (125 :: t1) 44 w3 HR3.out (by show (125 : Int) ≠ 44; decide))
        clear hce HCE
        go_wp2_with fail
        refine HE.out.mono ?_
        clear HE
        rintro e w6 ⟨rfl, hb6⟩
        have HQ6 := Lib.hid (HQ3.out.below' hb6)
        have HK6 := Lib.hid (HK3.out.trans (Kp.of hb6))
        have HR6 := Lib.hid (HR3.out.below hb6)
        have q2 := HQ6.out.cell (i := 2) rfl
        have q3 := HQ6.out.cell (i := 3) rfl
        clear hb6
        go_wp2_with fail
        go_quiet (fail)
        obtain ⟨w7, hw7⟩ : ∃ w7, w7 = w6.drewN nq := ⟨_, rfl⟩
        have hb7 : Below w6.heap.size w6 w7 := by rw [hw7]; exact dn_below _ _
        have HE := Lib.hid (need_yes rb j o s 125 t1 125 w7 (HR6.out.below hb7) rfl)
        have HQ7 := Lib.hid (HQ6.out.below' hb7)
        have HK7 := Lib.hid (HK6.out.trans (Kp.of hb7))
        rw [← hw7]
        clear hw7 hb7
        go_wp2_with fail
        refine HE.out.mono ?_
        rintro e w8 ⟨rfl, hr8, hk8⟩
        have HF := Lib.hid (show RS w8 rb s (i + (cntx mn mn).length) o t1 ∧ RpB w8 qb mn mn v ∧ Kp (fun b => b = rb ∨ b = qb) w w8 from ⟨by
          unfold cntx; rw [if_neg hx, if_pos rfl, List.length_append, ← Nat.add_assoc, ← HJ.out]; exact hr8, HQ7.out.kp hk8 hnr, KPW.out _ _ _ HK7.out hk8⟩)
        clear hr8 hk8
        go_wp2_with fail
        go_end0
        exact ⟨rfl, HF.out.1, HF.out.2.1, HF.out.2.2⟩
    · as_aux_lemma =>
        have hce := HCE.out
        unfold cntx at hce
        rw [if_neg hx, if_neg hmm] at hce
        have hcc : c = 44 ∧ t1 = Lib.itoa mx ++ 125 :: t := by
          rw [List.append_assoc, List.append_assoc, List.append_assoc] at hce
          have := List.append_cancel_left hce
          simp at this
          exact ⟨this.1.symm, this.2.symm⟩
        obtain ⟨rfl, rfl⟩ := hcc
        have HE := Lib.hid (eat_yes rb j o s 44 (Lib.itoa mx ++ 125 :: t) 44 w3 HR3.out rfl)
        obtain ⟨dn0, dn1⟩ := digit_not (n := mx) (t := 125 :: t) (by omega) x3
        clear hce HCE
        go_wp2_with fail
        refine HE.out.mono ?_
        clear HE
        rintro e w4 ⟨rfl, hr4, hk4⟩
        have z1 := hr4.b.cell (i := 1) rfl
        have HN := Lib.hid (now_any rb (j + 1) o s (Lib.itoa mx ++ 125 :: t) w4 hr4)
        have HQ4 := Lib.hid (HQ3.out.kp hk4 hnr)
        have HK4 := Lib.hid (KPW.out _ _ _ HK3.out hk4)
        have HR4 := Lib.hid hr4
        generalize hdI (Lib.itoa mx ++ 125 :: t) = y at *
        clear hr4 hk4
        go_wp2_with fail
        refine HN.out.mono ?_
        clear HN
        rintro e w5 ⟨rfl, hb5⟩
        have hq5 := HQ4.out.below' hb5
        have HC5 := Lib.hid (count_any rb (j + 1) o s mx 125 t w5 (HR4.out.below hb5) (by omega) x3 (by decide))
        have HQ5 := Lib.hid hq5
        have HK5 := Lib.hid (HK4.out.trans (Kp.of hb5))
        have e4 : (y == 125) = false := by rw [beq_eq_false_iff_ne]; omega
        clear hq5 hb5
        go_wp2_with fail
        refine HC5.out.mono ?_
        clear HC5
        rintro e w5b ⟨rfl, hr5, hk5⟩
        have hq5 := HQ5.out.kp hk5 hnr
        have f3 := hq5.frozen 3
        have f4 := hq5.cell (i := 3) rfl
        have hq6 : RpB (w5b.setCell ⟨qb, 3, none⟩ (.int .i64 mx)) qb mn mx v := hq5.set_ 3 (.int .i64 mx)
        obtain ⟨w6, hw6⟩ : ∃ w6, w6 = w5b.setCell ⟨qb, 3, none⟩ (.int .i64 mx) := ⟨_, rfl⟩
        rw [← hw6] at hq6
        have HQ6 := Lib.hid hq6
        have HK6 : Hid (Kp (fun b => b = rb ∨ b = qb) w w6) := Lib.hid (by rw [hw6]; exact (KPW.out _ _ _ HK5.out hk5).set_ (.inr (.inr rfl)) _)
        obtain ⟨j2, hj2⟩ : ∃ j2, j2 = j + 1 + (Lib.itoa mx).length := ⟨_, rfl⟩
        have HR6 : Hid (RS w6 rb s j2 o (125 :: t)) := Lib.hid (by rw [hw6, hj2]; exact hr5.far (p := ⟨qb, 3, none⟩) hne _)
        have HJ2 := Lib.hid hj2
        clear hq5 hq6 hr5 hk5 hj2
        go_upto_region 10 with (fail)
        rw [← hw6]
        clear hw6 f3 f4
        have q2 := HQ6.out.cell (i := 2) rfl
        have q3 := HQ6.out.cell (i := 3) rfl
        go_wp2_with fail
        go_quiet (fail)
        obtain ⟨w7, hw7⟩ : ∃ w7, w7 = w6.drewN nq := ⟨_, rfl⟩
        have hb7 : Below w6.heap.size w6 w7 := by rw [hw7]; exact dn_below _ _
        have HE := Lib.hid (need_yes rb j2 o s 125 t 125 w7 (HR6.out.below hb7) rfl)
        have HQ7 := Lib.hid (HQ6.out.below' hb7)
        have HK7 := Lib.hid (HK6.out.trans (Kp.of hb7))
        rw [← hw7]
        clear hw7 hb7
        go_wp2_with fail
        refine HE.out.mono ?_
        rintro e w8 ⟨rfl, hr8, hk8⟩
        have HF := Lib.hid (show RS w8 rb s (i + (cntx mn mx).length) o t ∧ RpB w8 qb mn mx v ∧ Kp (fun b => b = rb ∨ b = qb) w w8 from ⟨by
          have e : i + (cntx mn mx).length = j2 + 1 := by
            unfold cntx
            rw [if_neg hx, if_neg hmm]
            have := HJ.out; have := HJ2.out
            simp only [List.length_append, List.length_cons, List.length_nil]; omega
          rw [e]; exact hr8, HQ7.out.kp hk8 hnr, KPW.out _ _ _ HK7.out hk8⟩)
        clear hr8 hk8
        go_wp2_with fail
        go_end0
        exact ⟨rfl, HF.out.1, HF.out.2.1, HF.out.2.2⟩
end Go.Proofs.YtaachamblagbhaaGreatDoor
namespace Go.Proofs.YtaachamblagbhaaGreatDoor
open Go.Shelf Go.RowKit
def sortRg_ren : Go.Shelf.Ren := ⟨fun | 6 => 38 | 15 => 60 | 14 => 59 | 28 => 79 | 29 => 80 | 20 => 71 | 21 => 72 | 22 => 73 | 23 => 74 | 24 => 75 | 25 => 76 | 26 => 77 | 27 => 78 | 46 => 90 | 47 => 91 | 48 => 92 | 49 => 93 | 50 => 94 | 57 => 103 | n => n, fun | 22 => 23 | 24 => 57 | 25 => 74 | 3 => 3 | 39 => 105 | 0 => 0 | 53 => 136 | 55 => 138 | 4 => 4 | 46 => 129 | 45 => 128 | 50 => 133 | 5 => 5 | 9 => 9 | 66 => 147 | 70 => 151 | 76 => 159 | 77 => 45 | n => n, fun | n => n⟩
theorem sortRg : Go.Proofs.SlLaysF0.n6 Tryz.prog sortRg_ren := {
  mixed := by kernel_rfl
  f6 := ⟨Tryz.f38.name, by decide, Tryz.func38.trans (congrArg some (by kernel_rfl))⟩
  f14 := ⟨Tryz.f59.name, by decide, Tryz.func59.trans (congrArg some (by kernel_rfl))⟩
  f15 := Tryz.func60.trans (congrArg some (by kernel_rfl))
  f20 := ⟨Tryz.f71.name, by decide, Tryz.func71.trans (congrArg some (by kernel_rfl))⟩
  f21 := ⟨Tryz.f72.name, by decide, Tryz.func72.trans (congrArg some (by kernel_rfl))⟩
  f22 := ⟨Tryz.f73.name, by decide, Tryz.func73.trans (congrArg some (by kernel_rfl))⟩
  f23 := ⟨Tryz.f74.name, by decide, Tryz.func74.trans (congrArg some (by kernel_rfl))⟩
  f24 := ⟨Tryz.f75.name, by decide, Tryz.func75.trans (congrArg some (by kernel_rfl))⟩
  f25 := ⟨Tryz.f76.name, by decide, Tryz.func76.trans (congrArg some (by kernel_rfl))⟩
  f26 := ⟨Tryz.f77.name, by decide, Tryz.func77.trans (congrArg some (by kernel_rfl))⟩
  f27 := ⟨Tryz.f78.name, by decide, Tryz.func78.trans (congrArg some (by kernel_rfl))⟩
  f28 := Tryz.func79.trans (congrArg some (by kernel_rfl))
  f29 := Tryz.func80.trans (congrArg some (by kernel_rfl))
  f46 := ⟨Tryz.f90.name, by decide, Tryz.func90.trans (congrArg some (by kernel_rfl))⟩
  f47 := Tryz.func91.trans (congrArg some (by kernel_rfl))
  f48 := Tryz.func92.trans (congrArg some (by kernel_rfl))
  f49 := ⟨Tryz.f93.name, by decide, Tryz.func93.trans (congrArg some (by kernel_rfl))⟩
  f50 := ⟨Tryz.f94.name, by decide, Tryz.func94.trans (congrArg some (by kernel_rfl))⟩
  f57 := ⟨Tryz.f103.name, by decide, Tryz.func103.trans (congrArg some (by kernel_rfl))⟩
  t0 := Tryz.underlying0
  a0 := Tryz.isAgg0
  z0 := Tryz.sizeOf0
  v0 := Tryz.zeroValue0
  t3 := Tryz.underlying3
  a3 := Tryz.isAgg3
  z3 := Tryz.sizeOf3
  v3 := Tryz.zeroValue3
  t4 := Tryz.underlying4
  a4 := Tryz.isAgg4
  z4 := Tryz.sizeOf4
  v4 := Tryz.zeroValue4
  t5 := Tryz.underlying5
  a5 := Tryz.isAgg5
  z5 := Tryz.sizeOf5
  v5 := Tryz.zeroValue5
  t9 := Tryz.underlying9
  a9 := Tryz.isAgg9
  z9 := Tryz.sizeOf9
  v9 := Tryz.zeroValue9
  t22 := Tryz.underlying23
  a22 := Tryz.isAgg23
  z22 := Tryz.sizeOf23
  v22 := Tryz.zeroValue23
  t25 := Tryz.underlying74
  a25 := Tryz.isAgg74
  z25 := Tryz.sizeOf74
  v25 := Tryz.zeroValue74
  t39 := Tryz.underlying105
  a39 := Tryz.isAgg105
  z39 := Tryz.sizeOf105
  v39 := Tryz.zeroValue105
  t45 := Tryz.underlying128
  a45 := Tryz.isAgg128
  z45 := Tryz.sizeOf128
  v45 := Tryz.zeroValue128
  t46 := Tryz.underlying129
  a46 := Tryz.isAgg129
  z46 := Tryz.sizeOf129
  v46 := Tryz.zeroValue129
  t50 := Tryz.underlying133
  a50 := Tryz.isAgg133
  z50 := Tryz.sizeOf133
  v50 := Tryz.zeroValue133
  t53 := Tryz.underlying136
  a53 := Tryz.isAgg136
  z53 := Tryz.sizeOf136
  v53 := Tryz.zeroValue136
  t55 := Tryz.underlying138
  a55 := Tryz.isAgg138
  z55 := Tryz.sizeOf138
  v55 := Tryz.zeroValue138
  t66 := Tryz.underlying147
  a66 := Tryz.isAgg147
  z66 := Tryz.sizeOf147
  v66 := Tryz.zeroValue147
  t70 := Tryz.underlying151
  a70 := Tryz.isAgg151
  z70 := Tryz.sizeOf151
  v70 := Tryz.zeroValue151
  t76 := Tryz.underlying159
  a76 := Tryz.isAgg159
  z76 := Tryz.sizeOf159
  v76 := Tryz.zeroValue159
  t77 := Tryz.underlying45
  a77 := Tryz.isAgg45
  z77 := Tryz.sizeOf45
  v77 := Tryz.zeroValue45 }
end Go.Proofs.YtaachamblagbhaaGreatDoor
