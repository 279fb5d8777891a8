/- The document's inner and unit; all its reading functions read the text of each valid pattern. · The document's Read of a valid pattern's text. · The law PatternWritten walked: it returns true. -/
import Derived.Test.YtaachamblagbhaaGreatDoorQ18
import Derived.Test.YtaachamblagbhaaGreatDoorQ25
import Derived.Test.YtaachamblagbhaaGreatDoorQ7
import Derived.Test.YtaachamblagbhaaGreatDoorQ5
import Derived.Test.YtaachamblagbhaaGreatDoorQ12
import Derived.Test.YtaachamblagbhaaGreatDoorQ15
import Derived.Test.YtaachamblagbhaaGreatDoorQ24
namespace Go.Proofs.YtaachamblagbhaaGreatDoor
open Go.RowKit BigFrame
set_option linter.unusedVariables false
set_option linter.unusedSimpArgs false
set_option maxRecDepth 100000

/-- What inner does behind an opening sign. -/
def Inn (c : Int) (t : List UInt8) (p : Rx) (d : Nat) : Prop := ∀ (rb i o : Nat) (s : ByteArray) (rest : List UInt8) (w : World), RS w rb s i o (t ++ rest) → o + d ≤ 100 →
  Calls Tryz.prog 99 #[rdp rb, .int .i64 c] w fun e w' => ∃ v, e = .returned v ∧ RS w' rb s (i + t.length) o rest ∧ Kp (· = rb) w w' ∧ RxIn w' (Frm w.heap.size w') v p

theorem inn_set (S : List Rg) (hc : Can S) (h12 : S.length ≤ 12) : Inn 91 (rgsx S ++ [93]) (.node 1 S 0 0 []) 0 := by
  intro rb i o s rest w h _
  rw [List.append_assoc] at h
  refine (inner_set rb i o s S rest w h hc h12).mono fun e w' ⟨v, e1, h1, h2, h3⟩ => ⟨v, e1, ?_, h2, h3⟩
  rw [List.length_append, ← Nat.add_assoc]; exact h1
set_option maxHeartbeats 4000000 in
theorem inn_not (t : List UInt8) (p : Rx) (d : Nat) (hu : Rdz 4 t p d) : Inn 126 t (.node 5 [] 0 0 [p]) d := by
  intro rb i o s rest w h ho
  have H0 := Lib.hid (hu rb i o s rest w h trivial ho)
  clear h hu
  obtain ⟨g, hg⟩ : ∃ g, w.heap.size = g := ⟨_, rfl⟩
  rw [hg]
  have HG := Lib.hid hg
  clear hg
  go_enter Tryz.func99, Tryz.ntmps99
  go_wp2_with fail
  refine H0.out.mono ?_
  clear H0
  rintro e w1 ⟨v1, rfl, hr1, hk1, hx1⟩
  rw [HG.out] at hx1
  have hgz : g ≤ w1.heap.size := by rw [← HG.out]; exact hk1.size
  obtain ⟨vp, rfl⟩ := hx1.ptr
  obtain ⟨kb, hkb⟩ : ∃ kb, kb = w1.heap.size := ⟨_, rfl⟩
  obtain ⟨w3, hw3⟩ : ∃ w3, w3 = (w1.alloc (.cells #[.pointer vp] 27)).alloc (.cells #[.int .i64 5, .slice none 0 0, .int .i64 0, .int .i64 0, .slice (some ⟨kb, 0, none⟩) 1 1] 41) := ⟨_, rfl⟩
  have hb3 : Below w1.heap.size w1 w3 := by rw [hw3]; exact ((Below.refl _ _).alloc (Nat.le_refl _) _).alloc (by simp) _
  have hk3 : Blk w3 kb 27 [.pointer vp] := by rw [hw3, hkb]; exact (Blk.new w1 _ _).alloc _
  have hq3 : RxK w3 (kb + 1) 5 (.slice none 0 0) (.slice (some ⟨kb, 0, none⟩) 1 1) := by
    have := Blk.new (w1.alloc (.cells #[.pointer vp] 27)) 41 [.int .i64 5, .slice none 0 0, .int .i64 0, .int .i64 0, .slice (some ⟨kb, 0, none⟩) 1 1]
    rw [show (w1.alloc (.cells #[.pointer vp] 27)).heap.size = kb + 1 by rw [hkb]; simp] at this
    rw [hw3]; exact this
  have HX := Lib.hid (rx_kid (g := g) (S := Frm g w1) (RxIn.keep (fun b hb => hb3.block b hb.2) (fun _ q => q) hx1) (fun b hb => ⟨hb.1, by have := hb3.size; have := hb.2; omega⟩) hk3 hq3 (by omega) (by omega))
  have HR := Lib.hid (hr1.below hb3)
  have HK := Lib.hid (hk1.trans (Kp.of hb3))
  clear hr1 hk1 hx1 hb3 hk3 hq3
  go_wp2_with fail
  rw [← hkb, ← hw3]
  clear hw3 hkb
  go_ret
  exact ⟨_, rfl, HR.out, HK.out, HX.out⟩
set_option maxHeartbeats 4000000 in
theorem inn_brk (t : List UInt8) (p : Rx) (d : Nat) (hu : Rdz 0 t p d) : Inn 40 (t ++ [41]) p d := by
  intro rb i o s rest w h ho
  rw [List.append_assoc] at h
  have H0 := Lib.hid (hu rb i o s ([41] ++ rest) w h (.inr rfl) ho)
  have hrb := h.lt
  have hl : i + (t ++ [41]).length = i + t.length + 1 := by rw [List.length_append, ← Nat.add_assoc]; rfl
  rw [hl]
  clear h hu hl
  go_enter Tryz.func99, Tryz.ntmps99
  go_wp2_with fail
  refine H0.out.mono ?_
  clear H0
  rintro e w1 ⟨v1, rfl, hr1, hk1, hx1⟩
  obtain ⟨vp, rfl⟩ := hx1.ptr
  have HN := Lib.hid (need_yes rb (i + t.length) o s 41 rest 41 w1 hr1 rfl)
  have HX1 := Lib.hid hx1; have HK1 := Lib.hid hk1; have HR1 := Lib.hid hr1
  clear hr1 hk1 hx1
  go_wp2_with fail
  refine HN.out.mono ?_
  clear HN
  rintro e w2 ⟨rfl, hr2, hk2⟩
  have HR2 := Lib.hid hr2
  have HK2 := Lib.hid (HK1.out.trans hk2)
  have HKK := Lib.hid hk2
  clear hr2 hk2
  go_wp2_with fail
  go_ret
  exact ⟨_, rfl, HR2.out, HK2.out, RxIn.keep (fun b hb => HKK.out.block b hb.2 (fun e => by have := hb.1; omega)) (fun b hb => ⟨hb.1, Nat.lt_of_lt_of_le hb.2 HKK.out.size⟩) HX1.out⟩

set_option maxHeartbeats 4000000 in
theorem unit_open (c : UInt8) (x : Int) (t : List UInt8) (p : Rx) (d : Nat) (hx : (c.toNat : Int) = x) (h3 : x = 40 ∨ x = 91 ∨ x = 126) (hi : Inn x t p d) : Rdz 4 ([c] ++ t) p (d + 1) := by
  intro rb i o s rest w h _ ho
  rw [List.append_assoc] at h
  have hl : i + ([c] ++ t).length = i + 1 + t.length := by rw [List.length_append]; simp; omega
  rw [hl]
  have HN := Lib.hid (now_any rb i o s _ w h)
  have hh : hdI ([c] ++ (t ++ rest)) = x := hx
  rw [hh] at HN
  have HR := Lib.hid h; have HINN := Lib.hid hi
  have ho100 : o + 1 ≤ 100 := by omega
  have HO : Hid (o + 1 + d ≤ 100) := Lib.hid (by omega)
  clear h hi hl hh hx ho
  go_enter Tryz.func87, Tryz.ntmps87
  go_wp2_with fail
  refine HN.out.mono ?_
  clear HN
  rintro e w1 ⟨rfl, hb1⟩
  have hr1 := HR.out.below hb1
  have z2 := hr1.b.cell (i := 2) rfl
  have f2 := hr1.b.frozen 2
  obtain ⟨w2, hw2⟩ : ∃ w2, w2 = w1.setCell ⟨rb, 2, none⟩ (.int .i64 ((o : Int) + 1)) := ⟨_, rfl⟩
  have hr2 : RS w2 rb s i (o + 1) ([c] ++ (t ++ rest)) := by
    rw [hw2]
    exact ⟨hr1.asc, hr1.len, hr1.b.set_ 2 (.int .i64 ((o + 1 : Nat) : Int)), hr1.at_, hr1.le⟩
  have hk2 : Kp (· = rb) w w2 := by rw [hw2]; exact (Kp.of (S := (· = rb)) hb1).set_ (p := ⟨rb, 2, none⟩) (.inr rfl) _
  have HS := Lib.hid (skip_any rb i (o + 1) s c (t ++ rest) w2 hr2)
  have HR2 := Lib.hid hr2; have HK2 := Lib.hid hk2
  have hs2 := hk2.size
  clear hr2 hk2 hr1 hb1 HR
  rcases h3 with rfl | rfl | rfl
  · as_aux_lemma =>
      go_upto_region 4 with (fail)
      rw [← hw2]
      clear hw2 z2 f2
      have z2 := HR2.out.b.cell (i := 2) rfl
      have z3 := HR2.out.b.cell (i := 3) rfl
      go_wp2_with fail
      refine HS.out.mono ?_
      clear HS
      rintro e w3 ⟨rfl, hr3, hk3⟩
      have HI := Lib.hid (HINN.out rb (i + 1) (o + 1) s rest w3 hr3 HO.out)
      have HK3 := Lib.hid (HK2.out.trans hk3)
      have hs3 := hk3.size
      clear hr3 hk3 z2 z3
      go_wp2_with fail
      refine HI.out.mono ?_
      clear HI
      rintro e w4 ⟨v, rfl, hr4, hk4, hx4⟩
      obtain ⟨vp, rfl⟩ := hx4.ptr
      have z2 := hr4.b.cell (i := 2) rfl
      have f2 := hr4.b.frozen 2
      obtain ⟨w5, hw5⟩ : ∃ w5, w5 = w4.setCell ⟨rb, 2, none⟩ (.int .i64 (o : Int)) := ⟨_, rfl⟩
      have HR5 : Hid (RS w5 rb s (i + 1 + t.length) o rest) := Lib.hid (by
        rw [hw5]
        exact ⟨hr4.asc, hr4.len, hr4.b.set_ 2 (.int .i64 (o : Int)), hr4.at_, hr4.le⟩)
      have HK5 : Hid (Kp (· = rb) w w5) := Lib.hid (by rw [hw5]; exact (HK3.out.trans hk4).set_ (p := ⟨rb, 2, none⟩) (.inr rfl) _)
      have hrb : rb < w3.heap.size := by have := HR2.out.lt; omega
      have HX5 : Hid (RxIn w5 (Frm w.heap.size w5) (.pointer vp) p) := Lib.hid (RxIn.keep (fun b hb => by
        rw [hw5, Below.heap_setCell _ _ _ b (by show b ≠ rb; have := hb.1; omega)]) (fun b hb => ⟨by have := hb.1; omega, by rw [hw5, setCell_size]; exact hb.2⟩) hx4)
      have ho1 : (o : Int) + 1 - 1 = o := by omega
      clear hr4 hk4 hx4
      go_upto_region 11 with (fail)
      rw [← hw5]
      clear hw5 z2 f2
      go_wp2_with fail
      go_ret
      exact ⟨_, rfl, HR5.out, HK5.out, HX5.out⟩
  · as_aux_lemma =>
      go_upto_region 4 with (fail)
      rw [← hw2]
      clear hw2 z2 f2
      have z2 := HR2.out.b.cell (i := 2) rfl
      have z3 := HR2.out.b.cell (i := 3) rfl
      go_wp2_with fail
      refine HS.out.mono ?_
      clear HS
      rintro e w3 ⟨rfl, hr3, hk3⟩
      have HI := Lib.hid (HINN.out rb (i + 1) (o + 1) s rest w3 hr3 HO.out)
      have HK3 := Lib.hid (HK2.out.trans hk3)
      have hs3 := hk3.size
      clear hr3 hk3 z2 z3
      go_wp2_with fail
      refine HI.out.mono ?_
      clear HI
      rintro e w4 ⟨v, rfl, hr4, hk4, hx4⟩
      obtain ⟨vp, rfl⟩ := hx4.ptr
      have z2 := hr4.b.cell (i := 2) rfl
      have f2 := hr4.b.frozen 2
      obtain ⟨w5, hw5⟩ : ∃ w5, w5 = w4.setCell ⟨rb, 2, none⟩ (.int .i64 (o : Int)) := ⟨_, rfl⟩
      have HR5 : Hid (RS w5 rb s (i + 1 + t.length) o rest) := Lib.hid (by
        rw [hw5]
        exact ⟨hr4.asc, hr4.len, hr4.b.set_ 2 (.int .i64 (o : Int)), hr4.at_, hr4.le⟩)
      have HK5 : Hid (Kp (· = rb) w w5) := Lib.hid (by rw [hw5]; exact (HK3.out.trans hk4).set_ (p := ⟨rb, 2, none⟩) (.inr rfl) _)
      have hrb : rb < w3.heap.size := by have := HR2.out.lt; omega
      have HX5 : Hid (RxIn w5 (Frm w.heap.size w5) (.pointer vp) p) := Lib.hid (RxIn.keep (fun b hb => by
        rw [hw5, Below.heap_setCell _ _ _ b (by show b ≠ rb; have := hb.1; omega)]) (fun b hb => ⟨by have := hb.1; omega, by rw [hw5, setCell_size]; exact hb.2⟩) hx4)
      have ho1 : (o : Int) + 1 - 1 = o := by omega
      clear hr4 hk4 hx4
      go_upto_region 11 with (fail)
      rw [← hw5]
      clear hw5 z2 f2
      go_wp2_with fail
      go_ret
      exact ⟨_, rfl, HR5.out, HK5.out, HX5.out⟩
  · as_aux_lemma =>
      go_upto_region 4 with (fail)
      rw [← hw2]
      clear hw2 z2 f2
      have z2 := HR2.out.b.cell (i := 2) rfl
      have z3 := HR2.out.b.cell (i := 3) rfl
      go_wp2_with fail
      refine HS.out.mono ?_
      clear HS
      rintro e w3 ⟨rfl, hr3, hk3⟩
      have HI := Lib.hid (HINN.out rb (i + 1) (o + 1) s rest w3 hr3 HO.out)
      have HK3 := Lib.hid (HK2.out.trans hk3)
      have hs3 := hk3.size
      clear hr3 hk3 z2 z3
      go_wp2_with fail
      refine HI.out.mono ?_
      clear HI
      rintro e w4 ⟨v, rfl, hr4, hk4, hx4⟩
      obtain ⟨vp, rfl⟩ := hx4.ptr
      have z2 := hr4.b.cell (i := 2) rfl
      have f2 := hr4.b.frozen 2
      obtain ⟨w5, hw5⟩ : ∃ w5, w5 = w4.setCell ⟨rb, 2, none⟩ (.int .i64 (o : Int)) := ⟨_, rfl⟩
      have HR5 : Hid (RS w5 rb s (i + 1 + t.length) o rest) := Lib.hid (by
        rw [hw5]
        exact ⟨hr4.asc, hr4.len, hr4.b.set_ 2 (.int .i64 (o : Int)), hr4.at_, hr4.le⟩)
      have HK5 : Hid (Kp (· = rb) w w5) := Lib.hid (by rw [hw5]; exact (HK3.out.trans hk4).set_ (p := ⟨rb, 2, none⟩) (.inr rfl) _)
      have hrb : rb < w3.heap.size := by have := HR2.out.lt; omega
      have HX5 : Hid (RxIn w5 (Frm w.heap.size w5) (.pointer vp) p) := Lib.hid (RxIn.keep (fun b hb => by
        rw [hw5, Below.heap_setCell _ _ _ b (by show b ≠ rb; have := hb.1; omega)]) (fun b hb => ⟨by have := hb.1; omega, by rw [hw5, setCell_size]; exact hb.2⟩) hx4)
      have ho1 : (o : Int) + 1 - 1 = o := by omega
      clear hr4 hk4 hx4
      go_upto_region 11 with (fail)
      rw [← hw5]
      clear hw5 z2 f2
      go_wp2_with fail
      go_ret
      exact ⟨_, rfl, HR5.out, HK5.out, HX5.out⟩

set_option maxHeartbeats 4000000 in
theorem unit_pt (a : Int) (h0 : 0 ≤ a) (h1 : a ≤ MP) : Rdz 4 (ptx a) (.node 1 [(a, a)] 0 0 []) 0 := by
  intro rb i o s rest w h _ ho
  have HN := Lib.hid (now_any rb i o s _ w h)
  obtain ⟨y, hy⟩ : ∃ y, y = hdI (ptx a ++ rest) := ⟨_, rfl⟩
  have hyc : okC y := by rw [hy]; exact ptx_hd h0 rest
  rw [← hy] at HN
  have e1 : (y == 40) = false := by rw [beq_eq_false_iff_ne]; unfold okC at hyc; omega
  have e2 : (y == 91) = false := by rw [beq_eq_false_iff_ne]; unfold okC at hyc; omega
  have e3 : (y == 126) = false := by rw [beq_eq_false_iff_ne]; unfold okC at hyc; omega
  have e4 : (y == 46) = false := by rw [beq_eq_false_iff_ne]; unfold okC at hyc; omega
  have HR := Lib.hid h
  have HAB := Lib.hid (And.intro h0 h1)
  obtain ⟨g, hg⟩ : ∃ g, w.heap.size = g := ⟨_, rfl⟩
  rw [hg]
  have HG := Lib.hid hg
  clear h hy hyc hg h0 h1
  go_enter Tryz.func87, Tryz.ntmps87
  go_wp2_with fail
  refine HN.out.mono ?_
  clear HN
  rintro e w1 ⟨rfl, hb1⟩
  have HP := Lib.hid (rpoint_any rb i o s _ a rest w1 (HR.out.below hb1) HAB.out.1 HAB.out.2 bars_outside)
  have HK1 := Lib.hid (Kp.of (S := (· = rb)) hb1)
  clear hb1
  go_wp2_with fail
  refine HP.out.mono ?_
  clear HP
  rintro e w2 ⟨rfl, hr2, hk2⟩
  have hk2' := HK1.out.trans hk2
  have hgz : g ≤ w2.heap.size := by rw [← HG.out]; exact hk2'.size
  obtain ⟨kb, hkb⟩ : ∃ kb, kb = w2.heap.size := ⟨_, rfl⟩
  obtain ⟨w4, hw4⟩ : ∃ w4, w4 = (w2.alloc (.cells #[.int .i64 a, .int .i64 a] 57)).alloc (.cells #[.int .i64 1, .slice (some ⟨kb, 0, none⟩) 1 1, .int .i64 0, .int .i64 0, .slice none 0 0] 41) := ⟨_, rfl⟩
  have hb4 : Below w2.heap.size w2 w4 := by rw [hw4]; exact ((Below.refl _ _).alloc (Nat.le_refl _) _).alloc (by simp) _
  have hk4 : Blk w4 kb 57 [.int .i64 a, .int .i64 a] := by rw [hw4, hkb]; exact (Blk.new w2 _ _).alloc _
  have hq4 : RxK w4 (kb + 1) 1 (.slice (some ⟨kb, 0, none⟩) 1 1) (.slice none 0 0) := by
    have := Blk.new (w2.alloc (.cells #[.int .i64 a, .int .i64 a] 57)) 41 [.int .i64 1, .slice (some ⟨kb, 0, none⟩) 1 1, .int .i64 0, .int .i64 0, .slice none 0 0]
    rw [show (w2.alloc (.cells #[.int .i64 a, .int .i64 a] 57)).heap.size = kb + 1 by rw [hkb]; simp] at this
    rw [hw4]; exact this
  have ho4 : OwG w4 kb (.slice (some ⟨kb, 0, none⟩) 1 1) [(a, a)] := ⟨rfl, .inr ⟨kb, 1, #[.int .i64 a, .int .i64 a], rfl, Nat.le_refl _, hk4, Nat.le_refl _, by unfold maxLen; decide, rfl, rfl⟩⟩
  have HX := Lib.hid (rx_set (g := g) ho4 hq4 (by omega) (by omega))
  have HR4 := Lib.hid (hr2.below hb4)
  have HK4 := Lib.hid (hk2'.trans (Kp.of hb4))
  clear hr2 hk2 hk2' hb4 hk4 hq4 ho4
  go_wp2_with fail
  rw [← hkb, ← hw4]
  clear hw4 hkb
  go_ret
  exact ⟨_, rfl, HR4.out, HK4.out, HX.out⟩

theorem Rdz.mono {n : Nat} {t : List UInt8} {p : Rx} {d d' : Nat} (h : Rdz n t p d) (hd : d ≤ d') : Rdz n t p d' := fun rb i o s rest w a b c => h rb i o s rest w a b (by omega)
/-- The document's reading functions read the text of each valid pattern. -/
theorem reader_all : Reader Rdz where
  mono := Rdz.mono
  pt := unit_pt
  set := fun S hc _ h12 => by
    have := unit_open 91 91 (rgsx S ++ [93]) (.node 1 S 0 0 []) 0 rfl (.inr (.inl rfl)) (inn_set S hc h12)
    rw [← List.append_assoc] at this
    exact this
  not := fun {t k d} h => unit_open 126 126 t (.node 5 [] 0 0 [k]) d rfl (.inr (.inr rfl)) (inn_not t k d h)
  brk := fun {t p d} h => by
    have := unit_open 40 40 (t ++ [41]) p d rfl (.inl rfl) (inn_brk t p d h)
    unfold brk
    rw [List.append_assoc]
    exact this
  part := fun {t b d} h l hl => part_walk t b d h l hl
  row1 := fun {t p d} h hf => by
    have := row_walk [(t, p)] d (by simp) (fun x hx => by rw [List.mem_singleton] at hx; subst hx; exact h) (fun x hx => by rw [List.mem_singleton] at hx; subst hx; exact hf)
    exact this
  row := fun {d} l hl h60 h => by
    have := row_walk l d h60 (fun x hx => (h x hx).1) (fun x hx => (h x hx).2)
    rw [sevX_more (by simpa using hl)] at this
    exact this
  both1 := fun {t p d} h => both_walk [(t, p)] d (by simp) (by simp) (fun x hx => by rw [List.mem_singleton] at hx; subst hx; exact h)
  both := fun {d} l hl h60 h => by
    have := both_walk l d (by omega) h60 h
    rw [sevX_more (by rw [List.length_map]; omega)] at this
    exact this
  any1 := fun {t p d} h => any_walk [(t, p)] d (by simp) (by simp) (fun x hx => by rw [List.mem_singleton] at hx; subst hx; exact h)
  any := fun {d} l hl h60 h => by
    have := any_walk l d (by omega) h60 h
    rw [sevX_more (by rw [List.length_map]; omega)] at this
    exact this
/-- The document's any reads the text of a valid pattern. -/
theorem any_valid {p : Rx} (h : okX p = true) (hS : SetS p) : Rdz 0 (txX p) p 62 := reads_valid reader_all h hS
end Go.Proofs.YtaachamblagbhaaGreatDoor
namespace Go.Proofs.YtaachamblagbhaaGreatDoor
open Go.RowKit BigFrame
set_option linter.unusedVariables false
set_option linter.unusedSimpArgs false
set_option maxRecDepth 100000

def strX (p : Rx) : ByteArray := ⟨(txX p).toArray⟩
theorem strX_size (p : Rx) : (strX p).size = (txX p).length := by unfold strX; simp [ByteArray.size]
set_option maxHeartbeats 4000000 in
theorem rRead_any (p : Rx) (w : World) (h : okX p = true) (hS : SetS p) :
    Calls Tryz.prog 10 #[.string (strX p)] w fun e w' => ∃ v, e = .returned (.tuple #[v, .nilIface, .int .i64 0]) ∧ RxB w' w'.heap.size v p ∧ Below w.heap.size w w' := by
  obtain ⟨hasc, hlen⟩ := tx_valid h hS
  obtain ⟨rb, hrb⟩ : ∃ rb, rb = w.heap.size := ⟨_, rfl⟩
  obtain ⟨w1, hw1⟩ : ∃ w1, w1 = w.alloc (.cells #[.string (strX p), .int .i64 0, .int .i64 0, .nilIface, .int .i64 0] 49) := ⟨_, rfl⟩
  have hsz := strX_size p
  have hb1 : Below rb w w1 := by rw [hw1, hrb]; exact (Below.refl _ _).alloc (Nat.le_refl _) _
  have hR : RS w1 rb (strX p) 0 0 (txX p ++ []) := ⟨hasc, by omega, by rw [hw1, hrb]; exact Blk.new w _ _, by rw [List.append_nil]; rfl, Nat.zero_le _⟩
  have HA := Lib.hid (any_valid h hS rb 0 0 (strX p) [] w1 hR (.inl rfl) (by omega))
  have HS := Lib.hid hS; have HOK := Lib.hid h
  have hs1 : w1.heap.size = rb + 1 := by rw [hw1, hrb]; simp
  have HB1 := Lib.hid hb1; have HRB := Lib.hid hrb
  obtain ⟨L, hL⟩ : ∃ L, L = (txX p).length := ⟨_, rfl⟩
  rw [← hL] at hsz hlen HA
  obtain ⟨s, hs⟩ : ∃ s, s = strX p := ⟨_, rfl⟩
  rw [← hs] at hw1 hsz HA ⊢
  have d0 : decide ((65536 : Int) < (L : Int)) = false := decide_eq_false (by omega)
  clear hasc hR h hS hb1 hL hs
  subst hsz
  go_enter Tryz.func10, Tryz.ntmps10
  go_wp2_with fail
  rw [← hrb, ← hw1]
  clear hw1 hrb
  refine HA.out.mono ?_
  clear HA
  rintro e w2 ⟨v, rfl, hr2, hk2, hx2⟩
  obtain ⟨vp, rfl⟩ := hx2.ptr
  rw [Nat.zero_add] at hr2
  have z1 := hr2.b.cell (i := 1) rfl
  have z3 := hr2.b.cell (i := 3) rfl
  have hs2 := hk2.size
  have HX : Hid (RxB w2 w2.heap.size (.pointer vp) p) := Lib.hid (RxIn.keep (fun _ _ => rfl) (fun b hb => hb.2) hx2)
  have HB2 : Hid (Below rb w w2) := Lib.hid (HB1.out.trans (hk2.bel (by omega) (fun k hk e => by omega)))
  have HP := Lib.hid (rpatOk_any w2.heap.size p (.pointer vp) w2 (Nat.le_refl _) HX.out HS.out)
  rw [HOK.out] at HP
  clear hr2 hk2 hx2
  go_wp2_with fail
  refine HP.out.mono ?_
  clear HP
  rintro e w3 ⟨rfl, hb3⟩
  have HX3 := Lib.hid ((RxB.below HX.out hb3).more hb3.size)
  have HB3 := Lib.hid (HB2.out.trans (hb3.mono (by omega)))
  clear hb3
  go_wp2_with fail
  go_ret3
  exact ⟨_, rfl, HX3.out, by rw [← HRB.out]; exact HB3.out⟩
end Go.Proofs.YtaachamblagbhaaGreatDoor
namespace Go.Proofs.YtaachamblagbhaaGreatDoor
open Go.RowKit BigFrame
set_option linter.unusedVariables false
set_option linter.unusedSimpArgs false
set_option maxRecDepth 100000

theorem IntR.sets : ∀ {p : Rx}, IntR p → SetS p
  | .nil, _ => .nil
  | .node k s mn mx ks, h => by
    cases h with
    | node _ _ _ _ _ _ hs hk => exact .node hs fun x hx => (hk x hx).sets
termination_by p => SizeOf.sizeOf p
decreasing_by
  have := List.sizeOf_lt_of_mem hx
  simp only [Rx.node.sizeOf_spec]
  omega

set_option maxHeartbeats 4000000 in
theorem walk_PatternWritten (w : World) (f : (∃ E, ErW w w.heap.size E) ∧ Tz w w.heap.size) (v0 : Value) (hv0 : IsParts w v0) :
    Calls Tryz.prog 3 #[v0] w fun e w' => e = .returned (.bool true) ∧ Below w.heap.size w w' := by
  obtain ⟨⟨E, hE⟩, hz⟩ := f
  obtain ⟨A, c, Q, rfl, hQ⟩ := hv0
  obtain ⟨n, hn⟩ : ∃ n, n = Q.length := ⟨_, rfl⟩
  rw [← hn] at hQ ⊢
  obtain ⟨hl, hc1, hc2⟩ := hQ.len
  unfold maxLen at hc2
  have HE := Lib.hid hE; have HZ := Lib.hid hz; have HQ := Lib.hid hQ; have HL := Lib.hid hl
  clear hE hz hQ hn hl
  go_enter Tryz.func3, Tryz.ntmps3
  by_cases hbig : n > 2000
  · as_aux_lemma =>
      go_wp2_with fail
      go_ret
      exact ⟨rfl, Below.refl _ _⟩
  have hn2 : n ≤ 2000 := by omega
  go_wp2_with fail
  go_loopw [3] (fun i wr => ∃ k : Nat, k ≤ n ∧ i = .int .i64 (k : Int) ∧ Hid (∀ j x, j < k → Q[j]? = some x → x.2.2.2.1.length ≤ 12) ∧ Hid (Below w.heap.size w wr)) (fun i _ => n - (intOf i).toNat)
  case atStart => exact ⟨0, Nat.zero_le _, rfl, fun j x h => by omega, Below.refl _ _⟩
  case round =>
    as_aux_lemma =>
      obtain ⟨k, hk, rfl, HT, HB⟩ := hrel
      by_cases hlt : k < n
      · as_aux_lemma =>
          obtain ⟨b, off, rfl, hb, hc⟩ := (HQ.out.below HB.out).at_ (by omega)
          obtain ⟨kd, mn, mx, s, r, A1, n1, c1, A', n', c', q0, z0, z1, z2, z3, z4, s1, s2, s3, s4, q1, q2, q3, q4, ib0, ib1, ib2, ib4, ib3⟩ := hc k hlt
          subst s1
          clear hc z0 z1 z2 z4 q1 q2 q3 q4 ib0 ib1 ib2 ib3 ib4 s4
          unfold maxLen at s3
          have HQ0 := Lib.hid q0
          clear q0
          by_cases hs : s.length > 12
          · as_aux_lemma =>
              go_wp2_with fail
              go_ret
              exact ⟨rfl, HB.out⟩
          · as_aux_lemma =>
              have HS := Lib.hid (show s.length ≤ 12 by omega)
              go_wp2_with fail
              go_roundw
              case rel =>
                exact ⟨k + 1, by omega, by go_num, fun j x hj hx => by
                  by_cases e : j = k
                  · subst e
                    have := HQ0.out
                    rw [this] at hx
                    cases hx
                    exact HS.out
                  · exact HT.out j x (by omega) hx, HB⟩
              case measure => simp [intOf]; omega
      · as_aux_lemma =>
          obtain rfl : k = n := by omega
          have hs12 : ∀ x ∈ Q, x.2.2.2.1.length ≤ 12 := fun x hx => by
            obtain ⟨j, hj, rfl⟩ := List.getElem_of_mem hx
            exact HT.out j _ (by rw [← HL.out]; exact hj) (List.getElem?_eq_getElem hj)
          have HA := Lib.hid (pattern_any A k c Q wr w.heap.size HB.out.size (HQ.out.below HB.out) hn2 hs12)
          clear hs12 hlt hbig
          go_wp2_with fail
          refine HA.out.mono ?_
          clear HA
          rintro e w1 ⟨v, rfl, hv, hi, hb1⟩
          have hz1 := hb1.size
          have hz0 := HB.out.size
          have HB1 : Hid (Below w.heap.size w w1) := Lib.hid (HB.out.trans (hb1.mono hz0))
          have HV : Hid (RxB w1 w1.heap.size v (reOf Q)) := Lib.hid hv
          have HS : Hid (SetS (reOf Q)) := Lib.hid hi.sets
          have HA := Lib.hid (smallTree_any A k c Q w1 w.heap.size HB1.out.size (HQ.out.below HB1.out) hn2)
          obtain ⟨vp, rfl⟩ := hv.ptr
          obtain ⟨p, hp⟩ : ∃ p, p = reOf Q := ⟨_, rfl⟩
          rw [← hp] at HV HS
          clear hv hi hb1 hp
          go_wp2_with fail
          refine HA.out.mono ?_
          clear HA
          rintro e w2 ⟨small, rfl, hb2⟩
          have hz2 := hb2.size
          have HB2 : Hid (Below w.heap.size w w2) := Lib.hid (HB1.out.trans (hb2.mono HB1.out.size))
          have HV2 : Hid (RxB w2 w1.heap.size (.pointer vp) p) := Lib.hid (HV.out.below hb2)
          clear hb2 HV
          cases small with
          | false =>
            as_aux_lemma =>
              go_wp2_with fail
              go_ret
              exact ⟨rfl, HB2.out⟩
          | true =>
          have HA := Lib.hid (rpatOk_any w1.heap.size p (.pointer vp) w2 hz2 HV2.out HS.out)
          go_wp2_with fail
          refine HA.out.mono ?_
          clear HA
          rintro e w3 ⟨rfl, hb3⟩
          have hz3 := hb3.size
          have HB3 : Hid (Below w.heap.size w w3) := Lib.hid (HB2.out.trans (hb3.mono HB2.out.size))
          have HV3 : Hid (RxB w3 w1.heap.size (.pointer vp) p) := Lib.hid (HV2.out.below (hb3.mono hz2))
          have HA := Lib.hid (patOk_any w1.heap.size p (.pointer vp) w3 (by omega) HV3.out HS.out)
          clear hb3 HV2
          cases hok : okX p with
          | false =>
            as_aux_lemma =>
              rw [hok] at HA
              go_wp2_with fail
              refine HA.out.mono ?_
              clear HA
              rintro e w4 ⟨rfl, hb4⟩
              have hz4 := hb4.size
              have HB4 : Hid (Below w.heap.size w w4) := Lib.hid (HB3.out.trans (hb4.mono HB3.out.size))
              have HV4 : Hid (RxB w4 w1.heap.size (.pointer vp) p) := Lib.hid (HV3.out.below (hb4.mono (by omega)))
              have HE4 : Hid (ErW w4 w1.heap.size E) := Lib.hid ((HE.out.below HB4.out).more HB1.out.size)
              have HA := Lib.hid (write_bad w1.heap.size p (.pointer vp) w4 (by omega) E HE4.out HV4.out HS.out hok)
              clear hb4 HV3 hok HE4
              go_wp2_with fail
              refine HA.out.mono ?_
              clear HA
              rintro e w5 ⟨rfl, hb5⟩
              have hz5 := hb5.size
              have HB5 : Hid (Below w.heap.size w w5) := Lib.hid (HB4.out.trans (hb5.mono HB4.out.size))
              have HE5 : Hid (ErW w5 w.heap.size E) := Lib.hid (HE.out.below HB5.out)
              have z : w5.cell? ⟨0, 0, none⟩ = some (ew (E 0)) := HE5.out.g 0 (by omega)
              have HA := Lib.hid (told_same 0 (by omega) w5 w.heap.size HB5.out.size E HE5.out)
              clear hb5 HE5
              go_wp2_with fail
              refine HA.out.mono ?_
              clear HA
              rintro e w6 ⟨rfl, hb6⟩
              have HB6 : Hid (Below w.heap.size w w6) := Lib.hid (HB5.out.trans (hb6.mono HB5.out.size))
              clear hb6
              go_wp2_with fail
              go_ret
              exact ⟨rfl, HB6.out⟩
          | true =>
            as_aux_lemma =>
              rw [hok] at HA
              go_wp2_with fail
              refine HA.out.mono ?_
              clear HA
              rintro e w4 ⟨rfl, hb4⟩
              have hz4 := hb4.size
              have HB4 : Hid (Below w.heap.size w w4) := Lib.hid (HB3.out.trans (hb4.mono HB3.out.size))
              have HV4 : Hid (RxB w4 w1.heap.size (.pointer vp) p) := Lib.hid (HV3.out.below (hb4.mono (by omega)))
              have HZ4 : Hid (Tz w4 w1.heap.size) := Lib.hid ⟨(HZ.out.below HB4.out).h, Nat.lt_of_lt_of_le HZ.out.g HB1.out.size⟩
              have HA := Lib.hid (write_ok w1.heap.size p (.pointer vp) w4 (by omega) HZ4.out HV4.out HS.out hok)
              have HOK := Lib.hid hok
              clear hb4 HV3 hok HZ4
              go_wp2_with fail
              refine HA.out.mono ?_
              clear HA
              rintro e w5 ⟨rfl, hb5⟩
              have hz5 := hb5.size
              have HB5 : Hid (Below w.heap.size w w5) := Lib.hid (HB4.out.trans (hb5.mono HB4.out.size))
              have HV5 : Hid (RxB w5 w1.heap.size (.pointer vp) p) := Lib.hid (HV4.out.below (hb5.mono (by omega)))
              have HA := Lib.hid (rRead_any p w5 HOK.out HS.out)
              rw [show bs (txX p) = .string (strX p) from rfl]
              clear hb5 HV4
              go_wp2_with fail
              refine HA.out.mono ?_
              clear HA
              rintro e w6 ⟨u, rfl, hu, hb6⟩
              have hz6 := hb6.size
              have HB6 : Hid (Below w.heap.size w w6) := Lib.hid (HB5.out.trans (hb6.mono HB5.out.size))
              have HV6 : Hid (RxB w6 w6.heap.size (.pointer vp) p) := Lib.hid ((HV5.out.below (hb6.mono (by omega))).more (by omega))
              have HA := Lib.hid (samePat_any w6.heap.size p HS.out (.pointer vp) u w6 (Nat.le_refl _) HV6.out hu)
              obtain ⟨up, rfl⟩ := hu.ptr
              clear hu hb6 HV5
              go_wp2_with fail
              refine HA.out.mono ?_
              clear HA
              rintro e w7 ⟨rfl, hb7⟩
              have HB7 : Hid (Below w.heap.size w w7) := Lib.hid (HB6.out.trans (hb7.mono HB6.out.size))
              clear hb7
              go_wp2_with fail
              go_ret
              exact ⟨rfl, HB7.out⟩
end Go.Proofs.YtaachamblagbhaaGreatDoor
