/- Plain: the text of a valid pattern is of ASCII and not long; its digits. · strconv.formatBits at base 16. · strconv.Itoa laid at this program: written by the kit's laying tool (lay-plain) for this seat, names turned. -/
import Derived.Test.YtaachamblagbhaaGreatDoorQ7
import Derived.Deep.Cut
import Derived.Laws.Bits64b
import Derived.Laws.BytesArg
import Derived.Shelf.Strings.Builder1
import Derived.Shelf.Small.Bits
import Derived.Shelf.Strings.BuilderF
import Derived.Shelf.Strings.BuilderK
import Derived.Shelf.Strconv.Itoa0
import Derived.Shelf.Strconv.Itoa1
import Derived.Shelf.LaysM
import Derived.Shelf.Strconv.Itoa2
import Derived.Shelf.Strconv.Itoa3
import Derived.Test.YtaachamblagbhaaGreatDoorProg
namespace Go.Proofs.YtaachamblagbhaaGreatDoor
set_option linter.unusedVariables false
set_option linter.unusedSimpArgs false

def AsT (l : List UInt8) : Prop := ∀ c ∈ l, c.toNat < 128
theorem AsT.nil : AsT [] := fun c h => by cases h
theorem AsT.app {a b : List UInt8} (h : AsT a) (k : AsT b) : AsT (a ++ b) := fun c hc => by
  rcases List.mem_append.1 hc with q | q
  · exact h c q
  · exact k c q
theorem AsT.of {l : List UInt8} (h : l.all (fun c => decide (c.toNat < 128)) = true) : AsT l := fun c hc => by
  have := List.all_eq_true.1 h c hc
  simpa using this
/-- The value of a hexadecimal digit. -/
def hexV (c : UInt8) : Int := if 48 ≤ c.toNat ∧ c.toNat ≤ 57 then (c.toNat : Int) - 48 else if 97 ≤ c.toNat ∧ c.toNat ≤ 102 then (c.toNat : Int) - 97 + 10 else if 65 ≤ c.toNat ∧ c.toNat ≤ 70 then (c.toNat : Int) - 65 + 10 else -1
def hxd (u : Nat) : UInt8 := (if u < 10 then 48 + u else 87 + u).toUInt8
theorem hxd_facts : ∀ u : Nat, u < 16 → (hxd u).toNat < 128 ∧ hexV (hxd u) = (u : Int) ∧ (hxd u).toNat ≠ 125 ∧ 0 ≤ hexV (hxd u) := by decide
theorem hexD_lt {u : Nat} (h : u < 16) : hexD u = [hxd u] := by rw [hexD, dif_pos h]; rfl
theorem hexD_ge {u : Nat} (h : ¬ u < 16) : hexD u = hexD (u / 16) ++ [hxd (u % 16)] := by rw [hexD, dif_neg h]; rfl
theorem hexD_len : ∀ (n u : Nat), u < 16 ^ (n + 1) → 1 ≤ (hexD u).length ∧ (hexD u).length ≤ n + 1
  | 0, u, h => by rw [hexD_lt (by omega)]; simp
  | n + 1, u, h => by
    by_cases q : u < 16
    · rw [hexD_lt q]; simp
    · have := hexD_len n (u / 16) (by rw [Nat.pow_succ] at h; omega)
      rw [hexD_ge q]
      simp; omega
def hexF (n : Int) (c : UInt8) : Int := n * 16 + hexV c
theorem hexD_val : ∀ (n u : Nat), u < 16 ^ (n + 1) → (hexD u).foldl hexF 0 = (u : Int)
  | 0, u, h => by
    rw [hexD_lt (by omega)]
    have := (hxd_facts u (by omega)).2.1
    simp [hexF, this]
  | n + 1, u, h => by
    by_cases q : u < 16
    · rw [hexD_lt q]
      have := (hxd_facts u (by omega)).2.1
      simp [hexF, this]
    · have h1 := hexD_val n (u / 16) (by rw [Nat.pow_succ] at h; omega)
      have h2 := (hxd_facts (u % 16) (by omega)).2.1
      rw [hexD_ge q, List.foldl_append, h1]
      simp only [List.foldl_cons, List.foldl_nil]
      unfold hexF
      rw [h2]
      omega
theorem hexD_all : ∀ (n u : Nat), u < 16 ^ (n + 1) → ∀ c ∈ hexD u, ∃ d, d < 16 ∧ c = hxd d
  | 0, u, h, c, hc => by
    rw [hexD_lt (by omega), List.mem_singleton] at hc
    exact ⟨u, by omega, hc⟩
  | n + 1, u, h, c, hc => by
    by_cases q : u < 16
    · rw [hexD_lt q, List.mem_singleton] at hc
      exact ⟨u, q, hc⟩
    · rw [hexD_ge q] at hc
      rcases List.mem_append.1 hc with g | g
      · exact hexD_all n (u / 16) (by rw [Nat.pow_succ] at h; omega) c g
      · rw [List.mem_singleton] at g
        exact ⟨u % 16, by omega, g⟩
theorem hexD_asc {u : Nat} (h : u < 16777216) : AsT (hexD u) := fun c hc => by
  obtain ⟨d, hd, rfl⟩ := hexD_all 5 u (by omega) c hc
  exact (hxd_facts d hd).1
/-- A count's text. -/
def dgt (n : Nat) : UInt8 := (48 + n).toUInt8
theorem dgt_facts : ∀ n : Nat, n < 10 → (dgt n).toNat = 48 + n := by decide
theorem itoa_one {n : Int} (h0 : 0 ≤ n) (h1 : n < 10) : Lib.itoa n = [dgt n.toNat] := by
  unfold Lib.itoa
  rw [if_neg (by omega), Lib.decDigits, dif_pos (by omega)]
  rfl
theorem itoa_two {n : Int} (h0 : 10 ≤ n) (h1 : n < 100) : Lib.itoa n = [dgt (n.toNat / 10), dgt (n.toNat % 10)] := by
  unfold Lib.itoa
  rw [if_neg (by omega), Lib.decDigits, dif_neg (by omega), Lib.decDigits, dif_pos (by omega)]
  rfl
theorem itoa_asc {n : Int} (h0 : 0 ≤ n) (h1 : n ≤ 50) : AsT (Lib.itoa n) ∧ (Lib.itoa n).length ≤ 2 := by
  by_cases q : n < 10
  · rw [itoa_one h0 q]
    refine ⟨fun c hc => ?_, by simp⟩
    rw [List.mem_singleton] at hc
    subst hc
    rw [dgt_facts _ (by omega)]; omega
  · rw [itoa_two (by omega) (by omega)]
    refine ⟨fun c hc => ?_, by simp⟩
    rcases List.mem_cons.1 hc with rfl | hc
    · rw [dgt_facts _ (by omega)]; omega
    · rw [List.mem_singleton] at hc
      subst hc
      rw [dgt_facts _ (by omega)]; omega
theorem ptx_asc {p : Int} (h0 : 0 ≤ p) (h1 : p ≤ MP) : AsT (ptx p) ∧ (ptx p).length ≤ 10 := by
  unfold MP at h1
  unfold ptx
  split
  · rename_i q
    refine ⟨fun c hc => ?_, by simp⟩
    rw [List.mem_singleton] at hc
    subst hc
    have : ∀ n : Nat, n < 123 → n.toUInt8.toNat < 128 := by decide
    exact this _ (by omega)
  · have hl := hexD_len 5 p.toNat (by omega)
    refine ⟨((AsT.of (by decide)).app (hexD_asc (by omega))).app (AsT.of (by decide)), ?_⟩
    simp only [List.length_append, List.length_cons, List.length_nil]; omega
theorem rgsx_asc : ∀ {l : List Rg} {f : Int}, 0 ≤ f → CanF f l → AsT (rgsx l) ∧ (rgsx l).length ≤ 21 * l.length
  | [], f, _, _ => ⟨AsT.nil, Nat.le_refl _⟩
  | (a, b) :: t, f, hf, h => by
    obtain ⟨h1, h2, h3, h4⟩ := h
    obtain ⟨x1, x2⟩ := rgsx_asc (f := b + 2) (by omega) h4
    obtain ⟨y1, y2⟩ := ptx_asc (p := a) (by omega) (by omega)
    obtain ⟨z1, z2⟩ := ptx_asc (p := b) (by omega) (by omega)
    rw [rgsx]
    unfold rgx
    by_cases q : a < b
    · simp only [if_pos q]
      refine ⟨(y1.app ((AsT.of (by decide)).app z1)).app x1, ?_⟩
      simp only [List.length_append, List.length_cons, List.length_nil]; omega
    · simp only [if_neg q]
      refine ⟨(y1.app AsT.nil).app x1, ?_⟩
      simp only [List.length_append, List.length_cons, List.length_nil]; omega
theorem setx_asc {l : List Rg} (h : Can l) (hl : l.length ≤ 12) : AsT (setx l) ∧ (setx l).length ≤ 260 := by
  unfold setx
  by_cases q : oneP l = true
  · obtain ⟨a, rfl⟩ := oneP_form q
    rw [if_pos q]
    have := ptx_asc (p := a) h.1 h.2.2.1
    exact ⟨this.1, by have := this.2; simp; omega⟩
  · rw [if_neg q]
    obtain ⟨x1, x2⟩ := rgsx_asc (Int.le_refl 0) h
    refine ⟨((AsT.of (by decide)).app x1).app (AsT.of (by decide)), ?_⟩
    simp only [List.length_append, List.length_cons, List.length_nil]; omega
theorem pst_asc {mn mx : Int} (h : tmsOk 6 mn mx = true) : AsT (pst mn mx) ∧ (pst mn mx).length ≤ 7 := by
  unfold tmsOk at h
  rw [if_pos rfl] at h
  simp only [Bool.and_eq_true, Bool.or_eq_true, decide_eq_true_eq] at h
  have a1 := itoa_asc (n := mn) (by omega) (by omega)
  unfold pst
  split
  · exact ⟨AsT.of (by decide), by simp⟩
  · split
    · exact ⟨AsT.of (by decide), by simp⟩
    · split
      · exact ⟨AsT.of (by decide), by simp⟩
      · split
        · refine ⟨((AsT.of (by decide)).app a1.1).app (AsT.of (by decide)), ?_⟩
          have := a1.2
          simp only [List.length_append, List.length_cons, List.length_nil]; omega
        · rename_i q
          split
          · refine ⟨((AsT.of (by decide)).app a1.1).app (AsT.of (by decide)), ?_⟩
            have := a1.2
            simp only [List.length_append, List.length_cons, List.length_nil]; omega
          · have a2 := itoa_asc (n := mx) (by omega) (by omega)
            refine ⟨((((AsT.of (by decide)).app a1.1).app (AsT.of (by decide))).app a2.1).app (AsT.of (by decide)), ?_⟩
            have := a1.2; have := a2.2
            simp only [List.length_append, List.length_cons, List.length_nil]; omega
theorem joinB_asc {sep : List UInt8} (hs : AsT sep) (hs1 : sep.length ≤ 1) : ∀ {l : List (List UInt8)}, (∀ t ∈ l, AsT t) → AsT (joinB sep l) ∧ (joinB sep l).length ≤ (l.map fun t => t.length + 1).sum
  | [], _ => ⟨AsT.nil, Nat.zero_le _⟩
  | [a], h => ⟨h a (by simp), by rw [joinB]; simp⟩
  | a :: b :: t, h => by
    obtain ⟨x1, x2⟩ := joinB_asc hs hs1 (l := b :: t) fun u hu => h u (List.mem_cons_of_mem _ hu)
    rw [joinB]
    refine ⟨((h a (by simp)).app hs).app x1, ?_⟩
    rw [List.map_cons, List.sum_cons]
    simp only [List.length_append]
    omega
mutual
theorem txX_asc : ∀ {p : Rx} {d : Nat}, shp d p = true → SetS p → AsT (txX p) ∧ (txX p).length + 3 ≤ 270 * wei p
  | .nil, d, h, _ => by rw [shp] at h; cases h
  | .node k s mn mx ks, d, h, hS => by
    obtain ⟨h1, h2, h3, h4, h5⟩ := shp_node h
    obtain ⟨hs12, hsk⟩ : s.length ≤ 12 ∧ ∀ x ∈ ks, SetS x := by cases hS with | node a b => exact ⟨a, b⟩
    by_cases k1 : k = 1
    · have hc : Can s := by
        unfold setOk at h4
        rw [Bool.and_eq_true] at h4
        exact canB_iff.1 h4.1
      obtain ⟨x1, x2⟩ := setx_asc hc hs12
      rw [txX, if_pos k1, wei, if_pos k1]
      exact ⟨x1, by omega⟩
    · have hw := wei_kid (s := s) (mn := mn) (mx := mx) (ks := ks) k1
      have hw2 : weiL ks + 1 ≤ wei (.node k s mn mx ks) := by
        rw [wei, if_neg k1]
        have := Nat.le_mul_of_pos_right (weiL ks) (tmW_pos k mn mx)
        omega
      have L := fun n => txL_asc (n := n) h5 hsk
      have J : ∀ (sep : List UInt8) (n : Nat), AsT sep → sep.length ≤ 1 → AsT (joinB sep (txL n ks)) ∧ (joinB sep (txL n ks)).length + 3 ≤ 270 * wei (.node k s mn mx ks) := fun sep n a b => by
        obtain ⟨x1, x2⟩ := joinB_asc a b (L n).1
        exact ⟨x1, by have := (L n).2; omega⟩
      have HD : ∀ n, AsT ((txL n ks).headD []) ∧ ((txL n ks).headD []).length ≤ 270 * weiL ks := fun n => by
        obtain ⟨x1, x2⟩ := L n
        cases e : txL n ks with
        | nil => exact ⟨AsT.nil, Nat.zero_le _⟩
        | cons a t =>
          rw [e] at x1 x2
          refine ⟨x1 a (by simp), ?_⟩
          rw [List.map_cons, List.sum_cons] at x2
          show a.length ≤ _
          omega
      rw [txX, if_neg k1]
      split
      · exact J _ _ (AsT.of (by decide)) (by simp)
      · split
        · exact J _ _ (AsT.of (by decide)) (by simp)
        · split
          · exact J _ _ AsT.nil (by simp)
          · split
            · obtain ⟨y1, y2⟩ := HD 4
              refine ⟨(AsT.of (by decide)).app y1, ?_⟩
              simp only [List.length_append, List.length_cons, List.length_nil]; omega
            · rename_i q3 q4 q2 q5
              have k6 : k = 6 := by
                unfold cntOk at h2
                rw [if_neg k1, if_neg q2, if_neg (by omega)] at h2
                split at h2
                · omega
                · cases h2
              subst k6
              obtain ⟨y1, y2⟩ := HD 3
              obtain ⟨z1, z2⟩ := pst_asc h3
              refine ⟨y1.app z1, ?_⟩
              simp only [List.length_append]; omega
theorem txL_asc : ∀ {ks : List Rx} {d n : Nat}, (∀ x ∈ ks, shp d x = true) → (∀ x ∈ ks, SetS x) → (∀ t ∈ txL n ks, AsT t) ∧ ((txL n ks).map fun t => t.length + 1).sum ≤ 270 * weiL ks
  | [], d, n, _, _ => ⟨fun t h => (by rw [txL] at h; cases h), by rw [txL]; exact Nat.zero_le _⟩
  | k :: ks, d, n, h, hS => by
    obtain ⟨x1, x2⟩ := txX_asc (p := k) (h k (by simp)) (hS k (by simp))
    obtain ⟨y1, y2⟩ := txL_asc (n := n) (ks := ks) (fun x hx => h x (List.mem_cons_of_mem _ hx)) (fun x hx => hS x (List.mem_cons_of_mem _ hx))
    have hb : AsT (if rank k < n then brk (txX k) else txX k) ∧ (if rank k < n then brk (txX k) else txX k).length ≤ (txX k).length + 2 := by
      split
      · exact ⟨((AsT.of (by decide)).app x1).app (AsT.of (by decide)), by unfold brk; simp⟩
      · exact ⟨x1, by omega⟩
    rw [txL, weiL]
    refine ⟨fun t ht => ?_, ?_⟩
    · rcases List.mem_cons.1 ht with rfl | q
      · exact hb.1
      · exact y1 t q
    · rw [List.map_cons, List.sum_cons]
      have := hb.2
      omega
end
theorem tx_valid {p : Rx} (h : okX p = true) (hS : SetS p) : AsT (txX p) ∧ (txX p).length ≤ 16200 := by
  unfold okX at h
  rw [Bool.and_eq_true, decide_eq_true_eq] at h
  obtain ⟨x1, x2⟩ := txX_asc h.1 hS
  exact ⟨x1, by have := h.2; omega⟩
end Go.Proofs.YtaachamblagbhaaGreatDoor
namespace Go.Proofs.YtaachamblagbhaaGreatDoor
open Go.RowKit BigFrame
set_option linter.unusedVariables false
set_option linter.unusedSimpArgs false
set_option maxRecDepth 100000

theorem and15 (x : Nat) (h : x < 18446744073709551616) : bits BinOp.and IntKind.u64 (x : Int) 15 = ((x % 16 : Nat) : Int) := by
  have := bits_and_u64_nat x 15 h (by omega)
  rw [show ((15 : Nat) : Int) = 15 from rfl] at this
  rw [this, Nat.and_two_pow_sub_one_eq_mod x 4]
/-- The signs of the digits. -/
def dgs : ByteArray := { data := #[48, 49, 50, 51, 52, 53, 54, 55, 56, 57, 97, 98, 99, 100, 101, 102, 103, 104, 105, 106, 107, 108, 109, 110, 111, 112, 113, 114, 115, 116, 117, 118, 119, 120, 121, 122] }
theorem dgs_at (d : Nat) (h : d < 16) : d < dgs.size ∧ byt dgs d = ((hxd d).toNat : Int) := by
  have key : ∀ d : Nat, d < 16 → d < dgs.size ∧ byt dgs d = ((hxd d).toNat : Int) := by decide
  exact key d h
/-- The last digits stand in the row's end, from p on. -/
structure Hx (w : World) (gb : Nat) (p : Nat) (D : List UInt8) : Prop where
  ex : ∃ cs : List Value, cs.length = 65 ∧ Blk w gb 156 cs ∧ ∀ j c, D[j]? = some c → cs[p + j]? = some (.int .u8 (c.toNat : Int))
theorem Hx.push {w : World} {gb p : Nat} {D : List UInt8} (h : Hx w gb (p + 1) D) (hp : p < 65) (c : UInt8) : Hx (w.setCell ⟨gb, p, none⟩ (.int .u8 (c.toNat : Int))) gb p (c :: D) := by
  obtain ⟨cs, h1, h2, h3⟩ := h.ex
  refine ⟨cs.set p (.int .u8 (c.toNat : Int)), by rw [List.length_set, h1], h2.set_ _ _, fun j d hj => ?_⟩
  rcases j with _ | j
  · simp at hj
    subst hj
    show (cs.set p _)[p]? = _
    rw [List.getElem?_set_self (by omega)]
  · simp at hj
    rw [List.getElem?_set_ne (by omega)]
    have := h3 j d hj
    rw [← this]
    congr 1
    omega

set_option maxHeartbeats 4000000 in
theorem fmtBits (u : Nat) (hu : u ≤ 1114111) (w : World) (h : w.cell? ⟨11, 15, none⟩ = some (.int .u8 4)) (hg : 11 < w.heap.size) :
    Calls Tryz.prog 86 #[.slice none 0 0, .int .u64 (u : Int), .int .i64 16, .bool false, .bool false] w fun e w' => e = .returned (.tuple #[.slice none 0 0, .string ⟨(hexD u).toArray⟩]) ∧ Below w.heap.size w w' := by
  have HP : Hid (∀ W, Calls Tryz.prog 97 #[.int .i64 16] W fun e w' => e = .returned (.bool true) ∧ w' = W) := Lib.hid pow2_16
  have HT : Hid (∀ W, Below w.heap.size w W → Calls Tryz.prog 98 #[.int .u64 16] W fun e w' => e = .returned (.int .i64 4) ∧ w' = W) := Lib.hid (fun W hb => tz_16 W ((hb.cell (p := ⟨11, 15, none⟩) hg).trans h))
  clear h hg
  go_enter Tryz.func86, Tryz.ntmps86
  go_upto_region 5 with (fail)
  obtain ⟨gb, hgb⟩ : ∃ gb, gb = w.heap.size := ⟨_, rfl⟩
  obtain ⟨w1, hw1⟩ : ∃ w1, w1 = w.alloc (.cells Tryz.zeroCells156 156) := ⟨_, rfl⟩
  have hb1 : Below w.heap.size w w1 := by rw [hw1]; exact (Below.refl _ _).alloc (Nat.le_refl _) _
  have hk1 : Blk w1 gb 156 (Tryz.zeroCells156).toList := by rw [hw1, hgb]; exact Blk.new w _ _
  have hl1 : (Tryz.zeroCells156).toList.length = 65 := by kernel_rfl
  have HB1 := Lib.hid hb1; have HK1 := Lib.hid hk1; have HL1 := Lib.hid hl1; have HGB := Lib.hid hgb
  have HT1 := Lib.hid (HT.out w1 hb1)
  rw [← hw1, ← hgb]
  clear hw1 hb1 hk1 hl1 hgb HT
  go_wp2_with fail
  refine (HP.out w1).mono ?_
  rintro e w' ⟨rfl, rfl⟩
  go_wp2_with fail
  refine HT1.out.mono ?_
  rintro e w'' ⟨rfl, rfl⟩
  clear HT1 HP
  go_wp2_with fail
  have hstart : Hx w'' gb 65 [] := ⟨_, HL1.out, HK1.out, fun j c h => by simp at h⟩
  have HST := Lib.hid hstart
  have HGE : Hid (w.heap.size ≤ gb) := Lib.hid (Nat.le_of_eq HGB.out.symm)
  have hul : (hexD u).length ≤ 6 := (hexD_len 5 u (by omega)).2
  have HUL := Lib.hid hul
  clear hstart hul
  go_loopw [1, 13] (fun x i wr => ∃ (v p : Nat) (D : List UInt8), x = .int .u64 (v : Int) ∧ i = .int .i64 (p : Int) ∧ v ≤ u ∧ 60 ≤ p ∧ p ≤ 65 ∧ D.length + p = 65 ∧ Hid (hexD u = hexD v ++ D) ∧ Hid (Hx wr gb p D) ∧ Hid (Below w.heap.size w wr)) (fun x _ _ => (intOf x).toNat)
  case atStart => exact ⟨u, 65, [], rfl, rfl, Nat.le_refl _, by omega, by omega, rfl, Lib.hid (by rw [List.append_nil]), HST.out, HB1.out⟩
  case round =>
    as_aux_lemma =>
      clear HST HK1 HB1
      obtain ⟨v, p, D, rfl, rfl, hv, hp, hp2, hD, HE, HX, HB⟩ := hrel
      obtain ⟨p, rfl⟩ : ∃ q, p = q + 1 := ⟨p - 1, by omega⟩
      by_cases hbig : 16 ≤ v
      · as_aux_lemma =>
          have hx := HX.out.push (by omega) (hxd (v % 16))
          obtain ⟨hd1, hd2⟩ := dgs_at (v % 16) (by omega)
          have hand := and15 v (by omega)
          obtain ⟨cs, h1, h2, -⟩ := HX.out.ex
          have f1 := h2.frozen p
          obtain ⟨u0, hu0⟩ : ∃ u0, cs[p]? = some u0 := ⟨_, List.getElem?_eq_getElem (by omega)⟩
          have c1 := h2.cell hu0
          have HD : Hid (hexD u = hexD (v / 16) ++ (hxd (v % 16) :: D)) := Lib.hid (by rw [HE.out, hexD_ge (by omega), List.append_assoc]; rfl)
          have hk4 : 60 ≤ p := by
            have h3 := HD.out
            have h4 := congrArg List.length h3
            have h5 := (hexD_len 63 (v / 16) (by omega)).1
            rw [List.length_append, List.length_cons] at h4
            have := HUL.out
            omega
          have HX2 := Lib.hid hx
          have HB2 := Lib.hid (HB.out.setCell (p := ⟨gb, p, none⟩) HGE.out (.int .u8 ((hxd (v % 16)).toNat : Int)))
          have hb : ∀ h : v % 16 < dgs.size, ((dgs[v % 16]'h).toNat : Int) = ((hxd (v % 16)).toNat : Int) := fun h => by rw [byt_get dgs _ h, hd2]
          have hlt : v % 16 < 36 := by omega
          unfold dgs at hb
          clear hx h1 h2 hd2 hu0
          go_wp2_with fail
          refine ⟨⟨v / 16, p, hxd (v % 16) :: D, rfl, rfl, by omega, hk4, by omega, by rw [List.length_cons]; omega, HD, HX2, HB2⟩, ?_⟩
          simp only [intOf]
          omega
      · as_aux_lemma =>
          have hx := HX.out.push (by omega) (hxd v)
          obtain ⟨hd1, hd2⟩ := dgs_at v (by omega)
          obtain ⟨cs, h1, h2, -⟩ := HX.out.ex
          have f1 := h2.frozen p
          obtain ⟨u0, hu0⟩ : ∃ u0, cs[p]? = some u0 := ⟨_, List.getElem?_eq_getElem (by omega)⟩
          have c1 := h2.cell hu0
          have HD : Hid (hexD u = hxd v :: D) := Lib.hid (by rw [HE.out, hexD_lt (by omega)]; rfl)
          have HX2 := Lib.hid hx
          have HB2 := Lib.hid (HB.out.setCell (p := ⟨gb, p, none⟩) HGE.out (.int .u8 ((hxd v).toNat : Int)))
          have hb : ∀ h : v < dgs.size, ((dgs[v]'h).toNat : Int) = ((hxd v).toNat : Int) := fun h => by rw [byt_get dgs _ h, hd2]
          have hcv : ∀ W, Hx W gb p (hxd v :: D) → (convert 76 9 (.slice (some ⟨gb, p, none⟩) (65 - p) (65 - p))).run Tryz.prog W = .ok (.string ⟨(hexD u).toArray⟩) W := fun W hX => by
            obtain ⟨ds, g1, g2, g3⟩ := hX.ex
            have hlen : ((hexD u).map fun c => (c.toNat : Int)).length = 65 - p := by rw [List.length_map, HD.out, List.length_cons]; omega
            have := run_convert_bytes_arg (P := Tryz.prog) W 76 5 Tryz.underlying76 Tryz.underlying5 gb p (65 - p) (65 - p) ((hexD u).map fun c => (c.toNat : Int)) hlen (fun i hi => by
              obtain ⟨c, hc⟩ : ∃ c, (hexD u)[i]? = some c := ⟨_, List.getElem?_eq_getElem (by rw [List.length_map] at hlen; omega)⟩
              have e := g3 i c (by rw [← HD.out]; exact hc)
              rw [g2.cell e]
              simp [hc]) 9 Tryz.underlying9
            rw [this]
            congr 2
            apply ByteArray.ext
            apply Array.ext'
            rw [strOfNums_data, List.map_map]
            show _ = (hexD u).toArray.toList
            rw [List.toList_toArray]
            exact (List.map_congr_left (fun c _ => by simp)).trans (List.map_id _)
          have HCV := Lib.hid hcv
          have hal : Tryz.prog.arrayLen 156 = 65 := by simp [Program.arrayLen, Tryz.underlying156]
          have hsl : ∀ W, (Instr.sliceAt 156 (.pointer (some ⟨gb, 0, none⟩)) (some (.int .i64 (p : Int))) none none).run Tryz.prog W = .ok (.slice (some ⟨gb, p, none⟩) (65 - p) (65 - p)) W := fun W => by
            rw [run_sliceAt_array_l W 156 ⟨gb, 0, none⟩ (by simp [Program.arrayLen, Program.elem, Tryz.underlying156]) .i64 (p : Int) (by omega) (by rw [hal]; omega)]
            go_simp
            omega
          unfold dgs at hb
          have hcv2 := HCV.out _ HX2.out
          clear hx h1 h2 hd2 hu0 hcv hal
          go_wp2_with fail
          go_ret2
          exact ⟨rfl, HB2.out⟩

theorem fmtInt_any (u : Nat) (hu : u ≤ 1114111) (w : World) (h : w.cell? ⟨11, 15, none⟩ = some (.int .u8 4)) (hg : 11 < w.heap.size) :
    Calls Tryz.prog 61 #[.int .i64 (u : Int), .int .i64 16] w fun e w' => e = .returned (.string ⟨(hexD u).toArray⟩) ∧ Below w.heap.size w w' := by
  have HI : Hid (Calls Tryz.prog 64 #[.int .i64 (u : Int), .int .i64 16] w fun e w' => e = .returned (.string ⟨(hexD u).toArray⟩) ∧ Below w.heap.size w w') := Lib.hid (by
    have HF := Lib.hid (fmtBits u hu w h hg)
    have hw : IntKind.u64.wrap (u : Int) = (u : Int) := by rw [IntKind.wrap_u64]; omega
    have d0 : decide ((u : Int) < 0) = false := decide_eq_false (by omega)
    clear h hg
    go_enter Tryz.func64, Tryz.ntmps64
    go_wp2_with fail
    refine HF.out.mono ?_
    rintro e w1 ⟨rfl, hb1⟩
    have HB1 := Lib.hid hb1
    clear hb1
    go_wp2_with fail
    go_ret
    exact ⟨rfl, HB1.out⟩)
  clear h hg
  go_enter Tryz.func61, Tryz.ntmps61
  go_wp2_with fail
  refine HI.out.mono ?_
  rintro e w1 ⟨rfl, hb1⟩
  have HB1 := Lib.hid hb1
  clear hb1
  go_wp2_with fail
  go_ret
  exact ⟨rfl, HB1.out⟩
end Go.Proofs.YtaachamblagbhaaGreatDoor
namespace Go.Proofs.YtaachamblagbhaaGreatDoor
open Go.Shelf
def y_lays169_ren : Go.Shelf.Ren := ⟨fun | 169 => 44 | n => n, fun | 70 => 75 | 9 => 9 | 0 => 0 | 72 => 78 | 37 => 76 | 127 => 107 | 3 => 3 | 5 => 5 | n => n, fun | n => n⟩
theorem y_lays169 : Go.Proofs.Lays.n169 Tryz.prog y_lays169_ren := {
  mixed := by kernel_rfl
  f169 := Tryz.func44.trans (congrArg some (by kernel_rfl))
  t0 := Tryz.underlying0
  a0 := Tryz.isAgg0
  z0 := Tryz.sizeOf0
  v0 := Tryz.zeroValue0
  t3 := Tryz.underlying3
  a3 := Tryz.isAgg3
  z3 := Tryz.sizeOf3
  v3 := Tryz.zeroValue3
  t9 := Tryz.underlying9
  a9 := Tryz.isAgg9
  z9 := Tryz.sizeOf9
  v9 := Tryz.zeroValue9
  t37 := Tryz.underlying76
  a37 := Tryz.isAgg76
  z37 := Tryz.sizeOf76
  v37 := Tryz.zeroValue76
  t70 := Tryz.underlying75
  a70 := Tryz.isAgg75
  z70 := Tryz.sizeOf75
  v70 := Tryz.zeroValue75
  t72 := Tryz.underlying78
  a72 := Tryz.isAgg78
  z72 := Tryz.sizeOf78
  v72 := Tryz.zeroValue78
  t127 := Tryz.underlying107
  a127 := Tryz.isAgg107
  z127 := Tryz.sizeOf107
  v127 := Tryz.zeroValue107 }
theorem y_Builder_Extra_169 : Builder.Extra Tryz.prog y_lays169_ren := {
  sizeBuilder := by kernel_rfl
  liesBuilder := by kernel_rfl
  t5 := Tryz.underlying5
  a5 := Tryz.isAgg5
  z5 := Tryz.sizeOf5
  v5 := Tryz.zeroValue5
  infoByte := by kernel_rfl
  cellsByte := by kernel_rfl
  sizeByte := by kernel_rfl
  neB5 := by decide }
open Go.RowKit in
/-- (*strings.Builder).String: "String returns the accumulated string.": OF A BUILDER THAT HOLDS AT LEAST ONE BYTE. ✋ THE MODEL FREEZES THOSE BYTES IN THE BUFFER (unsafe.String): a later write INTO them ends the model's run without an answer; a later append BEHIND them goes on. The statement's order of evaluation is drawn: one draw. (LAID: no walk: one application.) -/
theorem y_Builder_String (B b : Nat) (l : List UInt8) (w : World) (h : Lib.IsBuilder 78 5 B b (Lib.byteCells l) w) (h0 : l ≠ []) :
    Calls Tryz.prog 44 #[.pointer (some ⟨b, 0, none⟩)] w fun e w' => e = .returned (.string ⟨l.toArray⟩) ∧ Below B w w' := Any.Builder_String y_lays169 y_Builder_Extra_169 B b l w h h0
open Go.RowKit in
/-- (*strings.Builder).String OF A BUILDER THAT HOLDS NO BYTE: the empty string. (Its buffer is nil, or a row of which it has taken nothing yet; where that row has NO capacity the model lays one new block for unsafe.SliceData's 'some address'.) One draw. (LAID: no walk: one application.) -/
theorem y_Builder_String_empty (B b : Nat) (w : World) (h : Lib.IsBuilder 78 5 B b [] w) (hBw : B ≤ w.heap.size) :
    Calls Tryz.prog 44 #[.pointer (some ⟨b, 0, none⟩)] w fun e w' => e = .returned (.string ⟨#[]⟩) ∧ Below B w w' := Any.Builder_String_empty y_lays169 y_Builder_Extra_169 B b w h hBw
open Go.RowKit in
/-- (*strings.Builder).String: "String returns the accumulated string.": WHATEVER THE BUILDER HOLDS. (LAID: no walk: one application.) -/
theorem y_Builder_String_any (B b : Nat) (l : List UInt8) (w : World) (h : Lib.IsBuilder 78 5 B b (Lib.byteCells l) w) (hBw : B ≤ w.heap.size) :
    Calls Tryz.prog 44 #[.pointer (some ⟨b, 0, none⟩)] w fun e w' => e = .returned (.string ⟨l.toArray⟩) ∧ Below B w w' := Any.Builder_String_any y_lays169 y_Builder_Extra_169 B b l w h hBw
def y_lays128_ren : Go.Shelf.Ren := ⟨fun | 128 => 79 | n => n, fun | 51 => 136 | 3 => 3 | 4 => 4 | 46 => 105 | 5 => 5 | 9 => 9 | n => n, fun | n => n⟩
theorem y_lays128 : Go.Proofs.Lays.n128 Tryz.prog y_lays128_ren := {
  mixed := by kernel_rfl
  f128 := Tryz.func79.trans (congrArg some (by kernel_rfl))
  t3 := Tryz.underlying3
  a3 := Tryz.isAgg3
  z3 := Tryz.sizeOf3
  v3 := Tryz.zeroValue3
  t4 := Tryz.underlying4
  a4 := Tryz.isAgg4
  z4 := Tryz.sizeOf4
  v4 := Tryz.zeroValue4
  t5 := Tryz.underlying5
  a5 := Tryz.isAgg5
  z5 := Tryz.sizeOf5
  v5 := Tryz.zeroValue5
  t9 := Tryz.underlying9
  a9 := Tryz.isAgg9
  z9 := Tryz.sizeOf9
  v9 := Tryz.zeroValue9
  t46 := Tryz.underlying105
  a46 := Tryz.isAgg105
  z46 := Tryz.sizeOf105
  v46 := Tryz.zeroValue105
  t51 := Tryz.underlying136
  a51 := Tryz.isAgg136
  z51 := Tryz.sizeOf136
  v51 := Tryz.zeroValue136 }
/-- bits.Len32: "Len32 returns the minimum number of bits required to represent x; the result is 0 for x == 0.": IT RETURNS 'Lib.bitLen x'; the world is as it was. ('h0', 'h1': x is a uint32.) (LAID: no walk: one application.) -/
theorem y_bits_Len32 (x : Int) (w : World) (h0 : 0 ≤ x) (h1 : x ≤ 4294967295) :
    Calls Tryz.prog 79 #[.int .u32 x] w fun e w' => e = .returned (.int .i64 (Lib.bitLen x.toNat)) ∧ w' = w := Any.bits_Len32 y_lays128 x w h0 h1
def y_lays125_ren : Go.Shelf.Ren := ⟨fun | 125 => 60 | 128 => 79 | 129 => 80 | n => n, fun | 46 => 105 | 3 => 3 | 51 => 136 | 53 => 138 | 4 => 4 | 5 => 5 | 9 => 9 | n => n, fun | n => n⟩
theorem y_lays125 : Go.Proofs.Lays.n125 Tryz.prog y_lays125_ren := {
  mixed := by kernel_rfl
  f125 := Tryz.func60.trans (congrArg some (by kernel_rfl))
  f128 := Tryz.func79.trans (congrArg some (by kernel_rfl))
  f129 := Tryz.func80.trans (congrArg some (by kernel_rfl))
  t3 := Tryz.underlying3
  a3 := Tryz.isAgg3
  z3 := Tryz.sizeOf3
  v3 := Tryz.zeroValue3
  t4 := Tryz.underlying4
  a4 := Tryz.isAgg4
  z4 := Tryz.sizeOf4
  v4 := Tryz.zeroValue4
  t5 := Tryz.underlying5
  a5 := Tryz.isAgg5
  z5 := Tryz.sizeOf5
  v5 := Tryz.zeroValue5
  t9 := Tryz.underlying9
  a9 := Tryz.isAgg9
  z9 := Tryz.sizeOf9
  v9 := Tryz.zeroValue9
  t46 := Tryz.underlying105
  a46 := Tryz.isAgg105
  z46 := Tryz.sizeOf105
  v46 := Tryz.zeroValue105
  t51 := Tryz.underlying136
  a51 := Tryz.isAgg136
  z51 := Tryz.sizeOf136
  v51 := Tryz.zeroValue136
  t53 := Tryz.underlying138
  a53 := Tryz.isAgg138
  z53 := Tryz.sizeOf138
  v53 := Tryz.zeroValue138 }
/-- bits.Len: "Len returns the minimum number of bits required to represent x; the result is 0 for x == 0.": IT RETURNS 'Lib.bitLen x'; the world is as it was. (A uint has 64 bits in the model.) ITS CALLEE bits.Len64 IS MET BY ITS OWN CONTRACT OFF THE SHELF (lay that first). (LAID: no walk: one application.) -/
theorem y_bits_Len (x : Int) (w : World) (h0 : 0 ≤ x) (h1 : x ≤ 18446744073709551615) :
    Calls Tryz.prog 60 #[.int .u64 x] w fun e w' => e = .returned (.int .i64 (Lib.bitLen x.toNat)) ∧ w' = w := Any.bits_Len y_lays125 x w h0 h1
open Go.RowKit in
/-- (*strings.Builder).String: "String returns the accumulated string.": OF A BUILDER THAT HOLDS AT LEAST ONE BYTE. ✋ THE MODEL FREEZES THOSE BYTES IN THE BUFFER (unsafe.String): a later write INTO them ends the model's run without an answer; a later append BEHIND them goes on. The statement's order of evaluation is drawn: one draw. THE FORM '_f': IT SAYS BESIDES THAT THE BUILDER IS A BUILDER STILL ('Lib.IsBuilderF', the same bytes): SO IT CAN BE WRITTEN ON: 'b.WriteString(b.String()[:k])'. (LAID: no walk: one application.) -/
theorem y_Builder_String_f (B b : Nat) (l : List UInt8) (w : World) (h : Lib.IsBuilderF 78 5 B b (Lib.byteCells l) w) (h0 : l ≠ []) :
    Calls Tryz.prog 44 #[.pointer (some ⟨b, 0, none⟩)] w fun e w' => e = .returned (.string ⟨l.toArray⟩) ∧ (Lib.IsBuilderF 78 5 B b (Lib.byteCells l) w' ∧ Below B w w') := Any.Builder_String_f y_lays169 y_Builder_Extra_169 B b l w h h0
open Go.RowKit in
/-- (*strings.Builder).String OF A BUILDER THAT HOLDS NO BYTE: the empty string; THE FORM '_f': a builder still. (LAID: no walk: one application.) -/
theorem y_Builder_String_empty_f (B b : Nat) (w : World) (h : Lib.IsBuilderF 78 5 B b [] w) (hBw : B ≤ w.heap.size) :
    Calls Tryz.prog 44 #[.pointer (some ⟨b, 0, none⟩)] w fun e w' => e = .returned (.string ⟨#[]⟩) ∧ (Lib.IsBuilderF 78 5 B b [] w' ∧ Below B w w') := Any.Builder_String_empty_f y_lays169 y_Builder_Extra_169 B b w h hBw
open Go.RowKit in
/-- (*strings.Builder).String: "String returns the accumulated string.": WHATEVER THE BUILDER HOLDS; THE FORM '_f': OF A BUILDER THAT MAY HAVE BEEN READ BEFORE; AND IT IS A BUILDER STILL, holding the same bytes: it can be written on. (LAID: no walk: one application.) -/
theorem y_Builder_String_any_f (B b : Nat) (l : List UInt8) (w : World) (h : Lib.IsBuilderF 78 5 B b (Lib.byteCells l) w) (hBw : B ≤ w.heap.size) :
    Calls Tryz.prog 44 #[.pointer (some ⟨b, 0, none⟩)] w fun e w' => e = .returned (.string ⟨l.toArray⟩) ∧ (Lib.IsBuilderF 78 5 B b (Lib.byteCells l) w' ∧ Below B w w') := Any.Builder_String_any_f y_lays169 y_Builder_Extra_169 B b l w h hBw
open Go.RowKit in
/-- (*strings.Builder).String: "String returns the accumulated string.": OF A BUILDER THAT HOLDS AT LEAST ONE BYTE. ✋ THE MODEL FREEZES THOSE BYTES IN THE BUFFER (unsafe.String): a later write INTO them ends the model's run without an answer; a later append BEHIND them goes on. The statement's order of evaluation is drawn: one draw. THE FORM '_k': OVER 'Lib.IsBuilderF' (a builder that 'String()' may have read), AND WITH THE FRAME THAT REACHES ABOVE THE BUILDER: 'Lib.OthersKept': every block that is not b and is no row of uint8's stands as it stood: the iterator of a range among them. (LAID: no walk: one application.) -/
theorem y_Builder_String_k (B b : Nat) (l : List UInt8) (w : World) (h : Lib.IsBuilderF 78 5 B b (Lib.byteCells l) w) (h0 : l ≠ []) :
    Calls Tryz.prog 44 #[.pointer (some ⟨b, 0, none⟩)] w fun e w' => e = .returned (.string ⟨l.toArray⟩) ∧ (Lib.IsBuilderF 78 5 B b (Lib.byteCells l) w' ∧ Below B w w' ∧ Lib.OthersKept 5 (some b) w w') := Any.Builder_String_k y_lays169 y_Builder_Extra_169 B b l w h h0
open Go.RowKit in
/-- (*strings.Builder).String OF A BUILDER THAT HOLDS NO BYTE: the empty string; THE FORM '_k': OVER 'Lib.IsBuilderF' (a builder that 'String()' may have read), AND WITH THE FRAME THAT REACHES ABOVE THE BUILDER: 'Lib.OthersKept': every block that is not b and is no row of uint8's stands as it stood: the iterator of a range among them. (LAID: no walk: one application.) -/
theorem y_Builder_String_empty_k (B b : Nat) (w : World) (h : Lib.IsBuilderF 78 5 B b [] w) (hBw : B ≤ w.heap.size) :
    Calls Tryz.prog 44 #[.pointer (some ⟨b, 0, none⟩)] w fun e w' => e = .returned (.string ⟨#[]⟩) ∧ (Lib.IsBuilderF 78 5 B b [] w' ∧ Below B w w' ∧ Lib.OthersKept 5 (some b) w w') := Any.Builder_String_empty_k y_lays169 y_Builder_Extra_169 B b w h hBw
open Go.RowKit in
/-- (*strings.Builder).String: "String returns the accumulated string.": WHATEVER THE BUILDER HOLDS; THE FORM '_k': OVER 'Lib.IsBuilderF' (a builder that 'String()' may have read), AND WITH THE FRAME THAT REACHES ABOVE THE BUILDER: 'Lib.OthersKept': every block that is not b and is no row of uint8's stands as it stood: the iterator of a range among them. (LAID: no walk: one application.) -/
theorem y_Builder_String_any_k (B b : Nat) (l : List UInt8) (w : World) (h : Lib.IsBuilderF 78 5 B b (Lib.byteCells l) w) (hBw : B ≤ w.heap.size) :
    Calls Tryz.prog 44 #[.pointer (some ⟨b, 0, none⟩)] w fun e w' => e = .returned (.string ⟨l.toArray⟩) ∧ (Lib.IsBuilderF 78 5 B b (Lib.byteCells l) w' ∧ Below B w w' ∧ Lib.OthersKept 5 (some b) w w') := Any.Builder_String_any_k y_lays169 y_Builder_Extra_169 B b l w h hBw
def y_lays129_ren : Go.Shelf.Ren := ⟨fun | 129 => 80 | n => n, fun | 53 => 138 | 3 => 3 | 4 => 4 | 46 => 105 | 5 => 5 | 9 => 9 | n => n, fun | n => n⟩
theorem y_lays129 : Go.Proofs.Lays.n129 Tryz.prog y_lays129_ren := {
  mixed := by kernel_rfl
  f129 := Tryz.func80.trans (congrArg some (by kernel_rfl))
  t3 := Tryz.underlying3
  a3 := Tryz.isAgg3
  z3 := Tryz.sizeOf3
  v3 := Tryz.zeroValue3
  t4 := Tryz.underlying4
  a4 := Tryz.isAgg4
  z4 := Tryz.sizeOf4
  v4 := Tryz.zeroValue4
  t5 := Tryz.underlying5
  a5 := Tryz.isAgg5
  z5 := Tryz.sizeOf5
  v5 := Tryz.zeroValue5
  t9 := Tryz.underlying9
  a9 := Tryz.isAgg9
  z9 := Tryz.sizeOf9
  v9 := Tryz.zeroValue9
  t46 := Tryz.underlying105
  a46 := Tryz.isAgg105
  z46 := Tryz.sizeOf105
  v46 := Tryz.zeroValue105
  t53 := Tryz.underlying138
  a53 := Tryz.isAgg138
  z53 := Tryz.sizeOf138
  v53 := Tryz.zeroValue138 }
/-- bits.Len64: "Len64 returns the minimum number of bits required to represent x; the result is 0 for x == 0.": IT RETURNS 'Lib.bitLen x'; the world is as it was. ('h0', 'h1': x is a uint64.) (LAID: no walk: one application.) -/
theorem y_bits_Len64 (x : Int) (w : World) (h0 : 0 ≤ x) (h1 : x ≤ 18446744073709551615) :
    Calls Tryz.prog 80 #[.int .u64 x] w fun e w' => e = .returned (.int .i64 (Lib.bitLen x.toNat)) ∧ w' = w := Any.bits_Len64 y_lays129 x w h0 h1
def y_lays317_ren : Go.Shelf.Ren := ⟨fun | 317 => 95 | n => n, fun | 3 => 3 | 46 => 105 | n => n, fun | n => n⟩
theorem y_lays317 : Go.Proofs.Lays.n317 Tryz.prog y_lays317_ren := {
  mixed := by kernel_rfl
  f317 := Tryz.func95.trans (congrArg some (by kernel_rfl))
  t3 := Tryz.underlying3
  a3 := Tryz.isAgg3
  z3 := Tryz.sizeOf3
  v3 := Tryz.zeroValue3
  t46 := Tryz.underlying105
  a46 := Tryz.isAgg105
  z46 := Tryz.sizeOf105
  v46 := Tryz.zeroValue105 }
open Go.Lib in
/-- internal/strconv.log10Pow2: "log10Pow2(x) returns ⌊log₁₀ 2**x⌋ = ⌊x * log₁₀ 2⌋.": '(x * 78913) >> 18', at an x up to 64 (a length in bits). The world is as it was. (LAID: no walk: one application.) -/
theorem y_internal_strconv_log10Pow2 (x : Nat) (h : x ≤ 64) (w : World) :
    Calls Tryz.prog 95 #[.int .i64 x] w fun e w' => e = .returned (.int .i64 (Lib.l10 x)) ∧ w' = w := Any.internal_strconv_log10Pow2 y_lays317 x h w
def y_lays318_ren : Go.Shelf.Ren := ⟨fun | 318 => 96 | n => n, fun | 3 => 3 | 4 => 4 | n => n, fun | n => n⟩
theorem y_lays318 : Go.Proofs.Lays.n318 Tryz.prog y_lays318_ren := {
  mixed := by kernel_rfl
  f318 := Tryz.func96.trans (congrArg some (by kernel_rfl))
  t3 := Tryz.underlying3
  a3 := Tryz.isAgg3
  z3 := Tryz.sizeOf3
  v3 := Tryz.zeroValue3
  t4 := Tryz.underlying4
  a4 := Tryz.isAgg4
  z4 := Tryz.sizeOf4
  v4 := Tryz.zeroValue4 }
open Go.Lib in
/-- internal/strconv.bool2: "bool2 converts b to an integer: 1 for true, 0 for false." The world is as it was. (LAID: no walk: one application.) -/
theorem y_internal_strconv_bool2_int (b : Bool) (w : World) :
    Calls Tryz.prog 96 #[.bool b] w fun e w' => e = .returned (.int .i64 (if b then 1 else 0)) ∧ w' = w := Any.internal_strconv_bool2_int y_lays318 b w
def y_lays283_ren : Go.Shelf.Ren := ⟨fun | 283 => 83 | n => n, fun | 3 => 3 | 9 => 9 | 4 => 4 | n => n, fun | n => n⟩
theorem y_lays283 : Go.Proofs.Lays.n283 Tryz.prog y_lays283_ren := {
  mixed := by kernel_rfl
  f283 := Tryz.func83.trans (congrArg some (by kernel_rfl))
  t3 := Tryz.underlying3
  a3 := Tryz.isAgg3
  z3 := Tryz.sizeOf3
  v3 := Tryz.zeroValue3
  t4 := Tryz.underlying4
  a4 := Tryz.isAgg4
  z4 := Tryz.sizeOf4
  v4 := Tryz.zeroValue4
  t9 := Tryz.underlying9
  a9 := Tryz.isAgg9
  z9 := Tryz.sizeOf9
  v9 := Tryz.zeroValue9 }
open Go.Lib in
/-- internal/strconv.small: "small returns the string for an i with 0 <= i < nSmalls.": i's decimal numeral. The world is as it was. (LAID: no walk: one application.) -/
theorem y_internal_strconv_small (i : Nat) (h : i < 100) (w : World) :
    Calls Tryz.prog 83 #[.int .i64 i] w fun e w' => e = .returned (.string ⟨(Lib.decDigits i).toArray⟩) ∧ w' = w := Any.internal_strconv_small y_lays283 i h w
def y_laysM284_ren : Go.Shelf.Ren := ⟨fun | 284 => 84 | 129 => 80 | 317 => 95 | 318 => 96 | n => n, fun | 53 => 138 | 3 => 3 | 212 => 155 | 0 => 0 | 4 => 4 | 46 => 105 | 5 => 5 | 9 => 9 | n => n, fun | 17 => 9 | n => n⟩
theorem y_laysM284 : Go.Proofs.LaysM.n284 Tryz.prog y_laysM284_ren := {
  mixed := by kernel_rfl
  f129 := Tryz.func80.trans (congrArg some (by kernel_rfl))
  f284 := Tryz.func84.trans (congrArg some (by kernel_rfl))
  f317 := Tryz.func95.trans (congrArg some (by kernel_rfl))
  f318 := Tryz.func96.trans (congrArg some (by kernel_rfl))
  t0 := Tryz.underlying0
  a0 := Tryz.isAgg0
  z0 := Tryz.sizeOf0
  v0 := Tryz.zeroValue0
  t3 := Tryz.underlying3
  a3 := Tryz.isAgg3
  z3 := Tryz.sizeOf3
  v3 := Tryz.zeroValue3
  t4 := Tryz.underlying4
  a4 := Tryz.isAgg4
  z4 := Tryz.sizeOf4
  v4 := Tryz.zeroValue4
  t5 := Tryz.underlying5
  a5 := Tryz.isAgg5
  z5 := Tryz.sizeOf5
  v5 := Tryz.zeroValue5
  t9 := Tryz.underlying9
  a9 := Tryz.isAgg9
  z9 := Tryz.sizeOf9
  v9 := Tryz.zeroValue9
  t46 := Tryz.underlying105
  a46 := Tryz.isAgg105
  z46 := Tryz.sizeOf105
  v46 := Tryz.zeroValue105
  t53 := Tryz.underlying138
  a53 := Tryz.isAgg138
  z53 := Tryz.sizeOf138
  v53 := Tryz.zeroValue138
  t212 := Tryz.underlying155
  a212 := Tryz.isAgg155
  z212 := Tryz.sizeOf155
  v212 := Tryz.zeroValue155
  g17 := by kernel_rfl
  i0 := by kernel_rfl
  i3 := by kernel_rfl
  i4 := by kernel_rfl
  i5 := by kernel_rfl
  i9 := by kernel_rfl
  i46 := by kernel_rfl
  i53 := by kernel_rfl
  i212 := by kernel_rfl
  m17 := by kernel_rfl }
open Go.Lib in
/-- internal/strconv.numDigits, at a d that is not 0: THE NUMBER OF d's DECIMAL DIGITS. The world is as it was. (LAID: no walk: one application.) -/
theorem y_internal_strconv_numDigits (u : Nat) (h1 : 1 ≤ u) (h2 : u < 18446744073709551616) (w : World) (htab : Lib.TabIs Tryz.prog w "internal/strconv.uint64pow10" .u64 Lib.pow10Tab) :
    Calls Tryz.prog 84 #[.int .u64 u] w fun e w' => e = .returned (.int .i64 (Lib.nDigits u)) ∧ w' = w := Any.internal_strconv_numDigits y_laysM284 u h1 h2 w htab
def y_lays285_ren : Go.Shelf.Ren := ⟨fun | 285 => 85 | n => n, fun | 37 => 76 | 53 => 138 | 3 => 3 | 4 => 4 | 51 => 136 | 9 => 9 | 5 => 5 | 0 => 0 | n => n, fun | n => n⟩
theorem y_lays285 : Go.Proofs.Lays.n285 Tryz.prog y_lays285_ren := {
  mixed := by kernel_rfl
  f285 := Tryz.func85.trans (congrArg some (by kernel_rfl))
  t0 := Tryz.underlying0
  a0 := Tryz.isAgg0
  z0 := Tryz.sizeOf0
  v0 := Tryz.zeroValue0
  t3 := Tryz.underlying3
  a3 := Tryz.isAgg3
  z3 := Tryz.sizeOf3
  v3 := Tryz.zeroValue3
  t4 := Tryz.underlying4
  a4 := Tryz.isAgg4
  z4 := Tryz.sizeOf4
  v4 := Tryz.zeroValue4
  t5 := Tryz.underlying5
  a5 := Tryz.isAgg5
  z5 := Tryz.sizeOf5
  v5 := Tryz.zeroValue5
  t9 := Tryz.underlying9
  a9 := Tryz.isAgg9
  z9 := Tryz.sizeOf9
  v9 := Tryz.zeroValue9
  t37 := Tryz.underlying76
  a37 := Tryz.isAgg76
  z37 := Tryz.sizeOf76
  v37 := Tryz.zeroValue76
  t51 := Tryz.underlying136
  a51 := Tryz.isAgg136
  z51 := Tryz.sizeOf136
  v51 := Tryz.zeroValue136
  t53 := Tryz.underlying138
  a53 := Tryz.isAgg138
  z53 := Tryz.sizeOf138
  v53 := Tryz.zeroValue138 }
open Go.RowKit Go.Sort Go.Lib in
/-- internal/strconv.formatBase10: "formatBase10 formats the decimal representation of u into a. The caller is responsible for ensuring that a is big enough to hold u. If a is too big, leading zeros will be filled in as needed.": THE ROW HOLDS u's DIGITS ('FmtInv .. 0 ..': every place t holds 'dg u (len - 1 - t)'); all else is as it was but for the count of draws. (LAID: no walk: one application.) -/
theorem y_internal_strconv_formatBase10 (blk off cap : Nat) (u : Nat) (d : Array UInt8) (w : World) (hH : Holds (fun (b : UInt8) => Value.int .u8 (b.toNat : Int)) w blk off d) (hu : u < 10 ^ d.size) (hu64 : u < 18446744073709551616) (hsz : d.size < 4611686018427387904) :
    Calls Tryz.prog 85 #[.slice (some ⟨blk, off, none⟩) d.size cap, .int .u64 u] w fun e w' =>
      e = .returned (.tuple #[]) ∧ ∃ (n v' : Nat) (dk : Array UInt8), w' = (putRow (fun (b : UInt8) => Value.int .u8 (b.toNat : Int)) w blk off dk).drewN n ∧ FmtInv d.size u 0 v' dk := Any.internal_strconv_formatBase10 y_lays285 blk off cap u d w hH hu hu64 hsz
def y_laysM246_ren : Go.Shelf.Ren := ⟨fun | 246 => 64 | 283 => 83 | 284 => 84 | 285 => 85 | 286 => 86 | 129 => 80 | 317 => 95 | 318 => 96 | 319 => 97 | 320 => 98 | 337 => 104 | 338 => 105 | n => n, fun | 2 => 2 | 3 => 3 | 9 => 9 | 4 => 4 | 171 => 141 | 0 => 0 | 53 => 138 | 37 => 76 | 5 => 5 | 173 => 143 | 212 => 155 | 51 => 136 | 20 => 20 | 213 => 156 | 46 => 105 | 232 => 163 | 233 => 164 | n => n, fun | 17 => 9 | 18 => 10 | 19 => 11 | n => n⟩
theorem y_laysM246 : Go.Proofs.LaysM.n246 Tryz.prog y_laysM246_ren := {
  mixed := by kernel_rfl
  f129 := Tryz.func80.trans (congrArg some (by kernel_rfl))
  f246 := Tryz.func64.trans (congrArg some (by kernel_rfl))
  f283 := Tryz.func83.trans (congrArg some (by kernel_rfl))
  f284 := Tryz.func84.trans (congrArg some (by kernel_rfl))
  f285 := Tryz.func85.trans (congrArg some (by kernel_rfl))
  f286 := Tryz.func86.trans (congrArg some (by kernel_rfl))
  f317 := Tryz.func95.trans (congrArg some (by kernel_rfl))
  f318 := Tryz.func96.trans (congrArg some (by kernel_rfl))
  f319 := Tryz.func97.trans (congrArg some (by kernel_rfl))
  f320 := Tryz.func98.trans (congrArg some (by kernel_rfl))
  f337 := Tryz.func104.trans (congrArg some (by kernel_rfl))
  f338 := Tryz.func105.trans (congrArg some (by kernel_rfl))
  t0 := Tryz.underlying0
  a0 := Tryz.isAgg0
  z0 := Tryz.sizeOf0
  v0 := Tryz.zeroValue0
  t2 := Tryz.underlying2
  a2 := Tryz.isAgg2
  z2 := Tryz.sizeOf2
  v2 := Tryz.zeroValue2
  t3 := Tryz.underlying3
  a3 := Tryz.isAgg3
  z3 := Tryz.sizeOf3
  v3 := Tryz.zeroValue3
  t4 := Tryz.underlying4
  a4 := Tryz.isAgg4
  z4 := Tryz.sizeOf4
  v4 := Tryz.zeroValue4
  t5 := Tryz.underlying5
  a5 := Tryz.isAgg5
  z5 := Tryz.sizeOf5
  v5 := Tryz.zeroValue5
  t9 := Tryz.underlying9
  a9 := Tryz.isAgg9
  z9 := Tryz.sizeOf9
  v9 := Tryz.zeroValue9
  t20 := Tryz.underlying20
  a20 := Tryz.isAgg20
  z20 := Tryz.sizeOf20
  v20 := Tryz.zeroValue20
  t37 := Tryz.underlying76
  a37 := Tryz.isAgg76
  z37 := Tryz.sizeOf76
  v37 := Tryz.zeroValue76
  t46 := Tryz.underlying105
  a46 := Tryz.isAgg105
  z46 := Tryz.sizeOf105
  v46 := Tryz.zeroValue105
  t51 := Tryz.underlying136
  a51 := Tryz.isAgg136
  z51 := Tryz.sizeOf136
  v51 := Tryz.zeroValue136
  t53 := Tryz.underlying138
  a53 := Tryz.isAgg138
  z53 := Tryz.sizeOf138
  v53 := Tryz.zeroValue138
  t171 := Tryz.underlying141
  a171 := Tryz.isAgg141
  z171 := Tryz.sizeOf141
  v171 := Tryz.zeroValue141
  t173 := Tryz.underlying143
  a173 := Tryz.isAgg143
  z173 := Tryz.sizeOf143
  v173 := Tryz.zeroValue143
  t212 := Tryz.underlying155
  a212 := Tryz.isAgg155
  z212 := Tryz.sizeOf155
  v212 := Tryz.zeroValue155
  t213 := Tryz.underlying156
  a213 := Tryz.isAgg156
  z213 := Tryz.sizeOf156
  t232 := Tryz.underlying163
  a232 := Tryz.isAgg163
  z232 := Tryz.sizeOf163
  v232 := Tryz.zeroValue163
  t233 := Tryz.underlying164
  a233 := Tryz.isAgg164
  z233 := Tryz.sizeOf164
  v233 := Tryz.zeroValue164
  g17 := by kernel_rfl
  g18 := by kernel_rfl
  g19 := by kernel_rfl
  i0 := by kernel_rfl
  i2 := by kernel_rfl
  i3 := by kernel_rfl
  i4 := by kernel_rfl
  i5 := by kernel_rfl
  i9 := by kernel_rfl
  i20 := by kernel_rfl
  i37 := by kernel_rfl
  i46 := by kernel_rfl
  i51 := by kernel_rfl
  i53 := by kernel_rfl
  i171 := by kernel_rfl
  i173 := by kernel_rfl
  i212 := by kernel_rfl
  i232 := by kernel_rfl
  i233 := by kernel_rfl
  m17 := by kernel_rfl
  m18 := by kernel_rfl
  m19 := by kernel_rfl }
open Go.RowKit Go.Sort Go.Lib in
/-- internal/strconv.FormatInt: "FormatInt returns the string representation of i in the given base": AT BASE 10: i's decimal numeral, for every int64. The world behind the call: the world before it, new blocks behind the heap, draws. (LAID: no walk: one application.) -/
theorem y_internal_strconv_FormatInt_10 (n : Int) (h0 : -9223372036854775808 ≤ n) (h1 : n ≤ 9223372036854775807) (w : World) (htab : Lib.TabIs Tryz.prog w "internal/strconv.uint64pow10" .u64 Lib.pow10Tab) :
    Calls Tryz.prog 64 #[.int .i64 n, .int .i64 10] w fun e w' => e = .returned (.string ⟨(Lib.itoa n).toArray⟩) ∧ ∃ k os, w' = grow (w.drewN k) os := Any.internal_strconv_FormatInt_10 y_laysM246 n h0 h1 w htab
def y_lays246_ren : Go.Shelf.Ren := ⟨fun | 246 => 64 | 283 => 83 | 284 => 84 | 285 => 85 | 286 => 86 | 129 => 80 | 317 => 95 | 318 => 96 | 319 => 97 | 320 => 98 | 337 => 104 | 338 => 105 | n => n, fun | 2 => 2 | 3 => 3 | 9 => 9 | 4 => 4 | 171 => 141 | 0 => 0 | 53 => 138 | 37 => 76 | 5 => 5 | 173 => 143 | 212 => 155 | 51 => 136 | 20 => 20 | 213 => 156 | 46 => 105 | 232 => 163 | 233 => 164 | n => n, fun | 17 => 9 | 18 => 10 | 19 => 11 | n => n⟩
theorem y_lays246 : Go.Proofs.Lays.n246 Tryz.prog y_lays246_ren := {
  mixed := by kernel_rfl
  f129 := Tryz.func80.trans (congrArg some (by kernel_rfl))
  f246 := Tryz.func64.trans (congrArg some (by kernel_rfl))
  f283 := Tryz.func83.trans (congrArg some (by kernel_rfl))
  f284 := Tryz.func84.trans (congrArg some (by kernel_rfl))
  f285 := Tryz.func85.trans (congrArg some (by kernel_rfl))
  f286 := Tryz.func86.trans (congrArg some (by kernel_rfl))
  f317 := Tryz.func95.trans (congrArg some (by kernel_rfl))
  f318 := Tryz.func96.trans (congrArg some (by kernel_rfl))
  f319 := Tryz.func97.trans (congrArg some (by kernel_rfl))
  f320 := Tryz.func98.trans (congrArg some (by kernel_rfl))
  f337 := Tryz.func104.trans (congrArg some (by kernel_rfl))
  f338 := Tryz.func105.trans (congrArg some (by kernel_rfl))
  t0 := Tryz.underlying0
  a0 := Tryz.isAgg0
  z0 := Tryz.sizeOf0
  v0 := Tryz.zeroValue0
  t2 := Tryz.underlying2
  a2 := Tryz.isAgg2
  z2 := Tryz.sizeOf2
  v2 := Tryz.zeroValue2
  t3 := Tryz.underlying3
  a3 := Tryz.isAgg3
  z3 := Tryz.sizeOf3
  v3 := Tryz.zeroValue3
  t4 := Tryz.underlying4
  a4 := Tryz.isAgg4
  z4 := Tryz.sizeOf4
  v4 := Tryz.zeroValue4
  t5 := Tryz.underlying5
  a5 := Tryz.isAgg5
  z5 := Tryz.sizeOf5
  v5 := Tryz.zeroValue5
  t9 := Tryz.underlying9
  a9 := Tryz.isAgg9
  z9 := Tryz.sizeOf9
  v9 := Tryz.zeroValue9
  t20 := Tryz.underlying20
  a20 := Tryz.isAgg20
  z20 := Tryz.sizeOf20
  v20 := Tryz.zeroValue20
  t37 := Tryz.underlying76
  a37 := Tryz.isAgg76
  z37 := Tryz.sizeOf76
  v37 := Tryz.zeroValue76
  t46 := Tryz.underlying105
  a46 := Tryz.isAgg105
  z46 := Tryz.sizeOf105
  v46 := Tryz.zeroValue105
  t51 := Tryz.underlying136
  a51 := Tryz.isAgg136
  z51 := Tryz.sizeOf136
  v51 := Tryz.zeroValue136
  t53 := Tryz.underlying138
  a53 := Tryz.isAgg138
  z53 := Tryz.sizeOf138
  v53 := Tryz.zeroValue138
  t171 := Tryz.underlying141
  a171 := Tryz.isAgg141
  z171 := Tryz.sizeOf141
  v171 := Tryz.zeroValue141
  t173 := Tryz.underlying143
  a173 := Tryz.isAgg143
  z173 := Tryz.sizeOf143
  v173 := Tryz.zeroValue143
  t212 := Tryz.underlying155
  a212 := Tryz.isAgg155
  z212 := Tryz.sizeOf155
  v212 := Tryz.zeroValue155
  t213 := Tryz.underlying156
  a213 := Tryz.isAgg156
  z213 := Tryz.sizeOf156
  t232 := Tryz.underlying163
  a232 := Tryz.isAgg163
  z232 := Tryz.sizeOf163
  v232 := Tryz.zeroValue163
  t233 := Tryz.underlying164
  a233 := Tryz.isAgg164
  z233 := Tryz.sizeOf164
  v233 := Tryz.zeroValue164
  g17 := by kernel_rfl
  g18 := by kernel_rfl
  g19 := by kernel_rfl }
open Go.RowKit Go.Sort Go.Lib in
/-- THE ROAD WITHOUT THE TABLE: 0 <= i < 100: two constants are read, nothing is laid: no premise on the world, and the world is as it was. (LAID: no walk: one application.) -/
theorem y_internal_strconv_FormatInt_10_small (i : Nat) (hi : i < 100) (w : World) :
    Calls Tryz.prog 64 #[.int .i64 i, .int .i64 10] w fun e w' => e = .returned (.string ⟨(Lib.decDigits i).toArray⟩) ∧ w' = w := Any.internal_strconv_FormatInt_10_small y_lays246 i hi w
def y_laysM243_ren : Go.Shelf.Ren := ⟨fun | 243 => 45 | 246 => 64 | 283 => 83 | 284 => 84 | 285 => 85 | 286 => 86 | 129 => 80 | 317 => 95 | 318 => 96 | 319 => 97 | 320 => 98 | 337 => 104 | 338 => 105 | n => n, fun | 3 => 3 | 9 => 9 | 2 => 2 | 4 => 4 | 171 => 141 | 0 => 0 | 53 => 138 | 37 => 76 | 5 => 5 | 173 => 143 | 212 => 155 | 51 => 136 | 20 => 20 | 213 => 156 | 46 => 105 | 232 => 163 | 233 => 164 | n => n, fun | 17 => 9 | 18 => 10 | 19 => 11 | n => n⟩
theorem y_laysM243 : Go.Proofs.LaysM.n243 Tryz.prog y_laysM243_ren := {
  mixed := by kernel_rfl
  f129 := Tryz.func80.trans (congrArg some (by kernel_rfl))
  f243 := Tryz.func45.trans (congrArg some (by kernel_rfl))
  f246 := Tryz.func64.trans (congrArg some (by kernel_rfl))
  f283 := Tryz.func83.trans (congrArg some (by kernel_rfl))
  f284 := Tryz.func84.trans (congrArg some (by kernel_rfl))
  f285 := Tryz.func85.trans (congrArg some (by kernel_rfl))
  f286 := Tryz.func86.trans (congrArg some (by kernel_rfl))
  f317 := Tryz.func95.trans (congrArg some (by kernel_rfl))
  f318 := Tryz.func96.trans (congrArg some (by kernel_rfl))
  f319 := Tryz.func97.trans (congrArg some (by kernel_rfl))
  f320 := Tryz.func98.trans (congrArg some (by kernel_rfl))
  f337 := Tryz.func104.trans (congrArg some (by kernel_rfl))
  f338 := Tryz.func105.trans (congrArg some (by kernel_rfl))
  t0 := Tryz.underlying0
  a0 := Tryz.isAgg0
  z0 := Tryz.sizeOf0
  v0 := Tryz.zeroValue0
  t2 := Tryz.underlying2
  a2 := Tryz.isAgg2
  z2 := Tryz.sizeOf2
  v2 := Tryz.zeroValue2
  t3 := Tryz.underlying3
  a3 := Tryz.isAgg3
  z3 := Tryz.sizeOf3
  v3 := Tryz.zeroValue3
  t4 := Tryz.underlying4
  a4 := Tryz.isAgg4
  z4 := Tryz.sizeOf4
  v4 := Tryz.zeroValue4
  t5 := Tryz.underlying5
  a5 := Tryz.isAgg5
  z5 := Tryz.sizeOf5
  v5 := Tryz.zeroValue5
  t9 := Tryz.underlying9
  a9 := Tryz.isAgg9
  z9 := Tryz.sizeOf9
  v9 := Tryz.zeroValue9
  t20 := Tryz.underlying20
  a20 := Tryz.isAgg20
  z20 := Tryz.sizeOf20
  v20 := Tryz.zeroValue20
  t37 := Tryz.underlying76
  a37 := Tryz.isAgg76
  z37 := Tryz.sizeOf76
  v37 := Tryz.zeroValue76
  t46 := Tryz.underlying105
  a46 := Tryz.isAgg105
  z46 := Tryz.sizeOf105
  v46 := Tryz.zeroValue105
  t51 := Tryz.underlying136
  a51 := Tryz.isAgg136
  z51 := Tryz.sizeOf136
  v51 := Tryz.zeroValue136
  t53 := Tryz.underlying138
  a53 := Tryz.isAgg138
  z53 := Tryz.sizeOf138
  v53 := Tryz.zeroValue138
  t171 := Tryz.underlying141
  a171 := Tryz.isAgg141
  z171 := Tryz.sizeOf141
  v171 := Tryz.zeroValue141
  t173 := Tryz.underlying143
  a173 := Tryz.isAgg143
  z173 := Tryz.sizeOf143
  v173 := Tryz.zeroValue143
  t212 := Tryz.underlying155
  a212 := Tryz.isAgg155
  z212 := Tryz.sizeOf155
  v212 := Tryz.zeroValue155
  t213 := Tryz.underlying156
  a213 := Tryz.isAgg156
  z213 := Tryz.sizeOf156
  t232 := Tryz.underlying163
  a232 := Tryz.isAgg163
  z232 := Tryz.sizeOf163
  v232 := Tryz.zeroValue163
  t233 := Tryz.underlying164
  a233 := Tryz.isAgg164
  z233 := Tryz.sizeOf164
  v233 := Tryz.zeroValue164
  g17 := by kernel_rfl
  g18 := by kernel_rfl
  g19 := by kernel_rfl
  i0 := by kernel_rfl
  i2 := by kernel_rfl
  i3 := by kernel_rfl
  i4 := by kernel_rfl
  i5 := by kernel_rfl
  i9 := by kernel_rfl
  i20 := by kernel_rfl
  i37 := by kernel_rfl
  i46 := by kernel_rfl
  i51 := by kernel_rfl
  i53 := by kernel_rfl
  i171 := by kernel_rfl
  i173 := by kernel_rfl
  i212 := by kernel_rfl
  i232 := by kernel_rfl
  i233 := by kernel_rfl
  m17 := by kernel_rfl
  m18 := by kernel_rfl
  m19 := by kernel_rfl }
open Go.RowKit Go.Sort Go.Lib in
/-- internal/strconv.Itoa: "Itoa is equivalent to FormatInt(int64(i), 10).": i's decimal numeral, for every int. (LAID: no walk: one application.) -/
theorem y_internal_strconv_Itoa (n : Int) (h0 : -9223372036854775808 ≤ n) (h1 : n ≤ 9223372036854775807) (w : World) (htab : Lib.TabIs Tryz.prog w "internal/strconv.uint64pow10" .u64 Lib.pow10Tab) :
    Calls Tryz.prog 45 #[.int .i64 n] w fun e w' => e = .returned (.string ⟨(Lib.itoa n).toArray⟩) ∧ ∃ k os, w' = grow (w.drewN k) os := Any.internal_strconv_Itoa y_laysM243 n h0 h1 w htab
def y_lays243_ren : Go.Shelf.Ren := ⟨fun | 243 => 45 | 246 => 64 | 283 => 83 | 284 => 84 | 285 => 85 | 286 => 86 | 129 => 80 | 317 => 95 | 318 => 96 | 319 => 97 | 320 => 98 | 337 => 104 | 338 => 105 | n => n, fun | 3 => 3 | 9 => 9 | 2 => 2 | 4 => 4 | 171 => 141 | 0 => 0 | 53 => 138 | 37 => 76 | 5 => 5 | 173 => 143 | 212 => 155 | 51 => 136 | 20 => 20 | 213 => 156 | 46 => 105 | 232 => 163 | 233 => 164 | n => n, fun | 17 => 9 | 18 => 10 | 19 => 11 | n => n⟩
theorem y_lays243 : Go.Proofs.Lays.n243 Tryz.prog y_lays243_ren := {
  mixed := by kernel_rfl
  f129 := Tryz.func80.trans (congrArg some (by kernel_rfl))
  f243 := Tryz.func45.trans (congrArg some (by kernel_rfl))
  f246 := Tryz.func64.trans (congrArg some (by kernel_rfl))
  f283 := Tryz.func83.trans (congrArg some (by kernel_rfl))
  f284 := Tryz.func84.trans (congrArg some (by kernel_rfl))
  f285 := Tryz.func85.trans (congrArg some (by kernel_rfl))
  f286 := Tryz.func86.trans (congrArg some (by kernel_rfl))
  f317 := Tryz.func95.trans (congrArg some (by kernel_rfl))
  f318 := Tryz.func96.trans (congrArg some (by kernel_rfl))
  f319 := Tryz.func97.trans (congrArg some (by kernel_rfl))
  f320 := Tryz.func98.trans (congrArg some (by kernel_rfl))
  f337 := Tryz.func104.trans (congrArg some (by kernel_rfl))
  f338 := Tryz.func105.trans (congrArg some (by kernel_rfl))
  t0 := Tryz.underlying0
  a0 := Tryz.isAgg0
  z0 := Tryz.sizeOf0
  v0 := Tryz.zeroValue0
  t2 := Tryz.underlying2
  a2 := Tryz.isAgg2
  z2 := Tryz.sizeOf2
  v2 := Tryz.zeroValue2
  t3 := Tryz.underlying3
  a3 := Tryz.isAgg3
  z3 := Tryz.sizeOf3
  v3 := Tryz.zeroValue3
  t4 := Tryz.underlying4
  a4 := Tryz.isAgg4
  z4 := Tryz.sizeOf4
  v4 := Tryz.zeroValue4
  t5 := Tryz.underlying5
  a5 := Tryz.isAgg5
  z5 := Tryz.sizeOf5
  v5 := Tryz.zeroValue5
  t9 := Tryz.underlying9
  a9 := Tryz.isAgg9
  z9 := Tryz.sizeOf9
  v9 := Tryz.zeroValue9
  t20 := Tryz.underlying20
  a20 := Tryz.isAgg20
  z20 := Tryz.sizeOf20
  v20 := Tryz.zeroValue20
  t37 := Tryz.underlying76
  a37 := Tryz.isAgg76
  z37 := Tryz.sizeOf76
  v37 := Tryz.zeroValue76
  t46 := Tryz.underlying105
  a46 := Tryz.isAgg105
  z46 := Tryz.sizeOf105
  v46 := Tryz.zeroValue105
  t51 := Tryz.underlying136
  a51 := Tryz.isAgg136
  z51 := Tryz.sizeOf136
  v51 := Tryz.zeroValue136
  t53 := Tryz.underlying138
  a53 := Tryz.isAgg138
  z53 := Tryz.sizeOf138
  v53 := Tryz.zeroValue138
  t171 := Tryz.underlying141
  a171 := Tryz.isAgg141
  z171 := Tryz.sizeOf141
  v171 := Tryz.zeroValue141
  t173 := Tryz.underlying143
  a173 := Tryz.isAgg143
  z173 := Tryz.sizeOf143
  v173 := Tryz.zeroValue143
  t212 := Tryz.underlying155
  a212 := Tryz.isAgg155
  z212 := Tryz.sizeOf155
  v212 := Tryz.zeroValue155
  t213 := Tryz.underlying156
  a213 := Tryz.isAgg156
  z213 := Tryz.sizeOf156
  t232 := Tryz.underlying163
  a232 := Tryz.isAgg163
  z232 := Tryz.sizeOf163
  v232 := Tryz.zeroValue163
  t233 := Tryz.underlying164
  a233 := Tryz.isAgg164
  z233 := Tryz.sizeOf164
  v233 := Tryz.zeroValue164
  g17 := by kernel_rfl
  g18 := by kernel_rfl
  g19 := by kernel_rfl }
open Go.RowKit Go.Sort Go.Lib in
/-- THE ROAD WITHOUT THE TABLE: 0 <= i < 100. (LAID: no walk: one application.) -/
theorem y_internal_strconv_Itoa_small (i : Nat) (hi : i < 100) (w : World) :
    Calls Tryz.prog 45 #[.int .i64 i] w fun e w' => e = .returned (.string ⟨(Lib.decDigits i).toArray⟩) ∧ w' = w := Any.internal_strconv_Itoa_small y_lays243 i hi w
def y_laysM171_ren : Go.Shelf.Ren := ⟨fun | 171 => 31 | 243 => 45 | 246 => 64 | 283 => 83 | 284 => 84 | 285 => 85 | 286 => 86 | 129 => 80 | 317 => 95 | 318 => 96 | 319 => 97 | 320 => 98 | 337 => 104 | 338 => 105 | n => n, fun | 3 => 3 | 9 => 9 | 2 => 2 | 4 => 4 | 171 => 141 | 0 => 0 | 53 => 138 | 37 => 76 | 5 => 5 | 173 => 143 | 212 => 155 | 51 => 136 | 20 => 20 | 213 => 156 | 46 => 105 | 232 => 163 | 233 => 164 | n => n, fun | 17 => 9 | 18 => 10 | 19 => 11 | n => n⟩
theorem y_laysM171 : Go.Proofs.LaysM.n171 Tryz.prog y_laysM171_ren := {
  mixed := by kernel_rfl
  f129 := Tryz.func80.trans (congrArg some (by kernel_rfl))
  f171 := Tryz.func31.trans (congrArg some (by kernel_rfl))
  f243 := Tryz.func45.trans (congrArg some (by kernel_rfl))
  f246 := Tryz.func64.trans (congrArg some (by kernel_rfl))
  f283 := Tryz.func83.trans (congrArg some (by kernel_rfl))
  f284 := Tryz.func84.trans (congrArg some (by kernel_rfl))
  f285 := Tryz.func85.trans (congrArg some (by kernel_rfl))
  f286 := Tryz.func86.trans (congrArg some (by kernel_rfl))
  f317 := Tryz.func95.trans (congrArg some (by kernel_rfl))
  f318 := Tryz.func96.trans (congrArg some (by kernel_rfl))
  f319 := Tryz.func97.trans (congrArg some (by kernel_rfl))
  f320 := Tryz.func98.trans (congrArg some (by kernel_rfl))
  f337 := Tryz.func104.trans (congrArg some (by kernel_rfl))
  f338 := Tryz.func105.trans (congrArg some (by kernel_rfl))
  t0 := Tryz.underlying0
  a0 := Tryz.isAgg0
  z0 := Tryz.sizeOf0
  v0 := Tryz.zeroValue0
  t2 := Tryz.underlying2
  a2 := Tryz.isAgg2
  z2 := Tryz.sizeOf2
  v2 := Tryz.zeroValue2
  t3 := Tryz.underlying3
  a3 := Tryz.isAgg3
  z3 := Tryz.sizeOf3
  v3 := Tryz.zeroValue3
  t4 := Tryz.underlying4
  a4 := Tryz.isAgg4
  z4 := Tryz.sizeOf4
  v4 := Tryz.zeroValue4
  t5 := Tryz.underlying5
  a5 := Tryz.isAgg5
  z5 := Tryz.sizeOf5
  v5 := Tryz.zeroValue5
  t9 := Tryz.underlying9
  a9 := Tryz.isAgg9
  z9 := Tryz.sizeOf9
  v9 := Tryz.zeroValue9
  t20 := Tryz.underlying20
  a20 := Tryz.isAgg20
  z20 := Tryz.sizeOf20
  v20 := Tryz.zeroValue20
  t37 := Tryz.underlying76
  a37 := Tryz.isAgg76
  z37 := Tryz.sizeOf76
  v37 := Tryz.zeroValue76
  t46 := Tryz.underlying105
  a46 := Tryz.isAgg105
  z46 := Tryz.sizeOf105
  v46 := Tryz.zeroValue105
  t51 := Tryz.underlying136
  a51 := Tryz.isAgg136
  z51 := Tryz.sizeOf136
  v51 := Tryz.zeroValue136
  t53 := Tryz.underlying138
  a53 := Tryz.isAgg138
  z53 := Tryz.sizeOf138
  v53 := Tryz.zeroValue138
  t171 := Tryz.underlying141
  a171 := Tryz.isAgg141
  z171 := Tryz.sizeOf141
  v171 := Tryz.zeroValue141
  t173 := Tryz.underlying143
  a173 := Tryz.isAgg143
  z173 := Tryz.sizeOf143
  v173 := Tryz.zeroValue143
  t212 := Tryz.underlying155
  a212 := Tryz.isAgg155
  z212 := Tryz.sizeOf155
  v212 := Tryz.zeroValue155
  t213 := Tryz.underlying156
  a213 := Tryz.isAgg156
  z213 := Tryz.sizeOf156
  t232 := Tryz.underlying163
  a232 := Tryz.isAgg163
  z232 := Tryz.sizeOf163
  v232 := Tryz.zeroValue163
  t233 := Tryz.underlying164
  a233 := Tryz.isAgg164
  z233 := Tryz.sizeOf164
  v233 := Tryz.zeroValue164
  g17 := by kernel_rfl
  g18 := by kernel_rfl
  g19 := by kernel_rfl
  i0 := by kernel_rfl
  i2 := by kernel_rfl
  i3 := by kernel_rfl
  i4 := by kernel_rfl
  i5 := by kernel_rfl
  i9 := by kernel_rfl
  i20 := by kernel_rfl
  i37 := by kernel_rfl
  i46 := by kernel_rfl
  i51 := by kernel_rfl
  i53 := by kernel_rfl
  i171 := by kernel_rfl
  i173 := by kernel_rfl
  i212 := by kernel_rfl
  i232 := by kernel_rfl
  i233 := by kernel_rfl
  m17 := by kernel_rfl
  m18 := by kernel_rfl
  m19 := by kernel_rfl }
open Go.RowKit Go.Sort Go.Lib in
/-- strconv.Itoa: "Itoa is equivalent to FormatInt(int64(i), 10).": i's DECIMAL NUMERAL ('Lib.itoa': a '-' where i is negative, then the digits), FOR EVERY int. The world behind the call: the world before it, new blocks behind the heap (the library's 'var a [24]byte'), draws. (LAID: no walk: one application.) -/
theorem y_strconv_Itoa (n : Int) (h0 : -9223372036854775808 ≤ n) (h1 : n ≤ 9223372036854775807) (w : World) (htab : Lib.TabIs Tryz.prog w "internal/strconv.uint64pow10" .u64 Lib.pow10Tab) :
    Calls Tryz.prog 31 #[.int .i64 n] w fun e w' => e = .returned (.string ⟨(Lib.itoa n).toArray⟩) ∧ ∃ k os, w' = grow (w.drewN k) os := Any.strconv_Itoa y_laysM171 n h0 h1 w htab
def y_lays171_ren : Go.Shelf.Ren := ⟨fun | 171 => 31 | 243 => 45 | 246 => 64 | 283 => 83 | 284 => 84 | 285 => 85 | 286 => 86 | 129 => 80 | 317 => 95 | 318 => 96 | 319 => 97 | 320 => 98 | 337 => 104 | 338 => 105 | n => n, fun | 3 => 3 | 9 => 9 | 2 => 2 | 4 => 4 | 171 => 141 | 0 => 0 | 53 => 138 | 37 => 76 | 5 => 5 | 173 => 143 | 212 => 155 | 51 => 136 | 20 => 20 | 213 => 156 | 46 => 105 | 232 => 163 | 233 => 164 | n => n, fun | 17 => 9 | 18 => 10 | 19 => 11 | n => n⟩
theorem y_lays171 : Go.Proofs.Lays.n171 Tryz.prog y_lays171_ren := {
  mixed := by kernel_rfl
  f129 := Tryz.func80.trans (congrArg some (by kernel_rfl))
  f171 := Tryz.func31.trans (congrArg some (by kernel_rfl))
  f243 := Tryz.func45.trans (congrArg some (by kernel_rfl))
  f246 := Tryz.func64.trans (congrArg some (by kernel_rfl))
  f283 := Tryz.func83.trans (congrArg some (by kernel_rfl))
  f284 := Tryz.func84.trans (congrArg some (by kernel_rfl))
  f285 := Tryz.func85.trans (congrArg some (by kernel_rfl))
  f286 := Tryz.func86.trans (congrArg some (by kernel_rfl))
  f317 := Tryz.func95.trans (congrArg some (by kernel_rfl))
  f318 := Tryz.func96.trans (congrArg some (by kernel_rfl))
  f319 := Tryz.func97.trans (congrArg some (by kernel_rfl))
  f320 := Tryz.func98.trans (congrArg some (by kernel_rfl))
  f337 := Tryz.func104.trans (congrArg some (by kernel_rfl))
  f338 := Tryz.func105.trans (congrArg some (by kernel_rfl))
  t0 := Tryz.underlying0
  a0 := Tryz.isAgg0
  z0 := Tryz.sizeOf0
  v0 := Tryz.zeroValue0
  t2 := Tryz.underlying2
  a2 := Tryz.isAgg2
  z2 := Tryz.sizeOf2
  v2 := Tryz.zeroValue2
  t3 := Tryz.underlying3
  a3 := Tryz.isAgg3
  z3 := Tryz.sizeOf3
  v3 := Tryz.zeroValue3
  t4 := Tryz.underlying4
  a4 := Tryz.isAgg4
  z4 := Tryz.sizeOf4
  v4 := Tryz.zeroValue4
  t5 := Tryz.underlying5
  a5 := Tryz.isAgg5
  z5 := Tryz.sizeOf5
  v5 := Tryz.zeroValue5
  t9 := Tryz.underlying9
  a9 := Tryz.isAgg9
  z9 := Tryz.sizeOf9
  v9 := Tryz.zeroValue9
  t20 := Tryz.underlying20
  a20 := Tryz.isAgg20
  z20 := Tryz.sizeOf20
  v20 := Tryz.zeroValue20
  t37 := Tryz.underlying76
  a37 := Tryz.isAgg76
  z37 := Tryz.sizeOf76
  v37 := Tryz.zeroValue76
  t46 := Tryz.underlying105
  a46 := Tryz.isAgg105
  z46 := Tryz.sizeOf105
  v46 := Tryz.zeroValue105
  t51 := Tryz.underlying136
  a51 := Tryz.isAgg136
  z51 := Tryz.sizeOf136
  v51 := Tryz.zeroValue136
  t53 := Tryz.underlying138
  a53 := Tryz.isAgg138
  z53 := Tryz.sizeOf138
  v53 := Tryz.zeroValue138
  t171 := Tryz.underlying141
  a171 := Tryz.isAgg141
  z171 := Tryz.sizeOf141
  v171 := Tryz.zeroValue141
  t173 := Tryz.underlying143
  a173 := Tryz.isAgg143
  z173 := Tryz.sizeOf143
  v173 := Tryz.zeroValue143
  t212 := Tryz.underlying155
  a212 := Tryz.isAgg155
  z212 := Tryz.sizeOf155
  v212 := Tryz.zeroValue155
  t213 := Tryz.underlying156
  a213 := Tryz.isAgg156
  z213 := Tryz.sizeOf156
  t232 := Tryz.underlying163
  a232 := Tryz.isAgg163
  z232 := Tryz.sizeOf163
  v232 := Tryz.zeroValue163
  t233 := Tryz.underlying164
  a233 := Tryz.isAgg164
  z233 := Tryz.sizeOf164
  v233 := Tryz.zeroValue164
  g17 := by kernel_rfl
  g18 := by kernel_rfl
  g19 := by kernel_rfl }
open Go.RowKit Go.Sort Go.Lib in
/-- THE ROAD WITHOUT THE TABLE: 0 <= i < 100: NO PREMISE ON THE WORLD, AND THE WORLD IS AS IT WAS: a row that keeps its argument in that range need list no table ('laid = []'). (LAID: no walk: one application.) -/
theorem y_strconv_Itoa_small (i : Nat) (hi : i < 100) (w : World) :
    Calls Tryz.prog 31 #[.int .i64 i] w fun e w' => e = .returned (.string ⟨(Lib.decDigits i).toArray⟩) ∧ w' = w := Any.strconv_Itoa_small y_lays171 i hi w
end Go.Proofs.YtaachamblagbhaaGreatDoor
