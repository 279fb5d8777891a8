/- Plain: the tables of both packages' Cost. · The mender in memory; terminal. -/
import Derived.Test.YtklhjaohnimmnaaDoorQ12
import Derived.Test.YtklhjaohnimmnaaDoorQ5
import Derived.Test.YtklhjaohnimmnaaDoorQ11
import Derived.Test.YtklhjaohnimmnaaDoorQ8
namespace Go.Proofs.YtklhjaohnimmnaaDoor
set_option linter.unusedVariables false
set_option linter.unusedSimpArgs false

def nthI (P : List Int) (t : Int) : Int := nth P t.toNat
theorem costs_nth {P : List Int} (h : P.all costB = true) (t : Int) : 0 ≤ nthI P t ∧ nthI P t ≤ 1000 := by
  unfold nthI
  by_cases hk : t.toNat < P.length
  · have := List.all_eq_true.1 h _ (List.getElem_mem hk)
    rw [costB_iff] at this
    rw [nth_get hk]; omega
  · have : nth P t.toNat = 0 := by unfold nth; rw [List.getD, List.getElem?_eq_none (by omega)]; rfl
    omega

theorem rev_take {l : List Int} {k : Nat} (h : k < l.length) : (l.take (k + 1)).reverse = nth l k :: (l.take k).reverse := by
  rw [List.take_succ_eq_append_getElem h, nth_get h]; simp
theorem drop_at {l : List Int} {k : Nat} (h : k < l.length) : l.drop k = nth l k :: l.drop (k + 1) := by
  rw [nth_get h]; exact List.drop_eq_getElem_cons h

section
variable {P L F T : List Int} {i j : Nat}
/-- From the beginning: the first i of F turned into the first j of T. -/
def ed (P L F T : List Int) (i j : Nat) : Int := edit (nthI P) (nthI L) (F.take i).reverse (T.take j).reverse
theorem ed_00 : ed P L F T 0 0 = 0 := by unfold ed; simp [edit]
theorem ed_0s (h : j < T.length) : ed P L F T 0 (j + 1) = ed P L F T 0 j + nthI P (nth T j) := by
  unfold ed; rw [rev_take h]; simp only [List.take_zero, List.reverse_nil]; rw [edit]
theorem ed_s0 (h : i < F.length) : ed P L F T (i + 1) 0 = ed P L F T i 0 + nthI L (nth F i) := by
  unfold ed; rw [rev_take h]; simp only [List.take_zero, List.reverse_nil]; rw [edit]
theorem ed_eq (hi : i < F.length) (hj : j < T.length) (e : nth F i = nth T j) : ed P L F T (i + 1) (j + 1) = min (min (ed P L F T i (j + 1) + nthI L (nth F i)) (ed P L F T (i + 1) j + nthI P (nth T j))) (ed P L F T i j) := by
  unfold ed; rw [rev_take hi, rev_take hj, edit, if_pos e]
theorem ed_ne (hi : i < F.length) (hj : j < T.length) (e : nth F i ≠ nth T j) : ed P L F T (i + 1) (j + 1) = min (ed P L F T i (j + 1) + nthI L (nth F i)) (ed P L F T (i + 1) j + nthI P (nth T j)) := by
  unfold ed; rw [rev_take hi, rev_take hj, edit, if_neg e]
theorem ed_bound (hP : P.all costB = true) (hL : L.all costB = true) (i j : Nat) : 0 ≤ ed P L F T i j ∧ ed P L F T i j ≤ 1000 * (i + j : Nat) := by
  have h := edit_bound (nthI P) (nthI L) (costs_nth hP) (costs_nth hL) _ (F.take i).reverse (T.take j).reverse (Nat.le_refl _)
  refine ⟨h.1, Int.le_trans h.2 ?_⟩
  simp only [List.length_reverse, List.length_take]
  omega
theorem ed_end {n m : Nat} (hF : F.length = n) (hT : T.length = m) : ed P L F T n m = edit (nthI P) (nthI L) F T := by
  unfold ed; rw [List.take_of_length_le (by omega), List.take_of_length_le (by omega), edit_rev]

/-- From the end: F from i on turned into T from j on. -/
def eb (P L F T : List Int) (i j : Nat) : Int := edit (nthI P) (nthI L) (F.drop i) (T.drop j)
theorem eb_nn (hi : F.length = i) (hj : T.length = j) : eb P L F T i j = 0 := by
  unfold eb; rw [List.drop_eq_nil_of_le (by omega), List.drop_eq_nil_of_le (by omega), edit]
theorem eb_ns (hi : F.length = i) (hj : j < T.length) : eb P L F T i j = eb P L F T i (j + 1) + nthI P (nth T j) := by
  have e : F.drop i = [] := List.drop_eq_nil_of_le (by omega)
  unfold eb; rw [e, drop_at hj, edit]
theorem eb_sn (hi : i < F.length) (hj : T.length = j) : eb P L F T i j = eb P L F T (i + 1) j + nthI L (nth F i) := by
  have e : T.drop j = [] := List.drop_eq_nil_of_le (by omega)
  unfold eb; rw [drop_at hi, e, edit]
theorem eb_eq (hi : i < F.length) (hj : j < T.length) (e : nth F i = nth T j) : eb P L F T i j = min (min (eb P L F T (i + 1) j + nthI L (nth F i)) (eb P L F T i (j + 1) + nthI P (nth T j))) (eb P L F T (i + 1) (j + 1)) := by
  unfold eb; rw [drop_at hi, drop_at hj, edit, if_pos e]
theorem eb_ne (hi : i < F.length) (hj : j < T.length) (e : nth F i ≠ nth T j) : eb P L F T i j = min (eb P L F T (i + 1) j + nthI L (nth F i)) (eb P L F T i (j + 1) + nthI P (nth T j)) := by
  unfold eb; rw [drop_at hi, drop_at hj, edit, if_neg e]
theorem eb_bound (hP : P.all costB = true) (hL : L.all costB = true) (i j : Nat) : 0 ≤ eb P L F T i j ∧ eb P L F T i j ≤ 1000 * (F.length + T.length : Nat) := by
  have h := edit_bound (nthI P) (nthI L) (costs_nth hP) (costs_nth hL) _ (F.drop i) (T.drop j) (Nat.le_refl _)
  refine ⟨h.1, Int.le_trans h.2 ?_⟩
  simp only [List.length_drop]
  omega
theorem eb_0 : eb P L F T 0 0 = edit (nthI P) (nthI L) F T := by unfold eb; simp
end

/-- What both answer. -/
def costA (P L F T : List Int) : Int :=
  if P.all costB = true ∧ L.all costB = true ∧ F.all (insB (min P.length L.length)) = true ∧ T.all (insB (min P.length L.length)) = true ∧ F.length ≤ 1000 ∧ T.length ≤ 1000 then edit (nthI P) (nthI L) F T else -1
end Go.Proofs.YtklhjaohnimmnaaDoor
namespace Go.Proofs.YtklhjaohnimmnaaDoor
open Go.RowKit BigFrame
set_option linter.unusedVariables false
set_option linter.unusedSimpArgs false
set_option maxRecDepth 100000

/-- What a mender is made of: costs, the input, the sums of what is left out. -/
structure Md where
  P : List Int
  L : List Int
  I : List Int
  S : List Int
/-- The mender at block m; bM: its map. -/
structure MdIn (w : World) (B m : Nat) (G : Gr) (Ap Al As : Option Addr) (np cp nl cl ns cs : Nat) (D : Md) (A1 A2 A3 A4 : Option Addr) (n1 c1 n2 c2 n3 c3 n4 c4 : Nat) (bM : Nat) : Prop where
  b : Blk w m 48 [.int .i64 G.terms, .int .i64 G.names, .int .i64 G.start, .slice Ap np cp, .slice Al nl cl, .slice As ns cs, .slice A1 n1 c1, .slice A2 n2 c2, .slice A3 n3 c3, .slice A4 n4 c4, .map (some bM)]
  p : RdI w B A1 D.P
  l : RdI w B A2 D.L
  i : RdI w B A3 D.I
  s : LsIn w A4 D.S
  h1 : D.P.length = n1
  h2 : D.L.length = n2
  h3 : D.I.length = n3
  h4 : D.S.length = n4
  m1 : n1 ≤ 300
  m2 : n2 ≤ 300
  m3 : n3 ≤ 300
  m4 : n4 = n3 + 1
  k3 : n3 ≤ c3
  k4 : c3 ≤ maxLen
  cp : ∀ x ∈ D.P, 1 ≤ x ∧ x ≤ 1000
  cl : ∀ x ∈ D.L, 1 ≤ x ∧ x ≤ 1000
  ci : ∀ x ∈ D.I, 0 ≤ x ∧ x < n2
  cs : ∀ k, k ≤ n3 → nth D.S k = lvS (nthI D.L) (D.I.take k)
theorem lv_sub {leave : Int → Int} {l : List Int} {f t : Nat} (h1 : f ≤ t) (h2 : t ≤ l.length) : lvS leave (l.take t) - lvS leave (l.take f) = lvS leave (sub l f t) := by
  have h : l.take t = l.take f ++ sub l f t := by
    have := sub_app (inp := l) (f := 0) (j := f) (t := t) (Nat.zero_le _) h1 h2
    unfold sub at this ⊢
    simpa using this
  rw [h, lvS_app]; omega
theorem bel_dnM (w : World) (q B : Nat) : Below B w (w.drewN q) := ⟨rfl, rfl, rfl, Nat.le_refl _, fun _ _ => rfl⟩
theorem lvS_bound {leave : Int → Int} (h : ∀ t, 0 ≤ leave t ∧ leave t ≤ 1000) : ∀ l : List Int, 0 ≤ lvS leave l ∧ lvS leave l ≤ 1000 * (l.length : Int)
  | [] => by simp [lvS]
  | x :: l => by
    have h1 := lvS_bound h l
    have h2 := h x
    rw [lvS, List.length_cons]
    omega
theorem nthI_bound {P : List Int} (h : ∀ x ∈ P, 1 ≤ x ∧ x ≤ 1000) (t : Int) : 0 ≤ nthI P t ∧ nthI P t ≤ 1000 := by
  unfold nthI
  by_cases q : t.toNat < P.length
  · rw [nth_get q]
    have := h _ (List.getElem_mem q)
    omega
  · unfold nth
    rw [List.getD_eq_getElem?_getD, List.getElem?_eq_none (by omega)]
    simp

set_option maxHeartbeats 2000000 in
theorem terminal_any (G : Gr) (Ap Al As : Option Addr) (np cp nl cl ns cs : Nat) (D : Md) (A1 A2 A3 A4 : Option Addr) (n1 c1 n2 c2 n3 c3 n4 c4 bM m : Nat) (w : World) (B : Nat) (hB : B ≤ w.heap.size) (hM : MdIn w B m G Ap Al As np cp nl cl ns cs D A1 A2 A3 A4 n1 c1 n2 c2 n3 c3 n4 c4 bM) (t f u : Nat) (ht1 : t < n1) (ht2 : t < n2) (hf : f ≤ u) (hu : u ≤ n3) :
    Calls Tryd.prog 46 #[.pointer (some ⟨m, 0, none⟩), .int .i64 (t : Int), .int .i64 (f : Int), .int .i64 (u : Int)] w fun e w' => ∃ v, e = .returned v ∧ BsT w' v (termB (nthI D.P) (nthI D.L) (t : Int) (sub D.I f u)) ∧ Below w.heap.size w w' := by
  obtain ⟨w1, hw1⟩ : ∃ w1, w1 = w.alloc (.cells #[.bool false, .int .i64 0, .int .i64 0, .slice none 0 0] 51) := ⟨_, rfl⟩
  have hb1 : Below w.heap.size w w1 := by rw [hw1]; exact (Below.refl _ _).alloc (Nat.le_refl _) _
  have hk1 : Blk w1 w.heap.size 51 [.bool false, .int .i64 0, .int .i64 0, .slice none 0 0] := by rw [hw1]; exact Blk.new w 51 [.bool false, .int .i64 0, .int .i64 0, .slice none 0 0]
  have hm1 := hM.b.below' hb1
  have x8 := hm1.cell (i := 8) rfl
  have x9 := hm1.cell (i := 9) rfl
  have x6 := hm1.cell (i := 6) rfl
  have x7 := hm1.cell (i := 7) rfl
  have hh1 := hM.h1; have hh2 := hM.h2; have hh3 := hM.h3; have hh4 := hM.h4; have hq4 := hM.m4
  obtain ⟨b4, o4, rfl, hbb4, hc4⟩ := (hM.s.rd.below hb1).at_ (by omega)
  obtain ⟨b1, o1, rfl, hbb1, hc1⟩ := (hM.p.below (hb1.mono hB)).at_ (by omega)
  have yu := hc4 u (by omega)
  have yf := hc4 f (by omega)
  have yt := hc1 t (by omega)
  rw [hM.cs u hu] at yu
  rw [hM.cs f (by omega)] at yf
  have bu := lvS_bound (nthI_bound hM.cl) (D.I.take u)
  have bf := lvS_bound (nthI_bound hM.cl) (D.I.take f)
  have bp := nthI_bound hM.cp (t : Int)
  have ht0 : nth D.P t = nthI D.P (t : Int) := by unfold nthI; simp
  rw [ht0] at yt
  rw [List.length_take, Nat.min_eq_left (by omega)] at bu bf
  have hall := lv_sub (leave := nthI D.L) (l := D.I) hf (by omega)
  have hpos := (lvS_bound (nthI_bound hM.cl) (sub D.I f u)).1
  rw [← hall] at hpos
  generalize lvS (nthI D.L) (D.I.take u) = lu at *
  generalize lvS (nthI D.L) (D.I.take f) = lf at *
  obtain ⟨pt, hpt⟩ : ∃ pt, pt = nthI D.P (t : Int) := ⟨_, rfl⟩
  rw [← hpt] at yt bp
  have HPT := Lib.hid hpt
  clear hpt
  have hm3 := hM.m3; have hm1' := hM.m1; have hm2' := hM.m2
  have HM := Lib.hid hM; have HK1 := Lib.hid hk1; have HB1 := Lib.hid hb1; have HALL := Lib.hid hall
  clear hM hk1 hb1 hm1 hc4 hc1 hh1 hh2 hh3 hh4 hall ht0
  subst hq4
  go_enter Tryd.func46, Tryd.ntmps46
  go_wp2_with fail
  rw [← hw1]
  clear hw1
  go_quiet (fail)
  rename_i nq _ _
  obtain ⟨w2, hw2⟩ : ∃ w2, w2 = w1.drewN nq := ⟨_, rfl⟩
  have x6' : w2.cell? ⟨m, 6, none⟩ = some (.slice (some ⟨b1, o1, none⟩) n1 c1) := by rw [hw2]; exact x6
  have x8' : w2.cell? ⟨m, 8, none⟩ = some (.slice A3 n3 c3) := by rw [hw2]; exact x8
  have yt' : w2.cell? ⟨b1, o1 + t, none⟩ = some (.int .i64 pt) := by rw [hw2]; exact yt
  have hml2 : m < w2.heap.size := by rw [hw2]; exact Nat.lt_of_lt_of_le HM.out.b.lt HB1.out.size
  have hbl2 : b1 < w2.heap.size := by rw [hw2]; have := HB1.out.size; show b1 < w1.heap.size; omega
  have hsl2 : w.heap.size < w2.heap.size := by rw [hw2]; exact HK1.out.lt
  have hk3 := HM.out.k3; have hk4 := HM.out.k4
  unfold maxLen at hk4
  have HK2 : Hid (Blk w2 w.heap.size 51 [.bool false, .int .i64 0, .int .i64 0, .slice none 0 0]) := Lib.hid (by rw [hw2]; exact HK1.out)
  have HB2 : Hid (Below w.heap.size w w2) := Lib.hid (by rw [hw2]; exact HB1.out.trans (bel_dnM _ _ _))
  rw [← hw2]
  clear hw2 x6 x7 x8 x9 yu yf yt HK1 HB1
  have hsubl : (sub D.I f u).length = u - f := sub_len hf (by have := HM.out.h3; omega)
  have HSUB := Lib.hid hsubl
  have HSG : Hid (∀ k, k < u - f → (sub D.I f u)[k]? = some (nth D.I (f + k))) := Lib.hid (fun k hk => by
    have h3 := HM.out.h3
    unfold sub
    rw [List.getElem?_take, if_pos (by omega), List.getElem?_drop, nth_some (by omega)])
  clear hsubl
  by_cases hc : f = c3
  · as_aux_lemma =>
      subst hc
      have hu0 : u - f = 0 := by omega
      go_wp2_with fail
      obtain ⟨W3, hW3⟩ : ∃ W3, W3 = (w2.alloc (.cells #[.int .i64 (t : Int)] 3)).alloc (.cells #[.bool true, .int .i64 (lu - lf + pt), .int .i64 1, .slice (some ⟨w2.heap.size, 0, none⟩) 1 1] 51) := ⟨_, rfl⟩
      have hk3' : Blk W3 (w2.heap.size + 1) 51 [.bool true, .int .i64 (lu - lf + pt), .int .i64 1, .slice (some ⟨w2.heap.size, 0, none⟩) 1 1] := by
        have := Blk.new (w2.alloc (.cells #[.int .i64 (t : Int)] 3)) 51 [.bool true, .int .i64 (lu - lf + pt), .int .i64 1, .slice (some ⟨w2.heap.size, 0, none⟩) 1 1]
        rw [show (w2.alloc (.cells #[.int .i64 (t : Int)] 3)).heap.size = w2.heap.size + 1 by simp] at this
        rw [hW3]; exact this
      have ht3 : Blk W3 w2.heap.size 3 [.int .i64 (t : Int)] := by rw [hW3]; exact (Blk.new w2 3 [.int .i64 (t : Int)]).alloc _
      have hb3 : Below w2.heap.size w2 W3 := by rw [hW3]; exact ((Below.refl _ _).alloc (Nat.le_refl _) _).alloc (by simp) _
      have HK3 := Lib.hid hk3'; have HT3 := Lib.hid ht3; have HB3 := Lib.hid hb3
      rw [← hW3]
      clear hW3 hk3' ht3 hb3 x6' x8' yt'
      go_loopw [49] (fun i wr => ∃ (k : Nat) (c : Int), k ≤ u - f ∧ i = .int .i64 (k : Int) ∧ 0 - 1000 ≤ c ∧ c ≤ 1000000 ∧ Hid (Blk wr (w2.heap.size + 1) 51 [.bool true, .int .i64 c, .int .i64 1, .slice (some ⟨w2.heap.size, 0, none⟩) 1 1]) ∧ Hid (c = termC (nthI D.L) (t : Int) (lu - lf) ((sub D.I f u).take k) (lu - lf + pt)) ∧ Hid (Kp (fun j => j = w2.heap.size + 1) W3 wr)) (fun i _ => u - f - (intOf i).toNat)
      case atStart => exact ⟨0, _, Nat.zero_le _, rfl, by omega, by omega, HK3.out, Lib.hid (by simp [termC]), Kp.refl _ _⟩
      case round =>
        as_aux_lemma =>
          obtain ⟨k, c, hk, rfl, hc0, hc1, HBK, HC, HKP⟩ := hrel
          have hMr := HM.out
          have hz3 : w2.heap.size + 1 < W3.heap.size := HK3.out.lt
          have hbr : Below w2.heap.size W3 wr := HKP.out.bel (by omega) (fun j h1 h2 => by omega)
          have hbw : Below w2.heap.size w2 wr := HB3.out.trans hbr
          have hww : Below w.heap.size w wr := HB2.out.trans (hbw.mono (by omega))
          have hmr := hMr.b.below' hww
          have x7 := hmr.cell (i := 7) rfl
          have z1 := HBK.out.cell (i := 1) rfl
          have g1 := HBK.out.frozen 1
          have hzr := HBK.out.lt
          by_cases hlt : k < u - f
          · as_aux_lemma =>
              exfalso; omega
          · as_aux_lemma =>
              have hke : k = u - f := by omega
              have z0 := HBK.out.cell (i := 0) rfl
              have z2 := HBK.out.cell (i := 2) rfl
              have z3 := HBK.out.cell (i := 3) rfl
              have hkr := HK2.out.below' hbw
              have r0 := hkr.cell (i := 0) rfl
              have r1 := hkr.cell (i := 1) rfl
              have r2 := hkr.cell (i := 2) rfl
              have r3 := hkr.cell (i := 3) rfl
              have f0 := hkr.frozen 0
              have f1 := hkr.frozen 1
              have f2 := hkr.frozen 2
              have f3 := hkr.frozen 3
              have HKR := Lib.hid hkr; have HWW := Lib.hid hww
              have HKE := Lib.hid hke
              have HTT := Lib.hid ((HKP.out.block w2.heap.size (by omega) (by show ¬ w2.heap.size = _; omega)).trans HT3.out)
              clear hkr hww hke hMr hmr x7
              go_wp2_with fail
              have hk2 := (((HKR.out.set_ 0 (.bool true)).set_ 1 (.int .i64 c)).set_ 2 (.int .i64 1)).set_ 3 (.slice (some ⟨w2.heap.size, 0, none⟩) 1 1)
              refine bodyPost_ret (results_cell_row rfl _ _ w.heap.size _ #[.bool true, .int .i64 c, .int .i64 1, .slice (some ⟨w2.heap.size, 0, none⟩) 1 1] _ _ rfl hk2 Tryd.underlying51 rfl (by kernel_rfl)) rfl ?_
              have hfz := (((HWW.out.setCell (p := ⟨w.heap.size, 0, none⟩) (Nat.le_refl _) (.bool true)).setCell (p := ⟨w.heap.size, 1, none⟩) (Nat.le_refl _) (.int .i64 c)).setCell (p := ⟨w.heap.size, 2, none⟩) (Nat.le_refl _) (.int .i64 1)).setCell (p := ⟨w.heap.size, 3, none⟩) (Nat.le_refl _) (.slice (some ⟨w2.heap.size, 0, none⟩) 1 1)
              have e1 : termB (nthI D.P) (nthI D.L) (t : Int) (sub D.I f u) = some (c, 1, [(t : Int)]) := by
                have h1 := HC.out
                rw [HKE.out, List.take_of_length_le (by rw [HSUB.out]; exact Nat.le_refl _)] at h1
                unfold termB
                rw [← HALL.out, ← HPT.out, h1]
              have hne : w2.heap.size ≠ w.heap.size := by omega
              have hT : Blk ((((wr.setCell ⟨w.heap.size, 0, none⟩ (.bool true)).setCell ⟨w.heap.size, 1, none⟩ (.int .i64 c)).setCell ⟨w.heap.size, 2, none⟩ (.int .i64 1)).setCell ⟨w.heap.size, 3, none⟩ (.slice (some ⟨w2.heap.size, 0, none⟩) 1 1)) w2.heap.size 3 (iv [(t : Int)]) := Blk.far (Blk.far (Blk.far (Blk.far HTT.out hne _) hne _) hne _) hne _
              rw [e1]
              exact ⟨_, rfl, ⟨some ⟨w2.heap.size, 0, none⟩, 1, rfl, Nat.le_refl _, by unfold maxLen; omega, LsIn.of_blk hT⟩, hfz⟩
  go_wp2_with fail
  obtain ⟨W3, hW3⟩ : ∃ W3, W3 = (w2.alloc (.cells #[.int .i64 (t : Int)] 3)).alloc (.cells #[.bool true, .int .i64 (lu - lf + pt), .int .i64 1, .slice (some ⟨w2.heap.size, 0, none⟩) 1 1] 51) := ⟨_, rfl⟩
  have hk3' : Blk W3 (w2.heap.size + 1) 51 [.bool true, .int .i64 (lu - lf + pt), .int .i64 1, .slice (some ⟨w2.heap.size, 0, none⟩) 1 1] := by
    have := Blk.new (w2.alloc (.cells #[.int .i64 (t : Int)] 3)) 51 [.bool true, .int .i64 (lu - lf + pt), .int .i64 1, .slice (some ⟨w2.heap.size, 0, none⟩) 1 1]
    rw [show (w2.alloc (.cells #[.int .i64 (t : Int)] 3)).heap.size = w2.heap.size + 1 by simp] at this
    rw [hW3]; exact this
  have ht3 : Blk W3 w2.heap.size 3 [.int .i64 (t : Int)] := by rw [hW3]; exact (Blk.new w2 3 [.int .i64 (t : Int)]).alloc _
  have hb3 : Below w2.heap.size w2 W3 := by rw [hW3]; exact ((Below.refl _ _).alloc (Nat.le_refl _) _).alloc (by simp) _
  have HK3 := Lib.hid hk3'; have HT3 := Lib.hid ht3; have HB3 := Lib.hid hb3
  rw [← hW3]
  clear hW3 hk3' ht3 hb3 x6' x8' yt'
  go_loopw [49] (fun i wr => ∃ (k : Nat) (c : Int), k ≤ u - f ∧ i = .int .i64 (k : Int) ∧ 0 - 1000 ≤ c ∧ c ≤ 1000000 ∧ Hid (Blk wr (w2.heap.size + 1) 51 [.bool true, .int .i64 c, .int .i64 1, .slice (some ⟨w2.heap.size, 0, none⟩) 1 1]) ∧ Hid (c = termC (nthI D.L) (t : Int) (lu - lf) ((sub D.I f u).take k) (lu - lf + pt)) ∧ Hid (Kp (fun j => j = w2.heap.size + 1) W3 wr)) (fun i _ => u - f - (intOf i).toNat)
  case atStart => exact ⟨0, _, Nat.zero_le _, rfl, by omega, by omega, HK3.out, Lib.hid (by simp [termC]), Kp.refl _ _⟩
  case round =>
    as_aux_lemma =>
      obtain ⟨k, c, hk, rfl, hc0, hc1, HBK, HC, HKP⟩ := hrel
      have hMr := HM.out
      have hz3 : w2.heap.size + 1 < W3.heap.size := HK3.out.lt
      have hbr : Below w2.heap.size W3 wr := HKP.out.bel (by omega) (fun j h1 h2 => by omega)
      have hbw : Below w2.heap.size w2 wr := HB3.out.trans hbr
      have hww : Below w.heap.size w wr := HB2.out.trans (hbw.mono (by omega))
      have hmr := hMr.b.below' hww
      have x7 := hmr.cell (i := 7) rfl
      have z1 := HBK.out.cell (i := 1) rfl
      have g1 := HBK.out.frozen 1
      have hzr := HBK.out.lt
      by_cases hlt : k < u - f
      · as_aux_lemma =>
          have hx := HSG.out k hlt
          obtain ⟨b3, o3, rfl, hbb3, hc3⟩ := (hMr.i.below (hww.mono hB)).at_ (by have := hMr.h3; omega)
          have yx := hc3 (f + k) (by have := hMr.h3; omega)
          obtain ⟨x, hxe⟩ : ∃ x, x = nth D.I (f + k) := ⟨_, rfl⟩
          rw [← hxe] at hx yx
          have hxr := hMr.ci x (by rw [hxe, nth_get (by have := hMr.h3; omega)]; exact List.getElem_mem _)
          obtain ⟨xn, rfl⟩ := Int.eq_ofNat_of_zero_le hxr.1
          obtain ⟨b2, o2, rfl, hbb2, hc2⟩ := (hMr.l.below (hww.mono hB)).at_ (by have := hMr.h2; omega)
          have yl := hc2 xn (by have := hMr.h2; omega)
          have hlb := nthI_bound hMr.cl (xn : Int)
          have hle : nth D.L xn = nthI D.L (xn : Int) := by unfold nthI; simp
          rw [hle] at yl
          have HX := Lib.hid hx
          have HSTEP : Hid (termC (nthI D.L) (t : Int) (lu - lf) ((sub D.I f u).take (k + 1)) (lu - lf + pt) = if (xn : Int) = (t : Int) then min c (lu - lf - nthI D.L (xn : Int)) else c) := Lib.hid (by
            rw [List.take_add_one, hx, HC.out]
            unfold termC
            rw [List.foldl_append]
            rfl)
          generalize nthI D.L (xn : Int) = lx at *
          clear hxe hx hle
          have yx2 : wr.cell? ⟨b3, o3 + f + k, none⟩ = some (.int .i64 (xn : Int)) := by rw [show o3 + f + k = o3 + (f + k) by omega]; exact yx
          clear yx
          by_cases hxt : xn = t
          · as_aux_lemma =>
              subst hxt
              have hst := HSTEP.out
              rw [if_pos rfl] at hst
              have HST := Lib.hid hst
              have hmin := run_min2 Tryd.prog
              clear hst HSTEP
              go_wp2_with fail
              go_region
              have hbk2 := HBK.out.set_ 1 (.int .i64 (min c (lu - lf - lx)))
              have hkp2 := HKP.out.set_ (p := ⟨w2.heap.size + 1, 1, none⟩) (.inr rfl) (.int .i64 (min c (lu - lf - lx)))
              have HBK2 : Hid (Blk ((wr.setCell ⟨w2.heap.size + 1, 1, none⟩ (.int .i64 (min c (lu - lf - lx)))).drew) (w2.heap.size + 1) 51 [.bool true, .int .i64 (min c (lu - lf - lx)), .int .i64 1, .slice (some ⟨w2.heap.size, 0, none⟩) 1 1]) := Lib.hid hbk2
              have HKP2 : Hid (Kp (fun j => j = w2.heap.size + 1) W3 ((wr.setCell ⟨w2.heap.size + 1, 1, none⟩ (.int .i64 (min c (lu - lf - lx)))).drew)) := Lib.hid hkp2.draw
              clear hbk2 hkp2
              go_wp2_with fail
              go_roundw
              case rel => exact ⟨k + 1, min c (lu - lf - lx), by omega, by go_num, by omega, by omega, HBK2, Lib.hid HST.out.symm, HKP2⟩
              case measure => simp [intOf]; omega
          · as_aux_lemma =>
              have hst := HSTEP.out
              rw [if_neg (by omega)] at hst
              have HST := Lib.hid hst
              have hne : ((xn : Int) == (t : Int)) = false := by simp; omega
              clear hst HSTEP
              go_wp2_with fail
              go_roundw
              case rel => exact ⟨k + 1, c, by omega, by go_num, hc0, hc1, HBK, Lib.hid HST.out.symm, HKP⟩
              case measure => simp [intOf]; omega
      · as_aux_lemma =>
          have hke : k = u - f := by omega
          have z0 := HBK.out.cell (i := 0) rfl
          have z2 := HBK.out.cell (i := 2) rfl
          have z3 := HBK.out.cell (i := 3) rfl
          have hkr := HK2.out.below' hbw
          have r0 := hkr.cell (i := 0) rfl
          have r1 := hkr.cell (i := 1) rfl
          have r2 := hkr.cell (i := 2) rfl
          have r3 := hkr.cell (i := 3) rfl
          have f0 := hkr.frozen 0
          have f1 := hkr.frozen 1
          have f2 := hkr.frozen 2
          have f3 := hkr.frozen 3
          have HKR := Lib.hid hkr; have HWW := Lib.hid hww
          have HKE := Lib.hid hke
          have HTT := Lib.hid ((HKP.out.block w2.heap.size (by omega) (by show ¬ w2.heap.size = _; omega)).trans HT3.out)
          clear hkr hww hke hMr hmr x7
          go_wp2_with fail
          have hk2 := (((HKR.out.set_ 0 (.bool true)).set_ 1 (.int .i64 c)).set_ 2 (.int .i64 1)).set_ 3 (.slice (some ⟨w2.heap.size, 0, none⟩) 1 1)
          refine bodyPost_ret (results_cell_row rfl _ _ w.heap.size _ #[.bool true, .int .i64 c, .int .i64 1, .slice (some ⟨w2.heap.size, 0, none⟩) 1 1] _ _ rfl hk2 Tryd.underlying51 rfl (by kernel_rfl)) rfl ?_
          have hfz := (((HWW.out.setCell (p := ⟨w.heap.size, 0, none⟩) (Nat.le_refl _) (.bool true)).setCell (p := ⟨w.heap.size, 1, none⟩) (Nat.le_refl _) (.int .i64 c)).setCell (p := ⟨w.heap.size, 2, none⟩) (Nat.le_refl _) (.int .i64 1)).setCell (p := ⟨w.heap.size, 3, none⟩) (Nat.le_refl _) (.slice (some ⟨w2.heap.size, 0, none⟩) 1 1)
          have e1 : termB (nthI D.P) (nthI D.L) (t : Int) (sub D.I f u) = some (c, 1, [(t : Int)]) := by
            have h1 := HC.out
            rw [HKE.out, List.take_of_length_le (by rw [HSUB.out]; exact Nat.le_refl _)] at h1
            unfold termB
            rw [← HALL.out, ← HPT.out, h1]
          have hne : w2.heap.size ≠ w.heap.size := by omega
          have hT : Blk ((((wr.setCell ⟨w.heap.size, 0, none⟩ (.bool true)).setCell ⟨w.heap.size, 1, none⟩ (.int .i64 c)).setCell ⟨w.heap.size, 2, none⟩ (.int .i64 1)).setCell ⟨w.heap.size, 3, none⟩ (.slice (some ⟨w2.heap.size, 0, none⟩) 1 1)) w2.heap.size 3 (iv [(t : Int)]) := Blk.far (Blk.far (Blk.far (Blk.far HTT.out hne _) hne _) hne _) hne _
          rw [e1]
          exact ⟨_, rfl, ⟨some ⟨w2.heap.size, 0, none⟩, 1, rfl, Nat.le_refl _, by unfold maxLen; omega, LsIn.of_blk hT⟩, hfz⟩
end Go.Proofs.YtklhjaohnimmnaaDoor
