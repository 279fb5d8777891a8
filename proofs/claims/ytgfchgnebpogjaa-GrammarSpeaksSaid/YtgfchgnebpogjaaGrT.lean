/- grammar.Short: its closure, and going through the productions until nothing is new. -/
import Derived.Test.YtgfchgnebpogjaaGrL
import Derived.Test.YtgfchgnebpogjaaCls
namespace Go.Proofs.Ytgfchgnebpogjaa
open Go.RowKit BigFrame
set_option linter.unusedVariables false
set_option linter.unusedSimpArgs false
set_option maxRecDepth 100000

/-- What a production must be for a list of N lengths. -/
def PrFit (N : Nat) (p : Prd) : Prop := 0 ≤ p.1 ∧ p.1.toNat < N ∧ ∀ s ∈ p.2.1, s < 0 → (-1 - s).toNat < N
def LenB (x : List Int) : Prop := ∀ k, -1 ≤ nth x k ∧ nth x k ≤ 1000000

/-- The list x of lengths lies in block g, its slice in the cell of block v. -/
structure ShSt (w : World) (v g N : Nat) (x : List Int) : Prop where
  c : w.cell? ⟨v, 0, none⟩ = some (.slice (some ⟨g, 0, none⟩) N N)
  b : Blk w g 3 (iv x)
  l : x.length = N
  r : LenB x
theorem ShSt.kp {S : Nat → Prop} {w w' : World} {v g N : Nat} {x : List Int} (h : ShSt w v g N x) (hk : Kp S w w') (hvs : v < w.heap.size) (hv : ¬ S v) (hg : ¬ S g) : ShSt w' v g N x :=
  ⟨(hk.cell (p := ⟨v, 0, none⟩) hvs hv).trans h.c, (hk.block g h.b.lt hg).trans h.b, h.l, h.r⟩
theorem ShSt.below {w w' : World} {B v g N : Nat} {x : List Int} (h : ShSt w v g N x) (hb : Below B w w') (hv : v < B) (hg : g < B) : ShSt w' v g N x :=
  ⟨(hb.cell (p := ⟨v, 0, none⟩) hv).trans h.c, h.b.below hb hg, h.l, h.r⟩

theorem stepS_LenB {x : List Int} {i : Nat} {p : Prd} (h : LenB x) (hp : p.1.toNat < x.length) : LenB (stepS i p x).1 := by
  unfold stepS
  split
  · exact h
  · rename_i hc
    have hc1 : ¬ lenF x 0 p.2.1 < 0 := fun e => hc (.inl e)
    have := lenF_le (x := x) (r := p.2.1) (by omega)
    intro k
    rw [nth_set hp]
    split
    · omega
    · exact h k

set_option maxHeartbeats 1000000 in
theorem short1_any (i : Int) (px : Int) (r : List Int) (py : Int) (A' : Option Addr) (n' c' v g N : Nat) (x : List Int) (w : World) (B : Nat) (hB : B ≤ w.heap.size) (hgv : v ≠ g) (hvs : v < w.heap.size)
    (hr : RdI w B A' r) (hl : r.length = n') (hm : n' ≤ maxLen) (hN : N ≤ maxLen) (hs : ShSt w v g N x) (hp : PrFit N (px, r, py)) (st : List Int × Bool) (hst : st = stepS 0 (px, r, py) x) :
    Calls Try.prog 40 #[.int .i64 i, .agg #[.int .i64 px, .slice A' n' c', .int .i64 py], .pointer (some ⟨v, 0, none⟩)] w fun e w' => e = .returned (.bool st.2) ∧ ShSt w' v g N st.1 ∧ Kp (fun k => k = g) w w' := by
  obtain ⟨hp0, hp1, hp2⟩ := hp
  simp only at hp0 hp1 hp2
  obtain ⟨t, rfl⟩ := Int.eq_ofNat_of_zero_le hp0
  rw [Int.toNat_natCast] at hp1
  have hLB : LenB (stepS 0 ((t : Int), r, py) x).1 := stepS_LenB hs.r (by rw [hs.l]; simpa using hp1)
  have hgs := hs.b.lt
  have hk0 : Kp (fun k => k = g) w (w.alloc (.cells #[.int .i64 t, .slice A' n' c', .int .i64 py] 50)) := (Kp.refl _ _).alloc _
  have hb0 : Below w.heap.size w (w.alloc (.cells #[.int .i64 t, .slice A' n' c', .int .i64 py] 50)) := (Below.refl _ _).alloc (Nat.le_refl _) _
  have hS0 := hs.below hb0 hvs hgs
  have zc := hS0.c
  have zn := hS0.b.icell (k := t) (by rw [hs.l]; exact hp1)
  have zf := hS0.b.frozen t
  have hcall := length_any A' (some ⟨g, 0, none⟩) n' c' N N r x (w.alloc (.cells #[.int .i64 t, .slice A' n' c', .int .i64 py] 50)) w.heap.size ((hr.more hB).below hb0) hl hm (hS0.b.rdI hgs) hs.l hN ⟨hs.r, fun s h1 h2 => by rw [hs.l]; exact hp2 s h1 h2⟩
  have hlx := hs.l
  have hbd := hs.r t
  have hle : 0 ≤ lenF x 0 r → lenF x 0 r ≤ 1000000 := lenF_le
  have hst' : st = if lenF x 0 r < 0 ∨ (0 ≤ nth x t ∧ nth x t ≤ lenF x 0 r) then (x, false) else (x.set t (lenF x 0 r), true) := by rw [hst]; unfold stepS; simp only [Int.toNat_natCast]
  rw [← hst] at hLB
  have HS := Lib.hid hs
  clear hst hl hp2 hr hs hB hm
  unfold maxLen at hN
  generalize nth x t = a at *
  generalize lenF x 0 r = n at *
  obtain ⟨ha0, ha1⟩ := hbd
  have HC := Lib.hid hcall; have HS0 := Lib.hid hS0; have HLB := Lib.hid hLB; have HLX := Lib.hid hlx; have HK0 := Lib.hid hk0
  clear hcall hS0 hLB hlx hk0 hb0
  by_cases h1 : n < 0
  · have d1 : decide (n < 0) = true := decide_eq_true h1
    have HF : Hid (st = (x, false)) := Lib.hid (by rw [hst', if_pos (.inl h1)])
    clear hst'
    go_enter Try.func40, Try.ntmps40
    go_wp2_with (go_at_call 41; refine HC.out.mono ?_; rintro e w' ⟨rfl, rfl⟩)
    go_ret
    rw [HF.out]
    exact ⟨rfl, HS0.out, HK0.out⟩
  have d1 : decide (n < 0) = false := decide_eq_false h1
  have hn := hle (by omega)
  clear hle
  by_cases h2 : 0 ≤ a
  · have d2 : decide (0 ≤ a) = true := decide_eq_true h2
    by_cases h3 : a ≤ n
    · have d3 : decide (a ≤ n) = true := decide_eq_true h3
      have HF : Hid (st = (x, false)) := Lib.hid (by rw [hst', if_pos (.inr ⟨h2, h3⟩)])
      clear hst'
      go_enter Try.func40, Try.ntmps40
      go_wp2_with (go_at_call 41; refine HC.out.mono ?_; rintro e w' ⟨rfl, rfl⟩)
      go_ret
      rw [HF.out]
      exact ⟨rfl, HS0.out, HK0.out⟩
    · have d3 : decide (a ≤ n) = false := decide_eq_false h3
      have HF : Hid (st = (x.set t n, true)) := Lib.hid (by rw [hst', if_neg (by omega)])
      clear hst'
      go_enter Try.func40, Try.ntmps40
      go_wp2_with (go_at_call 41; refine HC.out.mono ?_; rintro e w' ⟨rfl, rfl⟩)
      go_ret
      rw [HF.out] at HLB ⊢
      have hk1 : Kp (fun k => k = g) w ((w.setCell ⟨g, t, none⟩ (.int .i64 n)).alloc (.cells #[.int .i64 t, .slice A' n' c', .int .i64 py] 50)) := ((Kp.refl (fun k => k = g) w).set_ (p := ⟨g, t, none⟩) (.inr rfl) _).alloc _
      exact ⟨rfl, ⟨(hk1.cell (p := ⟨v, 0, none⟩) hvs hgv).trans HS.out.c, (HS.out.b.iset t n).alloc _, by rw [List.length_set]; exact HLX.out, HLB.out⟩, hk1⟩
  · have d2 : decide (0 ≤ a) = false := decide_eq_false h2
    have HF : Hid (st = (x.set t n, true)) := Lib.hid (by rw [hst', if_neg (by omega)])
    clear hst'
    go_enter Try.func40, Try.ntmps40
    go_wp2_with (go_at_call 41; refine HC.out.mono ?_; rintro e w' ⟨rfl, rfl⟩)
    go_ret
    rw [HF.out] at HLB ⊢
    have hk1 : Kp (fun k => k = g) w ((w.setCell ⟨g, t, none⟩ (.int .i64 n)).alloc (.cells #[.int .i64 t, .slice A' n' c', .int .i64 py] 50)) := ((Kp.refl (fun k => k = g) w).set_ (p := ⟨g, t, none⟩) (.inr rfl) _).alloc _
    exact ⟨rfl, ⟨(hk1.cell (p := ⟨v, 0, none⟩) hvs hgv).trans HS.out.c, (HS.out.b.iset t n).alloc _, by rw [List.length_set]; exact HLX.out, HLB.out⟩, hk1⟩
end Go.Proofs.Ytgfchgnebpogjaa
