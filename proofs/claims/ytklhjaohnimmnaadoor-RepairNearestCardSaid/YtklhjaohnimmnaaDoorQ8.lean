/- Grammars that came in: what their cells read as. · Plain: what each better sentence lowers. No program here. -/
import Derived.Test.YtklhjaohnimmnaaDoorProg
import Derived.Test.YtklhjaohnimmnaaDoorQ2
import Derived.Test.YtklhjaohnimmnaaDoorQ7
import Derived.WalkSpells
import Derived.WalkLawsBesides
import Derived.Handy
import Derived.Test.YtklhjaohnimmnaaDoorQ4
namespace Go.Proofs.YtklhjaohnimmnaaDoor
open Go.RowKit
set_option linter.unusedVariables false
set_option linter.unusedSimpArgs false
set_option maxRecDepth 100000

/-- A production: left, right, level. -/
abbrev Prd := Int × List Int × Int
def shProd : Sh Prd := shP shInt (shP (shL shInt) shInt)
structure Gr where
  terms : Int
  names : Int
  start : Int
  prods : List Prd
  levels : List Int
  sides : List Int

theorem rdI_sh {w : World} {B : Nat} {l : List Int} {A : Option Addr} {n c : Nat} (h : (shL shInt).rd w (Lo B) l [.slice A n c]) : l.length = n ∧ n ≤ c ∧ c ≤ maxLen ∧ RdI w B A l := by
  obtain ⟨A', c', css, e, h1, h2, h3, h4, h5⟩ := h
  simp at e
  obtain ⟨rfl, rfl, rfl⟩ := e
  have hcs : css = l.map (fun x => [Value.int .i64 x]) := by
    apply List.ext_getElem?
    intro i
    rw [List.getElem?_map]
    by_cases hi : i < l.length
    · have h := h4 i l[i] (css[i]'(by omega)) (List.getElem?_eq_getElem hi) (List.getElem?_eq_getElem (by omega))
      rw [List.getElem?_eq_getElem hi, List.getElem?_eq_getElem (by omega : i < css.length), h.1]; rfl
    · rw [List.getElem?_eq_none (by omega), List.getElem?_eq_none (by omega)]; rfl
  have hf : css.flatten = l.map (Value.int .i64) := by
    rw [hcs]
    clear hcs h4 h5 h3 h1
    induction l with
    | nil => rfl
    | cons x l ih => simp only [List.map_cons, List.flatten_cons, ih]; rfl
  refine ⟨rfl, h1, h2, fun hne => ?_⟩
  obtain ⟨b, off, e, hb, hc⟩ := h5 (by rw [hf]; exact hne)
  exact ⟨b, off, e, hb, fun j u hu => hc j u (by rw [hf]; exact hu)⟩

/-- A slice of productions that reads as Q. -/
def RdP (w : World) (B : Nat) (A : Option Addr) (n c : Nat) (Q : List Prd) : Prop := (shL shProd).rd w (Lo B) Q [.slice A n c]
theorem RdP.below {w w' : World} {B : Nat} {A : Option Addr} {n c : Nat} {Q : List Prd} (h : RdP w B A n c Q) (hb : Below B w w') : RdP w' B A n c Q := Sh.below h hb
theorem RdP.more {w : World} {B B' : Nat} {A : Option Addr} {n c : Nat} {Q : List Prd} (h : RdP w B A n c Q) (hB : B ≤ B') : RdP w B' A n c Q := Sh.up h hB
theorem RdP.len {w : World} {B : Nat} {A : Option Addr} {n c : Nat} {Q : List Prd} (h : RdP w B A n c Q) : Q.length = n ∧ n ≤ maxLen := by
  obtain ⟨A', c', e, h1, h2⟩ := shL_form h
  simp at e
  obtain ⟨rfl, rfl, rfl⟩ := e
  exact ⟨rfl, by omega⟩

/-- Production k of a slice: its three cells. -/
theorem RdP.at_ {w : World} {B : Nat} {A : Option Addr} {n c : Nat} {Q : List Prd} (h : RdP w B A n c Q) (h0 : 0 < n) :
    ∃ b off, A = some ⟨b, off, none⟩ ∧ b < B ∧ ∀ k, k < n → ∃ x r y A' n' c', Q[k]? = some (x, r, y) ∧ w.cell? ⟨b, off + k * 3, none⟩ = some (.int .i64 x) ∧ w.cell? ⟨b, off + k * 3 + 1, none⟩ = some (.slice A' n' c') ∧ w.cell? ⟨b, off + k * 3 + 2, none⟩ = some (.int .i64 y) ∧
      r.length = n' ∧ n' ≤ c' ∧ c' ≤ maxLen ∧ RdI w B A' r := by
  obtain ⟨hl, hm⟩ := h.len
  obtain ⟨b, off, e, hb, hc⟩ := shL_at h (by decide) (by omega)
  refine ⟨b, off, e, hb, fun k hk => ?_⟩
  have hq : Q[k]? = some (Q[k]'(by omega)) := List.getElem?_eq_getElem (by omega)
  obtain ⟨d, hd, hcell⟩ := hc k _ hq
  obtain ⟨d1, d23, rfl, h1, d2, d3, rfl, h2, h3⟩ := hd
  obtain ⟨A', c', e2, g1, g2⟩ := shL_form h2
  subst e2
  obtain ⟨_, _, _, r2⟩ := rdI_sh h2
  obtain ⟨rfl, _⟩ := h1
  obtain ⟨rfl, _⟩ := h3
  refine ⟨_, _, _, A', _, c', hq, ?_, ?_, ?_, rfl, g1, g2, r2⟩
  · have := hcell 0 _ rfl; simpa [shProd, shP, shI, shL] using this
  · have := hcell 1 _ rfl; simpa [shProd, shP, shI, shL, Nat.add_assoc] using this
  · have := hcell 2 _ rfl; simpa [shProd, shP, shI, shL, Nat.add_assoc] using this

/-- A grammar in memory. -/
structure GrIn (w : World) (B : Nat) (G : Gr) (Ap Al As : Option Addr) (np cp nl cl ns cs : Nat) : Prop where
  p : RdP w B Ap np cp G.prods
  l : RdI w B Al G.levels
  ll : G.levels.length = nl
  lm : nl ≤ maxLen
  s : RdI w B As G.sides
  sl : G.sides.length = ns
  sm : ns ≤ maxLen
theorem GrIn.below {w w' : World} {B : Nat} {G : Gr} {Ap Al As : Option Addr} {np cp nl cl ns cs : Nat} (h : GrIn w B G Ap Al As np cp nl cl ns cs) (hb : Below B w w') : GrIn w' B G Ap Al As np cp nl cl ns cs :=
  ⟨h.p.below hb, h.l.below hb, h.ll, h.lm, h.s.below hb, h.sl, h.sm⟩
theorem GrIn.more {w : World} {B B' : Nat} {G : Gr} {Ap Al As : Option Addr} {np cp nl cl ns cs : Nat} (h : GrIn w B G Ap Al As np cp nl cl ns cs) (hB : B ≤ B') : GrIn w B' G Ap Al As np cp nl cl ns cs :=
  ⟨h.p.more hB, h.l.more hB, h.ll, h.lm, h.s.more hB, h.sl, h.sm⟩

/-- The box of a grammar at the block g. -/
structure GrBox (w : World) (g : Nat) (G : Gr) (Ap Al As : Option Addr) (np cp nl cl ns cs : Nat) : Prop where
  c0 : w.cell? ⟨g, 0, none⟩ = some (.int .i64 G.terms)
  c1 : w.cell? ⟨g, 1, none⟩ = some (.int .i64 G.names)
  c2 : w.cell? ⟨g, 2, none⟩ = some (.int .i64 G.start)
  c3 : w.cell? ⟨g, 3, none⟩ = some (.slice Ap np cp)
  c4 : w.cell? ⟨g, 4, none⟩ = some (.slice Al nl cl)
  c5 : w.cell? ⟨g, 5, none⟩ = some (.slice As ns cs)
theorem GrBox.below {w w' : World} {B g : Nat} {G : Gr} {Ap Al As : Option Addr} {np cp nl cl ns cs : Nat} (h : GrBox w g G Ap Al As np cp nl cl ns cs) (hb : Below B w w') (hg : g < B) : GrBox w' g G Ap Al As np cp nl cl ns cs :=
  ⟨(hb.cell (p := ⟨g, 0, none⟩) hg).trans h.c0, (hb.cell (p := ⟨g, 1, none⟩) hg).trans h.c1, (hb.cell (p := ⟨g, 2, none⟩) hg).trans h.c2, (hb.cell (p := ⟨g, 3, none⟩) hg).trans h.c3, (hb.cell (p := ⟨g, 4, none⟩) hg).trans h.c4, (hb.cell (p := ⟨g, 5, none⟩) hg).trans h.c5⟩

/-- The world behind the boxing of a grammar. -/
theorem gbox (w : World) (G : Gr) (Ap Al As : Option Addr) (np cp nl cl ns cs : Nat) :
    Below w.heap.size w (w.alloc (.cells #[.int .i64 G.terms, .int .i64 G.names, .int .i64 G.start, .slice Ap np cp, .slice Al nl cl, .slice As ns cs] 25)) ∧
    (w.alloc (.cells #[.int .i64 G.terms, .int .i64 G.names, .int .i64 G.start, .slice Ap np cp, .slice Al nl cl, .slice As ns cs] 25)).heap.size = w.heap.size + 1 ∧
    GrBox (w.alloc (.cells #[.int .i64 G.terms, .int .i64 G.names, .int .i64 G.start, .slice Ap np cp, .slice Al nl cl, .slice As ns cs] 25)) w.heap.size G Ap Al As np cp nl cl ns cs :=
  ⟨(Below.refl _ _).alloc (Nat.le_refl _) _, by simp, by simp, by simp, by simp, by simp, by simp, by simp⟩
end Go.Proofs.YtklhjaohnimmnaaDoor
namespace Go.Proofs.YtklhjaohnimmnaaDoor
set_option linter.unusedVariables false
set_option linter.unusedSimpArgs false

def vl (T : Nat) : List Int → Nat
  | [] => 0
  | s :: r => (s.toNat + 1) * (T + 1) ^ r.length + vl T r
def Dig (T : Nat) (b : List Int) : Prop := ∀ s ∈ b, 0 ≤ s ∧ s < T
theorem vl_lt {T : Nat} : ∀ {b : List Int}, Dig T b → vl T b < (T + 1) ^ b.length
  | [], _ => by simp [vl]
  | s :: r, h => by
    have ih := vl_lt (T := T) (b := r) (fun t ht => h t (List.mem_cons_of_mem _ ht))
    have hs := h s (by simp)
    have h1 : (s.toNat + 1) * (T + 1) ^ r.length ≤ T * (T + 1) ^ r.length := Nat.mul_le_mul_right _ (by omega)
    have h2 : (T + 1) ^ (r.length + 1) = T * (T + 1) ^ r.length + (T + 1) ^ r.length := by rw [Nat.pow_succ, Nat.mul_comm, Nat.add_mul, Nat.one_mul]
    simp only [vl, List.length_cons]
    omega
theorem vl_lex {T : Nat} : ∀ {a b : List Int}, Dig T a → Dig T b → a.length = b.length → lexlt a b = true → vl T a < vl T b
  | [], [], _, _, _, h => by simp [lexlt] at h
  | [], _ :: _, _, _, h, _ => by simp at h
  | _ :: _, [], _, _, h, _ => by simp at h
  | a :: x, b :: y, h1, h2, hl, h => by
    have hl' : x.length = y.length := by simpa using hl
    have hx : Dig T x := fun t ht => h1 t (List.mem_cons_of_mem _ ht)
    have hy : Dig T y := fun t ht => h2 t (List.mem_cons_of_mem _ ht)
    have ha := h1 a (by simp)
    have hb := h2 b (by simp)
    simp only [lexlt, Bool.or_eq_true, Bool.and_eq_true, decide_eq_true_eq] at h
    simp only [vl]
    rw [hl']
    rcases h with h | ⟨h, hh⟩
    · have v := vl_lt hx
      rw [hl'] at v
      have h1 : (a.toNat + 1 + 1) * (T + 1) ^ y.length ≤ (b.toNat + 1) * (T + 1) ^ y.length := Nat.mul_le_mul_right _ (by omega)
      rw [Nat.add_mul (a.toNat + 1), Nat.one_mul] at h1
      omega
    · subst h
      have := vl_lex hx hy hl' hh
      omega
theorem vl_short {T : Nat} {a b : List Int} (h1 : Dig T a) (h : a.length < b.length) : vl T a < vl T b := by
  have v := vl_lt h1
  cases b with
  | nil => simp at h
  | cons s r =>
    simp only [vl]
    have h2 : (T + 1) ^ a.length ≤ (T + 1) ^ r.length := Nat.pow_le_pow_right (by omega) (by simp at h; omega)
    have h3 : 1 * (T + 1) ^ r.length ≤ (s.toNat + 1) * (T + 1) ^ r.length := Nat.mul_le_mul_right _ (by omega)
    omega
def top : Nat := 1001
def wt (T : Nat) : Option (List Int) → Nat
  | none => (T + 1) ^ top
  | some b => vl T b
def muS (T : Nat) (st : Sn) : Nat := (st.map (wt T)).sum
theorem sum_set' {α : Type} {f : α → Nat} : ∀ (x : List α) (k : Nat) (v : α) (h : k < x.length), f v < f x[k] → ((x.set k v).map f).sum < (x.map f).sum
  | [], k, v, h, _ => by simp at h
  | a :: x, 0, v, _, hv => by
    simp only [List.getElem_cons_zero] at hv
    rw [List.set_cons_zero, List.map_cons, List.map_cons, List.sum_cons, List.sum_cons]
    omega
  | a :: x, k + 1, v, h, hv => by
    simp only [List.getElem_cons_succ] at hv
    have := sum_set' x k v (by simpa using h) hv
    rw [List.set_cons_succ, List.map_cons, List.map_cons, List.sum_cons, List.sum_cons]
    omega
theorem mu_set {T : Nat} {st : Sn} {k : Nat} {l : List Int} (hk : k < st.length) (h : wt T (some l) < wt T (sn st k)) : muS T (st.set k (some l)) < muS T st := by
  refine sum_set' st k _ hk ?_
  have : sn st k = st[k] := by unfold sn; simp [List.getD, hk]
  rw [← this]; exact h

def DigS (T : Nat) (st : Sn) : Prop := ∀ X b, sn st X = some b → Dig T b
theorem sentF_dig {T : Nat} {st : Sn} (hd : DigS T st) : ∀ (r l : List Int), (∀ s ∈ r, s < T) → sentF st r = some l → Dig T l
  | [], l, _, h => by
    simp [sentF] at h
    subst h
    intro s hs; cases hs
  | s :: r, l, hr, h => by
    simp only [sentF] at h
    split at h
    · rename_i a b h1 h2
      simp at h
      subst h
      have ih := sentF_dig hd r b (fun t ht => hr t (List.mem_cons_of_mem _ ht)) h2
      intro t ht
      rcases List.mem_append.1 ht with ht | ht
      · split at h1
        · exact hd _ _ h1 t ht
        · simp at h1
          subst h1
          simp at ht
          subst ht
          have := hr t (by simp)
          omega
      · exact ih t ht
    · cases h
theorem digS_set {T : Nat} {st : Sn} {k : Nat} {l : List Int} (hd : DigS T st) (hk : k < st.length) (hl : Dig T l) : DigS T (st.set k (some l)) := by
  intro X b hb
  rw [sn_set hk] at hb
  split at hb
  · simp at hb; subst hb; exact hl
  · exact hd X b hb

section
variable {ps : List Pr} {N : Nat}
theorem stepN_len {x : List Int} {s : Int} {i : Nat} {p : Pr} {st : Sn} : (stepN x s i p st).1.length = st.length := by
  unfold stepN; repeat' split
  all_goals simp
theorem stepD_len {i : Nat} {p : Pr} {st : Sn} : (stepD i p st).1.length = st.length := by
  unfold stepD; repeat' split
  all_goals simp
theorem stepN_dig {T : Nat} {x : List Int} {s : Int} {i : Nat} {p : Pr} {st : Sn} (hd : DigS T st) (hk : p.1.toNat < st.length) (hr : ∀ s ∈ p.2.1, s < T) : DigS T (stepN x s i p st).1 := by
  unfold stepN
  split
  · exact hd
  · split
    · exact hd
    · rename_i l hl
      split
      · exact digS_set hd hk (sentF_dig hd _ _ hr hl)
      · split
        · exact digS_set hd hk (sentF_dig hd _ _ hr hl)
        · exact hd
theorem stepD_dig {T : Nat} {i : Nat} {p : Pr} {st : Sn} (hd : DigS T st) (hk : p.1.toNat < st.length) (hr : ∀ s ∈ p.2.1, s < T) : DigS T (stepD i p st).1 := by
  unfold stepD
  split
  · exact hd
  · rename_i l hl
    split
    · exact hd
    · split
      · exact digS_set hd hk (sentF_dig hd _ _ hr hl)
      · split
        · exact digS_set hd hk (sentF_dig hd _ _ hr hl)
        · exact hd
theorem wt_none {T : Nat} {l : List Int} (hl : Dig T l) (h : l.length ≤ 1000) : wt T (some l) < wt T none := by
  have v := vl_lt hl
  have : (T + 1) ^ l.length ≤ (T + 1) ^ top := Nat.pow_le_pow_right (by omega) (by unfold top; omega)
  exact Nat.lt_of_lt_of_le v this
theorem stepD_new {i : Nat} {p : Pr} {st : Sn} (h : (stepD i p st).2 = true) : ∃ l, sentF st p.2.1 = some l ∧ l.length ≤ 1000 ∧ (stepD i p st).1 = st.set p.1.toNat (some l) ∧ (sn st p.1.toNat = none ∨ ∃ b, sn st p.1.toNat = some b ∧ earl l b = true) := by
  unfold stepD at h ⊢
  cases hl : sentF st p.2.1 with
  | none => simp [hl] at h
  | some l =>
    rw [hl] at h
    simp only at h ⊢
    by_cases hc : 1000 < l.length
    · rw [if_pos hc] at h; cases h
    · rw [if_neg hc] at h ⊢
      cases hs : sn st p.1.toNat with
      | none => exact ⟨l, rfl, by omega, rfl, .inl rfl⟩
      | some b =>
        rw [hs] at h
        simp only at h ⊢
        by_cases he : earl l b = true
        · rw [if_pos he]; exact ⟨l, rfl, by omega, rfl, .inr ⟨b, rfl, he⟩⟩
        · rw [if_neg he] at h; cases h
theorem stepN_new {x : List Int} {s : Int} {i : Nat} {p : Pr} {st : Sn} (h : (stepN x s i p st).2 = true) : ∃ l, sentF st p.2.1 = some l ∧ (stepN x s i p st).1 = st.set p.1.toNat (some l) ∧ (sn st p.1.toNat = none ∨ ∃ b, sn st p.1.toNat = some b ∧ lexlt l b = true) := by
  unfold stepN at h ⊢
  by_cases hc : nth x p.1.toNat ≠ s ∨ lenF x 0 p.2.1 ≠ s
  · rw [if_pos hc] at h; cases h
  · rw [if_neg hc] at h ⊢
    cases hl : sentF st p.2.1 with
    | none => simp [hl] at h
    | some l =>
      rw [hl] at h
      simp only at h ⊢
      cases hs : sn st p.1.toNat with
      | none => exact ⟨l, rfl, rfl, .inl rfl⟩
      | some b =>
        rw [hs] at h
        simp only at h ⊢
        by_cases he : lexlt l b = true
        · rw [if_pos he]; exact ⟨l, rfl, rfl, .inr ⟨b, rfl, he⟩⟩
        · rw [if_neg he] at h; cases h
theorem stepD_mu {T : Nat} {i : Nat} {p : Pr} {st : Sn} (hd : DigS T st) (hk : p.1.toNat < st.length) (hr : ∀ s ∈ p.2.1, s < T) (h : (stepD i p st).2 = true) : muS T (stepD i p st).1 < muS T st := by
  obtain ⟨l, hl, hlen, e, hcase⟩ := stepD_new h
  have hdl := sentF_dig hd _ _ hr hl
  rw [e]
  refine mu_set hk ?_
  rcases hcase with hn | ⟨b, hb, he⟩
  · rw [hn]; exact wt_none hdl hlen
  · rw [hb]
    show vl T l < vl T b
    unfold earl at he
    split at he
    · rename_i el; exact vl_lex hdl (hd _ _ hb) el he
    · exact vl_short hdl (by simpa using he)
theorem stepN_mu {T : Nat} {x : List Int} {s : Int} {i : Nat} {p : Pr} {st : Sn} (hx : IsShort ps x) (hf : Fits N ps) (hl : st.length = N) (hh : HadN ps x st s) (hp : p ∈ ps) (hs : s ≤ 1000) (hd : DigS T st) (hr : ∀ s ∈ p.2.1, s < T) (h : (stepN x s i p st).2 = true) :
    muS T (stepN x s i p st).1 < muS T st := by
  have hk : p.1.toNat < st.length := by rw [hl]; exact (hf p hp).1
  have hh2 := stepN_had (i := i) hx hf hl hh hp (by omega)
  obtain ⟨l, hlq, e, hcase⟩ := stepN_new h
  have hdl := sentF_dig hd _ _ hr hlq
  rw [e] at hh2 ⊢
  have h1 := hh2 p.1.toNat l (by rw [sn_set hk, if_pos rfl])
  refine mu_set hk ?_
  rcases hcase with hn | ⟨b, hb, he⟩
  · rw [hn]; exact wt_none hdl (by omega)
  · have h2 := hh p.1.toNat b hb
    rw [hb]
    exact vl_lex hdl (hd _ _ hb) (by omega) he
end
end Go.Proofs.YtklhjaohnimmnaaDoor
