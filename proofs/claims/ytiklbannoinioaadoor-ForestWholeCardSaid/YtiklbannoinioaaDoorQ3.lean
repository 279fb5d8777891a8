/- Grammars that came in: what their cells read as. · append of whatever slice reads (nil too) to a row of the call's own. · Trees in memory. -/
import Derived.Test.YtiklbannoinioaaDoorProg
import Derived.Test.YtiklbannoinioaaDoorQ2
import Derived.WalkSpells
import Derived.WalkLawsBesides
import Derived.Handy
import Derived.Lib.AppendZeros
import Derived.Test.YtiklbannoinioaaDoorQ1
namespace Go.Proofs.YtiklbannoinioaaDoor
open Go.RowKit
set_option linter.unusedVariables false
set_option linter.unusedSimpArgs false
set_option maxRecDepth 100000

/-- A production: left, right, level. -/
abbrev Prd := Int × List Int × Int
def shProd : Sh Prd := shP shInt (shP (shL shInt) shInt)
structure Gr where
  terms : Int
  names : Int
  start : Int
  prods : List Prd
  levels : List Int
  sides : List Int

theorem rdI_sh {w : World} {B : Nat} {l : List Int} {A : Option Addr} {n c : Nat} (h : (shL shInt).rd w (Lo B) l [.slice A n c]) : l.length = n ∧ n ≤ c ∧ c ≤ maxLen ∧ RdI w B A l := by
  obtain ⟨A', c', css, e, h1, h2, h3, h4, h5⟩ := h
  simp at e
  obtain ⟨rfl, rfl, rfl⟩ := e
  have hcs : css = l.map (fun x => [Value.int .i64 x]) := by
    apply List.ext_getElem?
    intro i
    rw [List.getElem?_map]
    by_cases hi : i < l.length
    · have h := h4 i l[i] (css[i]'(by omega)) (List.getElem?_eq_getElem hi) (List.getElem?_eq_getElem (by omega))
      rw [List.getElem?_eq_getElem hi, List.getElem?_eq_getElem (by omega : i < css.length), h.1]; rfl
    · rw [List.getElem?_eq_none (by omega), List.getElem?_eq_none (by omega)]; rfl
  have hf : css.flatten = l.map (Value.int .i64) := by
    rw [hcs]
    clear hcs h4 h5 h3 h1
    induction l with
    | nil => rfl
    | cons x l ih => simp only [List.map_cons, List.flatten_cons, ih]; rfl
  refine ⟨rfl, h1, h2, fun hne => ?_⟩
  obtain ⟨b, off, e, hb, hc⟩ := h5 (by rw [hf]; exact hne)
  exact ⟨b, off, e, hb, fun j u hu => hc j u (by rw [hf]; exact hu)⟩

/-- A slice of productions that reads as Q. -/
def RdP (w : World) (B : Nat) (A : Option Addr) (n c : Nat) (Q : List Prd) : Prop := (shL shProd).rd w (Lo B) Q [.slice A n c]
theorem RdP.below {w w' : World} {B : Nat} {A : Option Addr} {n c : Nat} {Q : List Prd} (h : RdP w B A n c Q) (hb : Below B w w') : RdP w' B A n c Q := Sh.below h hb
theorem RdP.more {w : World} {B B' : Nat} {A : Option Addr} {n c : Nat} {Q : List Prd} (h : RdP w B A n c Q) (hB : B ≤ B') : RdP w B' A n c Q := Sh.up h hB
theorem RdP.len {w : World} {B : Nat} {A : Option Addr} {n c : Nat} {Q : List Prd} (h : RdP w B A n c Q) : Q.length = n ∧ n ≤ maxLen := by
  obtain ⟨A', c', e, h1, h2⟩ := shL_form h
  simp at e
  obtain ⟨rfl, rfl, rfl⟩ := e
  exact ⟨rfl, by omega⟩

/-- Production k of a slice: its three cells. -/
theorem RdP.at_ {w : World} {B : Nat} {A : Option Addr} {n c : Nat} {Q : List Prd} (h : RdP w B A n c Q) (h0 : 0 < n) :
    ∃ b off, A = some ⟨b, off, none⟩ ∧ b < B ∧ ∀ k, k < n → ∃ x r y A' n' c', Q[k]? = some (x, r, y) ∧ w.cell? ⟨b, off + k * 3, none⟩ = some (.int .i64 x) ∧ w.cell? ⟨b, off + k * 3 + 1, none⟩ = some (.slice A' n' c') ∧ w.cell? ⟨b, off + k * 3 + 2, none⟩ = some (.int .i64 y) ∧
      r.length = n' ∧ n' ≤ c' ∧ c' ≤ maxLen ∧ RdI w B A' r := by
  obtain ⟨hl, hm⟩ := h.len
  obtain ⟨b, off, e, hb, hc⟩ := shL_at h (by decide) (by omega)
  refine ⟨b, off, e, hb, fun k hk => ?_⟩
  have hq : Q[k]? = some (Q[k]'(by omega)) := List.getElem?_eq_getElem (by omega)
  obtain ⟨d, hd, hcell⟩ := hc k _ hq
  obtain ⟨d1, d23, rfl, h1, d2, d3, rfl, h2, h3⟩ := hd
  obtain ⟨A', c', e2, g1, g2⟩ := shL_form h2
  subst e2
  obtain ⟨_, _, _, r2⟩ := rdI_sh h2
  obtain ⟨rfl, _⟩ := h1
  obtain ⟨rfl, _⟩ := h3
  refine ⟨_, _, _, A', _, c', hq, ?_, ?_, ?_, rfl, g1, g2, r2⟩
  · have := hcell 0 _ rfl; simpa [shProd, shP, shI, shL] using this
  · have := hcell 1 _ rfl; simpa [shProd, shP, shI, shL, Nat.add_assoc] using this
  · have := hcell 2 _ rfl; simpa [shProd, shP, shI, shL, Nat.add_assoc] using this

/-- A grammar in memory. -/
structure GrIn (w : World) (B : Nat) (G : Gr) (Ap Al As : Option Addr) (np cp nl cl ns cs : Nat) : Prop where
  p : RdP w B Ap np cp G.prods
  l : RdI w B Al G.levels
  ll : G.levels.length = nl
  lm : nl ≤ maxLen
  s : RdI w B As G.sides
  sl : G.sides.length = ns
  sm : ns ≤ maxLen
theorem GrIn.below {w w' : World} {B : Nat} {G : Gr} {Ap Al As : Option Addr} {np cp nl cl ns cs : Nat} (h : GrIn w B G Ap Al As np cp nl cl ns cs) (hb : Below B w w') : GrIn w' B G Ap Al As np cp nl cl ns cs :=
  ⟨h.p.below hb, h.l.below hb, h.ll, h.lm, h.s.below hb, h.sl, h.sm⟩
theorem GrIn.more {w : World} {B B' : Nat} {G : Gr} {Ap Al As : Option Addr} {np cp nl cl ns cs : Nat} (h : GrIn w B G Ap Al As np cp nl cl ns cs) (hB : B ≤ B') : GrIn w B' G Ap Al As np cp nl cl ns cs :=
  ⟨h.p.more hB, h.l.more hB, h.ll, h.lm, h.s.more hB, h.sl, h.sm⟩

/-- The box of a grammar at the block g. -/
structure GrBox (w : World) (g : Nat) (G : Gr) (Ap Al As : Option Addr) (np cp nl cl ns cs : Nat) : Prop where
  c0 : w.cell? ⟨g, 0, none⟩ = some (.int .i64 G.terms)
  c1 : w.cell? ⟨g, 1, none⟩ = some (.int .i64 G.names)
  c2 : w.cell? ⟨g, 2, none⟩ = some (.int .i64 G.start)
  c3 : w.cell? ⟨g, 3, none⟩ = some (.slice Ap np cp)
  c4 : w.cell? ⟨g, 4, none⟩ = some (.slice Al nl cl)
  c5 : w.cell? ⟨g, 5, none⟩ = some (.slice As ns cs)
theorem GrBox.below {w w' : World} {B g : Nat} {G : Gr} {Ap Al As : Option Addr} {np cp nl cl ns cs : Nat} (h : GrBox w g G Ap Al As np cp nl cl ns cs) (hb : Below B w w') (hg : g < B) : GrBox w' g G Ap Al As np cp nl cl ns cs :=
  ⟨(hb.cell (p := ⟨g, 0, none⟩) hg).trans h.c0, (hb.cell (p := ⟨g, 1, none⟩) hg).trans h.c1, (hb.cell (p := ⟨g, 2, none⟩) hg).trans h.c2, (hb.cell (p := ⟨g, 3, none⟩) hg).trans h.c3, (hb.cell (p := ⟨g, 4, none⟩) hg).trans h.c4, (hb.cell (p := ⟨g, 5, none⟩) hg).trans h.c5⟩

/-- The world behind the boxing of a grammar. -/
theorem gbox (w : World) (G : Gr) (Ap Al As : Option Addr) (np cp nl cl ns cs : Nat) :
    Below w.heap.size w (w.alloc (.cells #[.int .i64 G.terms, .int .i64 G.names, .int .i64 G.start, .slice Ap np cp, .slice Al nl cl, .slice As ns cs] 25)) ∧
    (w.alloc (.cells #[.int .i64 G.terms, .int .i64 G.names, .int .i64 G.start, .slice Ap np cp, .slice Al nl cl, .slice As ns cs] 25)).heap.size = w.heap.size + 1 ∧
    GrBox (w.alloc (.cells #[.int .i64 G.terms, .int .i64 G.names, .int .i64 G.start, .slice Ap np cp, .slice Al nl cl, .slice As ns cs] 25)) w.heap.size G Ap Al As np cp nl cl ns cs :=
  ⟨(Below.refl _ _).alloc (Nat.le_refl _) _, by simp, by simp, by simp, by simp, by simp, by simp, by simp⟩
end Go.Proofs.YtiklbannoinioaaDoor
namespace Go.Proofs.YtiklbannoinioaaDoor
open Go.RowKit
set_option linter.unusedVariables false
set_option linter.unusedSimpArgs false
set_option maxRecDepth 100000

section
variable {P : Program} {t e : TypeId} {size bytes : Nat} {z : Value}

theorem run_app_zero (E : ElTy P t e size bytes z) (ty : TypeId) (w : World) (A : Option Addr) (n cap : Nat) (hc : n ≤ cap) (A' : Option Addr) (c : Nat) :
    (Builtin.append_ #[t, t] ty #[.slice A n cap, .slice A' 0 c]).run P w = .ok (.slice A n cap) w := by
  obtain ⟨i, hi, hz, hsz, hby⟩ := info_parts E.hi
  cases A <;> cases A' <;> simp [Builtin.append_, run_underlying E.ht, sizeOf, typeInfo, hi, Builtin.lenOf, Builtin.firstCells, loadCells, loadCellsFrom, storeCells, hc]

theorem wpList_app_rd (E : ElTy P t e size bytes z) {ops : Array Oper} {rest : List Oper} {o : Oper} {a : Act} {Q : Exit → Act → World → Prop} {w : World} (hgd : o.guard = none) (s x : Operand)
    (ho : o.op = .call { callee := .builtin .append, args := #[s, x], argTypes := #[t, t] })
    (base : Nat) (v : Value) (n m c B : Nat) (A : Option Addr) (xs news : List Value) (hs : a.eval s = v) (hown : w.ownsRow base e size v n xs)
    (hx : a.eval x = .slice A m c) (hl : news.length = m * size) (hr : Rd w B A news) (h1 : ∀ u ∈ news, u.oneCell' = true)
    (h63 : n + m ≤ 140737488355328) (hbytes : (n + m) * bytes ≤ 140737488355328) (hbase : base ≤ w.heap.size)
    (h : ∀ v' w', w'.ownsRow base e size v' (n + m) (xs ++ news) → w.grownBy w' v.ownBlock → (v'.ownBlock = v.ownBlock ∨ v'.ownBlock = some w.heap.size) → wpList P ops Q rest (a.put o.dst v') w') :
    wpList P ops Q (o :: rest) a w := by
  obtain ⟨i, hi, hz, hsz, hby⟩ := info_parts E.hi
  by_cases hm : m = 0
  · subst hm
    obtain rfl : news = [] := List.eq_nil_of_length_eq_zero (by simpa using hl)
    obtain ⟨A1, n1, c1, hv, hle⟩ : ∃ A1 n1 c1, v = .slice A1 n1 c1 ∧ n1 ≤ c1 := by
      rcases hown.2 with ⟨rfl, rfl⟩ | ⟨g, cap, cur, rfl, _, _, hn, _⟩
      · exact ⟨_, _, _, rfl, Nat.le_refl _⟩
      · exact ⟨_, _, _, rfl, hn⟩
    subst hv
    refine Lib.wpList_append_run w hgd s x t t ho _ _ hs hx _ w (run_app_zero E o.type w A1 n1 c1 hle A c) (h _ w ?_ ⟨rfl, rfl, rfl, Nat.le_refl _, fun _ _ _ => rfl⟩ (Or.inl rfl))
    rw [List.append_nil]; exact hown
  · have hne : news ≠ [] := by
      intro e0; subst e0
      have := E.hs
      have : 0 < m * size := Nat.mul_pos (by omega) this
      simp at hl; omega
    obtain ⟨b, off, rfl, hb, hc⟩ := hr hne
    refine wpList_append_own_at _ hgd s x t ho base e i z size bytes E.ht hi hz hsz hby E.hz E.hs v n xs hs hown ⟨b, off, none⟩ m c news hx hl (fun j u hu => ?_) h1 (by simp only [maxLen]; omega) hbytes hbase ?_
    · have hadd : (⟨b, off, none⟩ : Addr).add j = ⟨b, off + j, none⟩ := by unfold Addr.add; split <;> simp_all
      rw [hadd]; exact hc j u hu
    · intro v' w' h2 h3 _ h5
      exact h v' w' h2 h3 h5
end

theorem iv_one (l : List Int) : ∀ u ∈ iv l, u.oneCell' = true := by
  intro u hu
  unfold iv at hu
  rw [List.mem_map] at hu
  obtain ⟨x, _, rfl⟩ := hu
  rfl
end Go.Proofs.YtiklbannoinioaaDoor
namespace Go.Proofs.YtiklbannoinioaaDoor
open Go.RowKit BigFrame
set_option linter.unusedVariables false
set_option linter.unusedSimpArgs false
set_option maxRecDepth 100000

mutual
/-- A pointer that reads as a tree, all of it in blocks of S. -/
def TrIn (w : World) (S : Nat → Prop) : Value → Tr → Prop
  | v, .nil => v = .pointer none
  | v, .node p tok ks => ∃ b A c, v = .pointer (some ⟨b, 0, none⟩) ∧ S b ∧ w.cell? ⟨b, 0, none⟩ = some (.int .i64 p) ∧ w.cell? ⟨b, 1, none⟩ = some (.int .i64 tok) ∧ w.cell? ⟨b, 2, none⟩ = some (.slice A ks.length c) ∧ ks.length ≤ c ∧ c ≤ maxLen ∧
      (0 < ks.length → ∃ kb off, A = some ⟨kb, off, none⟩ ∧ S kb ∧ TrsIn w S kb off ks)
def TrsIn (w : World) (S : Nat → Prop) (kb : Nat) : Nat → List Tr → Prop
  | _, [] => True
  | off, k :: ks => (∃ v, w.cell? ⟨kb, off, none⟩ = some v ∧ TrIn w S v k) ∧ TrsIn w S kb (off + 1) ks
end
theorem TrsIn.at_ {w : World} {S : Nat → Prop} {kb : Nat} : ∀ {ks : List Tr} {off : Nat}, TrsIn w S kb off ks → ∀ (i : Nat) (k : Tr), ks[i]? = some k → ∃ v, w.cell? ⟨kb, off + i, none⟩ = some v ∧ TrIn w S v k
  | [], off, _, i, k, h => by simp at h
  | x :: ks, off, h, 0, k, hk => by
    rw [TrsIn] at h
    simp at hk
    subst hk
    exact h.1
  | x :: ks, off, h, i + 1, k, hk => by
    rw [TrsIn] at h
    obtain ⟨v, h1, h2⟩ := h.2.at_ i k (by simpa using hk)
    exact ⟨v, by rw [← h1]; congr 2; omega, h2⟩
theorem TrsIn.mk_ {w : World} {S : Nat → Prop} {kb : Nat} : ∀ {ks : List Tr} {off : Nat}, (∀ (i : Nat) (k : Tr), ks[i]? = some k → ∃ v, w.cell? ⟨kb, off + i, none⟩ = some v ∧ TrIn w S v k) → TrsIn w S kb off ks
  | [], off, _ => by rw [TrsIn]; trivial
  | x :: ks, off, h => by
    rw [TrsIn]
    refine ⟨h 0 x rfl, TrsIn.mk_ fun i k hk => ?_⟩
    obtain ⟨v, h1, h2⟩ := h (i + 1) k (by simpa using hk)
    exact ⟨v, by rw [← h1]; congr 2; omega, h2⟩
mutual
theorem TrIn.keep {w w' : World} {S S' : Nat → Prop} (hk : ∀ b, S b → w'.heap[b]? = w.heap[b]?) (hs : ∀ b, S b → S' b) : ∀ {t : Tr} {v : Value}, TrIn w S v t → TrIn w' S' v t
  | .nil, v, h => by rw [TrIn] at h ⊢; exact h
  | .node p tok ks, v, h => by
    rw [TrIn] at h ⊢
    obtain ⟨b, A, c, e, hb, c0, c1, c2, h1, h2, h3⟩ := h
    have kc : ∀ (a : Addr), S a.block → w'.cell? a = w.cell? a := fun a q => World.cell?_of_block (hk a.block q)
    refine ⟨b, A, c, e, hs b hb, (kc ⟨b, 0, none⟩ hb).trans c0, (kc ⟨b, 1, none⟩ hb).trans c1, (kc ⟨b, 2, none⟩ hb).trans c2, h1, h2, fun h0 => ?_⟩
    obtain ⟨kb, off, e2, hkb, h4⟩ := h3 h0
    exact ⟨kb, off, e2, hs kb hkb, TrsIn.keep hk hs hkb h4⟩
theorem TrsIn.keep {w w' : World} {S S' : Nat → Prop} (hk : ∀ b, S b → w'.heap[b]? = w.heap[b]?) (hs : ∀ b, S b → S' b) {kb : Nat} (hkb : S kb) : ∀ {ks : List Tr} {off : Nat}, TrsIn w S kb off ks → TrsIn w' S' kb off ks
  | [], off, _ => by rw [TrsIn]; trivial
  | k :: ks, off, h => by
    rw [TrsIn] at h ⊢
    obtain ⟨⟨v, h1, h2⟩, h3⟩ := h
    exact ⟨⟨v, (World.cell?_of_block (a := ⟨kb, off, none⟩) (hk kb hkb)).trans h1, TrIn.keep hk hs h2⟩, TrsIn.keep hk hs hkb h3⟩
end
theorem TrIn.nil_inv {w : World} {S : Nat → Prop} {v : Value} (h : TrIn w S v .nil) : v = .pointer none := by rw [TrIn] at h; exact h
theorem TrIn.node_inv {w : World} {S : Nat → Prop} {v : Value} {p tok : Int} {ks : List Tr} (h : TrIn w S v (.node p tok ks)) : ∃ b A c, v = .pointer (some ⟨b, 0, none⟩) ∧ S b ∧ w.cell? ⟨b, 0, none⟩ = some (.int .i64 p) ∧ w.cell? ⟨b, 1, none⟩ = some (.int .i64 tok) ∧ w.cell? ⟨b, 2, none⟩ = some (.slice A ks.length c) ∧ ks.length ≤ c ∧ c ≤ maxLen ∧
    (0 < ks.length → ∃ kb off, A = some ⟨kb, off, none⟩ ∧ S kb ∧ ∀ (i : Nat) (k : Tr), ks[i]? = some k → ∃ u, w.cell? ⟨kb, off + i, none⟩ = some u ∧ TrIn w S u k) := by
  rw [TrIn] at h
  obtain ⟨b, A, c, e, hb, c0, c1, c2, h1, h2, h3⟩ := h
  refine ⟨b, A, c, e, hb, c0, c1, c2, h1, h2, fun h0 => ?_⟩
  obtain ⟨kb, off, e2, hkb, h4⟩ := h3 h0
  exact ⟨kb, off, e2, hkb, h4.at_⟩
/-- All of it below a block. -/
abbrev TrB (w : World) (B : Nat) (v : Value) (t : Tr) : Prop := TrIn w (fun b => b < B) v t
theorem TrB.below {w w' : World} {B : Nat} {v : Value} {t : Tr} (h : TrB w B v t) (hb : Below B w w') : TrB w' B v t := TrIn.keep (fun b q => hb.block b q) (fun _ q => q) h
theorem TrB.more {w : World} {B B' : Nat} {v : Value} {t : Tr} (h : TrB w B v t) (hB : B ≤ B') : TrB w B' v t := TrIn.keep (fun _ _ => rfl) (fun _ q => Nat.lt_of_lt_of_le q hB) h
theorem TrIn.ptr {w : World} {S : Nat → Prop} : ∀ {t : Tr} {v : Value}, TrIn w S v t → ∃ p, v = .pointer p
  | .nil, v, h => by rw [TrIn] at h; exact ⟨_, h⟩
  | .node p tok ks, v, h => by rw [TrIn] at h; obtain ⟨b, A, c, rfl, _⟩ := h; exact ⟨_, rfl⟩
theorem TrIn.one {w : World} {S : Nat → Prop} : ∀ {t : Tr} {v : Value}, TrIn w S v t → v.oneCell' = true
  | .nil, v, h => by rw [TrIn] at h; subst h; rfl
  | .node p tok ks, v, h => by rw [TrIn] at h; obtain ⟨b, A, c, rfl, _⟩ := h; rfl
end Go.Proofs.YtiklbannoinioaaDoor
