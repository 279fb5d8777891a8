/- Plain: a parser by tables: does a table fit; reductions; a terminal; a tree; what may come next. · A table in memory. -/
import Derived.Test.YtinejiodnnjpgaaDoorQ7
import Derived.Test.YtinejiodnnjpgaaDoorQ3
import Derived.Test.YtinejiodnnjpgaaDoorQ5
namespace Go.Proofs.YtinejiodnnjpgaaDoor
open Go.RowKit BigFrame
set_option linter.unusedVariables false
set_option linter.unusedSimpArgs false

/-- An act: kind, and where to. -/
abbrev Ac := Int × Int
def fitA (a : Ac) (fin : Bool) (n np : Int) : Prop :=
  (a.1 = 0 ∧ a.2 = 0) ∨ (a.1 = 3 ∧ a.2 = 0 ∧ fin = true) ∨ (a.1 = 1 ∧ 0 ≤ a.2 ∧ a.2 < n ∧ fin = false) ∨ (a.1 = 2 ∧ 0 ≤ a.2 ∧ a.2 < np)
instance (a : Ac) (fin : Bool) (n np : Int) : Decidable (fitA a fin n np) := by unfold fitA; infer_instance
structure Tb where
  acts : List (List Ac)
  gotos : List (List Int)
def actAt (T : Tb) (s : Int) (term : Int) : Ac := (T.acts.getD s.toNat []).getD term.toNat (0, 0)
def gotoAt (T : Tb) (s : Int) (a : Int) : Int := nth (T.gotos.getD s.toNat []) a.toNat
structure RowFits (G : Gr) (T : Tb) (i : Nat) : Prop where
  al : ((T.acts.getD i []).length : Int) = G.terms + 1
  gl : ((T.gotos.getD i []).length : Int) = G.names
  a : ∀ (k : Nat) (x : Ac), (T.acts.getD i [])[k]? = some x → fitA x (decide ((k : Int) = G.terms)) T.acts.length G.prods.length
  g : ∀ x ∈ T.gotos.getD i [], -1 ≤ x ∧ x < T.acts.length
structure TFits (G : Gr) (T : Tb) : Prop where
  ok : GOk G
  n0 : 1 ≤ T.acts.length
  n1 : T.acts.length ≤ 2000
  gl : T.gotos.length = T.acts.length
  row : ∀ i, i < T.acts.length → RowFits G T i
open Classical in
noncomputable def fitB (G : Gr) (T : Tb) : Bool := decide (TFits G T)
theorem fitB_t {G : Gr} {T : Tb} (h : TFits G T) : fitB G T = true := by unfold fitB; simp [h]
theorem fitB_f {G : Gr} {T : Tb} (h : ¬ TFits G T) : fitB G T = false := by unfold fitB; simp [h]

/-- States, and the trees between them. -/
abbrev St := List Int × List Tr
def topS (st : St) : Int := nth st.1 (st.1.length - 1)
def redP (G : Gr) (T : Tb) (st : St) (p : Int) : Option St :=
  if (prodAt G p).2.1.length ≤ st.2.length then
    let f := st.2.length - (prodAt G p).2.1.length
    let to := gotoAt T (nth st.1 f) (prodAt G p).1
    if to < 0 then none else some (st.1.take (f + 1) ++ [to], st.2.take f ++ [.node p 0 (st.2.drop f)])
  else none
def accP (G : Gr) (st : St) : Prop := st.2.length = 1 ∧ ∃ p tok ks, st.2.head? = some (.node p tok ks) ∧ 0 ≤ p ∧ (prodAt G p).1 = G.start
open Classical in
noncomputable def settleP (G : Gr) (T : Tb) (term : Int) : Nat → St → Except Nat (St × Int)
  | f, st =>
    if (actAt T (topS st) term).1 = 0 then .error 6
    else if (actAt T (topS st) term).1 = 1 then .ok (st, (actAt T (topS st) term).2)
    else if (actAt T (topS st) term).1 = 3 then (if accP G st then .ok (st, (actAt T (topS st) term).2) else .error 2)
    else match f with
      | 0 => .error 1
      | f + 1 => match redP G T st (actAt T (topS st) term).2 with
        | none => .error 2
        | some st' => settleP G T term f st'
noncomputable def takeP (G : Gr) (T : Tb) (term : Int) (i : Nat) (st : St) : Except Nat St :=
  if term < 0 ∨ G.terms ≤ term then .error 6
  else match settleP G T term 10000 st with
    | .error e => .error e
    | .ok (st', to) => .ok (st'.1 ++ [to], st'.2 ++ [.node (-1) i []])
/-- The terminals from the i-th on. -/
noncomputable def readP (G : Gr) (T : Tb) : List Int → Nat → St → Except (Nat × Nat) St
  | [], _, st => .ok st
  | t :: l, i, st => match takeP G T t i st with
    | .error e => .error (e, i)
    | .ok st' => readP G T l (i + 1) st'
noncomputable def parseP (G : Gr) (T : Tb) (l : List Int) : Except (Nat × Nat) Tr :=
  match readP G T l 0 ([0], []) with
  | .error e => .error e
  | .ok st => match settleP G T G.terms 10000 st with
    | .error e => .error (e, l.length)
    | .ok (st', _) => .ok (st'.2.headD .nil)
noncomputable def isOkS (G : Gr) (T : Tb) (st : St) (k : Int) : Bool := match settleP G T k 10000 st with | .error _ => false | .ok _ => true
noncomputable def nextP (G : Gr) (T : Tb) (l : List Int) : List Int :=
  match readP G T l 0 ([0], []) with
  | .error _ => []
  | .ok st => ((List.range (G.terms + 1).toNat).filter fun (k : Nat) => isOkS G T st k).map fun (k : Nat) => (k : Int)

/-- What holds of states and trees on the way. -/
structure StOk (G : Gr) (T : Tb) (st : St) : Prop where
  l : st.1.length = st.2.length + 1
  s : ∀ x ∈ st.1, 0 ≤ x ∧ x < T.acts.length
  t : ∀ x ∈ st.2, ∃ p tok ks, x = .node p tok ks ∧ p < G.prods.length
theorem st0 {G : Gr} {T : Tb} (h : TFits G T) : StOk G T ([0], []) :=
  ⟨rfl, fun x hx => by simp at hx; subst hx; have := h.n0; omega, fun x hx => by cases hx⟩
theorem StOk.top {G : Gr} {T : Tb} {st : St} (h : StOk G T st) : 0 ≤ topS st ∧ topS st < T.acts.length := by
  have hl := h.l
  have hlt : st.1.length - 1 < st.1.length := by omega
  refine h.s _ ?_
  unfold topS
  rw [nth_get hlt]
  exact List.getElem_mem _
theorem StOk.red {G : Gr} {T : Tb} (hf : TFits G T) {st st' : St} (h : StOk G T st) {p : Int} (hp0 : 0 ≤ p) (hp1 : p < G.prods.length) (e : redP G T st p = some st') : StOk G T st' := by
  unfold redP at e
  split at e
  · rename_i q
    simp only at e
    split at e
    · cases e
    · rename_i hto
      cases e
      have hl := h.l
      have hfl : st.2.length - (prodAt G p).2.1.length ≤ st.2.length := by omega
      obtain ⟨f, hfe⟩ : ∃ f, f = st.2.length - (prodAt G p).2.1.length := ⟨_, rfl⟩
      rw [← hfe] at hto hfl ⊢
      have hfs : f < st.1.length := by omega
      have hsf := h.s (nth st.1 f) (by rw [nth_get hfs]; exact List.getElem_mem _)
      refine ⟨by simp; omega, fun x hx => ?_, fun x hx => ?_⟩
      · simp only [List.mem_append, List.mem_singleton] at hx
        rcases hx with hx | hx
        · exact h.s x (List.mem_of_mem_take hx)
        · subst hx
          refine ⟨by omega, ?_⟩
          have hr := hf.row (nth st.1 f).toNat (by omega)
          unfold gotoAt nth
          by_cases hin : (prodAt G p).1.toNat < (T.gotos.getD (st.1.getD f 0).toNat []).length
          · rw [List.getD_eq_getElem?_getD, List.getElem?_eq_getElem hin]
            exact (hr.g _ (List.getElem_mem hin)).2
          · rw [List.getD_eq_getElem?_getD, List.getElem?_eq_none (by omega)]
            have := hf.n0
            simp; omega
      · simp only [List.mem_append, List.mem_singleton] at hx
        rcases hx with hx | hx
        · exact h.t x (List.mem_of_mem_take hx)
        · subst hx
          exact ⟨_, _, _, rfl, hp1⟩
  · cases e
theorem act_fit {G : Gr} {T : Tb} (hf : TFits G T) {s term : Int} (hs0 : 0 ≤ s) (hs1 : s < T.acts.length) (h0 : 0 ≤ term) (h1 : term ≤ G.terms) : fitA (actAt T s term) (decide (term = G.terms)) T.acts.length G.prods.length := by
  have hr := hf.row s.toNat (by omega)
  have hl := hr.al
  have hin : term.toNat < (T.acts.getD s.toNat []).length := by omega
  have := hr.a term.toNat _ (List.getElem?_eq_getElem hin)
  unfold actAt
  rw [List.getD_eq_getElem?_getD (l := T.acts.getD s.toNat []), List.getElem?_eq_getElem hin]
  rwa [Int.toNat_of_nonneg h0] at this
theorem red_len {G : Gr} {T : Tb} {st st' : St} {p : Int} (e : redP G T st p = some st') : st'.2.length ≤ st.2.length + 1 := by
  unfold redP at e
  split at e
  · simp only at e
    split at e
    · cases e
    · cases e
      simp
  · cases e
theorem settle_ok {G : Gr} {T : Tb} (hf : TFits G T) {term : Int} (h0 : 0 ≤ term) (h1 : term ≤ G.terms) : ∀ (f : Nat) (st st' : St) (to : Int), StOk G T st → settleP G T term f st = .ok (st', to) → StOk G T st' ∧ st'.2.length ≤ st.2.length + f ∧ 0 ≤ to ∧ to < T.acts.length := by
  intro f
  induction f with
  | zero =>
    intro st st' to h e
    have ha := act_fit hf h.top.1 h.top.2 h0 h1
    have hn := hf.n0
    unfold settleP at e
    unfold fitA at ha
    split at e
    · cases e
    · split at e
      · cases e; exact ⟨h, by omega, by omega, by omega⟩
      · split at e
        · split at e
          · cases e; exact ⟨h, by omega, by omega, by omega⟩
          · cases e
        · cases e
  | succ f ih =>
    intro st st' to h e
    have ha := act_fit hf h.top.1 h.top.2 h0 h1
    have hn := hf.n0
    unfold settleP at e
    unfold fitA at ha
    split at e
    · cases e
    · split at e
      · cases e; exact ⟨h, by omega, by omega, by omega⟩
      · split at e
        · split at e
          · cases e; exact ⟨h, by omega, by omega, by omega⟩
          · cases e
        · rename_i n0 n1 n3
          simp only at e
          split at e
          · cases e
          · rename_i st2 hr
            obtain ⟨g1, g2, g3⟩ := ih st2 st' to (h.red hf (by omega) (by omega) hr) e
            have := red_len hr
            exact ⟨g1, by omega, g3⟩
theorem take_ok {G : Gr} {T : Tb} (hf : TFits G T) {term : Int} {i : Nat} {st st' : St} (h : StOk G T st) (e : takeP G T term i st = .ok st') : StOk G T st' ∧ st'.2.length ≤ st.2.length + 10001 := by
  unfold takeP at e
  split at e
  · cases e
  · rename_i hq
    split at e
    · cases e
    · rename_i st2 to hs
      cases e
      obtain ⟨g1, g2, g3, g4⟩ := settle_ok hf (by omega) (by omega) 10000 st st2 to h hs
      have hl := g1.l
      refine ⟨⟨by simp; omega, fun x hx => ?_, fun x hx => ?_⟩, by simp; omega⟩
      · simp only [List.mem_append, List.mem_singleton] at hx
        rcases hx with hx | rfl
        · exact g1.s x hx
        · exact ⟨g3, g4⟩
      · simp only [List.mem_append, List.mem_singleton] at hx
        rcases hx with hx | rfl
        · exact g1.t x hx
        · exact ⟨_, _, _, rfl, by omega⟩
end Go.Proofs.YtinejiodnnjpgaaDoor
namespace Go.Proofs.YtinejiodnnjpgaaDoor
open Go.RowKit BigFrame
set_option linter.unusedVariables false
set_option linter.unusedSimpArgs false
set_option maxRecDepth 100000

def shAc : Sh Ac := shP shInt shInt
/-- Rows of acts; rows of numbers. -/
def RdA (w : World) (B : Nat) (A : Option Addr) (n c : Nat) (Q : List Ac) : Prop := (shL shAc).rd w (Lo B) Q [.slice A n c]
def RdAA (w : World) (B : Nat) (A : Option Addr) (n c : Nat) (Q : List (List Ac)) : Prop := (shL (shL shAc)).rd w (Lo B) Q [.slice A n c]
def RdII (w : World) (B : Nat) (A : Option Addr) (n c : Nat) (Q : List (List Int)) : Prop := (shL (shL shInt)).rd w (Lo B) Q [.slice A n c]
theorem RdA.below {w w' : World} {B : Nat} {A : Option Addr} {n c : Nat} {Q : List Ac} (h : RdA w B A n c Q) (hb : Below B w w') : RdA w' B A n c Q := Sh.below h hb
theorem RdAA.below {w w' : World} {B : Nat} {A : Option Addr} {n c : Nat} {Q : List (List Ac)} (h : RdAA w B A n c Q) (hb : Below B w w') : RdAA w' B A n c Q := Sh.below h hb
theorem RdII.below {w w' : World} {B : Nat} {A : Option Addr} {n c : Nat} {Q : List (List Int)} (h : RdII w B A n c Q) (hb : Below B w w') : RdII w' B A n c Q := Sh.below h hb
theorem RdAA.more {w : World} {B B' : Nat} {A : Option Addr} {n c : Nat} {Q : List (List Ac)} (h : RdAA w B A n c Q) (hB : B ≤ B') : RdAA w B' A n c Q := Sh.up h hB
theorem RdII.more {w : World} {B B' : Nat} {A : Option Addr} {n c : Nat} {Q : List (List Int)} (h : RdII w B A n c Q) (hB : B ≤ B') : RdII w B' A n c Q := Sh.up h hB
theorem shL_len {α : Type} {S : Sh α} {w : World} {F : Nat → Prop} {Q : List α} {A : Option Addr} {n c : Nat} (h : (shL S).rd w F Q [.slice A n c]) : Q.length = n ∧ n ≤ c ∧ c ≤ maxLen := by
  obtain ⟨A', c', e, h1, h2⟩ := shL_form h
  simp at e
  obtain ⟨rfl, rfl, rfl⟩ := e
  exact ⟨rfl, h1, h2⟩
theorem RdA.at_ {w : World} {B : Nat} {A : Option Addr} {n c : Nat} {Q : List Ac} (h : RdA w B A n c Q) (h0 : 0 < n) :
    ∃ b off, A = some ⟨b, off, none⟩ ∧ b < B ∧ ∀ k, k < n → w.cell? ⟨b, off + k * 2, none⟩ = some (.int .i64 (Q.getD k (0, 0)).1) ∧ w.cell? ⟨b, off + k * 2 + 1, none⟩ = some (.int .i64 (Q.getD k (0, 0)).2) := by
  obtain ⟨hl, _, _⟩ := shL_len h
  obtain ⟨b, off, e, hb, hc⟩ := shL_at h (by decide) (by omega)
  refine ⟨b, off, e, hb, fun k hk => ?_⟩
  have hq : Q[k]? = some (Q[k]'(by omega)) := List.getElem?_eq_getElem (by omega)
  obtain ⟨d, hd, hcell⟩ := hc k _ hq
  obtain ⟨d1, d2, rfl, h1, h2⟩ := hd
  obtain ⟨rfl, _⟩ := h1
  obtain ⟨rfl, _⟩ := h2
  rw [List.getD_eq_getElem?_getD, hq]
  refine ⟨?_, ?_⟩
  · have := hcell 0 _ rfl; simpa [shAc, shP, shI] using this
  · have := hcell 1 _ rfl; simpa [shAc, shP, shI, Nat.add_assoc] using this
theorem RdAA.at_ {w : World} {B : Nat} {A : Option Addr} {n c : Nat} {Q : List (List Ac)} (h : RdAA w B A n c Q) (h0 : 0 < n) :
    ∃ b off, A = some ⟨b, off, none⟩ ∧ b < B ∧ ∀ k, k < n → ∃ A' n' c', w.cell? ⟨b, off + k, none⟩ = some (.slice A' n' c') ∧ (Q.getD k []).length = n' ∧ n' ≤ c' ∧ c' ≤ maxLen ∧ RdA w B A' n' c' (Q.getD k []) := by
  obtain ⟨hl, _, _⟩ := shL_len h
  obtain ⟨b, off, e, hb, hc⟩ := shL_at h (by decide) (by omega)
  refine ⟨b, off, e, hb, fun k hk => ?_⟩
  have hq : Q[k]? = some (Q[k]'(by omega)) := List.getElem?_eq_getElem (by omega)
  obtain ⟨d, hd, hcell⟩ := hc k _ hq
  obtain ⟨A', c', e2, g1, g2⟩ := shL_form hd
  subst e2
  rw [List.getD_eq_getElem?_getD, hq]
  exact ⟨A', _, c', by have := hcell 0 _ rfl; simpa [shL] using this, rfl, g1, g2, hd⟩
theorem RdII.at_ {w : World} {B : Nat} {A : Option Addr} {n c : Nat} {Q : List (List Int)} (h : RdII w B A n c Q) (h0 : 0 < n) :
    ∃ b off, A = some ⟨b, off, none⟩ ∧ b < B ∧ ∀ k, k < n → ∃ A' n' c', w.cell? ⟨b, off + k, none⟩ = some (.slice A' n' c') ∧ (Q.getD k []).length = n' ∧ n' ≤ c' ∧ c' ≤ maxLen ∧ RdI w B A' (Q.getD k []) := by
  obtain ⟨hl, _, _⟩ := shL_len h
  obtain ⟨b, off, e, hb, hc⟩ := shL_at h (by decide) (by omega)
  refine ⟨b, off, e, hb, fun k hk => ?_⟩
  have hq : Q[k]? = some (Q[k]'(by omega)) := List.getElem?_eq_getElem (by omega)
  obtain ⟨d, hd, hcell⟩ := hc k _ hq
  obtain ⟨A', c', e2, g1, g2⟩ := shL_form hd
  subst e2
  obtain ⟨_, _, _, r2⟩ := rdI_sh hd
  rw [List.getD_eq_getElem?_getD, hq]
  exact ⟨A', _, c', by have := hcell 0 _ rfl; simpa [shL] using this, rfl, g1, g2, r2⟩
/-- A table in memory. -/
structure TbIn (w : World) (B : Nat) (T : Tb) (Aa : Option Addr) (na ca : Nat) (Ag : Option Addr) (ng cg : Nat) : Prop where
  a : RdAA w B Aa na ca T.acts
  g : RdII w B Ag ng cg T.gotos
theorem TbIn.below {w w' : World} {B : Nat} {T : Tb} {Aa Ag : Option Addr} {na ca ng cg : Nat} (h : TbIn w B T Aa na ca Ag ng cg) (hb : Below B w w') : TbIn w' B T Aa na ca Ag ng cg := ⟨h.a.below hb, h.g.below hb⟩
theorem TbIn.more {w : World} {B B' : Nat} {T : Tb} {Aa Ag : Option Addr} {na ca ng cg : Nat} (h : TbIn w B T Aa na ca Ag ng cg) (hB : B ≤ B') : TbIn w B' T Aa na ca Ag ng cg := ⟨h.a.more hB, h.g.more hB⟩
end Go.Proofs.YtinejiodnnjpgaaDoor
