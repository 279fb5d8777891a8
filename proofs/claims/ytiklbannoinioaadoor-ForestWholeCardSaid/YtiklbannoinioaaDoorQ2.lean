/- Shapes: what a list of cells reads as (integers, texts, pairs, slices of whatever shape), in a set of blocks; kept where those blocks are kept; met in whatever came in as data. · A block known whole: made by make, read, written; and what stays. · Arguments opened: a slice of integers that came in. -/
import Derived.WalkKit
import Derived.Lib.Hide
import Derived.ProofKit
import Derived.OpenShut
import Derived.Deep.Slices
import Derived.Test.YtiklbannoinioaaDoorQ1
import Derived.Deep.OwnRows
import Derived.Test.YtiklbannoinioaaDoorProg
namespace Go.Proofs.YtiklbannoinioaaDoor
open Go.ChangeShapes Go.WideShapes Go.RowKit
set_option linter.unusedVariables false
set_option linter.unusedSimpArgs false
set_option maxRecDepth 100000

structure Sh (α : Type) where
  n : Nat
  rd : World → (Nat → Prop) → α → List Value → Prop
  len : ∀ {w F a cs}, rd w F a cs → cs.length = n
  keep : ∀ {w w' F a cs}, rd w F a cs → (∀ p : Addr, F p.block → w'.cell? p = w.cell? p) → rd w' F a cs
  more : ∀ {w} {F F' : Nat → Prop} {a cs}, rd w F a cs → (∀ k, F k → F' k) → rd w F' a cs
  one : ∀ {w F a cs}, rd w F a cs → ∀ u ∈ cs, u.oneCell' = true

/-- The blocks below B. -/
def Lo (B : Nat) : Nat → Prop := fun k => k < B
theorem Lo.mk {B k : Nat} (h : k < B) : Lo B k := h
theorem Lo.up {B B' : Nat} (h : B ≤ B') : ∀ k, Lo B k → Lo B' k := fun k hk => Nat.lt_of_lt_of_le hk h

def shI (k : IntKind) : Sh Int where
  n := 1
  rd := fun _ _ a cs => cs = [.int k a] ∧ (Lit.int k a).wf = true
  len := fun h => by rw [h.1]; rfl
  keep := fun h _ => h
  more := fun h _ => h
  one := fun h u hu => by rw [h.1] at hu; simp at hu; subst hu; rfl
abbrev shInt : Sh Int := shI .i64

def shB : Sh Bool where
  n := 1
  rd := fun _ _ a cs => cs = [.bool a]
  len := fun h => by rw [h]; rfl
  keep := fun h _ => h
  more := fun h _ => h
  one := fun h u hu => by rw [h] at hu; simp at hu; subst hu; rfl

def shS : Sh ByteArray where
  n := 1
  rd := fun _ _ a cs => cs = [.string a] ∧ a.size ≤ maxLen
  len := fun h => by rw [h.1]; rfl
  keep := fun h _ => h
  more := fun h _ => h
  one := fun h u hu => by rw [h.1] at hu; simp at hu; subst hu; rfl

def shP {α β : Type} (S : Sh α) (T : Sh β) : Sh (α × β) where
  n := S.n + T.n
  rd := fun w F a cs => ∃ c d, cs = c ++ d ∧ S.rd w F a.1 c ∧ T.rd w F a.2 d
  len := fun ⟨c, d, e, h1, h2⟩ => by rw [e, List.length_append, S.len h1, T.len h2]
  keep := fun ⟨c, d, e, h1, h2⟩ hk => ⟨c, d, e, S.keep h1 hk, T.keep h2 hk⟩
  more := fun ⟨c, d, e, h1, h2⟩ hk => ⟨c, d, e, S.more h1 hk, T.more h2 hk⟩
  one := fun ⟨c, d, e, h1, h2⟩ u hu => by
    rw [e, List.mem_append] at hu
    rcases hu with hu | hu
    · exact S.one h1 u hu
    · exact T.one h2 u hu

/-- The cells xs lie at A, in a block of F. -/
def At (w : World) (F : Nat → Prop) (A : Option Addr) (xs : List Value) : Prop :=
  xs ≠ [] → ∃ b off, A = some ⟨b, off, none⟩ ∧ F b ∧ ∀ (j : Nat) (u : Value), xs[j]? = some u → w.cell? ⟨b, off + j, none⟩ = some u

def shL {α : Type} (S : Sh α) : Sh (List α) where
  n := 1
  rd := fun w F l cs => ∃ (A : Option Addr) (c : Nat) (css : List (List Value)), cs = [.slice A l.length c] ∧ l.length ≤ c ∧ c ≤ maxLen ∧ css.length = l.length ∧
    (∀ (i : Nat) (a : α) (d : List Value), l[i]? = some a → css[i]? = some d → S.rd w F a d) ∧ At w F A css.flatten
  len := fun ⟨A, c, css, e, _⟩ => by rw [e]; rfl
  keep := fun ⟨A, c, css, e, h1, h2, h3, h4, h5⟩ hk => ⟨A, c, css, e, h1, h2, h3, fun i a d ha hd => S.keep (h4 i a d ha hd) hk, fun hn => by
    obtain ⟨b, off, e, hb, hc⟩ := h5 hn
    exact ⟨b, off, e, hb, fun j u hu => (hk _ hb).trans (hc j u hu)⟩⟩
  more := fun ⟨A, c, css, e, h1, h2, h3, h4, h5⟩ hk => ⟨A, c, css, e, h1, h2, h3, fun i a d ha hd => S.more (h4 i a d ha hd) hk, fun hn => by
    obtain ⟨b, off, e, hb, hc⟩ := h5 hn
    exact ⟨b, off, e, hk _ hb, hc⟩⟩
  one := fun ⟨A, c, css, e, _⟩ u hu => by rw [e] at hu; simp at hu; subst hu; rfl

theorem flatten_get {m : Nat} : ∀ (css : List (List Value)) (k j : Nat) (d : List Value) (u : Value), (∀ (i : Nat) (e : List Value), css[i]? = some e → e.length = m) → css[k]? = some d → d[j]? = some u → css.flatten[k * m + j]? = some u
  | [], k, j, d, u, _, h, _ => by simp at h
  | e :: css, 0, j, d, u, hm, h, hj => by
    simp at h; subst h
    have hl := hm 0 e rfl
    have hjm : j < e.length := (List.getElem?_eq_some_iff.1 hj).1
    rw [List.flatten_cons, List.getElem?_append_left (by omega)]
    simpa using hj
  | e :: css, k + 1, j, d, u, hm, h, hj => by
    have hl := hm 0 e rfl
    rw [List.flatten_cons, List.getElem?_append_right (by rw [hl, Nat.add_mul]; omega), hl, show (k + 1) * m + j - m = k * m + j from by rw [Nat.add_mul]; omega]
    exact flatten_get css k j d u (fun i e' he => hm (i + 1) e' (by simpa using he)) (by simpa using h) hj

/-- Element k of a slice: its cells, and what they read as. -/
theorem shL_at {α : Type} {S : Sh α} {w : World} {F : Nat → Prop} {l : List α} {A : Option Addr} {n c : Nat} (h : (shL S).rd w F l [.slice A n c]) (hS : 0 < S.n) (hl : 0 < l.length) :
    ∃ b off, A = some ⟨b, off, none⟩ ∧ F b ∧ ∀ (k : Nat) (a : α), l[k]? = some a → ∃ d : List Value, S.rd w F a d ∧ ∀ (j : Nat) (u : Value), d[j]? = some u → w.cell? ⟨b, off + (k * S.n + j), none⟩ = some u := by
  obtain ⟨A', c', css, e, h1, h2, h3, h4, h5⟩ := h
  simp at e
  obtain ⟨rfl, rfl, rfl⟩ := e
  have hlen : ∀ (i : Nat) (d : List Value), css[i]? = some d → d.length = S.n := by
    intro i d hd
    have hi : i < l.length := by rw [← h3]; exact (List.getElem?_eq_some_iff.1 hd).1
    exact S.len (h4 i l[i] d (List.getElem?_eq_getElem hi) hd)
  have hne : css.flatten ≠ [] := by
    intro hn
    have h0 : 0 < css.length := by omega
    have := flatten_get (m := S.n) css 0 0 css[0] ((css[0])[0]'(by rw [hlen 0 _ (List.getElem?_eq_getElem h0)]; exact hS)) hlen (List.getElem?_eq_getElem h0) (List.getElem?_eq_getElem _)
    rw [hn] at this
    simp at this
  obtain ⟨b, off, e, hb, hc⟩ := h5 hne
  refine ⟨b, off, e, hb, fun k a ha => ?_⟩
  have hk : k < css.length := by rw [h3]; exact (List.getElem?_eq_some_iff.1 ha).1
  exact ⟨css[k], h4 k a _ ha (List.getElem?_eq_getElem hk), fun j u hu => hc _ u (flatten_get css k j _ u hlen (List.getElem?_eq_getElem hk) hu)⟩

theorem shL_form {α : Type} {S : Sh α} {w : World} {F : Nat → Prop} {l : List α} {cs : List Value} (h : (shL S).rd w F l cs) : ∃ A c, cs = [.slice A l.length c] ∧ l.length ≤ c ∧ c ≤ maxLen := by
  obtain ⟨A, c, css, e, h1, h2, _⟩ := h
  exact ⟨A, c, e, h1, h2⟩
theorem shL_val {α : Type} {S : Sh α} {w : World} {F : Nat → Prop} {l : List α} {v : Value} (h : (shL S).rd w F l [v]) : ∃ A c, v = .slice A l.length c ∧ l.length ≤ c ∧ c ≤ maxLen := by
  obtain ⟨A, c, e, h1, h2⟩ := shL_form h
  simp at e
  exact ⟨A, c, e, h1, h2⟩

theorem Sh.below {α : Type} {S : Sh α} {w w' : World} {B : Nat} {a : α} {cs : List Value} (h : S.rd w (Lo B) a cs) (hb : Below B w w') : S.rd w' (Lo B) a cs := S.keep h fun _ hp => hb.cell hp
theorem Sh.up {α : Type} {S : Sh α} {w : World} {B B' : Nat} {a : α} {cs : List Value} (h : S.rd w (Lo B) a cs) (hB : B ≤ B') : S.rd w (Lo B') a cs := S.more h (Lo.up hB)

/-! ### met in what came in -/
def Opens (P : Program) (t : TypeId) {α : Type} (S : Sh α) : Prop :=
  P.cellsOf t = S.n ∧ ∀ (H : Type) (enc : TypeId × Value → H) (w : World) (base : Nat) (held : Bool) (fuel : Nat) (cs : List Value) (x : DataW H × List MemPlace),
    DataW.trod enc P w base (fun _ => true) held fuel t cs = some x → ∃ a, S.rd w (Lo w.heap.size) a cs

theorem opens_int {P : Program} {t : TypeId} {k : IntKind} (ht : P.underlying t = some (.int k)) (hc : P.cellsOf t = 1) : Opens P t (shI k) :=
  ⟨hc, fun H enc w base held fuel cs x h => by
    obtain ⟨n, rfl, _, hw⟩ := DataW.trod_int ht h
    exact ⟨n, rfl, hw⟩⟩
theorem opens_bool {P : Program} {t : TypeId} (ht : P.underlying t = some .bool) (hc : P.cellsOf t = 1) : Opens P t shB :=
  ⟨hc, fun H enc w base held fuel cs x h => by
    obtain ⟨n, rfl, _⟩ := DataW.trod_bool ht h
    exact ⟨n, rfl⟩⟩
theorem opens_string {P : Program} {t : TypeId} (ht : P.underlying t = some .string) (hc : P.cellsOf t = 1) : Opens P t shS :=
  ⟨hc, fun H enc w base held fuel cs x h => by
    obtain ⟨n, rfl, _, hw⟩ := DataW.trod_string ht h
    exact ⟨n, rfl, hw⟩⟩

theorem opens_slice {P : Program} {t e : TypeId} {α : Type} {S : Sh α} (ht : P.underlying t = some (.slice e)) (hc : P.cellsOf t = 1) (hS : 0 < S.n) (he : Opens P e S) : Opens P t (shL S) :=
  ⟨hc, fun H enc w base held fuel cs x h => by
    rcases Deep.open_slice ht h with ⟨rfl, _⟩ | ⟨a, len, cap, m, n, D, Pl, rfl, _, hl, hm, hmm, _, hx⟩
    · exact ⟨[], none, 0, [], rfl, Nat.le_refl _, Nat.zero_le _, rfl, fun i a d h => by simp at h, fun h => absurd rfl h⟩
    · rw [if_pos rfl] at hmm
      subst hmm
      obtain ⟨css, hcss⟩ := Deep.choose_lt (α := List Value) (p := fun i d => w.cells? base (a.add (i * P.cellsOf e)) (P.cellsOf e) = some d ∧ ∃ a, S.rd w (Lo w.heap.size) a d) (n := len) (fun i hi => by
        obtain ⟨d, h1, h2⟩ := hx i (by omega)
        exact ⟨d, h1, he.2 H enc w base held n d _ h2⟩)
      obtain ⟨l, hl'⟩ : ∃ l : List α, l.length = len ∧ ∀ (i : Nat) (a : α), l[i]? = some a → S.rd w (Lo w.heap.size) a (css i) := by
        have : ∀ k, k ≤ len → ∃ l : List α, l.length = k ∧ ∀ (i : Nat) (a : α), l[i]? = some a → S.rd w (Lo w.heap.size) a (css i) := by
          intro k
          induction k with
          | zero => intro _; exact ⟨[], rfl, fun i a h => by simp at h⟩
          | succ k ih =>
            intro hk
            obtain ⟨l, h1, h2⟩ := ih (by omega)
            obtain ⟨a, ha⟩ := (hcss k (by omega)).2
            refine ⟨l ++ [a], by simp [h1], fun i b hb => ?_⟩
            by_cases hi : i < l.length
            · rw [List.getElem?_append_left hi] at hb; exact h2 i b hb
            · rw [List.getElem?_append_right (by omega)] at hb
              have : i = l.length := by
                rcases Nat.lt_or_ge l.length i with h | h
                · rw [List.getElem?_eq_none (by simp; omega)] at hb; cases hb
                · omega
              subst this
              simp at hb
              subst hb
              rw [h1]; exact ha
        exact this len (Nat.le_refl _)
      obtain ⟨hlen, hrd⟩ := hl'
      refine ⟨l, some a, m, (List.range len).map css, by rw [hlen], by omega, hm, by simp [hlen], fun i b d hb hd => ?_, fun hne => ?_⟩
      · have hi : i < len := by rw [← hlen]; exact (List.getElem?_eq_some_iff.1 hb).1
        rw [List.getElem?_map, List.getElem?_range hi] at hd
        simp at hd
        subst hd
        exact hrd i b hb
      · have h0 : 0 < len := by
          rcases Nat.eq_zero_or_pos len with h0 | h0
          · subst h0; simp at hne
          · exact h0
        have hcs : ∀ i, i < len → (css i).length = S.n ∧ ∀ j, j < S.n → w.cell? (a.add (i * S.n + j)) = (css i)[j]? := by
          intro i hi
          obtain ⟨_, h2, h3⟩ := World.cells?_some (hcss i hi).1
          rw [he.1] at h2 h3
          exact ⟨h2, fun j hj => by rw [← Deep.add_add]; exact h3 j hj⟩
        obtain ⟨b, off, spot⟩ := a
        have hc0 : w.cell? (⟨b, off, spot⟩ : Addr) = some ((css 0)[0]'(by rw [(hcs 0 h0).1]; exact hS)) := by
          have := (hcs 0 h0).2 0 hS
          rw [List.getElem?_eq_getElem (by rw [(hcs 0 h0).1]; exact hS)] at this
          simpa [Addr.add] using this
        have hspot : spot = none := by simpa [Addr.add] using World.cell?_spot hc0
        subst hspot
        refine ⟨b, off, rfl, World.block_lt_of_cell? w _ hc0, fun j u hu => ?_⟩
        have hflat : ∀ (m : Nat), m ≤ len → ((List.range m).map css).flatten.length = m * S.n ∧ ∀ (j : Nat) (u : Value), ((List.range m).map css).flatten[j]? = some u → w.cell? ⟨b, off + j, none⟩ = some u := by
          intro m
          induction m with
          | zero => intro _; simp
          | succ m ih =>
            intro hm'
            obtain ⟨i1, i2⟩ := ih (by omega)
            have hsp : ((List.range (m + 1)).map css).flatten = ((List.range m).map css).flatten ++ css m := by
              rw [List.range_succ, List.map_append, List.flatten_append]; simp
            refine ⟨by rw [hsp, List.length_append, i1, (hcs m (by omega)).1, Nat.add_mul, Nat.one_mul], fun j u hu => ?_⟩
            rw [hsp] at hu
            by_cases hj : j < ((List.range m).map css).flatten.length
            · rw [List.getElem?_append_left hj] at hu; exact i2 j u hu
            · rw [List.getElem?_append_right (by omega), i1] at hu
              have hjm : j - m * S.n < S.n := by have := (List.getElem?_eq_some_iff.1 hu).1; rw [(hcs m (by omega)).1] at this; exact this
              have := (hcs m (by omega)).2 (j - m * S.n) hjm
              rw [hu] at this
              have hadd : (⟨b, off, none⟩ : Addr).add (m * S.n + (j - m * S.n)) = ⟨b, off + j, none⟩ := by
                rw [i1] at hj
                rw [show m * S.n + (j - m * S.n) = j from by omega]
                unfold Addr.add; split <;> simp_all
              rwa [hadd] at this
        exact (hflat len (Nat.le_refl _)).2 j u hu⟩

/-- The fields of a struct from one on, as nested pairs. -/
def OpF (P : Program) (fs : List Field) (off : Nat) {α : Type} (S : Sh α) : Prop :=
  ∀ (H : Type) (enc : TypeId × Value → H) (w : World) (base : Nat) (held : Bool) (fuel : Nat) (cs : List Value), cs.length = off + S.n →
    (∀ (i : Nat) (f : Field), fs[i]? = some f → ∃ x, DataW.trod enc P w base (fun _ => true) held fuel f.type ((cs.drop f.offset).take (P.cellsOf f.type)) = some x) → ∃ a, S.rd w (Lo w.heap.size) a (cs.drop off)
theorem opF_one {P : Program} {f : Field} {off : Nat} {α : Type} {S : Sh α} (ho : f.offset = off) (h : Opens P f.type S) : OpF P [f] off S := by
  intro H enc w base held fuel cs hl hf
  obtain ⟨x, hx⟩ := hf 0 f rfl
  rw [ho, h.1, List.take_of_length_le (by rw [List.length_drop, hl]; omega)] at hx
  exact h.2 H enc w base held fuel _ x hx
theorem opF_cons {P : Program} {f : Field} {fs : List Field} {off : Nat} {α β : Type} {S : Sh α} {T : Sh β} (ho : f.offset = off) (h : Opens P f.type S) (hr : OpF P fs (off + S.n) T) : OpF P (f :: fs) off (shP S T) := by
  intro H enc w base held fuel cs hl hf
  have hl' : cs.length = off + (S.n + T.n) := hl
  obtain ⟨x, hx⟩ := hf 0 f rfl
  rw [ho, h.1] at hx
  obtain ⟨a, ha⟩ := h.2 H enc w base held fuel _ x hx
  obtain ⟨b, hb⟩ := hr H enc w base held fuel cs (by omega) (fun i g hg => hf (i + 1) g (by simpa using hg))
  refine ⟨(a, b), (cs.drop off).take S.n, cs.drop (off + S.n), ?_, ha, hb⟩
  rw [← List.drop_drop, List.take_append_drop]
theorem opens_struct {P : Program} {t : TypeId} {fs : Array Field} {α : Type} {S : Sh α} (ht : P.underlying t = some (.struct fs)) (hc : P.cellsOf t = S.n) (h : OpF P fs.toList 0 S) : Opens P t S :=
  ⟨hc, fun H enc w base held fuel cs x hx => by
    obtain ⟨xs, n, _, _, hl, hxl, hg⟩ := DataW.trod_struct ht hx
    have := h H enc w base held n cs (by rw [hl, hc]; omega) (fun i f hf => by
      have hf' : fs[i]? = some f := by simpa using hf
      have hi : i < xs.length := by rw [hxl]; exact (Array.getElem?_eq_some_iff.1 hf').1
      exact ⟨xs[i], by rw [hg i f hf', List.getElem?_eq_getElem hi]⟩)
    simpa using this⟩

/-- An argument whose cells read in a shape. -/
def IsIn {α : Type} (S : Sh α) (W : World) (v : Value) : Prop := ∃ a, S.rd W (Lo W.heap.size) a v.cells.toList
theorem isIn_of {P : Program} {t : TypeId} {α : Type} {S : Sh α} (ho : Opens P t S) {H : Type} {enc : TypeId × Value → H} {W : World} {base : Nat} {v : Value} {d : DataW H} {p : List MemPlace} {held : Bool}
    (h : DataW.Trod enc P W base (fun _ => true) held t v d p) : IsIn S W v := by
  obtain ⟨fuel, hf⟩ := h
  exact ho.2 H enc W base held fuel _ _ hf
end Go.Proofs.YtiklbannoinioaaDoor
namespace Go.Proofs.YtiklbannoinioaaDoor
open Go.RowKit
set_option linter.unusedVariables false
set_option linter.unusedSimpArgs false
set_option maxRecDepth 100000

def Blk (w : World) (g : Nat) (e : TypeId) (vs : List Value) : Prop := w.heap[g]? = some (.cells vs.toArray e (0, 0))

section
variable {w w' : World} {g : Nat} {e : TypeId} {vs : List Value}
theorem Blk.lt (h : Blk w g e vs) : g < w.heap.size := (Array.getElem?_eq_some_iff.1 h).1
theorem Blk.cell (h : Blk w g e vs) {i : Nat} {u : Value} (hu : vs[i]? = some u) : w.cell? ⟨g, i, none⟩ = some u := by
  rw [cell_of_row w g i _ e (0, 0) h]; simpa using hu
theorem Blk.frozen (h : Blk w g e vs) (i : Nat) : w.frozen? ⟨g, i, none⟩ = false := by
  unfold Blk at h
  simp [World.frozen?, h]
theorem Blk.new (w : World) (e : TypeId) (vs : List Value) : Blk (w.alloc (.cells vs.toArray e)) w.heap.size e vs := heap_alloc_new w _
theorem Blk.drew (h : Blk w g e vs) : Blk w.drew g e vs := h
theorem Blk.drewN (h : Blk w g e vs) (n : Nat) : Blk (w.drewN n) g e vs := h
theorem Blk.alloc (h : Blk w g e vs) (o : Obj) : Blk (w.alloc o) g e vs := (Below.heap_alloc w o g h.lt).trans h
theorem Blk.set_ (h : Blk w g e vs) (i : Nat) (u : Value) : Blk (w.setCell ⟨g, i, none⟩ u) g e (vs.set i u) := by
  unfold Blk at h ⊢
  simp [World.setCell, Array.getElem?_modify, h]
theorem Blk.far (h : Blk w g e vs) {p : Addr} (hp : g ≠ p.block) (u : Value) : Blk (w.setCell p u) g e vs := (Below.heap_setCell w p u g hp).trans h
theorem Blk.below {B : Nat} (h : Blk w g e vs) (hb : Below B w w') (hg : g < B) : Blk w' g e vs := (hb.block g hg).trans h
theorem Blk.below' (h : Blk w g e vs) (hb : Below w.heap.size w w') : Blk w' g e vs := h.below hb h.lt
theorem Blk.grown {row : Option Nat} (h : Blk w g e vs) (hb : w.grownBy w' row) (hg : some g ≠ row) : Blk w' g e vs := (hb.block g h.lt hg).trans h
end

theorem setCell_size (w : World) (p : Addr) (u : Value) : (w.setCell p u).heap.size = w.heap.size := by simp [World.setCell]

/-- n zeros. -/
def zs (z : Value) (n : Nat) : Array Value := (List.replicate n z).toArray

theorem madeCells_one (z : Value) (n : Nat) : madeCells #[z] n = zs z n := by
  apply Array.ext'
  simp [madeCells, zs]
  apply List.ext_getElem?
  intro i
  by_cases h : i < n
  · simp [h, Nat.mod_one]
  · simp [h]

theorem mk_row {P : Program} {t e : TypeId} {bytes : Nat} {z : Value} (E : ElTy P t e 1 bytes z) (hz1 : z.cells = #[z]) (kl kc : IntKind) (n : Nat) (k : Int) (hk : k = n) (hbytes : bytes * n ≤ 281474976710656) (h63 : n ≤ 9223372036854775807) (w : World) :
    (Instr.makeSlice t (.int kl k) (.int kc k)).run P w = .ok (.slice (some ⟨w.heap.size, 0, none⟩) n n) (w.alloc (.cells (zs z n) e)) := by
  subst hk
  rw [run_make_row' t e z bytes E.ht E.hi hz1 kl kc n hbytes h63 w, madeCells_one]

theorem Blk.made (w : World) (e : TypeId) (z : Value) (n : Nat) : Blk (w.alloc (.cells (zs z n) e)) w.heap.size e (List.replicate n z) := heap_alloc_new w _

/-- Lists of integers, of bools, as cells. -/
def iv (l : List Int) : List Value := l.map (Value.int .i64)
def bv (l : List Bool) : List Value := l.map Value.bool
theorem iv_get {l : List Int} {k : Nat} (h : k < l.length) : (iv l)[k]? = some (.int .i64 (nth l k)) := by
  unfold iv; rw [List.getElem?_map, nth_some h]; rfl
theorem iv_set (l : List Int) (k : Nat) (x : Int) : (iv l).set k (.int .i64 x) = iv (l.set k x) := by unfold iv; rw [List.map_set]
theorem iv_rep (n : Nat) (x : Int) : List.replicate n (Value.int .i64 x) = iv (List.replicate n x) := by unfold iv; rw [List.map_replicate]
theorem iv_len (l : List Int) : (iv l).length = l.length := List.length_map _
def bth (l : List Bool) (k : Nat) : Bool := l.getD k false
theorem bth_get {l : List Bool} {k : Nat} (h : k < l.length) : bth l k = l[k] := by simp [bth, h]
theorem bth_some {l : List Bool} {k : Nat} (h : k < l.length) : l[k]? = some (bth l k) := by rw [bth_get h, List.getElem?_eq_getElem h]
theorem bv_get {l : List Bool} {k : Nat} (h : k < l.length) : (bv l)[k]? = some (.bool (bth l k)) := by
  unfold bv; rw [List.getElem?_map, bth_some h]; rfl
theorem bv_set (l : List Bool) (k : Nat) (x : Bool) : (bv l).set k (.bool x) = bv (l.set k x) := by unfold bv; rw [List.map_set]
theorem bv_rep (n : Nat) (x : Bool) : List.replicate n (Value.bool x) = bv (List.replicate n x) := by unfold bv; rw [List.map_replicate]
theorem bv_len (l : List Bool) : (bv l).length = l.length := List.length_map _

theorem Blk.icell {w : World} {g : Nat} {e : TypeId} {l : List Int} (h : Blk w g e (iv l)) {k : Nat} (hk : k < l.length) : w.cell? ⟨g, k, none⟩ = some (.int .i64 (nth l k)) := h.cell (iv_get hk)
theorem Blk.iset {w : World} {g : Nat} {e : TypeId} {l : List Int} (h : Blk w g e (iv l)) (k : Nat) (x : Int) : Blk (w.setCell ⟨g, k, none⟩ (.int .i64 x)) g e (iv (l.set k x)) := by rw [← iv_set]; exact h.set_ k _
theorem Blk.bcell {w : World} {g : Nat} {e : TypeId} {l : List Bool} (h : Blk w g e (bv l)) {k : Nat} (hk : k < l.length) : w.cell? ⟨g, k, none⟩ = some (.bool (bth l k)) := h.cell (bv_get hk)
theorem Blk.bset {w : World} {g : Nat} {e : TypeId} {l : List Bool} (h : Blk w g e (bv l)) (k : Nat) (x : Bool) : Blk (w.setCell ⟨g, k, none⟩ (.bool x)) g e (bv (l.set k x)) := by rw [← bv_set]; exact h.set_ k _

/-- A whole block of integers as a slice that reads. -/
theorem Blk.rdI {w : World} {g : Nat} {e : TypeId} {l : List Int} (h : Blk w g e (iv l)) {B : Nat} (hB : g < B) : RdI w B (some ⟨g, 0, none⟩) l := fun _ =>
  ⟨g, 0, rfl, hB, fun j u hu => by rw [Nat.zero_add]; exact h.cell hu⟩
theorem nth_set {l : List Int} {k j : Nat} {x : Int} (hk : k < l.length) : nth (l.set k x) j = if k = j then x else nth l j := by
  unfold nth
  by_cases h : k = j
  · subst h; simp [List.getD, hk]
  · simp [List.getD, h]
theorem bth_set {l : List Bool} {k j : Nat} {x : Bool} (hk : k < l.length) : bth (l.set k x) j = if k = j then x else bth l j := by
  unfold bth
  by_cases h : k = j
  · subst h; simp [List.getD, hk]
  · simp [List.getD, h]
end Go.Proofs.YtiklbannoinioaaDoor
namespace Go.Proofs.YtiklbannoinioaaDoor
open Go.ChangeShapes Go.WideShapes Go.ChangeAt Go.RowKit
set_option linter.unusedVariables false
set_option linter.unusedSimpArgs false
set_option maxRecDepth 100000

/-- The value is a slice of integers in memory below the heap's end. -/
def IsInts (W : World) (v : Value) : Prop := ∃ A n c l, v = .slice A n c ∧ List.length l = n ∧ n ≤ c ∧ c ≤ maxLen ∧ RdI W W.heap.size A l ∧ ∀ x ∈ l, (Lit.int .i64 x).wf = true

theorem take_nth (zs : List Int) (n j : Nat) (h : j < n) : nth (zs.take n) j = zs.getD j 0 := by
  unfold nth
  simp [List.getD, h]

theorem open_IsInts {H : Type} {enc : TypeId × Value → H} {W : World} {base : Nat} {r : Reach} {b0 : Nat} {v : Value} {d : DataW H} {p : List MemPlace} {held : Bool}
    (hv : Value.okWide Tryd.prog W r b0 23 v) (h : DataW.Trod enc Tryd.prog W base (fun _ => true) held 23 v d p) : IsInts W v := by
  obtain ⟨a, len, cap, rfl⟩ := okWide_slice Tryd.underlying23 hv
  obtain ⟨fuel, hf⟩ := h
  rcases open_ints Tryd.underlying23 Tryd.underlying3 (by kernel_rfl) hf with ⟨hcs, _⟩ | ⟨x, l, c, zs, hcs, _, hl, hm, hz, _, hcell, hwz⟩
  · simp [Value.cells] at hcs
    obtain ⟨rfl, rfl, rfl⟩ := hcs
    exact ⟨none, 0, 0, [], rfl, rfl, Nat.le_refl _, Nat.zero_le _, Rd.nil _ _ _, fun x hx => by cases hx⟩
  · simp [Value.cells] at hcs
    obtain ⟨rfl, rfl, rfl⟩ := hcs
    have hz : zs.length = cap := by simpa using hz
    refine ⟨some x, len, cap, zs.take len, rfl, by rw [List.length_take]; omega, hl, hm, fun hne => ?_, fun n hn => hwz n (List.mem_of_mem_take hn)⟩
    have hlen : 0 < len := by
      rcases Nat.eq_zero_or_pos len with h0 | h0
      · subst h0; simp at hne
      · exact h0
    obtain ⟨b, off, spot⟩ := x
    have hc0 := hcell 0 (by omega)
    have hspot : spot = none := by simpa [Addr.add] using World.cell?_spot hc0
    subst hspot
    refine ⟨b, off, rfl, World.block_lt_of_cell? W _ hc0, fun j u hu => ?_⟩
    rw [List.getElem?_map] at hu
    have hj : j < len := by
      rcases Nat.lt_or_ge j len with h0 | h0
      · exact h0
      · rw [List.getElem?_eq_none (by rw [List.length_take]; omega)] at hu; cases hu
    rw [nth_some (by rw [List.length_take]; omega), take_nth zs len j hj] at hu
    simp at hu
    subst hu
    have := hcell j (by omega)
    have hadd : (⟨b, off, none⟩ : Addr).add j = ⟨b, off + j, none⟩ := by unfold Addr.add; split <;> simp_all
    rw [hadd] at this
    simpa using this
end Go.Proofs.YtiklbannoinioaaDoor
