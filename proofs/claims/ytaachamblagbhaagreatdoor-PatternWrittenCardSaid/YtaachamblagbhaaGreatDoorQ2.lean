/- Words for memory: a slice that reads as a list of cells; lists of integers. · Shapes: what a list of cells reads as (integers, texts, pairs, slices of whatever shape), in a set of blocks; kept where those blocks are kept; met in whatever came in as data. · Shapes that bear the form's own reach: what came in, and how many bytes each slice takes. -/
import Derived.WalkKit
import Derived.Lib.Hide
import Derived.Deep.Draws
import Derived.Deep.AppendLies
import Derived.Maps.AppendAt
import Derived.ProofKit
import Derived.OpenShut
import Derived.Deep.Slices
import Derived.SizedLaws
namespace Go.Proofs.YtaachamblagbhaaGreatDoor
open Go.RowKit
set_option linter.unusedVariables false
set_option linter.unusedSimpArgs false

theorem ret_eq {v v' : Value} (h : v = v') : Ending.returned v = Ending.returned v' := by rw [h]

/-- Number k of a list of integers. -/
def nth (l : List Int) (k : Nat) : Int := l.getD k 0
theorem nth_get {l : List Int} {k : Nat} (h : k < l.length) : nth l k = l[k] := by simp [nth, h]
theorem nth_some {l : List Int} {k : Nat} (h : k < l.length) : l[k]? = some (nth l k) := by rw [nth_get h, List.getElem?_eq_getElem h]

/-- The slice's address A leads to the cells xs, below block B. -/
def Rd (w : World) (B : Nat) (A : Option Addr) (xs : List Value) : Prop :=
  xs ≠ [] → ∃ b off, A = some ⟨b, off, none⟩ ∧ b < B ∧ ∀ (j : Nat) (u : Value), xs[j]? = some u → w.cell? ⟨b, off + j, none⟩ = some u

theorem Rd.keep {w w' : World} {B : Nat} {A : Option Addr} {xs : List Value} (h : Rd w B A xs) (hk : ∀ p : Addr, p.block < B → w'.cell? p = w.cell? p) : Rd w' B A xs := fun hn => by
  obtain ⟨b, off, e, hb, hc⟩ := h hn
  exact ⟨b, off, e, hb, fun j u hu => (hk _ hb).trans (hc j u hu)⟩
theorem Rd.more {w : World} {B B' : Nat} {A : Option Addr} {xs : List Value} (h : Rd w B A xs) (hB : B ≤ B') : Rd w B' A xs := fun hn => by
  obtain ⟨b, off, e, hb, hc⟩ := h hn
  exact ⟨b, off, e, by omega, hc⟩
theorem Rd.below {w w' : World} {B : Nat} {A : Option Addr} {xs : List Value} (h : Rd w B A xs) (hb : Below B w w') : Rd w' B A xs := h.keep fun _ hp => hb.cell hp
theorem Rd.nil (w : World) (B : Nat) (A : Option Addr) : Rd w B A [] := fun h => absurd rfl h

/-- A slice of integers. -/
def RdI (w : World) (B : Nat) (A : Option Addr) (l : List Int) : Prop := Rd w B A (l.map (Value.int .i64))
theorem RdI.at_ {w : World} {B : Nat} {A : Option Addr} {l : List Int} (h : RdI w B A l) (hn : 0 < l.length) :
    ∃ b off, A = some ⟨b, off, none⟩ ∧ b < B ∧ ∀ j, j < l.length → w.cell? ⟨b, off + j, none⟩ = some (.int .i64 (nth l j)) := by
  obtain ⟨b, off, e, hb, hc⟩ := h (by intro e; rw [List.map_eq_nil_iff] at e; subst e; simp at hn)
  exact ⟨b, off, e, hb, fun j hj => hc j _ (by rw [List.getElem?_map, nth_some hj]; rfl)⟩
theorem RdI.below {w w' : World} {B : Nat} {A : Option Addr} {l : List Int} (h : RdI w B A l) (hb : Below B w w') : RdI w' B A l := Rd.below h hb
theorem RdI.more {w : World} {B B' : Nat} {A : Option Addr} {l : List Int} (h : RdI w B A l) (hB : B ≤ B') : RdI w B' A l := Rd.more h hB

/-- What a row of the call's own reads as. -/
theorem own_form {w : World} {base : Nat} {e : TypeId} {size n : Nat} {v : Value} {xs : List Value} (h : w.ownsRow base e size v n xs) : ∃ A c, v = .slice A n c ∧ n ≤ c ∧ c ≤ maxLen ∧ Rd w w.heap.size A xs := by
  rcases h.2 with ⟨rfl, rfl⟩ | ⟨g, cap, cur, rfl, hb, hg, hn, hc, hs, ht⟩
  · have hx : xs = [] := List.eq_nil_of_length_eq_zero (by simpa using h.1)
    subst hx
    exact ⟨none, 0, rfl, Nat.le_refl _, Nat.zero_le _, Rd.nil _ _ _⟩
  · refine ⟨some ⟨g, 0, none⟩, cap, rfl, hn, hc, fun _ => ⟨g, 0, rfl, (Array.getElem?_eq_some_iff.1 hg).1, fun j u hu => ?_⟩⟩
    have := h.cells (g := g) rfl j u hu
    have hadd : (⟨g, 0, none⟩ : Addr).add j = ⟨g, 0 + j, none⟩ := by unfold Addr.add; split <;> simp_all
    rwa [hadd] at this

/-! ### append of elements that were just laid into a block of their own -/

/-- The slice type t has elements of type e, of so many cells and bytes, zero z. -/
structure ElTy (P : Program) (t e : TypeId) (size bytes : Nat) (z : Value) : Prop where
  ht : P.underlying t = some (.slice e)
  hi : (P.info? e).map (fun i => (i.zero, i.size, i.bytes)) = some (some z, size, bytes)
  hz : z.cells.size = size
  hs : 0 < size

theorem own_ext {w w' : World} {base : Nat} {e : TypeId} {size n : Nat} {v : Value} {xs : List Value} (h : w.ownsRow base e size v n xs) (hb : Below w.heap.size w w') : w'.ownsRow base e size v n xs :=
  h.kept (row := none) ⟨hb.os, hb.tape, hb.output, hb.size, fun k hk _ => hb.block k hk⟩ (by cases v.ownBlock <;> simp)

theorem own_base {w : World} {base : Nat} {e : TypeId} {size n : Nat} {v : Value} {xs : List Value} (h : w.ownsRow base e size v n xs) : ∀ k, v.ownBlock = some k → base ≤ k := fun k hk => (h.lt k hk).1

theorem grown_of_alloc {w w' : World} {o : Obj} {row : Option Nat} (h : (w.alloc o).grownBy w' row) : w.grownBy w' row :=
  ⟨h.os, h.tape, h.output, Nat.le_trans (by simp) h.size, fun k hk hne => (h.block k (by simp; omega) hne).trans (Below.heap_alloc w o k hk)⟩

section
variable {P : Program} {t e : TypeId} {size bytes : Nat} {z : Value}

theorem wpList_app (E : ElTy P t e size bytes z) {ops : Array Oper} {rest : List Oper} {o : Oper} {a : Act} {Q : Exit → Act → World → Prop} {w0 : World} (hgd : o.guard = none) (s x : Operand)
    (ho : o.op = .call { callee := .builtin .append, args := #[s, x], argTypes := #[t, t] })
    (base : Nat) (v : Value) (n m : Nat) (xs news : List Value) (hs : a.eval s = v) (hown : w0.ownsRow base e size v n xs)
    (hx : a.eval x = .slice (some ⟨w0.heap.size, 0, none⟩) m m) (hl : news.length = m * size) (h1 : ∀ u ∈ news, u.oneCell' = true)
    (h63 : n + m ≤ 140737488355328) (hbytes : (n + m) * bytes ≤ 140737488355328) (hbase : base ≤ w0.heap.size)
    (h : ∀ v' w', w'.ownsRow base e size v' (n + m) (xs ++ news) → w0.grownBy w' v.ownBlock → (v'.ownBlock = v.ownBlock ∨ v'.ownBlock = some (w0.heap.size + 1)) → wpList P ops Q rest (a.put o.dst v') w') :
    wpList P ops Q (o :: rest) a (w0.alloc (.cells news.toArray e)) := by
  obtain ⟨i, hi, hz, hsz, hby⟩ := info_parts E.hi
  refine wpList_append_own_at _ hgd s x t ho base e i z size bytes E.ht hi hz hsz hby E.hz E.hs v n xs hs (hown.alloc _) ⟨w0.heap.size, 0, none⟩ m m news hx hl (fun j u hu => ?_) h1 (by simp only [maxLen]; omega) hbytes (by simp; omega) ?_
  · have hadd : (⟨w0.heap.size, 0, none⟩ : Addr).add j = ⟨w0.heap.size, j, none⟩ := by unfold Addr.add; split <;> simp_all
    rw [hadd, cell_of_row _ w0.heap.size j news.toArray e (0, 0) (heap_alloc_new w0 _)]
    simpa using hu
  · intro v' w' h2 h3 _ h5
    exact h v' w' h2 (grown_of_alloc h3) (by simpa using h5)
end
end Go.Proofs.YtaachamblagbhaaGreatDoor
namespace Go.Proofs.YtaachamblagbhaaGreatDoor
open Go.ChangeShapes Go.WideShapes Go.RowKit
set_option linter.unusedVariables false
set_option linter.unusedSimpArgs false
set_option maxRecDepth 100000

structure Sh (α : Type) where
  n : Nat
  rd : World → (Nat → Prop) → α → List Value → Prop
  len : ∀ {w F a cs}, rd w F a cs → cs.length = n
  keep : ∀ {w w' F a cs}, rd w F a cs → (∀ p : Addr, F p.block → w'.cell? p = w.cell? p) → rd w' F a cs
  more : ∀ {w} {F F' : Nat → Prop} {a cs}, rd w F a cs → (∀ k, F k → F' k) → rd w F' a cs
  one : ∀ {w F a cs}, rd w F a cs → ∀ u ∈ cs, u.oneCell' = true

/-- The blocks below B. -/
def Lo (B : Nat) : Nat → Prop := fun k => k < B
theorem Lo.mk {B k : Nat} (h : k < B) : Lo B k := h
theorem Lo.up {B B' : Nat} (h : B ≤ B') : ∀ k, Lo B k → Lo B' k := fun k hk => Nat.lt_of_lt_of_le hk h

def shI (k : IntKind) : Sh Int where
  n := 1
  rd := fun _ _ a cs => cs = [.int k a] ∧ (Lit.int k a).wf = true
  len := fun h => by rw [h.1]; rfl
  keep := fun h _ => h
  more := fun h _ => h
  one := fun h u hu => by rw [h.1] at hu; simp at hu; subst hu; rfl
abbrev shInt : Sh Int := shI .i64

def shB : Sh Bool where
  n := 1
  rd := fun _ _ a cs => cs = [.bool a]
  len := fun h => by rw [h]; rfl
  keep := fun h _ => h
  more := fun h _ => h
  one := fun h u hu => by rw [h] at hu; simp at hu; subst hu; rfl

def shS : Sh ByteArray where
  n := 1
  rd := fun _ _ a cs => cs = [.string a] ∧ a.size ≤ maxLen
  len := fun h => by rw [h.1]; rfl
  keep := fun h _ => h
  more := fun h _ => h
  one := fun h u hu => by rw [h.1] at hu; simp at hu; subst hu; rfl

def shP {α β : Type} (S : Sh α) (T : Sh β) : Sh (α × β) where
  n := S.n + T.n
  rd := fun w F a cs => ∃ c d, cs = c ++ d ∧ S.rd w F a.1 c ∧ T.rd w F a.2 d
  len := fun ⟨c, d, e, h1, h2⟩ => by rw [e, List.length_append, S.len h1, T.len h2]
  keep := fun ⟨c, d, e, h1, h2⟩ hk => ⟨c, d, e, S.keep h1 hk, T.keep h2 hk⟩
  more := fun ⟨c, d, e, h1, h2⟩ hk => ⟨c, d, e, S.more h1 hk, T.more h2 hk⟩
  one := fun ⟨c, d, e, h1, h2⟩ u hu => by
    rw [e, List.mem_append] at hu
    rcases hu with hu | hu
    · exact S.one h1 u hu
    · exact T.one h2 u hu

/-- The cells xs lie at A, in a block of F. -/
def At (w : World) (F : Nat → Prop) (A : Option Addr) (xs : List Value) : Prop :=
  xs ≠ [] → ∃ b off, A = some ⟨b, off, none⟩ ∧ F b ∧ ∀ (j : Nat) (u : Value), xs[j]? = some u → w.cell? ⟨b, off + j, none⟩ = some u

def shL {α : Type} (S : Sh α) : Sh (List α) where
  n := 1
  rd := fun w F l cs => ∃ (A : Option Addr) (c : Nat) (css : List (List Value)), cs = [.slice A l.length c] ∧ l.length ≤ c ∧ c ≤ maxLen ∧ css.length = l.length ∧
    (∀ (i : Nat) (a : α) (d : List Value), l[i]? = some a → css[i]? = some d → S.rd w F a d) ∧ At w F A css.flatten
  len := fun ⟨A, c, css, e, _⟩ => by rw [e]; rfl
  keep := fun ⟨A, c, css, e, h1, h2, h3, h4, h5⟩ hk => ⟨A, c, css, e, h1, h2, h3, fun i a d ha hd => S.keep (h4 i a d ha hd) hk, fun hn => by
    obtain ⟨b, off, e, hb, hc⟩ := h5 hn
    exact ⟨b, off, e, hb, fun j u hu => (hk _ hb).trans (hc j u hu)⟩⟩
  more := fun ⟨A, c, css, e, h1, h2, h3, h4, h5⟩ hk => ⟨A, c, css, e, h1, h2, h3, fun i a d ha hd => S.more (h4 i a d ha hd) hk, fun hn => by
    obtain ⟨b, off, e, hb, hc⟩ := h5 hn
    exact ⟨b, off, e, hk _ hb, hc⟩⟩
  one := fun ⟨A, c, css, e, _⟩ u hu => by rw [e] at hu; simp at hu; subst hu; rfl

theorem flatten_get {m : Nat} : ∀ (css : List (List Value)) (k j : Nat) (d : List Value) (u : Value), (∀ (i : Nat) (e : List Value), css[i]? = some e → e.length = m) → css[k]? = some d → d[j]? = some u → css.flatten[k * m + j]? = some u
  | [], k, j, d, u, _, h, _ => by simp at h
  | e :: css, 0, j, d, u, hm, h, hj => by
    simp at h; subst h
    have hl := hm 0 e rfl
    have hjm : j < e.length := (List.getElem?_eq_some_iff.1 hj).1
    rw [List.flatten_cons, List.getElem?_append_left (by omega)]
    simpa using hj
  | e :: css, k + 1, j, d, u, hm, h, hj => by
    have hl := hm 0 e rfl
    rw [List.flatten_cons, List.getElem?_append_right (by rw [hl, Nat.add_mul]; omega), hl, show (k + 1) * m + j - m = k * m + j from by rw [Nat.add_mul]; omega]
    exact flatten_get css k j d u (fun i e' he => hm (i + 1) e' (by simpa using he)) (by simpa using h) hj

/-- Element k of a slice: its cells, and what they read as. -/
theorem shL_at {α : Type} {S : Sh α} {w : World} {F : Nat → Prop} {l : List α} {A : Option Addr} {n c : Nat} (h : (shL S).rd w F l [.slice A n c]) (hS : 0 < S.n) (hl : 0 < l.length) :
    ∃ b off, A = some ⟨b, off, none⟩ ∧ F b ∧ ∀ (k : Nat) (a : α), l[k]? = some a → ∃ d : List Value, S.rd w F a d ∧ ∀ (j : Nat) (u : Value), d[j]? = some u → w.cell? ⟨b, off + (k * S.n + j), none⟩ = some u := by
  obtain ⟨A', c', css, e, h1, h2, h3, h4, h5⟩ := h
  simp at e
  obtain ⟨rfl, rfl, rfl⟩ := e
  have hlen : ∀ (i : Nat) (d : List Value), css[i]? = some d → d.length = S.n := by
    intro i d hd
    have hi : i < l.length := by rw [← h3]; exact (List.getElem?_eq_some_iff.1 hd).1
    exact S.len (h4 i l[i] d (List.getElem?_eq_getElem hi) hd)
  have hne : css.flatten ≠ [] := by
    intro hn
    have h0 : 0 < css.length := by omega
    have := flatten_get (m := S.n) css 0 0 css[0] ((css[0])[0]'(by rw [hlen 0 _ (List.getElem?_eq_getElem h0)]; exact hS)) hlen (List.getElem?_eq_getElem h0) (List.getElem?_eq_getElem _)
    rw [hn] at this
    simp at this
  obtain ⟨b, off, e, hb, hc⟩ := h5 hne
  refine ⟨b, off, e, hb, fun k a ha => ?_⟩
  have hk : k < css.length := by rw [h3]; exact (List.getElem?_eq_some_iff.1 ha).1
  exact ⟨css[k], h4 k a _ ha (List.getElem?_eq_getElem hk), fun j u hu => hc _ u (flatten_get css k j _ u hlen (List.getElem?_eq_getElem hk) hu)⟩

theorem shL_form {α : Type} {S : Sh α} {w : World} {F : Nat → Prop} {l : List α} {cs : List Value} (h : (shL S).rd w F l cs) : ∃ A c, cs = [.slice A l.length c] ∧ l.length ≤ c ∧ c ≤ maxLen := by
  obtain ⟨A, c, css, e, h1, h2, _⟩ := h
  exact ⟨A, c, e, h1, h2⟩
theorem shL_val {α : Type} {S : Sh α} {w : World} {F : Nat → Prop} {l : List α} {v : Value} (h : (shL S).rd w F l [v]) : ∃ A c, v = .slice A l.length c ∧ l.length ≤ c ∧ c ≤ maxLen := by
  obtain ⟨A, c, e, h1, h2⟩ := shL_form h
  simp at e
  exact ⟨A, c, e, h1, h2⟩

theorem Sh.below {α : Type} {S : Sh α} {w w' : World} {B : Nat} {a : α} {cs : List Value} (h : S.rd w (Lo B) a cs) (hb : Below B w w') : S.rd w' (Lo B) a cs := S.keep h fun _ hp => hb.cell hp
theorem Sh.up {α : Type} {S : Sh α} {w : World} {B B' : Nat} {a : α} {cs : List Value} (h : S.rd w (Lo B) a cs) (hB : B ≤ B') : S.rd w (Lo B') a cs := S.more h (Lo.up hB)

/-! ### met in what came in -/
def Opens (P : Program) (t : TypeId) {α : Type} (S : Sh α) : Prop :=
  P.cellsOf t = S.n ∧ ∀ (H : Type) (enc : TypeId × Value → H) (w : World) (base : Nat) (held : Bool) (fuel : Nat) (cs : List Value) (x : DataW H × List MemPlace),
    DataW.trod enc P w base (fun _ => true) held fuel t cs = some x → ∃ a, S.rd w (Lo w.heap.size) a cs

theorem opens_int {P : Program} {t : TypeId} {k : IntKind} (ht : P.underlying t = some (.int k)) (hc : P.cellsOf t = 1) : Opens P t (shI k) :=
  ⟨hc, fun H enc w base held fuel cs x h => by
    obtain ⟨n, rfl, _, hw⟩ := DataW.trod_int ht h
    exact ⟨n, rfl, hw⟩⟩
theorem opens_bool {P : Program} {t : TypeId} (ht : P.underlying t = some .bool) (hc : P.cellsOf t = 1) : Opens P t shB :=
  ⟨hc, fun H enc w base held fuel cs x h => by
    obtain ⟨n, rfl, _⟩ := DataW.trod_bool ht h
    exact ⟨n, rfl⟩⟩
theorem opens_string {P : Program} {t : TypeId} (ht : P.underlying t = some .string) (hc : P.cellsOf t = 1) : Opens P t shS :=
  ⟨hc, fun H enc w base held fuel cs x h => by
    obtain ⟨n, rfl, _, hw⟩ := DataW.trod_string ht h
    exact ⟨n, rfl, hw⟩⟩

theorem opens_slice {P : Program} {t e : TypeId} {α : Type} {S : Sh α} (ht : P.underlying t = some (.slice e)) (hc : P.cellsOf t = 1) (hS : 0 < S.n) (he : Opens P e S) : Opens P t (shL S) :=
  ⟨hc, fun H enc w base held fuel cs x h => by
    rcases Deep.open_slice ht h with ⟨rfl, _⟩ | ⟨a, len, cap, m, n, D, Pl, rfl, _, hl, hm, hmm, _, hx⟩
    · exact ⟨[], none, 0, [], rfl, Nat.le_refl _, Nat.zero_le _, rfl, fun i a d h => by simp at h, fun h => absurd rfl h⟩
    · rw [if_pos rfl] at hmm
      subst hmm
      obtain ⟨css, hcss⟩ := Deep.choose_lt (α := List Value) (p := fun i d => w.cells? base (a.add (i * P.cellsOf e)) (P.cellsOf e) = some d ∧ ∃ a, S.rd w (Lo w.heap.size) a d) (n := len) (fun i hi => by
        obtain ⟨d, h1, h2⟩ := hx i (by omega)
        exact ⟨d, h1, he.2 H enc w base held n d _ h2⟩)
      obtain ⟨l, hl'⟩ : ∃ l : List α, l.length = len ∧ ∀ (i : Nat) (a : α), l[i]? = some a → S.rd w (Lo w.heap.size) a (css i) := by
        have : ∀ k, k ≤ len → ∃ l : List α, l.length = k ∧ ∀ (i : Nat) (a : α), l[i]? = some a → S.rd w (Lo w.heap.size) a (css i) := by
          intro k
          induction k with
          | zero => intro _; exact ⟨[], rfl, fun i a h => by simp at h⟩
          | succ k ih =>
            intro hk
            obtain ⟨l, h1, h2⟩ := ih (by omega)
            obtain ⟨a, ha⟩ := (hcss k (by omega)).2
            refine ⟨l ++ [a], by simp [h1], fun i b hb => ?_⟩
            by_cases hi : i < l.length
            · rw [List.getElem?_append_left hi] at hb; exact h2 i b hb
            · rw [List.getElem?_append_right (by omega)] at hb
              have : i = l.length := by
                rcases Nat.lt_or_ge l.length i with h | h
                · rw [List.getElem?_eq_none (by simp; omega)] at hb; cases hb
                · omega
              subst this
              simp at hb
              subst hb
              rw [h1]; exact ha
        exact this len (Nat.le_refl _)
      obtain ⟨hlen, hrd⟩ := hl'
      refine ⟨l, some a, m, (List.range len).map css, by rw [hlen], by omega, hm, by simp [hlen], fun i b d hb hd => ?_, fun hne => ?_⟩
      · have hi : i < len := by rw [← hlen]; exact (List.getElem?_eq_some_iff.1 hb).1
        rw [List.getElem?_map, List.getElem?_range hi] at hd
        simp at hd
        subst hd
        exact hrd i b hb
      · have h0 : 0 < len := by
          rcases Nat.eq_zero_or_pos len with h0 | h0
          · subst h0; simp at hne
          · exact h0
        have hcs : ∀ i, i < len → (css i).length = S.n ∧ ∀ j, j < S.n → w.cell? (a.add (i * S.n + j)) = (css i)[j]? := by
          intro i hi
          obtain ⟨_, h2, h3⟩ := World.cells?_some (hcss i hi).1
          rw [he.1] at h2 h3
          exact ⟨h2, fun j hj => by rw [← Deep.add_add]; exact h3 j hj⟩
        obtain ⟨b, off, spot⟩ := a
        have hc0 : w.cell? (⟨b, off, spot⟩ : Addr) = some ((css 0)[0]'(by rw [(hcs 0 h0).1]; exact hS)) := by
          have := (hcs 0 h0).2 0 hS
          rw [List.getElem?_eq_getElem (by rw [(hcs 0 h0).1]; exact hS)] at this
          simpa [Addr.add] using this
        have hspot : spot = none := by simpa [Addr.add] using World.cell?_spot hc0
        subst hspot
        refine ⟨b, off, rfl, World.block_lt_of_cell? w _ hc0, fun j u hu => ?_⟩
        have hflat : ∀ (m : Nat), m ≤ len → ((List.range m).map css).flatten.length = m * S.n ∧ ∀ (j : Nat) (u : Value), ((List.range m).map css).flatten[j]? = some u → w.cell? ⟨b, off + j, none⟩ = some u := by
          intro m
          induction m with
          | zero => intro _; simp
          | succ m ih =>
            intro hm'
            obtain ⟨i1, i2⟩ := ih (by omega)
            have hsp : ((List.range (m + 1)).map css).flatten = ((List.range m).map css).flatten ++ css m := by
              rw [List.range_succ, List.map_append, List.flatten_append]; simp
            refine ⟨by rw [hsp, List.length_append, i1, (hcs m (by omega)).1, Nat.add_mul, Nat.one_mul], fun j u hu => ?_⟩
            rw [hsp] at hu
            by_cases hj : j < ((List.range m).map css).flatten.length
            · rw [List.getElem?_append_left hj] at hu; exact i2 j u hu
            · rw [List.getElem?_append_right (by omega), i1] at hu
              have hjm : j - m * S.n < S.n := by have := (List.getElem?_eq_some_iff.1 hu).1; rw [(hcs m (by omega)).1] at this; exact this
              have := (hcs m (by omega)).2 (j - m * S.n) hjm
              rw [hu] at this
              have hadd : (⟨b, off, none⟩ : Addr).add (m * S.n + (j - m * S.n)) = ⟨b, off + j, none⟩ := by
                rw [i1] at hj
                rw [show m * S.n + (j - m * S.n) = j from by omega]
                unfold Addr.add; split <;> simp_all
              rwa [hadd] at this
        exact (hflat len (Nat.le_refl _)).2 j u hu⟩

/-- The fields of a struct from one on, as nested pairs. -/
def OpF (P : Program) (fs : List Field) (off : Nat) {α : Type} (S : Sh α) : Prop :=
  ∀ (H : Type) (enc : TypeId × Value → H) (w : World) (base : Nat) (held : Bool) (fuel : Nat) (cs : List Value), cs.length = off + S.n →
    (∀ (i : Nat) (f : Field), fs[i]? = some f → ∃ x, DataW.trod enc P w base (fun _ => true) held fuel f.type ((cs.drop f.offset).take (P.cellsOf f.type)) = some x) → ∃ a, S.rd w (Lo w.heap.size) a (cs.drop off)
theorem opF_one {P : Program} {f : Field} {off : Nat} {α : Type} {S : Sh α} (ho : f.offset = off) (h : Opens P f.type S) : OpF P [f] off S := by
  intro H enc w base held fuel cs hl hf
  obtain ⟨x, hx⟩ := hf 0 f rfl
  rw [ho, h.1, List.take_of_length_le (by rw [List.length_drop, hl]; omega)] at hx
  exact h.2 H enc w base held fuel _ x hx
theorem opF_cons {P : Program} {f : Field} {fs : List Field} {off : Nat} {α β : Type} {S : Sh α} {T : Sh β} (ho : f.offset = off) (h : Opens P f.type S) (hr : OpF P fs (off + S.n) T) : OpF P (f :: fs) off (shP S T) := by
  intro H enc w base held fuel cs hl hf
  have hl' : cs.length = off + (S.n + T.n) := hl
  obtain ⟨x, hx⟩ := hf 0 f rfl
  rw [ho, h.1] at hx
  obtain ⟨a, ha⟩ := h.2 H enc w base held fuel _ x hx
  obtain ⟨b, hb⟩ := hr H enc w base held fuel cs (by omega) (fun i g hg => hf (i + 1) g (by simpa using hg))
  refine ⟨(a, b), (cs.drop off).take S.n, cs.drop (off + S.n), ?_, ha, hb⟩
  rw [← List.drop_drop, List.take_append_drop]
theorem opens_struct {P : Program} {t : TypeId} {fs : Array Field} {α : Type} {S : Sh α} (ht : P.underlying t = some (.struct fs)) (hc : P.cellsOf t = S.n) (h : OpF P fs.toList 0 S) : Opens P t S :=
  ⟨hc, fun H enc w base held fuel cs x hx => by
    obtain ⟨xs, n, _, _, hl, hxl, hg⟩ := DataW.trod_struct ht hx
    have := h H enc w base held n cs (by rw [hl, hc]; omega) (fun i f hf => by
      have hf' : fs[i]? = some f := by simpa using hf
      have hi : i < xs.length := by rw [hxl]; exact (Array.getElem?_eq_some_iff.1 hf').1
      exact ⟨xs[i], by rw [hg i f hf', List.getElem?_eq_getElem hi]⟩)
    simpa using this⟩

/-- An argument whose cells read in a shape. -/
def IsIn {α : Type} (S : Sh α) (W : World) (v : Value) : Prop := ∃ a, S.rd W (Lo W.heap.size) a v.cells.toList
theorem isIn_of {P : Program} {t : TypeId} {α : Type} {S : Sh α} (ho : Opens P t S) {H : Type} {enc : TypeId × Value → H} {W : World} {base : Nat} {v : Value} {d : DataW H} {p : List MemPlace} {held : Bool}
    (h : DataW.Trod enc P W base (fun _ => true) held t v d p) : IsIn S W v := by
  obtain ⟨fuel, hf⟩ := h
  exact ho.2 H enc W base held fuel _ _ hf
end Go.Proofs.YtaachamblagbhaaGreatDoor
namespace Go.Proofs.YtaachamblagbhaaGreatDoor
open Go.RowKit
set_option linter.unusedVariables false
set_option linter.unusedSimpArgs false
set_option maxRecDepth 100000

/-- A shape, and a plain condition besides. -/
def shZ {α : Type} (S : Sh α) (p : α → Prop) : Sh α where
  n := S.n
  rd := fun w F a cs => S.rd w F a cs ∧ p a
  len := fun h => S.len h.1
  keep := fun h k => ⟨S.keep h.1 k, h.2⟩
  more := fun h k => ⟨S.more h.1 k, h.2⟩
  one := fun h => S.one h.1
theorem weightsAll_mem {H : Type} {P : Program} {e : TypeId} {d : DataW H} : ∀ {ds : List (DataW H)}, d ∈ ds → ∀ n ∈ d.weights P e, n ∈ DataW.weightsAll P e ds
  | [], h, _, _ => by cases h
  | d0 :: ds, h, n, hn => by
    simp only [DataW.weightsAll, List.mem_append]
    rcases List.mem_cons.1 h with rfl | h
    · exact Or.inl hn
    · exact Or.inr (weightsAll_mem h n hn)
def OpensW (P : Program) (t : TypeId) {α : Type} (S : Sh α) : Prop :=
  P.cellsOf t = S.n ∧ ∀ (H : Type) (enc : TypeId × Value → H) (w : World) (base : Nat) (held : Bool) (fuel : Nat) (cs : List Value) (x : DataW H × List MemPlace),
    DataW.trod enc P w base (fun _ => true) held fuel t cs = some x → (∀ n ∈ x.1.weights P t, n ≤ reachBytes) → ∃ a, S.rd w (Lo w.heap.size) a cs
theorem Opens.w {P : Program} {t : TypeId} {α : Type} {S : Sh α} (h : Opens P t S) : OpensW P t S := ⟨h.1, fun H enc w base held fuel cs x hx _ => h.2 H enc w base held fuel cs x hx⟩
theorem opensW_slice {P : Program} {t e : TypeId} {α : Type} {S : Sh α} {bytes : Nat} (ht : P.underlying t = some (.slice e)) (hc : P.cellsOf t = 1) (hS : 0 < S.n) (hby : P.bytesOf e = bytes) (he : OpensW P e S) : OpensW P t (shZ (shL S) fun l => l.length * bytes ≤ reachBytes) :=
  ⟨hc, fun H enc w base held fuel cs x h hwt => by
    rcases Deep.open_slice ht h with ⟨rfl, _⟩ | ⟨a, len, cap, m, n, D, Pl, rfl, _, hl, hm, hmm, hxe, hx⟩
    · exact ⟨[], ⟨none, 0, [], rfl, Nat.le_refl _, Nat.zero_le _, rfl, fun i a d h => by simp at h, fun h => absurd rfl h⟩, by simp [reachBytes]⟩
    · rw [if_pos rfl] at hmm
      subst hmm
      subst hxe
      simp only [DataW.weights, ht, List.mem_cons, List.mem_append] at hwt
      have hlen47 : len * bytes ≤ reachBytes := by
        have := hwt _ (Or.inl rfl)
        rw [hby] at this
        simp only [List.length_map, List.length_range] at this
        exact Nat.le_trans (Nat.mul_le_mul_right _ (Nat.le_add_right _ _)) this
      have hwD : ∀ i, i < len → ∀ q ∈ (D i).weights P e, q ≤ reachBytes := fun i hi q hq =>
        hwt q (Or.inr (Or.inl (weightsAll_mem (List.mem_map.2 ⟨i, List.mem_range.2 hi, rfl⟩) q hq)))
      obtain ⟨css, hcss⟩ := Deep.choose_lt (α := List Value) (p := fun i d => w.cells? base (a.add (i * P.cellsOf e)) (P.cellsOf e) = some d ∧ ∃ a, S.rd w (Lo w.heap.size) a d) (n := len) (fun i hi => by
        obtain ⟨d, h1, h2⟩ := hx i (by omega)
        exact ⟨d, h1, he.2 H enc w base held n d _ h2 (hwD i hi)⟩)
      obtain ⟨l, hl'⟩ : ∃ l : List α, l.length = len ∧ ∀ (i : Nat) (a : α), l[i]? = some a → S.rd w (Lo w.heap.size) a (css i) := by
        have : ∀ k, k ≤ len → ∃ l : List α, l.length = k ∧ ∀ (i : Nat) (a : α), l[i]? = some a → S.rd w (Lo w.heap.size) a (css i) := by
          intro k
          induction k with
          | zero => intro _; exact ⟨[], rfl, fun i a h => by simp at h⟩
          | succ k ih =>
            intro hk
            obtain ⟨l, h1, h2⟩ := ih (by omega)
            obtain ⟨a, ha⟩ := (hcss k (by omega)).2
            refine ⟨l ++ [a], by simp [h1], fun i b hb => ?_⟩
            by_cases hi : i < l.length
            · rw [List.getElem?_append_left hi] at hb; exact h2 i b hb
            · rw [List.getElem?_append_right (by omega)] at hb
              have : i = l.length := by
                rcases Nat.lt_or_ge l.length i with h | h
                · rw [List.getElem?_eq_none (by simp; omega)] at hb; cases hb
                · omega
              subst this
              simp at hb
              subst hb
              rw [h1]; exact ha
        exact this len (Nat.le_refl _)
      obtain ⟨hlen, hrd⟩ := hl'
      refine ⟨l, ⟨some a, m, (List.range len).map css, by rw [hlen], by omega, hm, by simp [hlen], fun i b d hb hd => ?_, fun hne => ?_⟩, by show l.length * bytes ≤ reachBytes; rw [hlen]; exact hlen47⟩
      · have hi : i < len := by rw [← hlen]; exact (List.getElem?_eq_some_iff.1 hb).1
        rw [List.getElem?_map, List.getElem?_range hi] at hd
        simp at hd
        subst hd
        exact hrd i b hb
      · have h0 : 0 < len := by
          rcases Nat.eq_zero_or_pos len with h0 | h0
          · subst h0; simp at hne
          · exact h0
        have hcs : ∀ i, i < len → (css i).length = S.n ∧ ∀ j, j < S.n → w.cell? (a.add (i * S.n + j)) = (css i)[j]? := by
          intro i hi
          obtain ⟨_, h2, h3⟩ := World.cells?_some (hcss i hi).1
          rw [he.1] at h2 h3
          exact ⟨h2, fun j hj => by rw [← Deep.add_add]; exact h3 j hj⟩
        obtain ⟨b, off, spot⟩ := a
        have hc0 : w.cell? (⟨b, off, spot⟩ : Addr) = some ((css 0)[0]'(by rw [(hcs 0 h0).1]; exact hS)) := by
          have := (hcs 0 h0).2 0 hS
          rw [List.getElem?_eq_getElem (by rw [(hcs 0 h0).1]; exact hS)] at this
          simpa [Addr.add] using this
        have hspot : spot = none := by simpa [Addr.add] using World.cell?_spot hc0
        subst hspot
        refine ⟨b, off, rfl, World.block_lt_of_cell? w _ hc0, fun j u hu => ?_⟩
        have hflat : ∀ (m : Nat), m ≤ len → ((List.range m).map css).flatten.length = m * S.n ∧ ∀ (j : Nat) (u : Value), ((List.range m).map css).flatten[j]? = some u → w.cell? ⟨b, off + j, none⟩ = some u := by
          intro m
          induction m with
          | zero => intro _; simp
          | succ m ih =>
            intro hm'
            obtain ⟨i1, i2⟩ := ih (by omega)
            have hsp : ((List.range (m + 1)).map css).flatten = ((List.range m).map css).flatten ++ css m := by
              rw [List.range_succ, List.map_append, List.flatten_append]; simp
            refine ⟨by rw [hsp, List.length_append, i1, (hcs m (by omega)).1, Nat.add_mul, Nat.one_mul], fun j u hu => ?_⟩
            rw [hsp] at hu
            by_cases hj : j < ((List.range m).map css).flatten.length
            · rw [List.getElem?_append_left hj] at hu; exact i2 j u hu
            · rw [List.getElem?_append_right (by omega), i1] at hu
              have hjm : j - m * S.n < S.n := by have := (List.getElem?_eq_some_iff.1 hu).1; rw [(hcs m (by omega)).1] at this; exact this
              have := (hcs m (by omega)).2 (j - m * S.n) hjm
              rw [hu] at this
              have hadd : (⟨b, off, none⟩ : Addr).add (m * S.n + (j - m * S.n)) = ⟨b, off + j, none⟩ := by
                rw [i1] at hj
                rw [show m * S.n + (j - m * S.n) = j from by omega]
                unfold Addr.add; split <;> simp_all
              rwa [hadd] at this
        exact (hflat len (Nat.le_refl _)).2 j u hu⟩

def OpFW (P : Program) (fs : List Field) (off : Nat) {α : Type} (S : Sh α) : Prop :=
  ∀ (H : Type) (enc : TypeId × Value → H) (w : World) (base : Nat) (held : Bool) (fuel : Nat) (cs : List Value) (xs : List (DataW H × List MemPlace)), cs.length = off + S.n →
    (∀ (i : Nat) (f : Field), fs[i]? = some f → ∃ x, xs[i]? = some x ∧ DataW.trod enc P w base (fun _ => true) held fuel f.type ((cs.drop f.offset).take (P.cellsOf f.type)) = some x ∧ ∀ n ∈ x.1.weights P f.type, n ≤ reachBytes) → ∃ a, S.rd w (Lo w.heap.size) a (cs.drop off)
theorem opFW_one {P : Program} {f : Field} {off : Nat} {α : Type} {S : Sh α} (ho : f.offset = off) (h : OpensW P f.type S) : OpFW P [f] off S := by
  intro H enc w base held fuel cs xs hl hf
  obtain ⟨x, _, hx, hw⟩ := hf 0 f rfl
  rw [ho, h.1, List.take_of_length_le (by rw [List.length_drop, hl]; omega)] at hx
  exact h.2 H enc w base held fuel _ x hx hw
theorem opFW_cons {P : Program} {f : Field} {fs : List Field} {off : Nat} {α β : Type} {S : Sh α} {T : Sh β} (ho : f.offset = off) (h : OpensW P f.type S) (hr : OpFW P fs (off + S.n) T) : OpFW P (f :: fs) off (shP S T) := by
  intro H enc w base held fuel cs xs hl hf
  have hl' : cs.length = off + (S.n + T.n) := hl
  obtain ⟨x, _, hx, hw⟩ := hf 0 f rfl
  rw [ho, h.1] at hx
  obtain ⟨a, ha⟩ := h.2 H enc w base held fuel _ x hx hw
  obtain ⟨b, hb⟩ := hr H enc w base held fuel cs (xs.drop 1) (by omega) (fun i g hg => by
    obtain ⟨y, h1, h2⟩ := hf (i + 1) g (by simpa using hg)
    exact ⟨y, by rw [List.getElem?_drop, Nat.add_comm]; exact h1, h2⟩)
  refine ⟨(a, b), (cs.drop off).take S.n, cs.drop (off + S.n), ?_, ha, hb⟩
  rw [← List.drop_drop, List.take_append_drop]
theorem weightsEach_mem {H : Type} {P : Program} : ∀ {fs : List Field} {ds : List (DataW H)} {i : Nat} {f : Field} {d : DataW H}, fs[i]? = some f → ds[i]? = some d → ∀ n ∈ d.weights P f.type, n ∈ DataW.weightsEach P (fs.map (·.type)) ds := fun {fs ds i f d} hf hd n hn =>
  DataW.weights_mem_each (j := i) (t := f.type) (by rw [List.getElem?_map, hf]; rfl) hd n hn
theorem opensW_struct {P : Program} {t : TypeId} {fs : Array Field} {α : Type} {S : Sh α} (ht : P.underlying t = some (.struct fs)) (hc : P.cellsOf t = S.n) (h : OpFW P fs.toList 0 S) : OpensW P t S :=
  ⟨hc, fun H enc w base held fuel cs x hx hw => by
    obtain ⟨xs, n, _, rfl, hl, hxl, hg⟩ := DataW.trod_struct ht hx
    simp only [DataW.weights, ht] at hw
    have := h H enc w base held n cs xs (by rw [hl, hc]; omega) (fun i f hf => by
      have hf' : fs[i]? = some f := by simpa using hf
      have hi : i < xs.length := by rw [hxl]; exact (Array.getElem?_eq_some_iff.1 hf').1
      refine ⟨xs[i], List.getElem?_eq_getElem hi, by rw [hg i f hf', List.getElem?_eq_getElem hi], fun q hq => hw q ?_⟩
      exact weightsEach_mem hf (by rw [List.getElem?_map, List.getElem?_eq_getElem hi]; rfl) q hq)
    simpa using this⟩
theorem isIn_ofW {P : Program} {t : TypeId} {α : Type} {S : Sh α} (ho : OpensW P t S) {H : Type} {enc : TypeId × Value → H} {W : World} {base : Nat} {v : Value} {d : DataW H} {p : List MemPlace} {held : Bool}
    (h : DataW.Trod enc P W base (fun _ => true) held t v d p) (hw : ∀ n ∈ d.weights P t, n ≤ reachBytes) : IsIn S W v := by
  obtain ⟨fuel, hf⟩ := h
  exact ho.2 H enc W base held fuel _ _ hf hw
end Go.Proofs.YtaachamblagbhaaGreatDoor
