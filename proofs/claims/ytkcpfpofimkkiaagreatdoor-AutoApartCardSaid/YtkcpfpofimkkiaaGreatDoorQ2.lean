/- strings.Builder at this program: copyCheck, WriteString; strconv.Itoa; strings.Repeat of zeros. · Shapes: what a list of cells reads as (integers, texts, pairs, slices of whatever shape), in a set of blocks; kept where those blocks are kept; met in whatever came in as data. · Shapes that bear the form's own reach: what came in, and how many bytes each slice takes. -/
import Derived.Test.YtkcpfpofimkkiaaGreatDoorQ1
import Derived.Shelf.Strings.Builder1
import Derived.WalkSpells
import Derived.WalkLawsBesides
import Derived.Handy
import Derived.Lib.Hide
import Derived.WalkKit
import Derived.ProofKit
import Derived.OpenShut
import Derived.Deep.Slices
import Derived.SizedLaws
namespace Go.Proofs.YtkcpfpofimkkiaaGreatDoor
open Go.RowKit BigFrame
set_option linter.unusedVariables false
set_option linter.unusedSimpArgs false
set_option maxRecDepth 100000

def bs (l : List UInt8) : Value := .string ⟨l.toArray⟩
set_option maxHeartbeats 4000000 in
theorem copy_used (b : Nat) (w : World) (h0 : w.cell? ⟨b, 0, none⟩ = some (.pointer (some ⟨b, 0, none⟩))) :
    Calls Tryz.prog 55 #[.pointer (some ⟨b, 0, none⟩)] w fun e w' => e = .returned (.tuple #[]) ∧ w' = w := by
  obtain ⟨j, hj, _⟩ := Option.map_eq_some_iff.1 (show (Tryz.prog.info? 81).map (·.size) = some 2 by kernel_rfl)
  have hn := Lib.run_neq_ptr_same (P := Tryz.prog) (tp := 78) w ⟨b, 0, none⟩ Tryz.underlying78 hj
  go_enter Tryz.func55, Tryz.ntmps55
  go_wp2
  go_end0
  exact ⟨rfl, rfl⟩
set_option maxHeartbeats 4000000 in
theorem copy_fresh (b : Nat) (w : World) (h0 : w.cell? ⟨b, 0, none⟩ = some (.pointer none)) (hsh : w.shape? b = some (81, 2)) (hfz : w.frozen? ⟨b, 0, none⟩ = false) :
    Calls Tryz.prog 55 #[.pointer (some ⟨b, 0, none⟩)] w fun e w' => e = .returned (.tuple #[]) ∧ w' = w.setCell ⟨b, 0, none⟩ (.pointer (some ⟨b, 0, none⟩)) := by
  obtain ⟨j, hj, hjs⟩ := Option.map_eq_some_iff.1 (show (Tryz.prog.info? 81).map (·.size) = some 2 by kernel_rfl)
  have hu := Lib.run_to_unsafe (P := Tryz.prog) w ⟨b, 0, none⟩ Tryz.underlying78 Tryz.underlying130 hj (by rw [hjs]; decide) hsh (Nat.zero_lt_succ 1)
  have hv := Lib.run_from_unsafe (P := Tryz.prog) w ⟨b, 0, none⟩ Tryz.underlying130 Tryz.underlying78 hj hsh (by kernel_rfl)
  go_enter Tryz.func55, Tryz.ntmps55
  go_wp2_with fail
  rw [run_callFunc_extern Tryz.func81 (by kernel_rfl) (by kernel_rfl) (by kernel_rfl) (e := Extern.AbiNoEscape.same) (by kernel_rfl)]
  rw [Lib.run_noEscape]
  simp only [Result.andThen]
  rw [Oper.upon_value]
  go_wp2
  go_end0
  exact ⟨rfl, rfl⟩
/-- A builder of the program's. -/
abbrev Bld (B b : Nat) (l : List UInt8) (w : World) : Prop := Lib.IsBuilder 81 5 B b (Lib.byteCells l) w
theorem copy_any (B b : Nat) (bs : List Value) (w : World) (h : Lib.IsBuilder 81 5 B b bs w) :
    Calls Tryz.prog 55 #[.pointer (some ⟨b, 0, none⟩)] w fun e w' => e = .returned (.tuple #[]) ∧ (Lib.BuilderAt 81 5 B b (.pointer (some ⟨b, 0, none⟩)) bs w' ∧ Below B w w') := by
  rcases h with h | h
  · refine (copy_fresh b w h.cell0 h.shape h.frozen0).mono ?_
    rintro e w' ⟨rfl, rfl⟩
    exact ⟨rfl, h.used _, (Below.refl B w).setCell (p := ⟨b, 0, none⟩) h.1 _⟩
  · refine (copy_used b w h.cell0).mono ?_
    rintro e w' ⟨rfl, rfl⟩
    exact ⟨rfl, h, Below.refl B _⟩
theorem strCells_bytes (l : List UInt8) : Lib.strCells ⟨l.toArray⟩ = Lib.byteCells l := by
  simp [Lib.strCells, Lib.byteCells]
set_option maxHeartbeats 4000000 in
theorem write_any (B b : Nat) (l m : List UInt8) (w : World) (h : Bld B b l w) (hlen : l.length + m.length ≤ 140737488355328) (hBw : B ≤ w.heap.size) :
    Calls Tryz.prog 34 #[.pointer (some ⟨b, 0, none⟩), bs m] w fun e w' => e = .returned (.tuple #[.int .i64 m.length, .nilIface]) ∧ (Bld B b (l ++ m) w' ∧ Below B w w') := by
  obtain ⟨i0, hi, hz0, hz1, hz2⟩ := info_parts (show (Tryz.prog.info? 5).map (fun i => (i.zero, i.size, i.bytes)) = some (some (.int .u8 0), 1, 1) by kernel_rfl)
  have hll : (Lib.byteCells l).length = l.length := Lib.byteCells_length l
  go_enter Tryz.func34, Tryz.ntmps34
  go_wp2_with fail
  refine (copy_any B b _ _ h).mono ?_
  rintro e w1 ⟨rfl, h1, hb1⟩
  obtain ⟨hB, v, hbk, hown, hne⟩ := h1
  have c0 : w1.cell? ⟨b, 0, none⟩ = some (.pointer (some ⟨b, 0, none⟩)) := by rw [Lib.cell_of_heap hbk]; rfl
  have c1 : w1.cell? ⟨b, 1, none⟩ = some v := by rw [Lib.cell_of_heap hbk]; rfl
  rw [hll] at hown
  unfold bs
  clear hll
  go_wp2_with (at_builtin; refine Lib.wpList_append_own_string _ rfl _ _ 79 9 rfl B 5 i0 Tryz.underlying79 Tryz.underlying9 hi hz0 hz1 hz2 _ _ _ rfl hown ⟨m.toArray⟩ rfl ?c3 ?c4 ?c5 ?_)
  case c3 => show l.length + m.toArray.size ≤ _; unfold maxLen; simp; omega
  case c4 => show l.length + m.toArray.size ≤ _; simp; omega
  case c5 => have := hb1.size; omega
  intro v' w2 hown' hgrow _
  have hlt : b < w1.heap.size := by
    rcases Nat.lt_or_ge b w1.heap.size with h' | h'
    · exact h'
    · simp [Array.getElem?_eq_none h'] at hbk
  have hb2 : w2.heap[b]? = some (.cells #[.pointer (some ⟨b, 0, none⟩), v] 81 (0, 0)) := by
    rw [hgrow.block b hlt (fun e => hne e.symm)]
    exact hbk
  have d0 : w2.cell? ⟨b, 0, none⟩ = some (.pointer (some ⟨b, 0, none⟩)) := by rw [Lib.cell_of_heap hb2]; rfl
  have d1 : w2.cell? ⟨b, 1, none⟩ = some v := by rw [Lib.cell_of_heap hb2]; rfl
  have f1 : w2.frozen? ⟨b, 1, none⟩ = false := Lib.frozen_of_heap hb2 1
  obtain ⟨ao, n', cap, rfl⟩ : ∃ ao n' cap, v' = .slice ao n' cap := by
    rcases hown'.2 with ⟨hv, _⟩ | ⟨g, cap, cur, hv, _⟩
    · exact ⟨_, _, _, hv⟩
    · exact ⟨_, _, _, hv⟩
  go_wp2
  go_ret2
  refine ⟨rfl, .inr ?_, ?_⟩
  · refine Lib.BuilderAt.put (T := 81) (e := 5) hB hb2 (bs' := Lib.byteCells (l ++ m)) ?_ (by decide)
    have e1 : (Lib.byteCells (l ++ m)).length = l.length + m.toArray.size := by rw [Lib.byteCells_length]; simp
    have e2 : Lib.byteCells (l ++ m) = Lib.byteCells l ++ Lib.strCells ⟨m.toArray⟩ := by rw [strCells_bytes]; simp [Lib.byteCells]
    rw [e1, e2]
    exact hown'
  · exact (hb1.grown hgrow (by have := hb1.size; omega) (fun k hk => (hown.lt k hk).1)).setCell (p := ⟨b, 1, none⟩) hB _
abbrev Pow (w : World) : Prop := Lib.TabIs Tryz.prog w "internal/strconv.uint64pow10" .u64 Lib.pow10Tab
theorem Pow.below {B : Nat} {w w' : World} (h : Pow w) (hB : 0 < B) (hb : Below B w w') : Pow w' := by
  have hg : Tryz.prog.globalNamed "internal/strconv.uint64pow10" = some 0 := by kernel_rfl
  unfold Pow Lib.TabIs World.var? at h ⊢
  rw [hg] at h ⊢
  simp only [Option.bind_some] at h ⊢
  rw [hb.block _ hB]
  exact h
theorem bel_grow (w : World) (k : Nat) (os : Array Obj) : Below w.heap.size w (Sort.grow (w.drewN k) os) := by
  refine ⟨rfl, rfl, rfl, ?_, fun b hb => ?_⟩
  · show w.heap.size ≤ (w.heap ++ os).size
    simp
  · show (w.heap ++ os)[b]? = w.heap[b]?
    exact Array.getElem?_append_left hb
theorem own_bel {w w' : World} {base : Nat} {e : TypeId} {size : Nat} {v : Value} {n : Nat} {xs : List Value} (h : w.ownsRow base e size v n xs) (hb : Below w.heap.size w w') : w'.ownsRow base e size v n xs := by
  refine ⟨h.1, ?_⟩
  rcases h.2 with hn | ⟨g, cap, cur, rfl, hbg, hg, rest⟩
  · exact .inl hn
  · refine .inr ⟨g, cap, cur, rfl, hbg, ?_, rest⟩
    rw [hb.block g (Array.getElem?_eq_some_iff.1 hg).1]
    exact hg
theorem BldAt_bel {T e : TypeId} {B b : Nat} {p : Value} {l : List Value} {w w' : World} (h : Lib.BuilderAt T e B b p l w) (hb : Below w.heap.size w w') : Lib.BuilderAt T e B b p l w' := by
  have hlt := h.lt
  obtain ⟨h1, v, h2, h3, h4⟩ := h
  exact ⟨h1, v, by rw [hb.block b hlt]; exact h2, own_bel h3 hb, h4⟩
theorem Bld.bel {B b : Nat} {l : List UInt8} {w w' : World} (h : Bld B b l w) (hb : Below w.heap.size w w') : Bld B b l w' := by
  rcases h with h | h
  · exact .inl (BldAt_bel h hb)
  · exact .inr (BldAt_bel h hb)
theorem itoa_any (n : Int) (h0 : -9223372036854775808 ≤ n) (h1 : n ≤ 9223372036854775807) (w : World) (hp : Pow w) :
    Calls Tryz.prog 35 #[.int .i64 n] w fun e w' => e = .returned (bs (Lib.itoa n)) ∧ Below w.heap.size w w' := by
  refine (y_strconv_Itoa n h0 h1 w hp).mono ?_
  rintro e w' ⟨rfl, k, os, rfl⟩
  exact ⟨rfl, bel_grow w k os⟩

end Go.Proofs.YtkcpfpofimkkiaaGreatDoor
namespace Go.Proofs.YtkcpfpofimkkiaaGreatDoor
open Go.ChangeShapes Go.WideShapes Go.RowKit
set_option linter.unusedVariables false
set_option linter.unusedSimpArgs false
set_option maxRecDepth 100000

structure Sh (α : Type) where
  n : Nat
  rd : World → (Nat → Prop) → α → List Value → Prop
  len : ∀ {w F a cs}, rd w F a cs → cs.length = n
  keep : ∀ {w w' F a cs}, rd w F a cs → (∀ p : Addr, F p.block → w'.cell? p = w.cell? p) → rd w' F a cs
  more : ∀ {w} {F F' : Nat → Prop} {a cs}, rd w F a cs → (∀ k, F k → F' k) → rd w F' a cs
  one : ∀ {w F a cs}, rd w F a cs → ∀ u ∈ cs, u.oneCell' = true

/-- The blocks below B. -/
def Lo (B : Nat) : Nat → Prop := fun k => k < B
theorem Lo.mk {B k : Nat} (h : k < B) : Lo B k := h
theorem Lo.up {B B' : Nat} (h : B ≤ B') : ∀ k, Lo B k → Lo B' k := fun k hk => Nat.lt_of_lt_of_le hk h

def shI (k : IntKind) : Sh Int where
  n := 1
  rd := fun _ _ a cs => cs = [.int k a] ∧ (Lit.int k a).wf = true
  len := fun h => by rw [h.1]; rfl
  keep := fun h _ => h
  more := fun h _ => h
  one := fun h u hu => by rw [h.1] at hu; simp at hu; subst hu; rfl
abbrev shInt : Sh Int := shI .i64

def shB : Sh Bool where
  n := 1
  rd := fun _ _ a cs => cs = [.bool a]
  len := fun h => by rw [h]; rfl
  keep := fun h _ => h
  more := fun h _ => h
  one := fun h u hu => by rw [h] at hu; simp at hu; subst hu; rfl

def shS : Sh ByteArray where
  n := 1
  rd := fun _ _ a cs => cs = [.string a] ∧ a.size ≤ maxLen
  len := fun h => by rw [h.1]; rfl
  keep := fun h _ => h
  more := fun h _ => h
  one := fun h u hu => by rw [h.1] at hu; simp at hu; subst hu; rfl

def shP {α β : Type} (S : Sh α) (T : Sh β) : Sh (α × β) where
  n := S.n + T.n
  rd := fun w F a cs => ∃ c d, cs = c ++ d ∧ S.rd w F a.1 c ∧ T.rd w F a.2 d
  len := fun ⟨c, d, e, h1, h2⟩ => by rw [e, List.length_append, S.len h1, T.len h2]
  keep := fun ⟨c, d, e, h1, h2⟩ hk => ⟨c, d, e, S.keep h1 hk, T.keep h2 hk⟩
  more := fun ⟨c, d, e, h1, h2⟩ hk => ⟨c, d, e, S.more h1 hk, T.more h2 hk⟩
  one := fun ⟨c, d, e, h1, h2⟩ u hu => by
    rw [e, List.mem_append] at hu
    rcases hu with hu | hu
    · exact S.one h1 u hu
    · exact T.one h2 u hu

/-- The cells xs lie at A, in a block of F. -/
def At (w : World) (F : Nat → Prop) (A : Option Addr) (xs : List Value) : Prop :=
  xs ≠ [] → ∃ b off, A = some ⟨b, off, none⟩ ∧ F b ∧ ∀ (j : Nat) (u : Value), xs[j]? = some u → w.cell? ⟨b, off + j, none⟩ = some u

def shL {α : Type} (S : Sh α) : Sh (List α) where
  n := 1
  rd := fun w F l cs => ∃ (A : Option Addr) (c : Nat) (css : List (List Value)), cs = [.slice A l.length c] ∧ l.length ≤ c ∧ c ≤ maxLen ∧ css.length = l.length ∧
    (∀ (i : Nat) (a : α) (d : List Value), l[i]? = some a → css[i]? = some d → S.rd w F a d) ∧ At w F A css.flatten
  len := fun ⟨A, c, css, e, _⟩ => by rw [e]; rfl
  keep := fun ⟨A, c, css, e, h1, h2, h3, h4, h5⟩ hk => ⟨A, c, css, e, h1, h2, h3, fun i a d ha hd => S.keep (h4 i a d ha hd) hk, fun hn => by
    obtain ⟨b, off, e, hb, hc⟩ := h5 hn
    exact ⟨b, off, e, hb, fun j u hu => (hk _ hb).trans (hc j u hu)⟩⟩
  more := fun ⟨A, c, css, e, h1, h2, h3, h4, h5⟩ hk => ⟨A, c, css, e, h1, h2, h3, fun i a d ha hd => S.more (h4 i a d ha hd) hk, fun hn => by
    obtain ⟨b, off, e, hb, hc⟩ := h5 hn
    exact ⟨b, off, e, hk _ hb, hc⟩⟩
  one := fun ⟨A, c, css, e, _⟩ u hu => by rw [e] at hu; simp at hu; subst hu; rfl

theorem flatten_get {m : Nat} : ∀ (css : List (List Value)) (k j : Nat) (d : List Value) (u : Value), (∀ (i : Nat) (e : List Value), css[i]? = some e → e.length = m) → css[k]? = some d → d[j]? = some u → css.flatten[k * m + j]? = some u
  | [], k, j, d, u, _, h, _ => by simp at h
  | e :: css, 0, j, d, u, hm, h, hj => by
    simp at h; subst h
    have hl := hm 0 e rfl
    have hjm : j < e.length := (List.getElem?_eq_some_iff.1 hj).1
    rw [List.flatten_cons, List.getElem?_append_left (by omega)]
    simpa using hj
  | e :: css, k + 1, j, d, u, hm, h, hj => by
    have hl := hm 0 e rfl
    rw [List.flatten_cons, List.getElem?_append_right (by rw [hl, Nat.add_mul]; omega), hl, show (k + 1) * m + j - m = k * m + j from by rw [Nat.add_mul]; omega]
    exact flatten_get css k j d u (fun i e' he => hm (i + 1) e' (by simpa using he)) (by simpa using h) hj

/-- Element k of a slice: its cells, and what they read as. -/
theorem shL_at {α : Type} {S : Sh α} {w : World} {F : Nat → Prop} {l : List α} {A : Option Addr} {n c : Nat} (h : (shL S).rd w F l [.slice A n c]) (hS : 0 < S.n) (hl : 0 < l.length) :
    ∃ b off, A = some ⟨b, off, none⟩ ∧ F b ∧ ∀ (k : Nat) (a : α), l[k]? = some a → ∃ d : List Value, S.rd w F a d ∧ ∀ (j : Nat) (u : Value), d[j]? = some u → w.cell? ⟨b, off + (k * S.n + j), none⟩ = some u := by
  obtain ⟨A', c', css, e, h1, h2, h3, h4, h5⟩ := h
  simp at e
  obtain ⟨rfl, rfl, rfl⟩ := e
  have hlen : ∀ (i : Nat) (d : List Value), css[i]? = some d → d.length = S.n := by
    intro i d hd
    have hi : i < l.length := by rw [← h3]; exact (List.getElem?_eq_some_iff.1 hd).1
    exact S.len (h4 i l[i] d (List.getElem?_eq_getElem hi) hd)
  have hne : css.flatten ≠ [] := by
    intro hn
    have h0 : 0 < css.length := by omega
    have := flatten_get (m := S.n) css 0 0 css[0] ((css[0])[0]'(by rw [hlen 0 _ (List.getElem?_eq_getElem h0)]; exact hS)) hlen (List.getElem?_eq_getElem h0) (List.getElem?_eq_getElem _)
    rw [hn] at this
    simp at this
  obtain ⟨b, off, e, hb, hc⟩ := h5 hne
  refine ⟨b, off, e, hb, fun k a ha => ?_⟩
  have hk : k < css.length := by rw [h3]; exact (List.getElem?_eq_some_iff.1 ha).1
  exact ⟨css[k], h4 k a _ ha (List.getElem?_eq_getElem hk), fun j u hu => hc _ u (flatten_get css k j _ u hlen (List.getElem?_eq_getElem hk) hu)⟩

theorem shL_form {α : Type} {S : Sh α} {w : World} {F : Nat → Prop} {l : List α} {cs : List Value} (h : (shL S).rd w F l cs) : ∃ A c, cs = [.slice A l.length c] ∧ l.length ≤ c ∧ c ≤ maxLen := by
  obtain ⟨A, c, css, e, h1, h2, _⟩ := h
  exact ⟨A, c, e, h1, h2⟩
theorem shL_val {α : Type} {S : Sh α} {w : World} {F : Nat → Prop} {l : List α} {v : Value} (h : (shL S).rd w F l [v]) : ∃ A c, v = .slice A l.length c ∧ l.length ≤ c ∧ c ≤ maxLen := by
  obtain ⟨A, c, e, h1, h2⟩ := shL_form h
  simp at e
  exact ⟨A, c, e, h1, h2⟩

theorem Sh.below {α : Type} {S : Sh α} {w w' : World} {B : Nat} {a : α} {cs : List Value} (h : S.rd w (Lo B) a cs) (hb : Below B w w') : S.rd w' (Lo B) a cs := S.keep h fun _ hp => hb.cell hp
theorem Sh.up {α : Type} {S : Sh α} {w : World} {B B' : Nat} {a : α} {cs : List Value} (h : S.rd w (Lo B) a cs) (hB : B ≤ B') : S.rd w (Lo B') a cs := S.more h (Lo.up hB)

/-! ### met in what came in -/
def Opens (P : Program) (t : TypeId) {α : Type} (S : Sh α) : Prop :=
  P.cellsOf t = S.n ∧ ∀ (H : Type) (enc : TypeId × Value → H) (w : World) (base : Nat) (held : Bool) (fuel : Nat) (cs : List Value) (x : DataW H × List MemPlace),
    DataW.trod enc P w base (fun _ => true) held fuel t cs = some x → ∃ a, S.rd w (Lo w.heap.size) a cs

theorem opens_int {P : Program} {t : TypeId} {k : IntKind} (ht : P.underlying t = some (.int k)) (hc : P.cellsOf t = 1) : Opens P t (shI k) :=
  ⟨hc, fun H enc w base held fuel cs x h => by
    obtain ⟨n, rfl, _, hw⟩ := DataW.trod_int ht h
    exact ⟨n, rfl, hw⟩⟩
theorem opens_bool {P : Program} {t : TypeId} (ht : P.underlying t = some .bool) (hc : P.cellsOf t = 1) : Opens P t shB :=
  ⟨hc, fun H enc w base held fuel cs x h => by
    obtain ⟨n, rfl, _⟩ := DataW.trod_bool ht h
    exact ⟨n, rfl⟩⟩
theorem opens_string {P : Program} {t : TypeId} (ht : P.underlying t = some .string) (hc : P.cellsOf t = 1) : Opens P t shS :=
  ⟨hc, fun H enc w base held fuel cs x h => by
    obtain ⟨n, rfl, _, hw⟩ := DataW.trod_string ht h
    exact ⟨n, rfl, hw⟩⟩

theorem opens_slice {P : Program} {t e : TypeId} {α : Type} {S : Sh α} (ht : P.underlying t = some (.slice e)) (hc : P.cellsOf t = 1) (hS : 0 < S.n) (he : Opens P e S) : Opens P t (shL S) :=
  ⟨hc, fun H enc w base held fuel cs x h => by
    rcases Deep.open_slice ht h with ⟨rfl, _⟩ | ⟨a, len, cap, m, n, D, Pl, rfl, _, hl, hm, hmm, _, hx⟩
    · exact ⟨[], none, 0, [], rfl, Nat.le_refl _, Nat.zero_le _, rfl, fun i a d h => by simp at h, fun h => absurd rfl h⟩
    · rw [if_pos rfl] at hmm
      subst hmm
      obtain ⟨css, hcss⟩ := Deep.choose_lt (α := List Value) (p := fun i d => w.cells? base (a.add (i * P.cellsOf e)) (P.cellsOf e) = some d ∧ ∃ a, S.rd w (Lo w.heap.size) a d) (n := len) (fun i hi => by
        obtain ⟨d, h1, h2⟩ := hx i (by omega)
        exact ⟨d, h1, he.2 H enc w base held n d _ h2⟩)
      obtain ⟨l, hl'⟩ : ∃ l : List α, l.length = len ∧ ∀ (i : Nat) (a : α), l[i]? = some a → S.rd w (Lo w.heap.size) a (css i) := by
        have : ∀ k, k ≤ len → ∃ l : List α, l.length = k ∧ ∀ (i : Nat) (a : α), l[i]? = some a → S.rd w (Lo w.heap.size) a (css i) := by
          intro k
          induction k with
          | zero => intro _; exact ⟨[], rfl, fun i a h => by simp at h⟩
          | succ k ih =>
            intro hk
            obtain ⟨l, h1, h2⟩ := ih (by omega)
            obtain ⟨a, ha⟩ := (hcss k (by omega)).2
            refine ⟨l ++ [a], by simp [h1], fun i b hb => ?_⟩
            by_cases hi : i < l.length
            · rw [List.getElem?_append_left hi] at hb; exact h2 i b hb
            · rw [List.getElem?_append_right (by omega)] at hb
              have : i = l.length := by
                rcases Nat.lt_or_ge l.length i with h | h
                · rw [List.getElem?_eq_none (by simp; omega)] at hb; cases hb
                · omega
              subst this
              simp at hb
              subst hb
              rw [h1]; exact ha
        exact this len (Nat.le_refl _)
      obtain ⟨hlen, hrd⟩ := hl'
      refine ⟨l, some a, m, (List.range len).map css, by rw [hlen], by omega, hm, by simp [hlen], fun i b d hb hd => ?_, fun hne => ?_⟩
      · have hi : i < len := by rw [← hlen]; exact (List.getElem?_eq_some_iff.1 hb).1
        rw [List.getElem?_map, List.getElem?_range hi] at hd
        simp at hd
        subst hd
        exact hrd i b hb
      · have h0 : 0 < len := by
          rcases Nat.eq_zero_or_pos len with h0 | h0
          · subst h0; simp at hne
          · exact h0
        have hcs : ∀ i, i < len → (css i).length = S.n ∧ ∀ j, j < S.n → w.cell? (a.add (i * S.n + j)) = (css i)[j]? := by
          intro i hi
          obtain ⟨_, h2, h3⟩ := World.cells?_some (hcss i hi).1
          rw [he.1] at h2 h3
          exact ⟨h2, fun j hj => by rw [← Deep.add_add]; exact h3 j hj⟩
        obtain ⟨b, off, spot⟩ := a
        have hc0 : w.cell? (⟨b, off, spot⟩ : Addr) = some ((css 0)[0]'(by rw [(hcs 0 h0).1]; exact hS)) := by
          have := (hcs 0 h0).2 0 hS
          rw [List.getElem?_eq_getElem (by rw [(hcs 0 h0).1]; exact hS)] at this
          simpa [Addr.add] using this
        have hspot : spot = none := by simpa [Addr.add] using World.cell?_spot hc0
        subst hspot
        refine ⟨b, off, rfl, World.block_lt_of_cell? w _ hc0, fun j u hu => ?_⟩
        have hflat : ∀ (m : Nat), m ≤ len → ((List.range m).map css).flatten.length = m * S.n ∧ ∀ (j : Nat) (u : Value), ((List.range m).map css).flatten[j]? = some u → w.cell? ⟨b, off + j, none⟩ = some u := by
          intro m
          induction m with
          | zero => intro _; simp
          | succ m ih =>
            intro hm'
            obtain ⟨i1, i2⟩ := ih (by omega)
            have hsp : ((List.range (m + 1)).map css).flatten = ((List.range m).map css).flatten ++ css m := by
              rw [List.range_succ, List.map_append, List.flatten_append]; simp
            refine ⟨by rw [hsp, List.length_append, i1, (hcs m (by omega)).1, Nat.add_mul, Nat.one_mul], fun j u hu => ?_⟩
            rw [hsp] at hu
            by_cases hj : j < ((List.range m).map css).flatten.length
            · rw [List.getElem?_append_left hj] at hu; exact i2 j u hu
            · rw [List.getElem?_append_right (by omega), i1] at hu
              have hjm : j - m * S.n < S.n := by have := (List.getElem?_eq_some_iff.1 hu).1; rw [(hcs m (by omega)).1] at this; exact this
              have := (hcs m (by omega)).2 (j - m * S.n) hjm
              rw [hu] at this
              have hadd : (⟨b, off, none⟩ : Addr).add (m * S.n + (j - m * S.n)) = ⟨b, off + j, none⟩ := by
                rw [i1] at hj
                rw [show m * S.n + (j - m * S.n) = j from by omega]
                unfold Addr.add; split <;> simp_all
              rwa [hadd] at this
        exact (hflat len (Nat.le_refl _)).2 j u hu⟩

/-- The fields of a struct from one on, as nested pairs. -/
def OpF (P : Program) (fs : List Field) (off : Nat) {α : Type} (S : Sh α) : Prop :=
  ∀ (H : Type) (enc : TypeId × Value → H) (w : World) (base : Nat) (held : Bool) (fuel : Nat) (cs : List Value), cs.length = off + S.n →
    (∀ (i : Nat) (f : Field), fs[i]? = some f → ∃ x, DataW.trod enc P w base (fun _ => true) held fuel f.type ((cs.drop f.offset).take (P.cellsOf f.type)) = some x) → ∃ a, S.rd w (Lo w.heap.size) a (cs.drop off)
theorem opF_one {P : Program} {f : Field} {off : Nat} {α : Type} {S : Sh α} (ho : f.offset = off) (h : Opens P f.type S) : OpF P [f] off S := by
  intro H enc w base held fuel cs hl hf
  obtain ⟨x, hx⟩ := hf 0 f rfl
  rw [ho, h.1, List.take_of_length_le (by rw [List.length_drop, hl]; omega)] at hx
  exact h.2 H enc w base held fuel _ x hx
theorem opF_cons {P : Program} {f : Field} {fs : List Field} {off : Nat} {α β : Type} {S : Sh α} {T : Sh β} (ho : f.offset = off) (h : Opens P f.type S) (hr : OpF P fs (off + S.n) T) : OpF P (f :: fs) off (shP S T) := by
  intro H enc w base held fuel cs hl hf
  have hl' : cs.length = off + (S.n + T.n) := hl
  obtain ⟨x, hx⟩ := hf 0 f rfl
  rw [ho, h.1] at hx
  obtain ⟨a, ha⟩ := h.2 H enc w base held fuel _ x hx
  obtain ⟨b, hb⟩ := hr H enc w base held fuel cs (by omega) (fun i g hg => hf (i + 1) g (by simpa using hg))
  refine ⟨(a, b), (cs.drop off).take S.n, cs.drop (off + S.n), ?_, ha, hb⟩
  rw [← List.drop_drop, List.take_append_drop]
theorem opens_struct {P : Program} {t : TypeId} {fs : Array Field} {α : Type} {S : Sh α} (ht : P.underlying t = some (.struct fs)) (hc : P.cellsOf t = S.n) (h : OpF P fs.toList 0 S) : Opens P t S :=
  ⟨hc, fun H enc w base held fuel cs x hx => by
    obtain ⟨xs, n, _, _, hl, hxl, hg⟩ := DataW.trod_struct ht hx
    have := h H enc w base held n cs (by rw [hl, hc]; omega) (fun i f hf => by
      have hf' : fs[i]? = some f := by simpa using hf
      have hi : i < xs.length := by rw [hxl]; exact (Array.getElem?_eq_some_iff.1 hf').1
      exact ⟨xs[i], by rw [hg i f hf', List.getElem?_eq_getElem hi]⟩)
    simpa using this⟩

/-- An argument whose cells read in a shape. -/
def IsIn {α : Type} (S : Sh α) (W : World) (v : Value) : Prop := ∃ a, S.rd W (Lo W.heap.size) a v.cells.toList
theorem isIn_of {P : Program} {t : TypeId} {α : Type} {S : Sh α} (ho : Opens P t S) {H : Type} {enc : TypeId × Value → H} {W : World} {base : Nat} {v : Value} {d : DataW H} {p : List MemPlace} {held : Bool}
    (h : DataW.Trod enc P W base (fun _ => true) held t v d p) : IsIn S W v := by
  obtain ⟨fuel, hf⟩ := h
  exact ho.2 H enc W base held fuel _ _ hf
end Go.Proofs.YtkcpfpofimkkiaaGreatDoor
namespace Go.Proofs.YtkcpfpofimkkiaaGreatDoor
open Go.RowKit
set_option linter.unusedVariables false
set_option linter.unusedSimpArgs false
set_option maxRecDepth 100000

/-- A shape, and a plain condition besides. -/
def shZ {α : Type} (S : Sh α) (p : α → Prop) : Sh α where
  n := S.n
  rd := fun w F a cs => S.rd w F a cs ∧ p a
  len := fun h => S.len h.1
  keep := fun h k => ⟨S.keep h.1 k, h.2⟩
  more := fun h k => ⟨S.more h.1 k, h.2⟩
  one := fun h => S.one h.1
theorem weightsAll_mem {H : Type} {P : Program} {e : TypeId} {d : DataW H} : ∀ {ds : List (DataW H)}, d ∈ ds → ∀ n ∈ d.weights P e, n ∈ DataW.weightsAll P e ds
  | [], h, _, _ => by cases h
  | d0 :: ds, h, n, hn => by
    simp only [DataW.weightsAll, List.mem_append]
    rcases List.mem_cons.1 h with rfl | h
    · exact Or.inl hn
    · exact Or.inr (weightsAll_mem h n hn)
def OpensW (P : Program) (t : TypeId) {α : Type} (S : Sh α) : Prop :=
  P.cellsOf t = S.n ∧ ∀ (H : Type) (enc : TypeId × Value → H) (w : World) (base : Nat) (held : Bool) (fuel : Nat) (cs : List Value) (x : DataW H × List MemPlace),
    DataW.trod enc P w base (fun _ => true) held fuel t cs = some x → (∀ n ∈ x.1.weights P t, n ≤ reachBytes) → ∃ a, S.rd w (Lo w.heap.size) a cs
theorem Opens.w {P : Program} {t : TypeId} {α : Type} {S : Sh α} (h : Opens P t S) : OpensW P t S := ⟨h.1, fun H enc w base held fuel cs x hx _ => h.2 H enc w base held fuel cs x hx⟩
theorem opensW_slice {P : Program} {t e : TypeId} {α : Type} {S : Sh α} {bytes : Nat} (ht : P.underlying t = some (.slice e)) (hc : P.cellsOf t = 1) (hS : 0 < S.n) (hby : P.bytesOf e = bytes) (he : OpensW P e S) : OpensW P t (shZ (shL S) fun l => l.length * bytes ≤ reachBytes) :=
  ⟨hc, fun H enc w base held fuel cs x h hwt => by
    rcases Deep.open_slice ht h with ⟨rfl, _⟩ | ⟨a, len, cap, m, n, D, Pl, rfl, _, hl, hm, hmm, hxe, hx⟩
    · exact ⟨[], ⟨none, 0, [], rfl, Nat.le_refl _, Nat.zero_le _, rfl, fun i a d h => by simp at h, fun h => absurd rfl h⟩, by simp [reachBytes]⟩
    · rw [if_pos rfl] at hmm
      subst hmm
      subst hxe
      simp only [DataW.weights, ht, List.mem_cons, List.mem_append] at hwt
      have hlen47 : len * bytes ≤ reachBytes := by
        have := hwt _ (Or.inl rfl)
        rw [hby] at this
        simp only [List.length_map, List.length_range] at this
        exact Nat.le_trans (Nat.mul_le_mul_right _ (Nat.le_add_right _ _)) this
      have hwD : ∀ i, i < len → ∀ q ∈ (D i).weights P e, q ≤ reachBytes := fun i hi q hq =>
        hwt q (Or.inr (Or.inl (weightsAll_mem (List.mem_map.2 ⟨i, List.mem_range.2 hi, rfl⟩) q hq)))
      obtain ⟨css, hcss⟩ := Deep.choose_lt (α := List Value) (p := fun i d => w.cells? base (a.add (i * P.cellsOf e)) (P.cellsOf e) = some d ∧ ∃ a, S.rd w (Lo w.heap.size) a d) (n := len) (fun i hi => by
        obtain ⟨d, h1, h2⟩ := hx i (by omega)
        exact ⟨d, h1, he.2 H enc w base held n d _ h2 (hwD i hi)⟩)
      obtain ⟨l, hl'⟩ : ∃ l : List α, l.length = len ∧ ∀ (i : Nat) (a : α), l[i]? = some a → S.rd w (Lo w.heap.size) a (css i) := by
        have : ∀ k, k ≤ len → ∃ l : List α, l.length = k ∧ ∀ (i : Nat) (a : α), l[i]? = some a → S.rd w (Lo w.heap.size) a (css i) := by
          intro k
          induction k with
          | zero => intro _; exact ⟨[], rfl, fun i a h => by simp at h⟩
          | succ k ih =>
            intro hk
            obtain ⟨l, h1, h2⟩ := ih (by omega)
            obtain ⟨a, ha⟩ := (hcss k (by omega)).2
            refine ⟨l ++ [a], by simp [h1], fun i b hb => ?_⟩
            by_cases hi : i < l.length
            · rw [List.getElem?_append_left hi] at hb; exact h2 i b hb
            · rw [List.getElem?_append_right (by omega)] at hb
              have : i = l.length := by
                rcases Nat.lt_or_ge l.length i with h | h
                · rw [List.getElem?_eq_none (by simp; omega)] at hb; cases hb
                · omega
              subst this
              simp at hb
              subst hb
              rw [h1]; exact ha
        exact this len (Nat.le_refl _)
      obtain ⟨hlen, hrd⟩ := hl'
      refine ⟨l, ⟨some a, m, (List.range len).map css, by rw [hlen], by omega, hm, by simp [hlen], fun i b d hb hd => ?_, fun hne => ?_⟩, by show l.length * bytes ≤ reachBytes; rw [hlen]; exact hlen47⟩
      · have hi : i < len := by rw [← hlen]; exact (List.getElem?_eq_some_iff.1 hb).1
        rw [List.getElem?_map, List.getElem?_range hi] at hd
        simp at hd
        subst hd
        exact hrd i b hb
      · have h0 : 0 < len := by
          rcases Nat.eq_zero_or_pos len with h0 | h0
          · subst h0; simp at hne
          · exact h0
        have hcs : ∀ i, i < len → (css i).length = S.n ∧ ∀ j, j < S.n → w.cell? (a.add (i * S.n + j)) = (css i)[j]? := by
          intro i hi
          obtain ⟨_, h2, h3⟩ := World.cells?_some (hcss i hi).1
          rw [he.1] at h2 h3
          exact ⟨h2, fun j hj => by rw [← Deep.add_add]; exact h3 j hj⟩
        obtain ⟨b, off, spot⟩ := a
        have hc0 : w.cell? (⟨b, off, spot⟩ : Addr) = some ((css 0)[0]'(by rw [(hcs 0 h0).1]; exact hS)) := by
          have := (hcs 0 h0).2 0 hS
          rw [List.getElem?_eq_getElem (by rw [(hcs 0 h0).1]; exact hS)] at this
          simpa [Addr.add] using this
        have hspot : spot = none := by simpa [Addr.add] using World.cell?_spot hc0
        subst hspot
        refine ⟨b, off, rfl, World.block_lt_of_cell? w _ hc0, fun j u hu => ?_⟩
        have hflat : ∀ (m : Nat), m ≤ len → ((List.range m).map css).flatten.length = m * S.n ∧ ∀ (j : Nat) (u : Value), ((List.range m).map css).flatten[j]? = some u → w.cell? ⟨b, off + j, none⟩ = some u := by
          intro m
          induction m with
          | zero => intro _; simp
          | succ m ih =>
            intro hm'
            obtain ⟨i1, i2⟩ := ih (by omega)
            have hsp : ((List.range (m + 1)).map css).flatten = ((List.range m).map css).flatten ++ css m := by
              rw [List.range_succ, List.map_append, List.flatten_append]; simp
            refine ⟨by rw [hsp, List.length_append, i1, (hcs m (by omega)).1, Nat.add_mul, Nat.one_mul], fun j u hu => ?_⟩
            rw [hsp] at hu
            by_cases hj : j < ((List.range m).map css).flatten.length
            · rw [List.getElem?_append_left hj] at hu; exact i2 j u hu
            · rw [List.getElem?_append_right (by omega), i1] at hu
              have hjm : j - m * S.n < S.n := by have := (List.getElem?_eq_some_iff.1 hu).1; rw [(hcs m (by omega)).1] at this; exact this
              have := (hcs m (by omega)).2 (j - m * S.n) hjm
              rw [hu] at this
              have hadd : (⟨b, off, none⟩ : Addr).add (m * S.n + (j - m * S.n)) = ⟨b, off + j, none⟩ := by
                rw [i1] at hj
                rw [show m * S.n + (j - m * S.n) = j from by omega]
                unfold Addr.add; split <;> simp_all
              rwa [hadd] at this
        exact (hflat len (Nat.le_refl _)).2 j u hu⟩

def OpFW (P : Program) (fs : List Field) (off : Nat) {α : Type} (S : Sh α) : Prop :=
  ∀ (H : Type) (enc : TypeId × Value → H) (w : World) (base : Nat) (held : Bool) (fuel : Nat) (cs : List Value) (xs : List (DataW H × List MemPlace)), cs.length = off + S.n →
    (∀ (i : Nat) (f : Field), fs[i]? = some f → ∃ x, xs[i]? = some x ∧ DataW.trod enc P w base (fun _ => true) held fuel f.type ((cs.drop f.offset).take (P.cellsOf f.type)) = some x ∧ ∀ n ∈ x.1.weights P f.type, n ≤ reachBytes) → ∃ a, S.rd w (Lo w.heap.size) a (cs.drop off)
theorem opFW_one {P : Program} {f : Field} {off : Nat} {α : Type} {S : Sh α} (ho : f.offset = off) (h : OpensW P f.type S) : OpFW P [f] off S := by
  intro H enc w base held fuel cs xs hl hf
  obtain ⟨x, _, hx, hw⟩ := hf 0 f rfl
  rw [ho, h.1, List.take_of_length_le (by rw [List.length_drop, hl]; omega)] at hx
  exact h.2 H enc w base held fuel _ x hx hw
theorem opFW_cons {P : Program} {f : Field} {fs : List Field} {off : Nat} {α β : Type} {S : Sh α} {T : Sh β} (ho : f.offset = off) (h : OpensW P f.type S) (hr : OpFW P fs (off + S.n) T) : OpFW P (f :: fs) off (shP S T) := by
  intro H enc w base held fuel cs xs hl hf
  have hl' : cs.length = off + (S.n + T.n) := hl
  obtain ⟨x, _, hx, hw⟩ := hf 0 f rfl
  rw [ho, h.1] at hx
  obtain ⟨a, ha⟩ := h.2 H enc w base held fuel _ x hx hw
  obtain ⟨b, hb⟩ := hr H enc w base held fuel cs (xs.drop 1) (by omega) (fun i g hg => by
    obtain ⟨y, h1, h2⟩ := hf (i + 1) g (by simpa using hg)
    exact ⟨y, by rw [List.getElem?_drop, Nat.add_comm]; exact h1, h2⟩)
  refine ⟨(a, b), (cs.drop off).take S.n, cs.drop (off + S.n), ?_, ha, hb⟩
  rw [← List.drop_drop, List.take_append_drop]
theorem weightsEach_mem {H : Type} {P : Program} : ∀ {fs : List Field} {ds : List (DataW H)} {i : Nat} {f : Field} {d : DataW H}, fs[i]? = some f → ds[i]? = some d → ∀ n ∈ d.weights P f.type, n ∈ DataW.weightsEach P (fs.map (·.type)) ds := fun {fs ds i f d} hf hd n hn =>
  DataW.weights_mem_each (j := i) (t := f.type) (by rw [List.getElem?_map, hf]; rfl) hd n hn
theorem opensW_struct {P : Program} {t : TypeId} {fs : Array Field} {α : Type} {S : Sh α} (ht : P.underlying t = some (.struct fs)) (hc : P.cellsOf t = S.n) (h : OpFW P fs.toList 0 S) : OpensW P t S :=
  ⟨hc, fun H enc w base held fuel cs x hx hw => by
    obtain ⟨xs, n, _, rfl, hl, hxl, hg⟩ := DataW.trod_struct ht hx
    simp only [DataW.weights, ht] at hw
    have := h H enc w base held n cs xs (by rw [hl, hc]; omega) (fun i f hf => by
      have hf' : fs[i]? = some f := by simpa using hf
      have hi : i < xs.length := by rw [hxl]; exact (Array.getElem?_eq_some_iff.1 hf').1
      refine ⟨xs[i], List.getElem?_eq_getElem hi, by rw [hg i f hf', List.getElem?_eq_getElem hi], fun q hq => hw q ?_⟩
      exact weightsEach_mem hf (by rw [List.getElem?_map, List.getElem?_eq_getElem hi]; rfl) q hq)
    simpa using this⟩
theorem isIn_ofW {P : Program} {t : TypeId} {α : Type} {S : Sh α} (ho : OpensW P t S) {H : Type} {enc : TypeId × Value → H} {W : World} {base : Nat} {v : Value} {d : DataW H} {p : List MemPlace} {held : Bool}
    (h : DataW.Trod enc P W base (fun _ => true) held t v d p) (hw : ∀ n ∈ d.weights P t, n ≤ reachBytes) : IsIn S W v := by
  obtain ⟨fuel, hf⟩ := h
  exact ho.2 H enc W base held fuel _ _ hf hw
end Go.Proofs.YtkcpfpofimkkiaaGreatDoor
