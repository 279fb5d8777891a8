/- Words for memory: a slice that reads as a list of cells; lists of integers. · Plain: a list of productions gone through again and again. No program here. -/
import Derived.WalkKit
import Derived.Lib.Hide
import Derived.Deep.Draws
import Derived.Deep.AppendLies
import Derived.Maps.AppendAt
namespace Go.Proofs.YtklhjaohnimmnaaDoor
open Go.RowKit
set_option linter.unusedVariables false
set_option linter.unusedSimpArgs false

theorem ret_eq {v v' : Value} (h : v = v') : Ending.returned v = Ending.returned v' := by rw [h]

/-- Number k of a list of integers. -/
def nth (l : List Int) (k : Nat) : Int := l.getD k 0
theorem nth_get {l : List Int} {k : Nat} (h : k < l.length) : nth l k = l[k] := by simp [nth, h]
theorem nth_some {l : List Int} {k : Nat} (h : k < l.length) : l[k]? = some (nth l k) := by rw [nth_get h, List.getElem?_eq_getElem h]

/-- The slice's address A leads to the cells xs, below block B. -/
def Rd (w : World) (B : Nat) (A : Option Addr) (xs : List Value) : Prop :=
  xs ≠ [] → ∃ b off, A = some ⟨b, off, none⟩ ∧ b < B ∧ ∀ (j : Nat) (u : Value), xs[j]? = some u → w.cell? ⟨b, off + j, none⟩ = some u

theorem Rd.keep {w w' : World} {B : Nat} {A : Option Addr} {xs : List Value} (h : Rd w B A xs) (hk : ∀ p : Addr, p.block < B → w'.cell? p = w.cell? p) : Rd w' B A xs := fun hn => by
  obtain ⟨b, off, e, hb, hc⟩ := h hn
  exact ⟨b, off, e, hb, fun j u hu => (hk _ hb).trans (hc j u hu)⟩
theorem Rd.more {w : World} {B B' : Nat} {A : Option Addr} {xs : List Value} (h : Rd w B A xs) (hB : B ≤ B') : Rd w B' A xs := fun hn => by
  obtain ⟨b, off, e, hb, hc⟩ := h hn
  exact ⟨b, off, e, by omega, hc⟩
theorem Rd.below {w w' : World} {B : Nat} {A : Option Addr} {xs : List Value} (h : Rd w B A xs) (hb : Below B w w') : Rd w' B A xs := h.keep fun _ hp => hb.cell hp
theorem Rd.nil (w : World) (B : Nat) (A : Option Addr) : Rd w B A [] := fun h => absurd rfl h

/-- A slice of integers. -/
def RdI (w : World) (B : Nat) (A : Option Addr) (l : List Int) : Prop := Rd w B A (l.map (Value.int .i64))
theorem RdI.at_ {w : World} {B : Nat} {A : Option Addr} {l : List Int} (h : RdI w B A l) (hn : 0 < l.length) :
    ∃ b off, A = some ⟨b, off, none⟩ ∧ b < B ∧ ∀ j, j < l.length → w.cell? ⟨b, off + j, none⟩ = some (.int .i64 (nth l j)) := by
  obtain ⟨b, off, e, hb, hc⟩ := h (by intro e; rw [List.map_eq_nil_iff] at e; subst e; simp at hn)
  exact ⟨b, off, e, hb, fun j hj => hc j _ (by rw [List.getElem?_map, nth_some hj]; rfl)⟩
theorem RdI.below {w w' : World} {B : Nat} {A : Option Addr} {l : List Int} (h : RdI w B A l) (hb : Below B w w') : RdI w' B A l := Rd.below h hb
theorem RdI.more {w : World} {B B' : Nat} {A : Option Addr} {l : List Int} (h : RdI w B A l) (hB : B ≤ B') : RdI w B' A l := Rd.more h hB

/-- What a row of the call's own reads as. -/
theorem own_form {w : World} {base : Nat} {e : TypeId} {size n : Nat} {v : Value} {xs : List Value} (h : w.ownsRow base e size v n xs) : ∃ A c, v = .slice A n c ∧ n ≤ c ∧ c ≤ maxLen ∧ Rd w w.heap.size A xs := by
  rcases h.2 with ⟨rfl, rfl⟩ | ⟨g, cap, cur, rfl, hb, hg, hn, hc, hs, ht⟩
  · have hx : xs = [] := List.eq_nil_of_length_eq_zero (by simpa using h.1)
    subst hx
    exact ⟨none, 0, rfl, Nat.le_refl _, Nat.zero_le _, Rd.nil _ _ _⟩
  · refine ⟨some ⟨g, 0, none⟩, cap, rfl, hn, hc, fun _ => ⟨g, 0, rfl, (Array.getElem?_eq_some_iff.1 hg).1, fun j u hu => ?_⟩⟩
    have := h.cells (g := g) rfl j u hu
    have hadd : (⟨g, 0, none⟩ : Addr).add j = ⟨g, 0 + j, none⟩ := by unfold Addr.add; split <;> simp_all
    rwa [hadd] at this

/-! ### append of elements that were just laid into a block of their own -/

/-- The slice type t has elements of type e, of so many cells and bytes, zero z. -/
structure ElTy (P : Program) (t e : TypeId) (size bytes : Nat) (z : Value) : Prop where
  ht : P.underlying t = some (.slice e)
  hi : (P.info? e).map (fun i => (i.zero, i.size, i.bytes)) = some (some z, size, bytes)
  hz : z.cells.size = size
  hs : 0 < size

theorem own_ext {w w' : World} {base : Nat} {e : TypeId} {size n : Nat} {v : Value} {xs : List Value} (h : w.ownsRow base e size v n xs) (hb : Below w.heap.size w w') : w'.ownsRow base e size v n xs :=
  h.kept (row := none) ⟨hb.os, hb.tape, hb.output, hb.size, fun k hk _ => hb.block k hk⟩ (by cases v.ownBlock <;> simp)

theorem own_base {w : World} {base : Nat} {e : TypeId} {size n : Nat} {v : Value} {xs : List Value} (h : w.ownsRow base e size v n xs) : ∀ k, v.ownBlock = some k → base ≤ k := fun k hk => (h.lt k hk).1

theorem grown_of_alloc {w w' : World} {o : Obj} {row : Option Nat} (h : (w.alloc o).grownBy w' row) : w.grownBy w' row :=
  ⟨h.os, h.tape, h.output, Nat.le_trans (by simp) h.size, fun k hk hne => (h.block k (by simp; omega) hne).trans (Below.heap_alloc w o k hk)⟩

section
variable {P : Program} {t e : TypeId} {size bytes : Nat} {z : Value}

theorem wpList_app (E : ElTy P t e size bytes z) {ops : Array Oper} {rest : List Oper} {o : Oper} {a : Act} {Q : Exit → Act → World → Prop} {w0 : World} (hgd : o.guard = none) (s x : Operand)
    (ho : o.op = .call { callee := .builtin .append, args := #[s, x], argTypes := #[t, t] })
    (base : Nat) (v : Value) (n m : Nat) (xs news : List Value) (hs : a.eval s = v) (hown : w0.ownsRow base e size v n xs)
    (hx : a.eval x = .slice (some ⟨w0.heap.size, 0, none⟩) m m) (hl : news.length = m * size) (h1 : ∀ u ∈ news, u.oneCell' = true)
    (h63 : n + m ≤ 140737488355328) (hbytes : (n + m) * bytes ≤ 140737488355328) (hbase : base ≤ w0.heap.size)
    (h : ∀ v' w', w'.ownsRow base e size v' (n + m) (xs ++ news) → w0.grownBy w' v.ownBlock → (v'.ownBlock = v.ownBlock ∨ v'.ownBlock = some (w0.heap.size + 1)) → wpList P ops Q rest (a.put o.dst v') w') :
    wpList P ops Q (o :: rest) a (w0.alloc (.cells news.toArray e)) := by
  obtain ⟨i, hi, hz, hsz, hby⟩ := info_parts E.hi
  refine wpList_append_own_at _ hgd s x t ho base e i z size bytes E.ht hi hz hsz hby E.hz E.hs v n xs hs (hown.alloc _) ⟨w0.heap.size, 0, none⟩ m m news hx hl (fun j u hu => ?_) h1 (by simp only [maxLen]; omega) hbytes (by simp; omega) ?_
  · have hadd : (⟨w0.heap.size, 0, none⟩ : Addr).add j = ⟨w0.heap.size, j, none⟩ := by unfold Addr.add; split <;> simp_all
    rw [hadd, cell_of_row _ w0.heap.size j news.toArray e (0, 0) (heap_alloc_new w0 _)]
    simpa using hu
  · intro v' w' h2 h3 _ h5
    exact h v' w' h2 (grown_of_alloc h3) (by simpa using h5)
end
end Go.Proofs.YtklhjaohnimmnaaDoor
namespace Go.Proofs.YtklhjaohnimmnaaDoor
set_option linter.unusedVariables false
set_option linter.unusedSimpArgs false

abbrev Pr := Int × List Int × Int

section
variable {σ : Type} (step : Nat → Pr → σ → σ × Bool)

/-- One pass: what it leaves, and whether something was new. -/
def passF : Nat → List Pr → σ → σ × Bool
  | _, [], x => (x, false)
  | i, p :: ps, x => ((passF (i + 1) ps (step i p x).1).1, (step i p x).2 || (passF (i + 1) ps (step i p x).1).2)

theorem passF_app : ∀ (i : Nat) (ps qs : List Pr) (x : σ), passF step i (ps ++ qs) x = ((passF step (i + ps.length) qs (passF step i ps x).1).1, (passF step i ps x).2 || (passF step (i + ps.length) qs (passF step i ps x).1).2)
  | i, [], qs, x => by simp [passF]
  | i, p :: ps, qs, x => by
    rw [List.cons_append, passF, passF_app (i + 1) ps qs, passF, List.length_cons, show i + 1 + ps.length = i + (ps.length + 1) from by omega]
    simp [Bool.or_assoc]
theorem passF_snoc (ps : List Pr) (k : Nat) (p : Pr) (x : σ) (h : ps[k]? = some p) :
    passF step 0 (ps.take (k + 1)) x = ((step k p (passF step 0 (ps.take k) x).1).1, (passF step 0 (ps.take k) x).2 || (step k p (passF step 0 (ps.take k) x).1).2) := by
  obtain ⟨hk, rfl⟩ := List.getElem?_eq_some_iff.1 h
  rw [List.take_succ_eq_append_getElem hk, passF_app, List.length_take, Nat.min_eq_left (by omega)]
  simp [passF]

def rounds (ps : List Pr) : Nat → σ → σ
  | 0, x => x
  | r + 1, x => (passF step 0 ps (rounds ps r x)).1

variable {step}
theorem pass_same (hs : ∀ i p x, (step i p x).2 = false → (step i p x).1 = x) : ∀ (ps : List Pr) (i : Nat) (x : σ), (passF step i ps x).2 = false → (passF step i ps x).1 = x
  | [], i, x, _ => rfl
  | p :: ps, i, x, h => by
    rw [passF] at h ⊢
    simp only [Bool.or_eq_false_iff] at h
    rw [hs i p x h.1] at h ⊢
    exact pass_same hs ps (i + 1) x h.2
theorem pass_fixed (hs : ∀ i p x, (step i p x).2 = false → (step i p x).1 = x) : ∀ (ps : List Pr) (i : Nat) (x : σ), (passF step i ps x).2 = false → ∀ k p, ps[k]? = some p → (step (i + k) p x).2 = false
  | [], i, x, _, k, p, h => by simp at h
  | q :: ps, i, x, h, k, p, hp => by
    rw [passF] at h
    simp only [Bool.or_eq_false_iff] at h
    rw [hs i q x h.1] at h
    cases k with
    | zero => simp at hp; subst hp; exact h.1
    | succ k => rw [show i + (k + 1) = i + 1 + k from by omega]; exact pass_fixed hs ps (i + 1) x h.2 k p (by simpa using hp)
theorem pass_of_fixed : ∀ (ps : List Pr) (i : Nat) (x : σ), (∀ k p, ps[k]? = some p → (step (i + k) p x).2 = false ∧ (step (i + k) p x).1 = x) → passF step i ps x = (x, false)
  | [], i, x, _ => rfl
  | q :: ps, i, x, h => by
    have h0 := h 0 q rfl
    rw [Nat.add_zero] at h0
    rw [passF, h0.1, h0.2, pass_of_fixed ps (i + 1) x (fun k p hp => by rw [show i + 1 + k = i + (k + 1) from by omega]; exact h (k + 1) p (by simpa using hp))]
    rfl
theorem rounds_stay (hs : ∀ i p x, (step i p x).2 = false → (step i p x).1 = x) {ps : List Pr} {r : Nat} {x : σ} (h : (passF step 0 ps (rounds step ps r x)).2 = false) : ∀ m, rounds step ps (r + m) x = rounds step ps r x
  | 0 => rfl
  | m + 1 => by
    rw [← Nat.add_assoc, rounds, rounds_stay hs h m]
    exact pass_same hs ps 0 _ h
theorem rounds_fixed (hs : ∀ i p x, (step i p x).2 = false → (step i p x).1 = x) {ps : List Pr} {r m : Nat} {x : σ} (h : (passF step 0 ps (rounds step ps r x)).2 = false) (hm : r ≤ m) :
    rounds step ps m x = rounds step ps r x ∧ (passF step 0 ps (rounds step ps m x)).2 = false := by
  obtain ⟨d, rfl⟩ : ∃ d, m = r + d := ⟨m - r, by omega⟩
  rw [rounds_stay hs h d]
  exact ⟨rfl, h⟩

/-- What each step keeps, a pass keeps. -/
theorem pass_keeps {Q : σ → Prop} : ∀ (ps : List Pr) (i : Nat) (x : σ), (∀ k p y, ps[k]? = some p → Q y → Q (step (i + k) p y).1) → Q x → Q (passF step i ps x).1
  | [], i, x, _, hx => hx
  | q :: ps, i, x, h, hx => by
    rw [passF]
    exact pass_keeps ps (i + 1) _ (fun k p y hp hy => by rw [show i + 1 + k = i + (k + 1) from by omega]; exact h (k + 1) p y (by simpa using hp) hy) (by have := h 0 q x rfl hx; rwa [Nat.add_zero] at this)
theorem rounds_keep {Q : σ → Prop} {ps : List Pr} (h : ∀ k p y, ps[k]? = some p → Q y → Q (step k p y).1) {x : σ} (hx : Q x) : ∀ r, Q (rounds step ps r x)
  | 0 => hx
  | r + 1 => pass_keeps ps 0 _ (fun k p y hp hy => by rw [Nat.zero_add]; exact h k p y hp hy) (rounds_keep h hx r)

/-- A measure that each news lowers. -/
theorem pass_lowers {Q : σ → Prop} {μ : σ → Nat} (hs : ∀ i p x, (step i p x).2 = false → (step i p x).1 = x) : ∀ (ps : List Pr) (i : Nat) (x : σ), (∀ k p y, ps[k]? = some p → Q y → Q (step (i + k) p y).1 ∧ ((step (i + k) p y).2 = true → μ (step (i + k) p y).1 < μ y)) → Q x →
    μ (passF step i ps x).1 ≤ μ x ∧ ((passF step i ps x).2 = true → μ (passF step i ps x).1 < μ x)
  | [], i, x, _, _ => ⟨Nat.le_refl _, fun h => by simp [passF] at h⟩
  | q :: ps, i, x, h, hx => by
    have h0 := h 0 q x rfl hx
    rw [Nat.add_zero] at h0
    have hr := pass_lowers hs ps (i + 1) _ (fun k p y hp hy => by rw [show i + 1 + k = i + (k + 1) from by omega]; exact h (k + 1) p y (by simpa using hp) hy) h0.1
    rw [passF]
    dsimp only
    cases hb : (step i q x).2
    · rw [hs i q x hb] at hr ⊢
      exact ⟨hr.1, fun hh => hr.2 (by simpa using hh)⟩
    · have := h0.2 hb
      exact ⟨by omega, fun _ => by omega⟩
theorem fix_measure {Q : σ → Prop} {μ : σ → Nat} (hs : ∀ i p x, (step i p x).2 = false → (step i p x).1 = x) {ps : List Pr}
    (h : ∀ k p y, ps[k]? = some p → Q y → Q (step k p y).1 ∧ ((step k p y).2 = true → μ (step k p y).1 < μ y)) {x : σ} (hx : Q x) : (passF step 0 ps (rounds step ps (μ x) x)).2 = false := by
  have hk : ∀ r, Q (rounds step ps r x) := rounds_keep (fun k p y hp hy => (h k p y hp hy).1) hx
  have hl : ∀ r, (passF step 0 ps (rounds step ps r x)).2 = true → μ (passF step 0 ps (rounds step ps r x)).1 < μ (rounds step ps r x) := fun r =>
    (pass_lowers hs ps 0 _ (fun k p y hp hy => by rw [Nat.zero_add]; exact h k p y hp hy) (hk r)).2
  have key : ∀ r, (∃ j, j ≤ r ∧ (passF step 0 ps (rounds step ps j x)).2 = false) ∨ μ (rounds step ps r x) + r ≤ μ x := by
    intro r
    induction r with
    | zero => exact .inr (Nat.le_refl _)
    | succ r ih =>
      rcases ih with ⟨j, hj, hf⟩ | ih
      · exact .inl ⟨j, by omega, hf⟩
      · cases hb : (passF step 0 ps (rounds step ps r x)).2
        · exact .inl ⟨r, by omega, hb⟩
        · have := hl r hb
          exact .inr (by rw [rounds]; omega)
  rcases key (μ x) with ⟨j, hj, hf⟩ | hle
  · exact (rounds_fixed hs hf hj).2
  · cases hb : (passF step 0 ps (rounds step ps (μ x) x)).2
    · rfl
    · have := hl _ hb; omega
end

/-! ### lists with one place turned -/
theorem sum_set {f : Int → Nat} : ∀ (x : List Int) (k : Nat) (v : Int), k < x.length → f v < f (nth x k) → ((x.set k v).map f).sum < (x.map f).sum
  | [], k, v, h, _ => by simp at h
  | a :: x, 0, v, _, hv => by
    have : nth (a :: x) 0 = a := rfl
    rw [this] at hv
    rw [List.set_cons_zero, List.map_cons, List.map_cons, List.sum_cons, List.sum_cons]
    omega
  | a :: x, k + 1, v, h, hv => by
    have : nth (a :: x) (k + 1) = nth x k := by simp [nth]
    rw [this] at hv
    have := sum_set x k v (by simpa using h) hv
    rw [List.set_cons_succ, List.map_cons, List.map_cons, List.sum_cons, List.sum_cons]
    omega
end Go.Proofs.YtklhjaohnimmnaaDoor
