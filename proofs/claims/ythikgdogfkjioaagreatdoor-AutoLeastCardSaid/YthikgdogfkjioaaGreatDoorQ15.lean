/- Plain: the least automaton by points alone; whoever reckons it by classes comes to it. No program here. · Plain: the classes of an automaton's points, from the classes of its moves' sets. No program here. -/
import Derived.Test.YthikgdogfkjioaaGreatDoorQ12
import Derived.Test.YthikgdogfkjioaaGreatDoorQ14
import Derived.Test.YthikgdogfkjioaaGreatDoorQ4
namespace Go.Proofs.YthikgdogfkjioaaGreatDoor
set_option linter.unusedVariables false
set_option linter.unusedSimpArgs false

/-- The state behind a point; l.length: the dead one. -/
def dlt (l : List St) (s : Nat) (p : Int) : Nat := match l[s]? with
  | some st => if 0 ≤ stp st.2 p then (stp st.2 p).toNat else l.length
  | none => l.length
def rul (l : List St) (s : Nat) : Int := match l[s]? with
  | some st => st.1
  | none => -1
def isP (p : Int) : Prop := 0 ≤ p ∧ p ≤ 1114111
theorem dlt_le {l : List St} (h : okA l = true) (s : Nat) (p : Int) : dlt l s p ≤ l.length := by
  unfold dlt
  split
  · rename_i st hs
    have := stp_range (p := p) (okA_state h hs).2
    split <;> omega
  · exact Nat.le_refl _
open Classical in
/-- States and points as they are. -/
noncomputable def eQ (l : List St) : Env Nat := ⟨fun s => decide (Live (rul l) (dlt l) isP s), fun s t => decide (Eqv (rul l) (dlt l) isP s t), dlt l, rul l⟩
theorem eQ_refl (l : List St) (s : Nat) : (eQ l).same s s = true := by unfold eQ; simp [Eqv.refl]
/-- Classes of points on which all states step alike. -/
structure Cls (l : List St) (K : Nat) (rep : Nat → Int) (cls : Int → Nat) : Prop where
  lt : ∀ p, isP p → cls p < K
  rv : ∀ c, c < K → isP (rep c) ∧ cls (rep c) = c
  co : ∀ s p, isP p → dlt l s p = dlt l s (rep (cls p))
section
variable {l : List St} {K : Nat} {rep : Nat → Int} {cls : Int → Nat}
theorem Cls.eqv (h : Cls l K rep cls) {s t : Nat} : Eqv (rul l) (dlt l) isP s t ↔ Eqv (rul l) (fun s c => dlt l s (rep c)) (· < K) s t :=
  eqv_letters (f := cls) (fun s p hp => h.co s p hp) (fun p hp => h.lt p hp) (fun c hc => ⟨rep c, (h.rv c hc).1, (h.rv c hc).2⟩)
theorem Cls.live (h : Cls l K rep cls) {s : Nat} : Live (rul l) (dlt l) isP s ↔ Live (rul l) (fun s c => dlt l s (rep c)) (· < K) s :=
  live_letters (f := cls) (fun s p hp => h.co s p hp) (fun p hp => h.lt p hp) (fun c hc => ⟨rep c, (h.rv c hc).1, (h.rv c hc).2⟩)
open Classical in
/-- By a table of what differs. -/
theorem table_env (hok : okA l = true) (h : Cls l K rep cls) {d : Nat → Nat → Bool} {no : Nat → Bool} (hd : ∀ s t, s ≤ l.length → t ≤ l.length → (d s t = false ↔ Eqv (rul l) (fun s c => dlt l s (rep c)) (· < K) s t)) (hno : ∀ s, s ≤ l.length → (no s = false ↔ Live (rul l) (fun s c => dlt l s (rep c)) (· < K) s))
    {pcs : List (Int × Int)} (hp : ∀ pc ∈ pcs, isP pc.1) : EnvR (fun s t => s = t ∧ s ≤ l.length) ⟨fun s => !no s, fun s t => !d s t, fun s p => dlt l s (rep (cls p)), rul l⟩ (eQ l) pcs := by
  refine ⟨fun x y ⟨e, hx⟩ => ?_, fun x y x' y' ⟨e, hx⟩ ⟨e', hx'⟩ => ?_, fun x y ⟨e, hx⟩ pc hpc => ?_, fun x y ⟨e, hx⟩ => by subst e; rfl⟩
  · subst e
    show (!no x) = decide _
    have h1 := hno x hx
    rw [← h.live] at h1
    cases q : no x with
    | false => rw [decide_eq_true (h1.1 q)]; rfl
    | true => rw [decide_eq_false (fun k => by rw [h1.2 k] at q; cases q)]; rfl
  · subst e e'
    show (!d x x') = decide _
    have h1 := hd x x' hx hx'
    rw [← h.eqv] at h1
    cases q : d x x' with
    | false => rw [decide_eq_true (h1.1 q)]; rfl
    | true => rw [decide_eq_false (fun k => by rw [h1.2 k] at q; cases q)]; rfl
  · subst e
    exact ⟨(h.co x _ (hp pc hpc)).symm, dlt_le hok _ _⟩
open Classical in
/-- By parts that stand for states. -/
theorem parts_env (h : Cls l K rep cls) {R : Nat → Nat → Prop} {ruM : Nat → Int} {mvM : Nat → Nat → Nat} {al : Nat → Bool} (h1 : ∀ k s, R k s → ruM k = rul l s) (h2 : ∀ k s c, R k s → c < K → R (mvM k c) (dlt l s (rep c)))
    (h3 : ∀ k s k' s', R k s → R k' s' → (k = k' ↔ Eqv (rul l) (fun s c => dlt l s (rep c)) (· < K) s s')) (h4 : ∀ k s, R k s → (al k = true ↔ Live ruM mvM (· < K) k)) {pcs : List (Int × Int)} (hp : ∀ pc ∈ pcs, isP pc.1) :
    EnvR R ⟨al, fun a b => decide (a = b), fun k p => mvM k (cls p), ruM⟩ (eQ l) pcs := by
  refine ⟨fun x y hx => ?_, fun x y x' y' hx hx' => ?_, fun x y hx pc hpc => ?_, fun x y hx => h1 x y hx⟩
  · show al x = decide _
    have q := (h4 x y hx).trans ((live_rel h1 h2 hx).trans h.live.symm)
    cases e : al x with
    | true => rw [decide_eq_true (q.1 e)]
    | false => rw [decide_eq_false (fun k => by rw [q.2 k] at e; cases e)]
  · show decide (x = x') = decide _
    have q := (h3 x y x' y' hx hx').trans h.eqv.symm
    exact decide_eq_decide.2 q
  · show R (mvM x (cls pc.1)) (dlt l y pc.1)
    rw [h.co y _ (hp pc hpc)]
    exact h2 x y _ hx (h.lt _ (hp pc hpc))
end
/-- Two ways to build that stand for the same come to the same, over whatever stretches. -/
theorem builds_same {σ τ : Type} {l : List St} {R : σ → Nat → Prop} {S : τ → Nat → Prop} {e : Env σ} {d : Env τ} {p1 p2 : List (Int × Int)} (h1 : EnvR R e (eQ l) p1) (h2 : EnvR S d (eQ l) p2) (t1 : Tiles 0 p1 1114111) (t2 : Tiles 0 p2 1114111)
    (c1 : ∀ s, ∀ pc ∈ p1, ∀ p, pc.1 ≤ p → p ≤ pc.2 → dlt l s p = dlt l s pc.1) (c2 : ∀ s, ∀ pc ∈ p2, ∀ p, pc.1 ≤ p → p ≤ pc.2 → dlt l s p = dlt l s pc.1) {x : σ} {y : τ} {s : Nat} (hx : R x s) (hy : S y s) (f : Nat) :
    (build e p1 f 0 [x] []).2 = (build d p2 f 0 [y] []).2 ∧ (build e p1 f 0 [x] []).1.length = (build d p2 f 0 [y] []).1.length := by
  have a1 := build_rel h1 f 0 [x] [s] [] (.cons hx .nil)
  have a2 := build_rel h2 f 0 [y] [s] [] (.cons hy .nil)
  have b1 := build_tiles (e := eQ l) (eQ_refl l) t1 c1 f 0 [s] []
  have b2 := build_tiles (e := eQ l) (eQ_refl l) t2 c2 f 0 [s] []
  rw [b1] at a1
  rw [b2] at a2
  exact ⟨a1.1.trans a2.1.symm, a1.2.length.trans a2.2.length.symm⟩
end Go.Proofs.YthikgdogfkjioaaGreatDoor
namespace Go.Proofs.YthikgdogfkjioaaGreatDoor
set_option linter.unusedVariables false
set_option linter.unusedSimpArgs false

theorem isPt_iff {p : Int} : isPt p = true ↔ isP p := by unfold isPt isP MP; simp
/-- The number of a point's class. -/
def clsOf (C : List (List Rg)) (p : Int) : Nat := C.findIdx fun c => memR c p
/-- The first point of a class. -/
def repOf (C : List (List Rg)) (c : Nat) : Int := fstR (C.getD c [])
theorem IsCl.sig {S : List (List Rg)} {c : List Rg} (h : IsCl S c) {p q : Int} (hp : memR c p = true) (hq : memR c q = true) : isPt p = true ∧ isPt q = true ∧ sig S p = sig S q := by
  obtain ⟨x, hx, k⟩ := h
  rw [k.mem] at hp hq
  unfold clP at hp hq
  simp only [Bool.and_eq_true, decide_eq_true_eq] at hp hq
  exact ⟨hp.1, hq.1, hp.2.trans hq.2.symm⟩
theorem Parted.fst {S C : List (List Rg)} (h : Parted S C) {c : List Rg} (hc : c ∈ C) : memR c (fstR c) = true := by
  obtain ⟨p, hp, hm⟩ := (h.each c hc).self
  obtain ⟨x, hx, k⟩ := h.each c hc
  exact (fst_mem k.can (can_ne hm)).1
theorem Parted.cls {S C : List (List Rg)} (h : Parted S C) {i : Nat} (hi : i < C.length) {p : Int} (hp : memR C[i] p = true) : clsOf C p = i := by
  have hlt : clsOf C p < C.length := List.findIdx_lt_length_of_exists ⟨_, List.getElem_mem hi, hp⟩
  have hm : memR (C[clsOf C p]'hlt) p = true := List.findIdx_getElem (w := hlt)
  have e := (h.each _ (List.getElem_mem hlt)).eq (h.each _ (List.getElem_mem hi)) hm hp
  have hasc := List.pairwise_iff_getElem.1 h.asc
  rcases Nat.lt_trichotomy (clsOf C p) i with q | q | q
  · have := hasc _ _ hlt hi q
    rw [e] at this; omega
  · exact q
  · have := hasc _ _ hi hlt q
    rw [e] at this; omega
/-- Where states step alike on points that no set parts. -/
theorem cls_of_parted {l : List St} {S C : List (List Rg)} (h : Parted S C) (hc : ∀ s p q, isP p → isP q → sig S p = sig S q → dlt l s p = dlt l s q) : Cls l C.length (repOf C) (clsOf C) := by
  refine ⟨fun p hp => ?_, fun c hcl => ?_, fun s p hp => ?_⟩
  · obtain ⟨c, hcm, hm⟩ := h.all p (isPt_iff.2 hp)
    exact List.findIdx_lt_length_of_exists ⟨c, hcm, hm⟩
  · have e : C.getD c [] = C[c] := by simp [hcl]
    have hm := h.fst (List.getElem_mem hcl)
    unfold repOf
    rw [e]
    exact ⟨isPt_iff.1 ((h.each _ (List.getElem_mem hcl)).sig hm hm).1, h.cls hcl hm⟩
  · obtain ⟨c, hcm, hm⟩ := h.all p (isPt_iff.2 hp)
    obtain ⟨i, hi, rfl⟩ := List.getElem_of_mem hcm
    have e : C.getD (clsOf C p) [] = C[i] := by rw [h.cls hi hm]; simp [hi]
    unfold repOf
    rw [e]
    obtain ⟨q1, q2, q3⟩ := (h.each _ hcm).sig hm (h.fst hcm)
    exact hc s p _ hp (isPt_iff.1 q2) q3
/-- The document's sets: each move's points. -/
def setsR (l : List St) : List (List Rg) := l.flatMap fun s => s.2.map fun m => [(m.1, m.2.1)]
theorem sig_mem {S : List (List Rg)} {p q : Int} (h : sig S p = sig S q) {s : List Rg} (hs : s ∈ S) : inR s p = inR s q := by
  unfold Go.Proofs.YthikgdogfkjioaaGreatDoor.sig at h
  exact List.map_inj_left.1 h s hs
theorem stp_same {p q : Int} : ∀ {ms : List Mv}, (∀ m ∈ ms, (m.1 ≤ p ∧ p ≤ m.2.1) ↔ (m.1 ≤ q ∧ q ≤ m.2.1)) → stp ms p = stp ms q
  | [], _ => rfl
  | m :: r, h => by
    have h1 := h m (List.mem_cons_self ..)
    unfold stp
    by_cases e : m.1 ≤ p ∧ p ≤ m.2.1
    · rw [if_pos e, if_pos (h1.1 e)]
    · rw [if_neg e, if_neg (fun k => e (h1.2 k))]
      exact stp_same fun x hx => h x (List.mem_cons_of_mem _ hx)
theorem setsR_const {l : List St} {s : Nat} {p q : Int} (hp : isP p) (hq : isP q) (h : sig (setsR l) p = sig (setsR l) q) : dlt l s p = dlt l s q := by
  unfold dlt
  cases e : l[s]? with
  | none => rfl
  | some st =>
    have hst := List.mem_of_getElem? e
    have : stp st.2 p = stp st.2 q := stp_same fun m hm => by
      have h1 := sig_mem h (s := [(m.1, m.2.1)]) (List.mem_flatMap.2 ⟨st, hst, List.mem_map.2 ⟨m, hm, rfl⟩⟩)
      unfold inR memR at h1
      rw [isPt_iff.2 hp, isPt_iff.2 hq] at h1
      simp only [Bool.true_and, List.any_cons, List.any_nil, Bool.or_false] at h1
      have h2 := Bool.eq_iff_iff.1 h1
      simpa using h2
    simp only [this]
end Go.Proofs.YthikgdogfkjioaaGreatDoor
