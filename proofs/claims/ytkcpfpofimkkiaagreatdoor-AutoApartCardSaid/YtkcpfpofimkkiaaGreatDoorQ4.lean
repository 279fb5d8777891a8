/- Plain: the least automaton's states, built stretch by stretch: the same whatever the stretches and whatever stands for a state. No program here. · Plain: states that take alike: by a table of what differs, by parts made finer. No program here. · The contracts of auto.step and what it calls: the state behind a point. -/
import Derived.Test.YtkcpfpofimkkiaaGreatDoorQ3
namespace Go.Proofs.YtkcpfpofimkkiaaGreatDoor
set_option linter.unusedVariables false
set_option linter.unusedSimpArgs false

/-- A move more; one that touches the last and leads alike makes it longer. -/
def joinM (ms : List Mv) (lo hi : Int) (j : Nat) : List Mv :=
  match ms.getLast? with
  | some m => if m.2.2 = (j : Int) ∧ m.2.1 + 1 = lo then ms.dropLast ++ [(m.1, hi, (j : Int))] else ms ++ [(lo, hi, (j : Int))]
  | none => [(lo, hi, (j : Int))]
/-- What stands for states: which live, which are the same, where points lead, what is taken. -/
structure Env (σ : Type) where
  alive : σ → Bool
  same : σ → σ → Bool
  tg : σ → Int → σ
  rule : σ → Int
section
variable {σ τ : Type}
def idxO (same : σ → σ → Bool) (ord : List σ) (t : σ) : Nat := ord.findIdx fun o => same o t
def stepPc (e : Env σ) (s : σ) (st : List σ × List Mv) (pc : Int × Int) : List σ × List Mv :=
  if e.alive (e.tg s pc.1) then
    (if idxO e.same st.1 (e.tg s pc.1) < st.1.length then st.1 else st.1 ++ [e.tg s pc.1], joinM st.2 pc.1 pc.2 (idxO e.same st.1 (e.tg s pc.1)))
  else st
def rowOf (e : Env σ) (pcs : List (Int × Int)) (s : σ) (ord : List σ) : List σ × List Mv := pcs.foldl (stepPc e s) (ord, [])
def build (e : Env σ) (pcs : List (Int × Int)) : Nat → Nat → List σ → List St → List σ × List St
  | 0, _, ord, acc => (ord, acc)
  | f + 1, i, ord, acc => match ord[i]? with
    | some s => build e pcs f (i + 1) (rowOf e pcs s ord).1 (acc ++ [(e.rule s, (rowOf e pcs s ord).2)])
    | none => (ord, acc)

/-! ### what stands for a state does not matter -/
structure EnvR (R : σ → τ → Prop) (e : Env σ) (d : Env τ) (pcs : List (Int × Int)) : Prop where
  alive : ∀ x y, R x y → e.alive x = d.alive y
  same : ∀ x y x' y', R x y → R x' y' → e.same x x' = d.same y y'
  tg : ∀ x y, R x y → ∀ pc ∈ pcs, R (e.tg x pc.1) (d.tg y pc.1)
  rule : ∀ x y, R x y → e.rule x = d.rule y
inductive All2 (R : σ → τ → Prop) : List σ → List τ → Prop
  | nil : All2 R [] []
  | cons {x y a b} : R x y → All2 R a b → All2 R (x :: a) (y :: b)
theorem All2.length {R : σ → τ → Prop} {a : List σ} {b : List τ} (h : All2 R a b) : a.length = b.length := by
  induction h with
  | nil => rfl
  | cons _ _ ih => simp [ih]
theorem All2.snoc {R : σ → τ → Prop} {a : List σ} {b : List τ} {x : σ} {y : τ} (h : All2 R a b) (hx : R x y) : All2 R (a ++ [x]) (b ++ [y]) := by
  induction h with
  | nil => exact .cons hx .nil
  | cons h1 _ ih => exact .cons h1 ih
theorem All2.get {R : σ → τ → Prop} {a : List σ} {b : List τ} (h : All2 R a b) : ∀ i : Nat, (a[i]? = none ∧ b[i]? = none) ∨ ∃ x y, a[i]? = some x ∧ b[i]? = some y ∧ R x y := by
  induction h with
  | nil => intro i; exact .inl ⟨by simp, by simp⟩
  | cons h1 _ ih =>
    intro i
    cases i with
    | zero => exact .inr ⟨_, _, rfl, rfl, h1⟩
    | succ i => simpa using ih i
theorem idx_rel {R : σ → τ → Prop} {e : Env σ} {d : Env τ} {pcs : List (Int × Int)} (he : EnvR R e d pcs) {t : σ} {u : τ} (ht : R t u) {a : List σ} {b : List τ} (h : All2 R a b) : idxO e.same a t = idxO d.same b u := by
  unfold idxO
  induction h with
  | nil => rfl
  | cons h1 _ ih => rw [List.findIdx_cons, List.findIdx_cons, he.same _ _ _ _ h1 ht, ih]
theorem row_rel {R : σ → τ → Prop} {e : Env σ} {d : Env τ} {s : σ} {r : τ} (hs : R s r) : ∀ (pcs : List (Int × Int)), EnvR R e d pcs → ∀ (a : List σ) (b : List τ) (ms : List Mv), All2 R a b →
    All2 R (pcs.foldl (stepPc e s) (a, ms)).1 (pcs.foldl (stepPc d r) (b, ms)).1 ∧ (pcs.foldl (stepPc e s) (a, ms)).2 = (pcs.foldl (stepPc d r) (b, ms)).2
  | [], _, a, b, ms, h => ⟨h, rfl⟩
  | pc :: pcs, he, a, b, ms, h => by
    have he' : EnvR R e d pcs := ⟨he.alive, he.same, fun x y hx q hq => he.tg x y hx q (List.mem_cons_of_mem _ hq), he.rule⟩
    have ht := he.tg s r hs pc (List.mem_cons_self ..)
    have hi := idx_rel he ht h
    have ha := he.alive _ _ ht
    rw [List.foldl_cons, List.foldl_cons]
    have e1 : stepPc e s (a, ms) pc = if e.alive (e.tg s pc.1) then (if idxO e.same a (e.tg s pc.1) < a.length then a else a ++ [e.tg s pc.1], joinM ms pc.1 pc.2 (idxO e.same a (e.tg s pc.1))) else (a, ms) := rfl
    have e2 : stepPc d r (b, ms) pc = if d.alive (d.tg r pc.1) then (if idxO d.same b (d.tg r pc.1) < b.length then b else b ++ [d.tg r pc.1], joinM ms pc.1 pc.2 (idxO d.same b (d.tg r pc.1))) else (b, ms) := rfl
    rw [e1, e2, ha, hi, h.length]
    cases d.alive (d.tg r pc.1) with
    | false => exact row_rel hs pcs he' a b ms h
    | true =>
      simp only [if_true]
      by_cases q : idxO d.same b (d.tg r pc.1) < b.length
      · rw [if_pos q, if_pos q]; exact row_rel hs pcs he' a b _ h
      · rw [if_neg q, if_neg q]; exact row_rel hs pcs he' _ _ _ (h.snoc ht)
theorem build_rel {R : σ → τ → Prop} {e : Env σ} {d : Env τ} {pcs : List (Int × Int)} (he : EnvR R e d pcs) : ∀ (f i : Nat) (a : List σ) (b : List τ) (acc : List St), All2 R a b →
    (build e pcs f i a acc).2 = (build d pcs f i b acc).2 ∧ All2 R (build e pcs f i a acc).1 (build d pcs f i b acc).1
  | 0, _, a, b, acc, h => ⟨rfl, h⟩
  | f + 1, i, a, b, acc, h => by
    rcases h.get i with ⟨h1, h2⟩ | ⟨x, y, h1, h2, h3⟩
    · have e1 : build e pcs (f + 1) i a acc = (a, acc) := by rw [build, h1]
      have e2 : build d pcs (f + 1) i b acc = (b, acc) := by rw [build, h2]
      rw [e1, e2]; exact ⟨rfl, h⟩
    · have e1 : build e pcs (f + 1) i a acc = build e pcs f (i + 1) (rowOf e pcs x a).1 (acc ++ [(e.rule x, (rowOf e pcs x a).2)]) := by rw [build, h1]
      have e2 : build d pcs (f + 1) i b acc = build d pcs f (i + 1) (rowOf d pcs y b).1 (acc ++ [(d.rule y, (rowOf d pcs y b).2)]) := by rw [build, h2]
      obtain ⟨r1, r2⟩ := row_rel h3 pcs he a b [] h
      rw [e1, e2, he.rule _ _ h3, show (rowOf e pcs x a).2 = (rowOf d pcs y b).2 from r2]
      exact build_rel he f (i + 1) _ _ _ r1

/-! ### the stretches do not matter -/
/-- Stretches from a on, one behind the other, up to b. -/
inductive Tiles : Int → List (Int × Int) → Int → Prop
  | nil (a : Int) : Tiles a [] (a - 1)
  | cons {lo hi b : Int} {r : List (Int × Int)} : lo ≤ hi → Tiles (hi + 1) r b → Tiles lo ((lo, hi) :: r) b
/-- The points from a on, n of them, each alone. -/
def ptsFrom (a : Int) : Nat → List (Int × Int)
  | 0 => []
  | n + 1 => (a, a) :: ptsFrom (a + 1) n
theorem ptsFrom_app (a : Int) : ∀ (n m : Nat), ptsFrom a (n + m) = ptsFrom a n ++ ptsFrom (a + n) m
  | 0, m => by simp [ptsFrom]
  | n + 1, m => by
    rw [show n + 1 + m = (n + m) + 1 by omega, ptsFrom, ptsFrom_app (a + 1) n m, ptsFrom, List.cons_append]
    congr 3
    omega
/-- A move and one that touches it are one. -/
theorem join_join (ms : List Mv) (lo mid hi : Int) (j : Nat) : joinM (joinM ms lo mid j) (mid + 1) hi j = joinM ms lo hi j := by
  have key : ∀ (l : List Mv) (m : Mv), m.2.2 = (j : Int) → m.2.1 = mid → joinM (l ++ [m]) (mid + 1) hi j = l ++ [(m.1, hi, (j : Int))] := fun l m h1 h2 => by
    unfold joinM
    simp [h1, h2]
  cases h : ms.getLast? with
  | none =>
    have e1 : joinM ms lo mid j = [] ++ [(lo, mid, (j : Int))] := by unfold joinM; rw [h]; rfl
    have e2 : joinM ms lo hi j = [(lo, hi, (j : Int))] := by unfold joinM; rw [h]
    rw [e1, key [] _ rfl rfl, e2]; rfl
  | some m =>
    by_cases q : m.2.2 = (j : Int) ∧ m.2.1 + 1 = lo
    · have e1 : joinM ms lo mid j = ms.dropLast ++ [(m.1, mid, (j : Int))] := by unfold joinM; rw [h]; simp only; rw [if_pos q]
      have e2 : joinM ms lo hi j = ms.dropLast ++ [(m.1, hi, (j : Int))] := by unfold joinM; rw [h]; simp only; rw [if_pos q]
      rw [e1, key _ _ rfl rfl, e2]
    · have e1 : joinM ms lo mid j = ms ++ [(lo, mid, (j : Int))] := by unfold joinM; rw [h]; simp only; rw [if_neg q]
      have e2 : joinM ms lo hi j = ms ++ [(lo, hi, (j : Int))] := by unfold joinM; rw [h]; simp only; rw [if_neg q]
      rw [e1, key _ _ rfl rfl, e2]
theorem step_step {e : Env σ} (hrefl : ∀ t, e.same t t = true) (s : σ) (st : List σ × List Mv) {lo mid hi : Int} (ht : e.tg s (mid + 1) = e.tg s lo) : stepPc e s (stepPc e s st (lo, mid)) (mid + 1, hi) = stepPc e s st (lo, hi) := by
  unfold stepPc
  simp only [ht]
  cases ha : e.alive (e.tg s lo) with
  | false => simp [ha, ht]
  | true =>
    simp only [if_true, ht, ha]
    have hidx : ∀ (ord : List σ) (t : σ), idxO e.same ord t ≤ ord.length := fun ord t => List.findIdx_le_length
    by_cases q : idxO e.same st.1 (e.tg s lo) < st.1.length
    · simp only [if_pos q, join_join]
    · have hl : idxO e.same st.1 (e.tg s lo) = st.1.length := by have := hidx st.1 (e.tg s lo); omega
      have h2 : idxO e.same (st.1 ++ [e.tg s lo]) (e.tg s lo) = st.1.length := by
        unfold idxO at hl ⊢
        rw [List.findIdx_append, hl, if_neg (by omega)]
        simp [hrefl]
      simp [hl, h2, join_join]
theorem step_pts {e : Env σ} (hrefl : ∀ t, e.same t t = true) (s : σ) (lo : Int) : ∀ (n : Nat) (st : List σ × List Mv), (∀ p, lo ≤ p → p ≤ lo + n → e.tg s p = e.tg s lo) → (ptsFrom lo (n + 1)).foldl (stepPc e s) st = stepPc e s st (lo, lo + n)
  | 0, st, _ => by simp [ptsFrom]
  | n + 1, st, h => by
    rw [ptsFrom_app lo (n + 1) 1, List.foldl_append, step_pts hrefl s lo n st (fun p h1 h2 => h p h1 (by omega))]
    simp only [ptsFrom, List.foldl_cons, List.foldl_nil]
    have := step_step hrefl s st (lo := lo) (mid := lo + n) (hi := lo + (n + 1 : Nat)) (h _ (by omega) (by omega))
    rw [show lo + ((n + 1 : Nat) : Int) = lo + n + 1 by omega] at this ⊢
    exact this
theorem row_pts {e : Env σ} (hrefl : ∀ t, e.same t t = true) (s : σ) {a b : Int} {pcs : List (Int × Int)} (ht : Tiles a pcs b) : (∀ pc ∈ pcs, ∀ p, pc.1 ≤ p → p ≤ pc.2 → e.tg s p = e.tg s pc.1) → ∀ st, pcs.foldl (stepPc e s) st = (ptsFrom a (b + 1 - a).toNat).foldl (stepPc e s) st := by
  induction ht with
  | nil a => intro _ st; rw [show (a - 1 + 1 - a).toNat = 0 by omega]; rfl
  | @cons lo hi b r h1 h2 ih =>
    intro hc st
    have hb : hi ≤ b := by
      clear ih hc
      have : ∀ {a b : Int} {r : List (Int × Int)}, Tiles a r b → a - 1 ≤ b := by
        intro a b r h
        induction h with
        | nil a => omega
        | cons q _ ih => omega
      have := this h2
      omega
    rw [List.foldl_cons, show (b + 1 - lo).toNat = ((hi - lo).toNat + 1) + (b + 1 - (hi + 1)).toNat by omega, ptsFrom_app, List.foldl_append, show lo + (((hi - lo).toNat + 1 : Nat) : Int) = hi + 1 by omega]
    rw [step_pts hrefl s lo (hi - lo).toNat st (fun p h3 h4 => hc (lo, hi) (List.mem_cons_self ..) p h3 (by show p ≤ hi; omega)), show lo + ((hi - lo).toNat : Int) = hi by omega]
    exact ih (fun pc hp => hc pc (List.mem_cons_of_mem _ hp)) _
/-- Whatever the stretches: on each of them all states lead alike. -/
theorem build_tiles {e : Env σ} (hrefl : ∀ t, e.same t t = true) {a b : Int} {pcs : List (Int × Int)} (ht : Tiles a pcs b) (hc : ∀ s, ∀ pc ∈ pcs, ∀ p, pc.1 ≤ p → p ≤ pc.2 → e.tg s p = e.tg s pc.1) : ∀ (f i : Nat) (ord : List σ) (acc : List St), build e pcs f i ord acc = build e (ptsFrom a (b + 1 - a).toNat) f i ord acc
  | 0, _, _, _ => rfl
  | f + 1, i, ord, acc => by
    rw [build, build]
    cases ord[i]? with
    | none => rfl
    | some s =>
      have e1 : rowOf e pcs s ord = rowOf e (ptsFrom a (b + 1 - a).toNat) s ord := row_pts hrefl s ht (hc s) _
      simp only [e1]
      exact build_tiles hrefl ht hc f (i + 1) _ _
end
end Go.Proofs.YtkcpfpofimkkiaaGreatDoor
namespace Go.Proofs.YtkcpfpofimkkiaaGreatDoor
set_option linter.unusedVariables false
set_option linter.unusedSimpArgs false

section
variable {α : Type} (rule : Nat → Int) (mv : Nat → α → Nat) (K : α → Prop)
/-- What is taken behind classes. -/
def outC : Nat → List α → Int
  | s, [] => rule s
  | s, c :: w => outC (mv s c) w
/-- Alike behind all classes. -/
def Eqv (s t : Nat) : Prop := ∀ w : List α, (∀ c ∈ w, K c) → outC rule mv s w = outC rule mv t w
/-- Something is taken behind some classes. -/
def Live (s : Nat) : Prop := ∃ w : List α, (∀ c ∈ w, K c) ∧ 0 ≤ outC rule mv s w
variable {rule mv K}
theorem Eqv.refl (s : Nat) : Eqv rule mv K s s := fun _ _ => rfl
theorem Eqv.symm {s t : Nat} (h : Eqv rule mv K s t) : Eqv rule mv K t s := fun w hw => (h w hw).symm
theorem Eqv.trans {s t u : Nat} (h : Eqv rule mv K s t) (k : Eqv rule mv K t u) : Eqv rule mv K s u := fun w hw => (h w hw).trans (k w hw)
theorem Eqv.ru {s t : Nat} (h : Eqv rule mv K s t) : rule s = rule t := h [] (fun _ hc => by cases hc)
theorem Eqv.st {s t : Nat} (h : Eqv rule mv K s t) {c : α} (hc : K c) : Eqv rule mv K (mv s c) (mv t c) := fun w hw => h (c :: w) (fun d hd => by
  rcases List.mem_cons.1 hd with rfl | q
  · exact hc
  · exact hw d q)
theorem Eqv.live {s t : Nat} (h : Eqv rule mv K s t) : Live rule mv K s ↔ Live rule mv K t :=
  ⟨fun ⟨w, hw, h0⟩ => ⟨w, hw, by rw [← h w hw]; exact h0⟩, fun ⟨w, hw, h0⟩ => ⟨w, hw, by rw [h w hw]; exact h0⟩⟩
theorem Live.ru {s : Nat} (h : 0 ≤ rule s) : Live rule mv K s := ⟨[], (fun _ hc => by cases hc), h⟩
theorem Live.st {s : Nat} {c : α} (hc : K c) (h : Live rule mv K (mv s c)) : Live rule mv K s := by
  obtain ⟨w, hw, h0⟩ := h
  exact ⟨c :: w, fun d hd => by
    rcases List.mem_cons.1 hd with rfl | q
    · exact hc
    · exact hw d q, h0⟩
/-- A relation that keeps rules and ways: what is of it is alike. -/
theorem eqv_of_bisim {P : Nat → Nat → Prop} (h1 : ∀ s t, P s t → rule s = rule t) (h2 : ∀ s t c, P s t → K c → P (mv s c) (mv t c)) {s t : Nat} (h : P s t) : Eqv rule mv K s t := fun w => by
  induction w generalizing s t with
  | nil => intro _; exact h1 s t h
  | cons c w ih => intro hw; exact ih (h2 s t c h (hw c (List.mem_cons_self ..))) (fun d hd => hw d (List.mem_cons_of_mem _ hd))
/-- What is settled as live: closed, and only what lives. -/
theorem live_of_closed {n : Nat} {l : Nat → Bool} (hmv : ∀ s c, s < n → K c → mv s c < n) (h1 : ∀ s, s < n → 0 ≤ rule s → l s = true) (h2 : ∀ s c, s < n → K c → l (mv s c) = true → l s = true) (h3 : ∀ s, s < n → l s = true → Live rule mv K s) {s : Nat} (hs : s < n) : l s = true ↔ Live rule mv K s := by
  refine ⟨h3 s hs, fun h => ?_⟩
  obtain ⟨w, hw, h0⟩ := h
  induction w generalizing s with
  | nil => exact h1 s hs h0
  | cons c w ih =>
    have hc := hw c (List.mem_cons_self ..)
    exact h2 s c hs hc (ih (hmv s c hs hc) (fun d hd => hw d (List.mem_cons_of_mem _ hd)) h0)
/-- A table of what differs, settled. -/
theorem apart_iff {n : Nat} {d : Nat → Nat → Bool} (hmv : ∀ s c, s < n → K c → mv s c < n) (hsym : ∀ s t, s < n → t < n → d s t = d t s) (hdiag : ∀ s, s < n → d s s = false) (h1 : ∀ s t, s < n → t < n → rule s ≠ rule t → d s t = true)
    (h2 : ∀ s t c, s < n → t < s → K c → d (mv s c) (mv t c) = true → d s t = true) (h3 : ∀ s t, s < n → t < n → d s t = true → ¬ Eqv rule mv K s t) {s t : Nat} (hs : s < n) (ht : t < n) : d s t = false ↔ Eqv rule mv K s t := by
  constructor
  · intro h
    refine eqv_of_bisim (P := fun s t => s < n ∧ t < n ∧ d s t = false) (fun s t ⟨a, b, c⟩ => ?_) (fun s t c ⟨a, b, e⟩ hc => ⟨hmv s c a hc, hmv t c b hc, ?_⟩) ⟨hs, ht, h⟩
    · apply Classical.byContradiction
      intro q
      rw [h1 s t a b q] at c; cases c
    · cases q : d (mv s c) (mv t c) with
      | false => rfl
      | true =>
        rcases Nat.lt_trichotomy s t with g | g | g
        · rw [hsym _ _ (hmv s c a hc) (hmv t c b hc)] at q
          have := h2 t s c b g hc q
          rw [hsym t s b a, e] at this; cases this
        · subst g; rw [hdiag _ (hmv s c a hc)] at q; cases q
        · have := h2 s t c a g hc q
          rw [e] at this; cases this
  · intro h
    cases q : d s t with
    | false => rfl
    | true => exact absurd h (h3 s t hs ht q)
/-- The same states under other letters. -/
theorem outC_letters {β : Type} {mv' : Nat → β → Nat} {K' : β → Prop} {f : α → β} (h : ∀ s a, K a → mv s a = mv' s (f a)) : ∀ (w : List α) (s : Nat), (∀ c ∈ w, K c) → outC rule mv s w = outC rule mv' s (w.map f)
  | [], _, _ => rfl
  | a :: w, s, hw => by
    rw [List.map_cons, outC, outC, h s a (hw a (List.mem_cons_self ..))]
    exact outC_letters (K' := K') h w _ (fun d hd => hw d (List.mem_cons_of_mem _ hd))
theorem letters_of {β : Type} {K' : β → Prop} {f : α → β} (hon : ∀ b, K' b → ∃ a, K a ∧ f a = b) : ∀ w' : List β, (∀ c ∈ w', K' c) → ∃ w : List α, (∀ c ∈ w, K c) ∧ w.map f = w'
  | [], _ => ⟨[], (fun _ h => by cases h), rfl⟩
  | b :: w', h => by
    obtain ⟨a, h1, h2⟩ := hon b (h b (List.mem_cons_self ..))
    obtain ⟨w, h3, h4⟩ := letters_of hon w' (fun d hd => h d (List.mem_cons_of_mem _ hd))
    exact ⟨a :: w, fun c hc => by
      rcases List.mem_cons.1 hc with rfl | q
      · exact h1
      · exact h3 c q, by rw [List.map_cons, h2, h4]⟩
theorem eqv_letters {β : Type} {mv' : Nat → β → Nat} {K' : β → Prop} {f : α → β} (h : ∀ s a, K a → mv s a = mv' s (f a)) (hK : ∀ a, K a → K' (f a)) (hon : ∀ b, K' b → ∃ a, K a ∧ f a = b) {s t : Nat} : Eqv rule mv K s t ↔ Eqv rule mv' K' s t := by
  constructor
  · intro e w' hw'
    obtain ⟨w, h1, h2⟩ := letters_of hon w' hw'
    have := e w h1
    rwa [outC_letters (K' := K') h w s h1, outC_letters (K' := K') h w t h1, h2] at this
  · intro e w hw
    rw [outC_letters (K' := K') h w s hw, outC_letters (K' := K') h w t hw]
    exact e _ (fun c hc => by obtain ⟨a, ha, rfl⟩ := List.mem_map.1 hc; exact hK a (hw a ha))
theorem live_letters {β : Type} {mv' : Nat → β → Nat} {K' : β → Prop} {f : α → β} (h : ∀ s a, K a → mv s a = mv' s (f a)) (hK : ∀ a, K a → K' (f a)) (hon : ∀ b, K' b → ∃ a, K a ∧ f a = b) {s : Nat} : Live rule mv K s ↔ Live rule mv' K' s := by
  constructor
  · rintro ⟨w, hw, h0⟩
    exact ⟨w.map f, fun c hc => by obtain ⟨a, ha, rfl⟩ := List.mem_map.1 hc; exact hK a (hw a ha), by rw [← outC_letters (K' := K') h w s hw]; exact h0⟩
  · rintro ⟨w', hw', h0⟩
    obtain ⟨w, h1, h2⟩ := letters_of hon w' hw'
    exact ⟨w, h1, by rw [outC_letters (K' := K') h w s h1, h2]; exact h0⟩
/-- States that stand for others. -/
theorem outC_rel {R : Nat → Nat → Prop} {rule' : Nat → Int} {mv' : Nat → α → Nat} (h1 : ∀ k s, R k s → rule' k = rule s) (h2 : ∀ k s c, R k s → K c → R (mv' k c) (mv s c)) : ∀ (w : List α) (k s : Nat), R k s → (∀ c ∈ w, K c) → outC rule' mv' k w = outC rule mv s w
  | [], k, s, h, _ => h1 k s h
  | c :: w, k, s, h, hw => by
    rw [outC, outC]
    exact outC_rel h1 h2 w _ _ (h2 k s c h (hw c (List.mem_cons_self ..))) (fun d hd => hw d (List.mem_cons_of_mem _ hd))
theorem live_rel {R : Nat → Nat → Prop} {rule' : Nat → Int} {mv' : Nat → α → Nat} (h1 : ∀ k s, R k s → rule' k = rule s) (h2 : ∀ k s c, R k s → K c → R (mv' k c) (mv s c)) {k s : Nat} (h : R k s) : Live rule' mv' K k ↔ Live rule mv K s :=
  ⟨fun ⟨w, hw, h0⟩ => ⟨w, hw, by rw [← outC_rel h1 h2 w k s h hw]; exact h0⟩, fun ⟨w, hw, h0⟩ => ⟨w, hw, by rw [outC_rel h1 h2 w k s h hw]; exact h0⟩⟩
end

/-! ### numbers by first coming -/
section
variable {κ : Type} [DecidableEq κ]
def addK (acc : List κ) (k : κ) : List κ := if k ∈ acc then acc else acc ++ [k]
def distinct (l : List κ) : List κ := l.foldl addK []
theorem distinct_snoc (l : List κ) (k : κ) : distinct (l ++ [k]) = addK (distinct l) k := by unfold distinct; rw [List.foldl_append]; rfl
theorem mem_addK {acc : List κ} {k x : κ} : x ∈ addK acc k ↔ x ∈ acc ∨ x = k := by
  unfold addK
  split
  · rename_i h
    exact ⟨.inl, fun q => by rcases q with q | rfl; exact q; exact h⟩
  · simp
theorem mem_foldl_addK : ∀ (l acc : List κ) (x : κ), x ∈ l.foldl addK acc ↔ x ∈ acc ∨ x ∈ l
  | [], acc, x => by simp
  | k :: l, acc, x => by rw [List.foldl_cons, mem_foldl_addK l, mem_addK, List.mem_cons]; exact or_assoc
theorem mem_distinct {l : List κ} {x : κ} : x ∈ distinct l ↔ x ∈ l := by unfold distinct; rw [mem_foldl_addK]; simp
theorem nodup_foldl_addK : ∀ (l acc : List κ), acc.Nodup → (l.foldl addK acc).Nodup
  | [], acc, h => h
  | k :: l, acc, h => by
    rw [List.foldl_cons]
    refine nodup_foldl_addK l _ ?_
    unfold addK
    split
    · exact h
    · rename_i q
      rw [List.nodup_append]
      refine ⟨h, by simp, fun a ha b hb => ?_⟩
      rw [List.mem_singleton] at hb
      subst hb
      rintro rfl
      exact q ha
theorem distinct_nodup (l : List κ) : (distinct l).Nodup := nodup_foldl_addK l [] List.nodup_nil
/-- The number of a key: in the order in which they come. -/
def numK (l : List κ) (k : κ) : Nat := (distinct l).idxOf k
theorem numK_lt {l : List κ} {k : κ} (h : k ∈ l) : numK l k < (distinct l).length := List.idxOf_lt_length_iff.2 (mem_distinct.2 h)
theorem numK_inj {l : List κ} {a b : κ} (ha : a ∈ l) (h : numK l a = numK l b) (hb : b ∈ l) : a = b := by
  have h1 := List.getElem_idxOf (List.idxOf_lt_length_iff.2 (mem_distinct.2 ha))
  have h2 := List.getElem_idxOf (List.idxOf_lt_length_iff.2 (mem_distinct.2 hb))
  unfold numK at h
  rw [← h1, ← h2]
  congr 1
theorem numK_onto {l : List κ} {v : Nat} (h : v < (distinct l).length) : ∃ k ∈ l, numK l k = v := by
  refine ⟨(distinct l)[v], mem_distinct.1 (List.getElem_mem _), ?_⟩
  unfold numK
  exact (distinct_nodup l).idxOf_getElem v h
theorem len_le_of_sub : ∀ {a b : List κ}, a.Nodup → (∀ x ∈ a, x ∈ b) → a.length ≤ b.length
  | [], _, _, _ => Nat.zero_le _
  | x :: a, b, h, hs => by
    rw [List.nodup_cons] at h
    have hx := hs x (List.mem_cons_self ..)
    have h1 : a.length ≤ (b.erase x).length := len_le_of_sub h.2 fun y hy => (List.mem_erase_of_ne (fun e => by subst e; exact h.1 hy)).2 (hs y (List.mem_cons_of_mem _ hy))
    rw [List.length_erase_of_mem hx] at h1
    have := List.length_pos_of_mem hx
    simp only [List.length_cons]
    omega
end
/-- Keys whose first half are the old numbers, as many as these: none has been parted. -/
theorem stable_parts {κ : Type} [DecidableEq κ] {count : Nat} {ms : List (Nat × κ)} (hon : ∀ v, v < count → ∃ m ∈ ms, m.1 = v) (hc : (distinct ms).length = count) {a b : Nat × κ} (ha : a ∈ ms) (hb : b ∈ ms) (h : a.1 = b.1) : a = b := by
  apply Classical.byContradiction
  intro hne
  have h1 : (List.range count).length ≤ (((distinct ms).erase b).map Prod.fst).length := len_le_of_sub List.nodup_range fun v hv => by
    obtain ⟨m, hm, e⟩ := hon v (List.mem_range.1 hv)
    by_cases q : m = b
    · subst q
      exact List.mem_map.2 ⟨a, (List.mem_erase_of_ne hne).2 (mem_distinct.2 ha), by rw [h, e]⟩
    · exact List.mem_map.2 ⟨m, (List.mem_erase_of_ne q).2 (mem_distinct.2 hm), e⟩
  rw [List.length_range, List.length_map, List.length_erase_of_mem (mem_distinct.2 hb)] at h1
  have := List.length_pos_of_mem (mem_distinct.2 hb)
  omega
theorem more_parts {κ : Type} [DecidableEq κ] {count : Nat} {ms : List (Nat × κ)} (hon : ∀ v, v < count → ∃ m ∈ ms, m.1 = v) : count ≤ (distinct ms).length := by
  have h1 : (List.range count).length ≤ ((distinct ms).map Prod.fst).length := len_le_of_sub List.nodup_range fun v hv => by
    obtain ⟨m, hm, e⟩ := hon v (List.mem_range.1 hv)
    exact List.mem_map.2 ⟨m, mem_distinct.2 hm, e⟩
  rwa [List.length_range, List.length_map] at h1
theorem distinct_le {κ : Type} [DecidableEq κ] (l : List κ) : (distinct l).length ≤ l.length := len_le_of_sub (distinct_nodup l) fun x hx => mem_distinct.1 hx

/-! ### parts of what can be come to -/
section
variable (rule : Nat → Int) (mv : Nat → Nat → Nat) (K m : Nat) (o at_ : Nat → Nat)
def keyF (part : Nat → Nat) (i : Nat) : Nat × List Nat := (part i, (List.range K).map fun c => part (at_ (mv (o i) c)))
def keysL (part : Nat → Nat) : List (Nat × List Nat) := (List.range m).map (keyF mv K o at_ part)
def nextF (part : Nat → Nat) (i : Nat) : Nat := numK (keysL mv K m o at_ part) (keyF mv K o at_ part i)
/-- Numbers of parts: as many, each of one rule, none parts what is alike. -/
structure PartOk (part : Nat → Nat) (count : Nat) : Prop where
  lt : ∀ i, i < m → part i < count
  on : ∀ v, v < count → ∃ i, i < m ∧ part i = v
  ru : ∀ i j, i < m → j < m → part i = part j → rule (o i) = rule (o j)
  eq : ∀ i j, i < m → j < m → Eqv rule mv (· < K) (o i) (o j) → part i = part j
variable {rule mv K m o at_}
theorem PartOk.start : PartOk rule mv K m o (fun i => numK ((List.range m).map fun i => rule (o i)) (rule (o i))) (distinct ((List.range m).map fun i => rule (o i))).length := by
  have hm : ∀ i, i < m → rule (o i) ∈ (List.range m).map fun i => rule (o i) := fun i hi => List.mem_map.2 ⟨i, List.mem_range.2 hi, rfl⟩
  refine ⟨fun i hi => numK_lt (hm i hi), fun v hv => ?_, fun i j hi hj h => numK_inj (hm i hi) h (hm j hj), fun i j hi hj h => by rw [h.ru]⟩
  obtain ⟨k, hk, e⟩ := numK_onto hv
  obtain ⟨i, hi, rfl⟩ := List.mem_map.1 hk
  exact ⟨i, List.mem_range.1 hi, e⟩
theorem PartOk.keys_on {part : Nat → Nat} {count : Nat} (h : PartOk rule mv K m o part count) : ∀ v, v < count → ∃ k ∈ keysL mv K m o at_ part, k.1 = v := fun v hv => by
  obtain ⟨i, hi, e⟩ := h.on v hv
  exact ⟨_, List.mem_map.2 ⟨i, List.mem_range.2 hi, rfl⟩, e⟩
theorem PartOk.next {part : Nat → Nat} {count : Nat} (hat : ∀ i c, i < m → c < K → at_ (mv (o i) c) < m ∧ o (at_ (mv (o i) c)) = mv (o i) c) (h : PartOk rule mv K m o part count) :
    PartOk rule mv K m o (nextF mv K m o at_ part) (distinct (keysL mv K m o at_ part)).length := by
  have hm : ∀ i, i < m → keyF mv K o at_ part i ∈ keysL mv K m o at_ part := fun i hi => List.mem_map.2 ⟨i, List.mem_range.2 hi, rfl⟩
  refine ⟨fun i hi => numK_lt (hm i hi), fun v hv => ?_, fun i j hi hj e => ?_, fun i j hi hj e => ?_⟩
  · obtain ⟨k, hk, e⟩ := numK_onto hv
    obtain ⟨i, hi, rfl⟩ := List.mem_map.1 hk
    exact ⟨i, List.mem_range.1 hi, e⟩
  · have := numK_inj (hm i hi) e (hm j hj)
    exact h.ru i j hi hj (congrArg Prod.fst this)
  · have e1 : keyF mv K o at_ part i = keyF mv K o at_ part j := by
      unfold keyF
      refine Prod.ext (h.eq i j hi hj e) (List.map_congr_left fun c hc => ?_)
      have hc := List.mem_range.1 hc
      obtain ⟨a1, a2⟩ := hat i c hi hc
      obtain ⟨b1, b2⟩ := hat j c hj hc
      exact h.eq _ _ a1 b1 (by rw [a2, b2]; exact e.st hc)
    unfold nextF
    rw [e1]
/-- As many parts as before: they are just what is alike. -/
theorem PartOk.stable {part : Nat → Nat} {count : Nat} (hat : ∀ i c, i < m → c < K → at_ (mv (o i) c) < m ∧ o (at_ (mv (o i) c)) = mv (o i) c) (h : PartOk rule mv K m o part count) (hc : (distinct (keysL mv K m o at_ part)).length = count) :
    ∀ i j, i < m → j < m → (nextF mv K m o at_ part i = nextF mv K m o at_ part j ↔ Eqv rule mv (· < K) (o i) (o j)) := by
  have hm : ∀ i, i < m → keyF mv K o at_ part i ∈ keysL mv K m o at_ part := fun i hi => List.mem_map.2 ⟨i, List.mem_range.2 hi, rfl⟩
  intro i j hi hj
  refine ⟨fun e => ?_, (h.next hat).eq i j hi hj⟩
  have e0 : part i = part j := congrArg Prod.fst (numK_inj (hm i hi) e (hm j hj))
  refine eqv_of_bisim (P := fun s t => ∃ a b, a < m ∧ b < m ∧ o a = s ∧ o b = t ∧ part a = part b) (fun s t ⟨a, b, ha, hb, e1, e2, e3⟩ => ?_) (fun s t c ⟨a, b, ha, hb, e1, e2, e3⟩ hcK => ?_) ⟨i, j, hi, hj, rfl, rfl, e0⟩
  · subst e1 e2; exact h.ru a b ha hb e3
  · subst e1 e2
    have hk := stable_parts h.keys_on hc (hm a ha) (hm b hb) e3
    obtain ⟨a1, a2⟩ := hat a c ha hcK
    obtain ⟨b1, b2⟩ := hat b c hb hcK
    refine ⟨_, _, a1, b1, a2, b2, ?_⟩
    have h2 := congrArg Prod.snd hk
    unfold keyF at h2
    have h3 : ∀ x ∈ List.range K, part (at_ (mv (o a) x)) = part (at_ (mv (o b) x)) := List.map_inj_left.1 h2
    exact h3 c (List.mem_range.2 hcK)
theorem PartOk.more {part : Nat → Nat} {count : Nat} (h : PartOk rule mv K m o part count) : count ≤ (distinct (keysL mv K m o at_ part)).length ∧ (distinct (keysL mv K m o at_ part)).length ≤ m :=
  ⟨more_parts h.keys_on, Nat.le_trans (distinct_le _) (by unfold keysL; simp)⟩
end
end Go.Proofs.YtkcpfpofimkkiaaGreatDoor
namespace Go.Proofs.YtkcpfpofimkkiaaGreatDoor
open Go.RowKit
set_option linter.unusedVariables false
set_option linter.unusedSimpArgs false
set_option maxRecDepth 100000

theorem stepCmp_any (x y z p : Int) (w : World) (h0 : 0 ≤ y) (h1 : y ≤ 1114111) (h2 : 0 ≤ p) (h3 : p ≤ 1114111) :
    Calls Tryz.prog 54 #[.agg #[.int .i64 x, .int .i64 y, .int .i64 z], .int .i64 p] w fun e w' => e = .returned (.int .i64 (y - p)) ∧ Below w.heap.size w w' := by
  go_enter Tryz.func54, Tryz.ntmps54
  go_wp2
  go_ret
  exact ⟨rfl, (Below.refl _ _).alloc (Nat.le_refl _) _⟩

def hiAt (l : List Mv) (k : Nat) : Int := ((l[k]?).map (·.2.1)).getD 0
theorem hiAt_of {l : List Mv} {k : Nat} {m : Mv} (h : l[k]? = some m) : hiAt l k = m.2.1 := by simp [hiAt, h]

/-- Where a point belongs among moves in order. -/
def Found (l : List Mv) (p : Int) (i : Nat) : Prop := i ≤ l.length ∧ (∀ k, k < i → hiAt l k < p) ∧ (i < l.length → p ≤ hiAt l i)

theorem bsf_any (A : Option Addr) (n c : Nat) (l : List Mv) (p : Int) (w : World) (B : Nat) (h : (shL shMove).rd w (Lo B) l [.slice A n c]) (hB : B ≤ w.heap.size) (hl : l.length = n) (hn : n ≤ 140737488355328)
    (hr : ∀ m ∈ l, 0 ≤ m.2.1 ∧ m.2.1 ≤ 1114111) (hs : ∀ a b, a < b → b < n → hiAt l a < hiAt l b) (hp0 : 0 ≤ p) (hp1 : p ≤ 1114111) :
    Calls Tryz.prog 53 #[.slice A n c, .int .i64 p, .func (.func 54) #[] #[]] w fun e w' => ∃ (i : Nat) (b : Bool), e = .returned (.tuple #[.int .i64 i, .bool b]) ∧ Found l p i ∧ Below w.heap.size w w' := by
  have Hl := Lib.hid hl; clear hl
  have Hr := Lib.hid hr; clear hr
  have Hs := Lib.hid hs; clear hs
  go_enter Tryz.func53, Tryz.ntmps53
  go_wp2
  go_loopw [9, 10] (fun a b wr => ∃ (i j : Nat), i ≤ j ∧ j ≤ n ∧ a = .int .i64 i ∧ b = .int .i64 j ∧ Hid (∀ k, k < i → hiAt l k < p) ∧ Hid (∀ k, j ≤ k → k < n → p ≤ hiAt l k) ∧ Below w.heap.size w wr) (fun a b _ => (intOf b - intOf a).toNat)
  case atStart => exact ⟨0, n, Nat.zero_le _, Nat.le_refl _, rfl, rfl, fun k hk => by omega, fun k hk hk' => by omega, Below.refl _ _⟩
  case round =>
    obtain ⟨i, j, hij, hjn, rfl, rfl, H1, H2, hb⟩ := hrel
    have hbs := hb.size
    by_cases hlt : i < j
    · obtain ⟨m, hm⟩ : ∃ m, l[(i + j) / 2]? = some m := ⟨_, List.getElem?_eq_getElem (by rw [Hl.out]; omega)⟩
      obtain ⟨b2, off2, rfl, hb2, hmt⟩ := moves_at (Sh.below h (hb.mono hB)) (by rw [Hl.out]; omega)
      obtain ⟨m1, m2, m3⟩ := hmt _ m hm
      obtain ⟨r1, r2⟩ := Hr.out m (List.mem_of_getElem? hm)
      have hhi := hiAt_of hm
      obtain ⟨x, y, z⟩ := m
      clear hmt hm
      dsimp only at m1 m2 m3 r1 r2 hhi
      have HH := Lib.hid hhi; clear hhi
      by_cases hc : y < p
      · have hneg : y - p < 0 := by omega
        go_wp2_with (go_at_call 54; refine (stepCmp_any x y z p _ r1 r2 hp0 hp1).mono ?_; rintro e w1 ⟨rfl, hb1⟩)
        go_roundw
        case rel =>
          refine ⟨(i + j) / 2 + 1, j, by omega, hjn, by go_num, rfl, fun k hk => ?_, H2, hb.trans (hb1.mono hbs)⟩
          by_cases hk2 : k = (i + j) / 2
          · rw [hk2, HH.out]; exact hc
          · have := Hs.out k ((i + j) / 2) (by omega) (by omega)
            rw [HH.out] at this; omega
        case measure => simp [intOf]; omega
      · have hneg : 0 ≤ y - p := by omega
        go_wp2_with (go_at_call 54; refine (stepCmp_any x y z p _ r1 r2 hp0 hp1).mono ?_; rintro e w1 ⟨rfl, hb1⟩)
        go_roundw
        case rel =>
          refine ⟨i, (i + j) / 2, by omega, by omega, rfl, by go_num, H1, fun k hk hk' => ?_, hb.trans (hb1.mono hbs)⟩
          by_cases hk2 : k = (i + j) / 2
          · rw [hk2, HH.out]; omega
          · have := Hs.out ((i + j) / 2) k (by omega) (by omega)
            rw [HH.out] at this; omega
        case measure => simp [intOf]; omega
    · have hij2 : i = j := by omega
      have hF : Found l p i := ⟨by rw [Hl.out]; omega, H1.out, fun hh => H2.out i (by omega) (by rw [← Hl.out]; exact hh)⟩
      by_cases hin : i < n
      · obtain ⟨m, hm⟩ : ∃ m, l[i]? = some m := ⟨_, List.getElem?_eq_getElem (by rw [Hl.out]; exact hin)⟩
        obtain ⟨b2, off2, rfl, hb2, hmt⟩ := moves_at (Sh.below h (hb.mono hB)) (by rw [Hl.out]; omega)
        obtain ⟨m1, m2, m3⟩ := hmt _ m hm
        obtain ⟨r1, r2⟩ := Hr.out m (List.mem_of_getElem? hm)
        obtain ⟨x, y, z⟩ := m
        clear hmt hm
        dsimp only at m1 m2 m3 r1 r2
        have HF := Lib.hid hF; clear hF
        have HIJ := Lib.hid hij2; clear hij2
        go_wp2_with (go_at_call 54; refine (stepCmp_any x y z p _ r1 r2 hp0 hp1).mono ?_; rintro e w1 ⟨rfl, hb1⟩)
        go_ret2
        exact ⟨i, _, rfl, HF.out, hb.trans (hb1.mono hbs)⟩
      · have HF := Lib.hid hF; clear hF
        have HIJ := Lib.hid hij2; clear hij2
        go_wp2
        go_ret2
        exact ⟨i, _, rfl, HF.out, hb⟩

/-! ### plain: the state behind a point -/
def stp : List Mv → Int → Int
  | [], _ => -1
  | m :: r, p => if m.1 ≤ p ∧ p ≤ m.2.1 then m.2.2 else stp r p

theorem okM_cons {n : Nat} {last : Int} {m : Mv} {r : List Mv} (h : okM n last (m :: r) = true) : (last < m.1 ∧ m.1 ≤ m.2.1 ∧ m.2.1 ≤ 1114111 ∧ 0 ≤ m.2.2 ∧ m.2.2 < n) ∧ okM n m.2.1 r = true := by
  rw [okM] at h
  simpa using h
theorem okM_mem {n : Nat} : ∀ {ms : List Mv} {last : Int}, okM n last ms = true → ∀ m ∈ ms, last < m.1 ∧ m.1 ≤ m.2.1 ∧ m.2.1 ≤ 1114111 ∧ 0 ≤ m.2.2 ∧ m.2.2 < n
  | [], _, _, m, hm => by cases hm
  | m0 :: r, last, h, m, hm => by
    obtain ⟨h1, h2⟩ := okM_cons h
    rcases List.mem_cons.1 hm with rfl | hm
    · exact h1
    · have := okM_mem h2 m hm
      exact ⟨by omega, this.2⟩
theorem okM_sorted {n : Nat} : ∀ {ms : List Mv} {last : Int}, okM n last ms = true → ∀ a b, a < b → b < ms.length → hiAt ms a < hiAt ms b
  | [], _, _, a, b, _, hb => by simp at hb
  | m0 :: r, last, h, 0, b + 1, _, hb => by
    obtain ⟨h1, h2⟩ := okM_cons h
    have hb' : b < r.length := by simpa using hb
    have hm := okM_mem h2 r[b] (List.getElem_mem hb')
    have e1 : hiAt (m0 :: r) 0 = m0.2.1 := rfl
    have e2 : hiAt (m0 :: r) (b + 1) = r[b].2.1 := by simp [hiAt, hb']
    omega
  | m0 :: r, last, h, a + 1, b + 1, hab, hb => by
    obtain ⟨h1, h2⟩ := okM_cons h
    have e1 : ∀ k, hiAt (m0 :: r) (k + 1) = hiAt r k := fun k => by simp [hiAt]
    rw [e1, e1]
    exact okM_sorted h2 a b (by omega) (by simpa using hb)
  | _ :: _, _, _, a, 0, hab, _ => by omega

theorem stp_low {p : Int} : ∀ {r : List Mv}, (∀ m ∈ r, p < m.1) → stp r p = -1
  | [], _ => rfl
  | m :: r, h => by
    rw [stp, if_neg (fun hh => by have := h m (List.mem_cons_self ..); omega)]
    exact stp_low fun m' hm' => h m' (List.mem_cons_of_mem _ hm')
theorem stp_drop {p : Int} : ∀ (i : Nat) (ms : List Mv), i ≤ ms.length → (∀ k, k < i → hiAt ms k < p) → stp ms p = stp (ms.drop i) p
  | 0, ms, _, _ => rfl
  | i + 1, [], h, _ => by simp at h
  | i + 1, m :: r, h, hk => by
    have h0 : m.2.1 < p := hk 0 (by omega)
    rw [stp, if_neg (fun hh => by omega), List.drop_succ_cons]
    exact stp_drop i r (by simpa using h) fun k hk' => by have := hk (k + 1) (by omega); simpa [hiAt] using this
theorem stp_found {n : Nat} {ms : List Mv} {p : Int} {i : Nat} (h : okM n (-1) ms = true) (hf : Found ms p i) :
    (∀ m, ms[i]? = some m → m.1 ≤ p → stp ms p = m.2.2) ∧ (∀ m, ms[i]? = some m → p < m.1 → stp ms p = -1) ∧ (¬ i < ms.length → stp ms p = -1) := by
  obtain ⟨h1, h2, h3⟩ := hf
  have hd := stp_drop i ms h1 h2
  refine ⟨fun m hm hl => ?_, fun m hm hl => ?_, fun hl => ?_⟩
  · obtain ⟨hi, rfl⟩ := List.getElem?_eq_some_iff.1 hm
    have := h3 hi
    rw [hiAt_of hm] at this
    rw [hd, List.drop_eq_getElem_cons hi, stp, if_pos ⟨hl, this⟩]
  · obtain ⟨hi, rfl⟩ := List.getElem?_eq_some_iff.1 hm
    rw [hd, List.drop_eq_getElem_cons hi, stp, if_neg (fun hh => by omega)]
    refine stp_low fun m' hm' => ?_
    obtain ⟨j, hj, rfl⟩ := List.getElem_of_mem hm'
    rw [List.getElem_drop]
    rw [List.length_drop] at hj
    have hs := okM_sorted h i (i + 1 + j) (by omega) (by omega)
    have hm1 := okM_mem h ms[i] (List.getElem_mem hi)
    have key : ∀ (ms : List Mv) (last : Int) (a b : Nat) (ha : a < ms.length) (hb : b < ms.length), okM n last ms = true → a < b → ms[a].2.1 < ms[b].1 := by
      intro ms
      induction ms with
      | nil => intro last a b ha; simp at ha
      | cons m0 r ih =>
        intro last a b ha hb hok hab
        obtain ⟨g1, g2⟩ := okM_cons hok
        cases b with
        | zero => omega
        | succ b =>
          cases a with
          | zero =>
            have := okM_mem g2 (r[b]'(by simpa using hb)) (List.getElem_mem _)
            simpa using this.1
          | succ a => simpa using ih _ a b (by simpa using ha) (by simpa using hb) g2 (by omega)
    have := key ms (-1) i (i + 1 + j) hi (by omega) h (by omega)
    omega
  · rw [hd, List.drop_eq_nil_of_le (by omega)]; rfl

theorem okA_len {l : List St} (h : okA l = true) : l.length ≤ 500 := by
  unfold okA at h
  rw [Bool.and_eq_true] at h
  exact of_decide_eq_true h.1
theorem okA_state {l : List St} (h : okA l = true) {k : Nat} {s : St} (hs : l[k]? = some s) : -1 ≤ s.1 ∧ okM l.length (-1) s.2 = true := by
  unfold okA at h
  rw [Bool.and_eq_true] at h
  have := List.all_eq_true.1 h.2 s (List.mem_of_getElem? hs)
  unfold okS at this
  rw [Bool.and_eq_true] at this
  exact ⟨of_decide_eq_true this.1, this.2⟩
theorem stp_range {n : Nat} : ∀ {ms : List Mv} {last p : Int}, okM n last ms = true → -1 ≤ stp ms p ∧ stp ms p < n
  | [], _, _, _ => by simp [stp]; omega
  | m :: r, last, p, h => by
    obtain ⟨h1, h2⟩ := okM_cons h
    rw [stp]
    split
    · omega
    · exact stp_range h2

theorem okM_len {n : Nat} : ∀ {ms : List Mv} {last : Int}, okM n last ms = true → last ≤ 1114111 → (ms.length : Int) ≤ 1114111 - last
  | [], last, _, hl => by simp; omega
  | m :: r, last, h, _ => by
    obtain ⟨h1, h2⟩ := okM_cons h
    have := okM_len h2 (by omega)
    rw [List.length_cons]; omega

theorem step_any (A : Option Addr) (n c k : Nat) (l : List St) (s : St) (p : Int) (w : World) (B : Nat) (h : (shL shState).rd w (Lo B) l [.slice A n c]) (hB : B ≤ w.heap.size) (hl : l.length = n) (hok : okA l = true) (hs : l[k]? = some s)
    (hp0 : 0 ≤ p) (hp1 : p ≤ 1114111) :
    Calls Tryz.prog 33 #[.agg #[.slice A n c], .int .i64 k, .int .i64 p] w fun e w' => e = .returned (.int .i64 (stp s.2 p)) ∧ Below w.heap.size w w' := by
  have hlen := okA_len hok
  obtain ⟨_, hm⟩ := okA_state hok hs
  have hk : k < l.length := (List.getElem?_eq_some_iff.1 hs).1
  obtain ⟨b, off, rfl, hb, hst⟩ := states_at h (by omega)
  obtain ⟨g1, A', c', g2, g3, g4, g5⟩ := hst k s hs
  clear hst g1
  rw [hl] at hlen hk hm
  obtain ⟨ms, hms⟩ : ∃ ms, ms = s.2 := ⟨_, rfl⟩
  obtain ⟨m, hmm⟩ : ∃ m, m = ms.length := ⟨_, rfl⟩
  rw [← hms] at hm g2 g3 g5
  rw [← hms]
  rw [← hmm] at g2 g3 g5
  have hsort := okM_sorted hm
  have hmem := okM_mem hm
  have hmlen := okM_len hm (by omega)
  rw [← hmm] at hmlen
  have HM := Lib.hid hmm; clear hmm
  have HS := Lib.hid hs; clear hs
  have HMS := Lib.hid hms; clear hms
  have HO := Lib.hid hm; clear hm
  have Hl := Lib.hid hl; clear hl
  have Hok := Lib.hid hok; clear hok
  rw [← HM.out] at hsort
  have HSO := Lib.hid hsort; clear hsort
  have HME := Lib.hid hmem; clear hmem
  unfold maxLen at g4
  have hb0 : Below w.heap.size w (w.alloc (.cells #[.slice (some ⟨b, off, none⟩) n c] 24)) := (Below.refl _ _).alloc (Nat.le_refl _) _
  have hW0 : (w.alloc (.cells #[.slice (some ⟨b, off, none⟩) n c] 24)).heap.size = w.heap.size + 1 := by simp
  have hbB : b < w.heap.size := Nat.lt_of_lt_of_le hb hB
  have g2' := (hb0.cell (p := ⟨b, off + k * 2 + 1, none⟩) hbB).trans g2
  have g5' := Sh.below g5 (hb0.mono hB)
  go_enter Tryz.func33, Tryz.ntmps33
  go_wp2_with fail
  generalize w.alloc (.cells #[.slice (some ⟨b, off, none⟩) n c] 24) = W0 at *
  refine (bsf_any A' m c' ms p W0 B g5' (by omega) HM.out.symm (by omega) (fun mv hmv => by have := HME.out mv hmv; omega) HSO.out hp0 hp1).mono ?_
  rintro e w1 ⟨i, bb, rfl, hF, hb1⟩
  have hbn := hb0.trans (hb1.mono (by omega))
  obtain ⟨s1, s2, s3⟩ := stp_found HO.out hF
  have hil : i ≤ m := by rw [HM.out]; exact hF.1
  have HF := Lib.hid hF; clear hF
  have S3 := Lib.hid s3; clear s3
  by_cases him : i < m
  · obtain ⟨mv, hmv⟩ : ∃ mv, ms[i]? = some mv := ⟨_, List.getElem?_eq_getElem (by rw [← HM.out]; exact him)⟩
    obtain ⟨b2, off2, rfl, hb2, hmt⟩ := moves_at (Sh.below g5 (hbn.mono hB)) (by rw [← HM.out]; omega)
    obtain ⟨m1, m2, m3⟩ := hmt i mv hmv
    have s1 := s1 mv hmv
    have s2 := s2 mv hmv
    obtain ⟨x, y, z⟩ := mv
    clear hmt hmv
    dsimp only at m1 m2 m3 s1 s2
    have S1 := Lib.hid s1; clear s1
    have S2 := Lib.hid s2; clear s2
    by_cases hx : x ≤ p
    · have d1 : decide (x ≤ p) = true := decide_eq_true hx
      go_wp2
      go_ret
      exact ⟨ret_eq (by rw [S1.out hx]; rfl), hbn⟩
    · have d1 : decide (x ≤ p) = false := decide_eq_false hx
      go_wp2
      go_ret
      exact ⟨ret_eq (by rw [S2.out (by omega)]; rfl), hbn⟩
  · have S1 := Lib.hid s1; clear s1
    have S2 := Lib.hid s2; clear s2
    go_wp2
    go_ret
    exact ⟨ret_eq (by rw [S3.out (by rw [← HM.out]; exact him)]; rfl), hbn⟩
end Go.Proofs.YtkcpfpofimkkiaaGreatDoor
