/- repair.Cost: the whole contract. · Plain: which names have trees: held against what is derived. -/
import Derived.Test.YtklhjaohnimmnaaDoorQ25
import Derived.Test.YtklhjaohnimmnaaDoorQ4
import Derived.Test.YtklhjaohnimmnaaDoorQ22
namespace Go.Proofs.YtklhjaohnimmnaaDoor
open Go.RowKit
set_option linter.unusedVariables false
set_option linter.unusedSimpArgs false
set_option maxRecDepth 100000

theorem cost_any (A1 A2 A3 A4 : Option Addr) (n1 c1 n2 c2 n3 c3 n4 c4 : Nat) (P L F T : List Int) (w : World) (B : Nat) (hB : B ≤ w.heap.size)
    (h1 : RdI w B A1 P) (h2 : RdI w B A2 L) (h3 : RdI w B A3 F) (h4 : RdI w B A4 T) (l1 : P.length = n1) (l2 : L.length = n2) (l3 : F.length = n3) (l4 : T.length = n4)
    (m1 : n1 ≤ maxLen) (m2 : n2 ≤ maxLen) (m3 : n3 ≤ maxLen) (m4 : n4 ≤ maxLen) :
    Calls Tryd.prog 8 #[.agg #[.slice A1 n1 c1, .slice A2 n2 c2], .slice A3 n3 c3, .slice A4 n4 c4] w fun e w' => e = .returned (.int .i64 (costA P L F T)) ∧ Below w.heap.size w w' := by
  by_cases hg : P.all costB = true ∧ L.all costB = true ∧ n3 ≤ 1000 ∧ n4 ≤ 1000
  · exact cost_good A1 A2 A3 A4 n1 c1 n2 c2 n3 c3 n4 c4 P L F T w B hB h1 h2 h3 h4 l1 l2 l3 l4 m1 m2 hg.2.2.1 hg.2.2.2 hg.1 hg.2.1
  · refine (cost_bad A1 A2 A3 A4 n1 c1 n2 c2 n3 c3 n4 c4 P L F T w B hB h1 h2 h3 h4 l1 l2 l3 l4 m1 m2 m3 m4 hg).mono ?_
    rintro e w' ⟨rfl, hb⟩
    refine ⟨ret_eq ?_, hb⟩
    unfold costA
    rw [if_neg (fun h => hg ⟨h.1, h.2.1, by omega, by omega⟩)]
end Go.Proofs.YtklhjaohnimmnaaDoor
namespace Go.Proofs.YtklhjaohnimmnaaDoor
set_option linter.unusedVariables false
set_option linter.unusedSimpArgs false

section
variable {ps : List Pr} {N T : Nat}
def liveT (ps : List Pr) (N : Nat) : List Bool := rounds (stepG livS) ps N (b0 N)
def empT (ps : List Pr) (N : Nat) : List Bool := rounds (stepG empS) ps N (b0 N)
theorem growT_len {f : List Bool → Int → Bool} (n : Nat) : (rounds (stepG f) ps n (b0 N)).length = N := rounds_keep (Q := fun x : List Bool => x.length = N) (fun k p y hp hy => by rw [stepG_len]; exact hy) (by simp [b0]) n
theorem grow_fixed {f : List Bool → Int → Bool} (hf : Fits N ps) {p : Pr} (hp : p ∈ ps) (h : p.2.1.all (f (rounds (stepG f) ps N (b0 N))) = true) : bth (rounds (stepG f) ps N (b0 N)) p.1.toNat = true := by
  obtain ⟨k, hk, e⟩ := List.getElem_of_mem hp
  have h1 := pass_fixed stepG_same ps 0 _ (stepG_done (f := f) (ps := ps) (N := N) (fun p hp => (hf p hp).1)) k p (by rw [List.getElem?_eq_getElem hk, e])
  generalize rounds (stepG f) ps N (b0 N) = x at h h1 ⊢
  unfold stepG at h1
  split at h1
  · rename_i h2
    rw [h] at h2
    simpa using h2
  · cases h1
theorem Cat.all {R : Nat → List Int → Prop} {q : Int → Bool} : ∀ {r l : List Int}, (∀ s X a, s ∈ r → s < 0 → X = (-1 - s).toNat → R X a → q s = true) → (∀ s, s ∈ r → 0 ≤ s → q s = true) → Cat R r l → r.all q = true
  | [], _, _, _, _ => rfl
  | s :: r, l, h1, h2, ⟨a, b, e, h3, h4⟩ => by
    rw [List.all_cons, Cat.all (fun s X a hs => h1 s X a (List.mem_cons_of_mem _ hs)) (fun s hs => h2 s (List.mem_cons_of_mem _ hs)) h4, Bool.and_true]
    by_cases hs : s < 0
    · rw [if_pos hs] at h3; exact h1 s _ a (by simp) hs rfl h3
    · exact h2 s (by simp) (by omega)
theorem livS_mk {l : List Bool} {s : Int} (h : bth l (-1 - s).toNat = true) : livS l s = true := by unfold livS; rw [h]; simp
theorem livS_pos {l : List Bool} {s : Int} (h : 0 ≤ s) : livS l s = true := by unfold livS; simp [h]
theorem live_of (hf : Fits N ps) : ∀ (h X : Nat) (l : List Int), DerH ps h X l → bth (liveT ps N) X = true
  | 0, _, _, hd => hd.elim
  | h + 1, X, l, ⟨p, hp, e, hc⟩ => by
    subst e
    refine grow_fixed hf hp (Cat.all (fun s X a hs h0 e hd => ?_) (fun s hs h0 => ?_) hc)
    · subst e
      exact livS_mk (live_of hf h _ a hd)
    · exact livS_pos h0
theorem cat_of_all {R : Nat → List Int → Prop} {l : List Bool} : ∀ {r : List Int}, (∀ X, bth l X = true → ∃ a, R X a) → r.all (livS l) = true → ∃ a, Cat R r a
  | [], _, _ => ⟨[], rfl⟩
  | s :: r, hR, h => by
    rw [List.all_cons, Bool.and_eq_true] at h
    obtain ⟨b, hb⟩ := cat_of_all hR h.2
    have h1 := h.1
    unfold livS at h1
    by_cases hs : s < 0
    · simp only [Bool.or_eq_true, decide_eq_true_eq] at h1
      obtain ⟨a, ha⟩ := hR _ (by rcases h1 with q | q; omega; exact q)
      exact ⟨a ++ b, a, b, rfl, by rw [if_pos hs]; exact ha, hb⟩
    · exact ⟨[s] ++ b, [s], b, rfl, by rw [if_neg hs], hb⟩
theorem live_der (hf : Fits N ps) {X : Nat} (h : bth (liveT ps N) X = true) : ∃ l, Der ps X l := by
  have := rounds_keep (step := stepG livS) (ps := ps) (Q := fun x : List Bool => x.length = N ∧ ∀ X, bth x X = true → ∃ l, Der ps X l) (fun k p y hk hy => by
    have hp := List.mem_of_getElem? hk
    refine ⟨by rw [stepG_len]; exact hy.1, ?_⟩
    unfold stepG
    split
    · exact hy.2
    · rename_i hc
      simp only [Bool.or_eq_true, Bool.not_eq_true', not_or, Bool.not_eq_false] at hc
      obtain ⟨a, ha⟩ := cat_of_all hy.2 hc.2
      intro X hX
      rw [bth_set (by rw [hy.1]; exact (hf p hp).1)] at hX
      split at hX
      · rename_i e; subst e; exact ⟨a, Der.mk ps hp ha⟩
      · exact hy.2 X hX) (x := b0 N) ⟨by simp [b0], fun X hX => by
    unfold bth b0 at hX
    rw [List.getD_eq_getElem?_getD, List.getElem?_replicate] at hX
    split at hX <;> simp at hX⟩ N
  exact this.2 X h
theorem live_iff (hf : Fits N ps) {X : Nat} : bth (liveT ps N) X = true ↔ ∃ l, Der ps X l := ⟨live_der hf, fun ⟨l, h, hd⟩ => live_of hf h X l hd⟩
/-- Terminals of what is derived. -/
theorem der_dig {T : Nat} (hT : ∀ p ∈ ps, ∀ s ∈ p.2.1, s < (T : Int)) : ∀ (h X : Nat) (l : List Int), DerH ps h X l → ∀ s ∈ l, 0 ≤ s ∧ s < (T : Int)
  | 0, _, _, hd => hd.elim
  | h + 1, X, l, ⟨p, hp, e, hc⟩ => by
    have C : ∀ (r l : List Int), (∀ s ∈ r, s < (T : Int)) → Cat (DerH ps h) r l → ∀ s ∈ l, 0 ≤ s ∧ s < (T : Int) := by
      intro r
      induction r with
      | nil => intro l _ hc s hs; rw [show l = [] from hc] at hs; cases hs
      | cons a r ih =>
        rintro l hr ⟨a1, b, e, h1, h2⟩ s hs
        subst e
        rcases List.mem_append.1 hs with hs | hs
        · by_cases h0 : a < 0
          · rw [if_pos h0] at h1; exact der_dig hT h _ a1 h1 s hs
          · rw [if_neg h0] at h1
            subst h1
            rw [List.mem_singleton] at hs
            subst hs
            exact ⟨by omega, hr s (by simp)⟩
        · exact ih b (fun t ht => hr t (List.mem_cons_of_mem _ ht)) h2 s hs
    exact C p.2.1 l (hT p hp) hc
end
end Go.Proofs.YtklhjaohnimmnaaDoor
