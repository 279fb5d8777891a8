/- The document's leaves at a node of a name; leaves whole. · The document's leaves of any tree; its Sound. · The trees that a filled chart tells, plain: there is one where a span stands; each is sound; none comes twice. -/
import Derived.Test.YtiklbannoinioaaDoorQ13
namespace Go.Proofs.YtiklbannoinioaaDoor
open Go.RowKit BigFrame
set_option linter.unusedVariables false
set_option linter.unusedSimpArgs false
set_option maxRecDepth 100000

end Go.Proofs.YtiklbannoinioaaDoor
namespace Go.Proofs.YtiklbannoinioaaDoor
open Go.RowKit BigFrame
set_option linter.unusedVariables false
set_option linter.unusedSimpArgs false
set_option maxRecDepth 100000

def soundB (G : Gr) (t : Tr) (l : List Int) : Bool := decide (lvT G l t (-1 - G.start) 0 = some l.length)
end Go.Proofs.YtiklbannoinioaaDoor
namespace Go.Proofs.YtiklbannoinioaaDoor
set_option linter.unusedVariables false
set_option linter.unusedSimpArgs false

section
variable {G : Gr} {inp : List Int} {I : Nat → List K3} {k : Nat} {L : List K3}
/-- An item of a production that was begun is there just if its symbols stand. -/
theorem Chart.fit (hc : Chart G inp k I L) {p i : Nat} (hp : (p, 0, i) ∈ I i) : ∀ (at_ : Nat), at_ ≤ (rtN G p).length → ∀ j, j < k → ((p, at_, i) ∈ I j ↔ Rw (ST L inp) ((rtN G p).take at_) i j)
  | 0, _, j, hj => ⟨fun h => hc.snd j hj _ h, fun h => by have e : i = j := h; rw [← e]; exact hp⟩
  | at_ + 1, ha, j, hj => by
    refine ⟨fun h => hc.snd j hj _ h, fun h => ?_⟩
    have hl : at_ < (rtN G p).length := by omega
    rw [List.take_add_one, List.getElem?_eq_getElem hl] at h
    obtain ⟨m, h1, m', h2, h3, h4, h5⟩ := Rw.unapp h
    have e5 : m' = j := h5
    subst e5
    have hm : (p, at_, i) ∈ I m := (hc.fit hp at_ (by omega) m (by omega)).2 h1
    have hah : aheadO G (p, at_, i) = some (rtN G p)[at_] := by
      unfold aheadO
      rw [if_neg (by simp only; omega)]
      simp only [nth_get hl]
    by_cases q : 0 ≤ (rtN G p)[at_]
    · obtain ⟨e1, e2⟩ := (ST_term q).1 h4
      subst e1
      exact hc.scan m hj _ hm _ q hah e2
    · obtain ⟨a, hA⟩ : ∃ a : Nat, (rtN G p)[at_] = -1 - (a : Int) := ⟨(-1 - (rtN G p)[at_]).toNat, by omega⟩
      rw [hA] at h4 hah
      exact hc.comp a m m' (ST_name.1 h4) _ hm hah
theorem rest_rw {C : Ct} : ∀ {r : List Int} {i j : Nat}, restB C inp r i j = true ↔ Rw (ST C.L inp) r i j
  | [], i, j => by unfold restB Rw; exact decide_eq_true_iff
  | s :: r, i, j => by
    rw [restB, List.any_eq_true]
    constructor
    · rintro ⟨m, hm, h⟩
      rw [Bool.and_eq_true] at h
      obtain ⟨h1, h2⟩ := mem_mids.1 hm
      exact ⟨m, h1, h2, h.1, rest_rw.1 h.2⟩
    · rintro ⟨m, h1, h2, h3, h4⟩
      refine ⟨m, mem_mids.2 ⟨h1, h2⟩, ?_⟩
      rw [Bool.and_eq_true]
      exact ⟨h3, rest_rw.2 h4⟩
theorem rows_ne {C : Ct} {st : Int → Nat → Nat → Prop} {tf : Int → Nat → Nat → List Tr} (hs : ∀ s i j, st s i j → ST C.L inp s i j) (ht : ∀ s i j, st s i j → tf s i j ≠ []) : ∀ {r : List Int} {i j : Nat}, Rw st r i j → rowsT C inp tf r i j ≠ []
  | [], i, j, h => by
    have e : i = j := h
    rw [rowsT, if_pos e]
    simp
  | s :: r, i, j, ⟨m, h1, h2, h3, h4⟩ => by
    rw [rowsT]
    intro h
    rw [List.flatMap_eq_nil_iff] at h
    have := h m (mem_mids.2 ⟨h1, h2⟩)
    have hb : (stB C inp s i m && restB C inp r m j) = true := by
      rw [Bool.and_eq_true]
      exact ⟨hs _ _ _ h3, rest_rw.2 (h4.mono hs)⟩
    rw [if_pos hb, List.flatMap_eq_nil_iff] at this
    obtain ⟨t, ts, e⟩ : ∃ t ts, tf s i m = t :: ts := List.exists_cons_of_ne_nil (ht s i m h3)
    have h5 := this t (by rw [e]; simp)
    exact rows_ne hs ht h4 (List.map_eq_nil_iff.1 h5)
/-- Where a span stands there is a tree. -/
theorem Chart.some_tree (hc : Chart G inp k I L) : ∀ (n : Nat) (L1 L2 : List K3) (x : K3), L = L1 ++ x :: L2 → L1.length ≤ n → ∀ f O, n < f → (∀ y ∈ O, y ∉ L1 ∧ y ≠ x) → treesT ⟨I, L⟩ G inp f O x ≠ []
  | n, L1, L2, x, e, hn, f, O, hf, hO => by
    obtain ⟨f', rfl⟩ : ∃ f', f = f' + 1 := ⟨f - 1, by omega⟩
    have hx : x ∈ L := by rw [e]; simp
    have hxO : ¬ (x ∈ O ∨ x ∉ L) := fun h => h.elim (fun q => (hO x q).2 rfl) (fun q => q hx)
    obtain ⟨p, hp, hfit, hrow⟩ := hc.gnd L1 x L2 e
    rw [treesT, if_neg hxO]
    intro h
    rw [List.flatMap_eq_nil_iff] at h
    have := h p hp
    have hfb : fitB ⟨I, L⟩ p (rtN G p).length x.2.1 x.2.2 = true := decide_eq_true hfit
    rw [if_pos hfb, List.map_eq_nil_iff] at this
    refine rows_ne (C := ⟨I, L⟩) (st := ST L1 inp) (fun s i j h => ST.mono (fun y hy => by rw [e]; exact List.mem_append_left _ hy) h) (fun s i j h => ?_) hrow this
    unfold allOf
    by_cases q : 0 ≤ s
    · rw [if_pos q]; simp
    · rw [if_neg q]
      obtain ⟨a, hA⟩ : ∃ a : Nat, s = -1 - (a : Int) := ⟨(-1 - s).toNat, by omega⟩
      subst hA
      have hz : (a, i, j) ∈ L1 := ST_name.1 h
      rw [show (-1 - (-1 - (a : Int))).toNat = a by omega]
      obtain ⟨La, Lb, e2⟩ := List.append_of_mem hz
      have hlen : La.length < L1.length := by rw [e2]; simp
      have hnd := hc.nd
      rw [e] at hnd
      have hx1 : x ∉ L1 := fun q2 => (List.nodup_append.1 hnd).2.2 x q2 x (by simp) rfl
      have hnd1 := (List.nodup_append.1 hnd).1
      rw [e2] at hnd1
      refine hc.some_tree (n - 1) La (Lb ++ x :: L2) (a, i, j) (by rw [e, e2]; simp) (by omega) f' (x :: O) (by omega) (fun y hy => ?_)
      rcases List.mem_cons.1 hy with rfl | hy
      · exact ⟨fun q2 => hx1 (by rw [e2]; exact List.mem_append_left _ q2), fun q2 => hx1 (by rw [q2]; exact hz)⟩
      · obtain ⟨g1, g2⟩ := hO y hy
        exact ⟨fun q2 => g1 (by rw [e2]; exact List.mem_append_left _ q2), fun q2 => g1 (by rw [q2]; exact hz)⟩
theorem Chart.tree (hc : Chart G inp k I L) {x : K3} (hx : x ∈ L) : treesT ⟨I, L⟩ G inp L.length [] x ≠ [] := by
  obtain ⟨La, Lb, e⟩ := List.append_of_mem hx
  exact hc.some_tree La.length La Lb x e (Nat.le_refl _) _ [] (by rw [e]; simp) (fun y h => by cases h)
end
/-! ### sound, none twice -/
section
variable {G : Gr} {inp : List Int} {C : Ct} {tf : Int → Nat → Nat → List Tr} {n : Nat}
/-- The trees of a symbol from i to j all have these leaves. -/
def LvF (G : Gr) (inp : List Int) (C : Ct) (n : Nat) (tf : Int → Nat → Nat → List Tr) : Prop := ∀ s i j, j ≤ n → stB C inp s i j = true → ∀ t ∈ tf s i j, lvT G inp t s i = some j
theorem mem_rows (h : LvF G inp C n tf) : ∀ {r : List Int} {i j : Nat} {ks : List Tr}, j ≤ n → ks ∈ rowsT C inp tf r i j → lvL G inp ks r i = some j ∧ ks.length = r.length ∧ ∀ t ∈ ks, ∃ s ∈ r, ∃ i' j', i ≤ i' ∧ j' ≤ j ∧ stB C inp s i' j' = true ∧ t ∈ tf s i' j'
  | [], i, j, ks, hj, hk => by
    rw [rowsT] at hk
    split at hk
    · rename_i e
      rw [List.mem_singleton] at hk
      subst hk
      exact ⟨by rw [lvL, e], rfl, fun t ht => by cases ht⟩
    · cases hk
  | s :: r, i, j, ks, hj, hk => by
    rw [rowsT, List.mem_flatMap] at hk
    obtain ⟨m, hm, hk⟩ := hk
    obtain ⟨h1, h2⟩ := mem_mids.1 hm
    split at hk
    · rename_i hb
      rw [Bool.and_eq_true] at hb
      rw [List.mem_flatMap] at hk
      obtain ⟨t, ht, hk⟩ := hk
      rw [List.mem_map] at hk
      obtain ⟨ts, hts, rfl⟩ := hk
      obtain ⟨g1, g2, g3⟩ := mem_rows h hj hts
      have ht2 := h s i m (by omega) hb.1 t ht
      refine ⟨?_, by simp [g2], fun u hu => ?_⟩
      · rw [lvL, show (s :: r).headD 0 = s from rfl, ht2]
        exact g1
      · rcases List.mem_cons.1 hu with rfl | hu
        · exact ⟨s, by simp, i, m, Nat.le_refl _, h2, hb.1, ht⟩
        · obtain ⟨s', hs', i', j', q1, q2, q3⟩ := g3 u hu
          exact ⟨s', List.mem_cons_of_mem _ hs', i', j', by omega, q2, q3⟩
    · cases hk
theorem flatMap_nodup {α β : Type} {f : α → List β} : ∀ {l : List α}, l.Nodup → (∀ x ∈ l, (f x).Nodup) → (∀ x ∈ l, ∀ y ∈ l, x ≠ y → ∀ b, b ∈ f x → b ∉ f y) → (l.flatMap f).Nodup
  | [], _, _, _ => by simp
  | x :: l, hn, h1, h2 => by
    obtain ⟨g1, g2⟩ := List.nodup_cons.1 hn
    rw [List.flatMap_cons]
    refine List.nodup_append.2 ⟨h1 x (by simp), flatMap_nodup g2 (fun y hy => h1 y (List.mem_cons_of_mem _ hy)) (fun y hy z hz => h2 y (List.mem_cons_of_mem _ hy) z (List.mem_cons_of_mem _ hz)), fun a ha b hb e => ?_⟩
    subst e
    obtain ⟨y, hy, hb⟩ := List.mem_flatMap.1 hb
    exact h2 x (by simp) y (List.mem_cons_of_mem _ hy) (fun e => g1 (e ▸ hy)) a ha hb
theorem map_nodup {α β : Type} {f : α → β} (hf : ∀ x y, f x = f y → x = y) {l : List α} (h : l.Nodup) : (l.map f).Nodup := by
  unfold List.Nodup
  rw [List.pairwise_map]
  exact h.imp (fun hne e => hne (hf _ _ e))
theorem mids_nodup (i j : Nat) : (mids i j).Nodup := map_nodup (fun x y e => by omega) List.nodup_range
theorem rows_nodup (h : LvF G inp C n tf) (ht : ∀ s i j, j ≤ n → stB C inp s i j = true → (tf s i j).Nodup) : ∀ {r : List Int} {i j : Nat}, j ≤ n → (rowsT C inp tf r i j).Nodup
  | [], i, j, hj => by
    rw [rowsT]
    split <;> simp
  | s :: r, i, j, hj => by
    rw [rowsT]
    refine flatMap_nodup (mids_nodup i j) (fun m hm => ?_) (fun m hm m' hm' hne b hb hb' => ?_)
    · obtain ⟨h1, h2⟩ := mem_mids.1 hm
      split
      · rename_i hb
        rw [Bool.and_eq_true] at hb
        refine flatMap_nodup (ht s i m (by omega) hb.1) (fun t _ => map_nodup (fun x y e => (List.cons.inj e).2) (rows_nodup h ht hj)) (fun t _ t' _ hne b hb hb' => ?_)
        obtain ⟨_, _, rfl⟩ := List.mem_map.1 hb
        obtain ⟨_, _, e⟩ := List.mem_map.1 hb'
        exact hne (List.cons.inj e).1.symm
      · simp
    · obtain ⟨h1, h2⟩ := mem_mids.1 hm
      obtain ⟨h1', h2'⟩ := mem_mids.1 hm'
      split at hb
      · rename_i q
        rw [Bool.and_eq_true] at q
        split at hb'
        · rename_i q'
          rw [Bool.and_eq_true] at q'
          obtain ⟨t, ht1, hb⟩ := List.mem_flatMap.1 hb
          obtain ⟨t', ht2, hb'⟩ := List.mem_flatMap.1 hb'
          obtain ⟨_, _, rfl⟩ := List.mem_map.1 hb
          obtain ⟨_, _, e⟩ := List.mem_map.1 hb'
          have e2 := (List.cons.inj e).1
          subst e2
          have a1 := h s i m (by omega) q.1 t' ht1
          have a2 := h s i m' (by omega) q'.1 t' ht2
          rw [a1] at a2
          simp only [Option.some.injEq] at a2
          exact hne a2
        · cases hb'
      · cases hb
end
section
variable {G : Gr} {inp : List Int} {C : Ct} {n : Nat}
theorem allOf_lv (hn : n ≤ inp.length) {tr : K3 → List Tr} (h : ∀ a i j : Nat, j ≤ n → (a, i, j) ∈ C.L → ∀ t ∈ tr (a, i, j), lvT G inp t (-1 - (a : Int)) i = some j) : LvF G inp C n (allOf tr) := fun s i j hj hs t ht => by
  unfold allOf at ht
  unfold stB at hs
  by_cases q : 0 ≤ s
  · rw [if_pos q] at ht hs
    obtain ⟨e1, e2⟩ := of_decide_eq_true hs
    rw [List.mem_singleton] at ht
    subst ht
    rw [lvT, if_pos q, if_pos ⟨rfl, rfl, rfl, by omega, e2⟩, e1]
  · rw [if_neg q] at ht hs
    obtain ⟨a, hA⟩ : ∃ a : Nat, s = -1 - (a : Int) := ⟨(-1 - s).toNat, by omega⟩
    subst hA
    rw [show (-1 - (-1 - (a : Int))).toNat = a by omega] at ht hs
    exact h a i j hj (of_decide_eq_true hs) t ht
theorem trees_lv (hn : n ≤ inp.length) : ∀ (f : Nat) (O : List K3) (a i j : Nat), j ≤ n → ∀ t ∈ treesT C G inp f O (a, i, j), lvT G inp t (-1 - (a : Int)) i = some j
  | 0, O, a, i, j, _, t, ht => by rw [treesT] at ht; cases ht
  | f + 1, O, a, i, j, hj, t, ht => by
    rw [treesT] at ht
    split at ht
    · cases ht
    · obtain ⟨p, hp, ht⟩ := List.mem_flatMap.1 ht
      split at ht
      · obtain ⟨ks, hks, rfl⟩ := List.mem_map.1 ht
        obtain ⟨g1, g2, _⟩ := mem_rows (allOf_lv hn (fun a i j hj _ t ht => trees_lv hn f _ a i j hj t ht)) hj hks
        obtain ⟨hp1, hp2⟩ := mem_byN.1 hp
        have e1 : (prodAt G (p : Int)).1 = (a : Int) := hp2
        have e2 : ks.length = (prodAt G (p : Int)).2.1.length := g2
        rw [lvT, if_neg (by omega), if_pos ⟨by omega, by omega, rfl, by rw [e1]; omega, e2.symm⟩]
        exact g1
      · cases ht
theorem byN_nodup (G : Gr) (a : Nat) : (byN G a).Nodup := List.nodup_range.filter _
theorem trees_nodup (hn : n ≤ inp.length) : ∀ (f : Nat) (O : List K3) (a i j : Nat), j ≤ n → (treesT C G inp f O (a, i, j)).Nodup
  | 0, O, a, i, j, _ => by rw [treesT]; simp
  | f + 1, O, a, i, j, hj => by
    rw [treesT]
    split
    · simp
    · refine flatMap_nodup (byN_nodup G a) (fun p hp => ?_) (fun p hp p' hp' hne b hb hb' => ?_)
      · split
        · refine map_nodup (fun x y e => by injection e) (rows_nodup (allOf_lv hn (fun a i j hj _ t ht => trees_lv hn f _ a i j hj t ht)) (fun s i' j' hj' _ => ?_) hj)
          unfold allOf
          split
          · simp
          · exact trees_nodup hn f _ _ i' j' hj'
        · simp
      · split at hb
        · split at hb'
          · obtain ⟨_, _, rfl⟩ := List.mem_map.1 hb
            obtain ⟨_, _, e⟩ := List.mem_map.1 hb'
            injection e with e1
            exact hne (by omega)
          · cases hb'
        · cases hb
end
end Go.Proofs.YtiklbannoinioaaDoor
