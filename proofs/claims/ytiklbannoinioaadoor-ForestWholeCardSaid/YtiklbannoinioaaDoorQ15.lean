/- Plain: no two trees are shown alike. · Plain: how large the trees told can be. · Counting, plain: what count does; how large its numbers can be. -/
import Derived.Test.YtiklbannoinioaaDoorQ1
import Derived.Test.YtiklbannoinioaaDoorQ14
namespace Go.Proofs.YtiklbannoinioaaDoor
set_option linter.unusedVariables false
set_option linter.unusedSimpArgs false

theorem dg_inj {a b : Nat} (ha : a < 10) (hb : b < 10) (h : UInt8.ofNat (48 + a) = UInt8.ofNat (48 + b)) : a = b := by
  have := congrArg UInt8.toNat h
  simp only [UInt8.toNat_ofNat'] at this
  omega
theorem ddg_ne (u : Nat) : Lib.decDigits u ≠ [] := by
  rw [Lib.decDigits]
  split <;> simp
theorem ddg_inj : ∀ (u v : Nat), Lib.decDigits u = Lib.decDigits v → u = v
  | u, v, h => by
    have hu : Lib.decDigits u = if u < 10 then [UInt8.ofNat (48 + u)] else Lib.decDigits (u / 10) ++ [UInt8.ofNat (48 + u % 10)] := by
      rw [Lib.decDigits]; split <;> rfl
    have hv : Lib.decDigits v = if v < 10 then [UInt8.ofNat (48 + v)] else Lib.decDigits (v / 10) ++ [UInt8.ofNat (48 + v % 10)] := by
      rw [Lib.decDigits]; split <;> rfl
    rw [hu, hv] at h
    by_cases q : u < 10
    · by_cases r : v < 10
      · rw [if_pos q, if_pos r] at h
        exact dg_inj q r (by simpa using h)
      · rw [if_pos q, if_neg r] at h
        have := congrArg List.length h
        simp at this
        exact absurd this (ddg_ne _)
    · by_cases r : v < 10
      · rw [if_neg q, if_pos r] at h
        have := congrArg List.length h
        simp at this
        exact absurd this (ddg_ne _)
      · rw [if_neg q, if_neg r] at h
        obtain ⟨h1, h2⟩ := List.append_inj' h rfl
        have e1 := ddg_inj (u / 10) (v / 10) h1
        have e2 := dg_inj (Nat.mod_lt u (by omega)) (Nat.mod_lt v (by omega)) (by simpa using h2)
        omega
termination_by u => u
decreasing_by omega
/-- A digit. -/
def dgB (c : UInt8) : Bool := decide (48 ≤ c.toNat ∧ c.toNat ≤ 57)
theorem ddg_all : ∀ (u : Nat), ∀ c ∈ Lib.decDigits u, dgB c = true
  | u, c, h => by
    rw [Lib.decDigits] at h
    by_cases q : u < 10
    · rw [dif_pos q, List.mem_singleton] at h
      subst h
      unfold dgB
      simp only [UInt8.toNat_ofNat']
      exact decide_eq_true (by omega)
    · rw [dif_neg q, List.mem_append, List.mem_singleton] at h
      rcases h with h | h
      · exact ddg_all (u / 10) c h
      · subst h
        unfold dgB
        simp only [UInt8.toNat_ofNat']
        exact decide_eq_true (by omega)
termination_by u => u
decreasing_by omega
/-- Behind a number: nothing, or no digit. -/
def Stp (a : List UInt8) : Prop := a = [] ∨ ∃ c a', a = c :: a' ∧ dgB c = false
theorem take_dg {l a : List UInt8} (hl : ∀ c ∈ l, dgB c = true) (ha : Stp a) : (l ++ a).takeWhile dgB = l := by
  induction l with
  | nil =>
    rcases ha with rfl | ⟨c, a', rfl, hc⟩
    · rfl
    · simp [List.takeWhile, hc]
  | cons x l ih =>
    rw [List.cons_append, List.takeWhile_cons, if_pos (hl x (by simp)), ih (fun c hc => hl c (List.mem_cons_of_mem _ hc))]
theorem ddg_app {u v : Nat} {a b : List UInt8} (ha : Stp a) (hb : Stp b) (h : Lib.decDigits u ++ a = Lib.decDigits v ++ b) : u = v ∧ a = b := by
  have h1 := take_dg (ddg_all u) ha
  have h2 := take_dg (ddg_all v) hb
  rw [h] at h1
  have h3 := h1.symm.trans h2
  have h4 := ddg_inj u v h3
  subst h4
  exact ⟨rfl, List.append_cancel_left h⟩
/-- A tree as charts tell it. -/
inductive PlT : Tr → Prop where
  | leaf (i : Nat) : PlT (.node (-1) (i : Int) [])
  | node (p : Nat) {ks : List Tr} : (∀ k ∈ ks, PlT k) → PlT (.node (p : Int) 0 ks)
theorem itoa_nat (u : Nat) : Lib.itoa (u : Int) = Lib.decDigits u := by unfold Lib.itoa; rw [if_neg (by omega)]; simp
theorem showL_stp (ks : List Tr) (a : List UInt8) : Stp (showL ks ++ ([41] ++ a)) := by
  cases ks with
  | nil => exact .inr ⟨41, a, by rw [showL]; rfl, by decide⟩
  | cons k ks => exact .inr ⟨32, showT k ++ (showL ks ++ ([41] ++ a)), by rw [showL]; simp, by decide⟩
mutual
theorem show_inj : ∀ (t t' : Tr) (a b : List UInt8), PlT t → PlT t' → Stp a → Stp b → showT t ++ a = showT t' ++ b → t = t' ∧ a = b
  | .nil, t', a, b, h, _, _, _, _ => by cases h
  | .node p tok ks, t', a, b, h, h', ha, hb, e => by
    cases h with
    | leaf i =>
      have e1 : showT (.node (-1) (i : Int) []) = Lib.decDigits i := by rw [showT, if_pos (by decide), itoa_nat]
      rw [e1] at e
      cases h' with
      | leaf i' =>
        have e2 : showT (.node (-1) (i' : Int) []) = Lib.decDigits i' := by rw [showT, if_pos (by decide), itoa_nat]
        rw [e2] at e
        obtain ⟨rfl, e3⟩ := ddg_app ha hb e
        exact ⟨rfl, e3⟩
      | node p' hk' =>
        rw [showT, if_neg (by omega)] at e
        obtain ⟨x, xs, ex⟩ := List.exists_cons_of_ne_nil (ddg_ne i)
        have hx := ddg_all i x (by rw [ex]; simp)
        rw [ex] at e
        simp only [List.cons_append, List.nil_append, List.append_assoc] at e
        have := (List.cons.inj e).1
        subst this
        exact absurd hx (by decide)
    | node p hk =>
      cases h' with
      | leaf i' =>
        have e2 : showT (.node (-1) (i' : Int) []) = Lib.decDigits i' := by rw [showT, if_pos (by decide), itoa_nat]
        rw [e2, showT, if_neg (by omega)] at e
        obtain ⟨x, xs, ex⟩ := List.exists_cons_of_ne_nil (ddg_ne i')
        have hx := ddg_all i' x (by rw [ex]; simp)
        rw [ex] at e
        simp only [List.cons_append, List.nil_append, List.append_assoc] at e
        have := (List.cons.inj e).1
        subst this
        exact absurd hx (by decide)
      | node p' hk' =>
        rename_i ks'
        rw [showT, showT, if_neg (by omega), if_neg (by omega), itoa_nat, itoa_nat] at e
        simp only [List.cons_append, List.nil_append, List.append_assoc] at e
        have e1 := (List.cons.inj e).2
        obtain ⟨e2, e3⟩ := ddg_app (u := p) (v := p') (showL_stp ks a) (showL_stp ks' b) e1
        obtain ⟨e4, e5⟩ := showL_inj ks ks' a b hk hk' e3
        subst e2 e4
        exact ⟨rfl, e5⟩
theorem showL_inj : ∀ (ks ks' : List Tr) (a b : List UInt8), (∀ k ∈ ks, PlT k) → (∀ k ∈ ks', PlT k) → showL ks ++ ([41] ++ a) = showL ks' ++ ([41] ++ b) → ks = ks' ∧ a = b
  | [], [], a, b, _, _, e => by
    rw [showL] at e
    exact ⟨rfl, by simpa using e⟩
  | [], k' :: ks', a, b, _, _, e => by
    rw [showL, showL] at e
    simp only [List.nil_append, List.cons_append, List.append_assoc] at e
    have := (List.cons.inj e).1
    exact absurd this (by decide)
  | k :: ks, [], a, b, _, _, e => by
    rw [showL, showL] at e
    simp only [List.nil_append, List.cons_append, List.append_assoc] at e
    have := (List.cons.inj e).1
    exact absurd this (by decide)
  | k :: ks, k' :: ks', a, b, h, h', e => by
    rw [showL, showL] at e
    simp only [List.nil_append, List.cons_append, List.append_assoc] at e
    have e1 := (List.cons.inj e).2
    obtain ⟨e2, e3⟩ := show_inj k k' _ _ (h k (by simp)) (h' k' (by simp)) (showL_stp ks a) (showL_stp ks' b) e1
    obtain ⟨e4, e5⟩ := showL_inj ks ks' a b (fun x hx => h x (List.mem_cons_of_mem _ hx)) (fun x hx => h' x (List.mem_cons_of_mem _ hx)) e3
    exact ⟨by rw [e2, e4], e5⟩
end
section
variable {G : Gr} {inp : List Int} {C : Ct}
theorem rows_mem {tf : Int → Nat → Nat → List Tr} : ∀ {r : List Int} {i j : Nat} {ks : List Tr}, ks ∈ rowsT C inp tf r i j → ks.length = r.length ∧ ∀ t ∈ ks, ∃ s ∈ r, ∃ i' j', i ≤ i' ∧ j' ≤ j ∧ stB C inp s i' j' = true ∧ t ∈ tf s i' j'
  | [], i, j, ks, hk => by
    rw [rowsT] at hk
    split at hk
    · rw [List.mem_singleton] at hk
      subst hk
      exact ⟨rfl, fun t ht => by cases ht⟩
    · cases hk
  | s :: r, i, j, ks, hk => by
    rw [rowsT, List.mem_flatMap] at hk
    obtain ⟨m, hm, hk⟩ := hk
    obtain ⟨h1, h2⟩ := mem_mids.1 hm
    split at hk
    · rename_i hb
      rw [Bool.and_eq_true] at hb
      obtain ⟨t, ht, hk⟩ := List.mem_flatMap.1 hk
      obtain ⟨ts, hts, rfl⟩ := List.mem_map.1 hk
      obtain ⟨g2, g3⟩ := rows_mem hts
      refine ⟨by simp [g2], fun u hu => ?_⟩
      rcases List.mem_cons.1 hu with rfl | hu
      · exact ⟨s, by simp, i, m, Nat.le_refl _, h2, hb.1, ht⟩
      · obtain ⟨s', hs', i', j', q1, q2, q3⟩ := g3 u hu
        exact ⟨s', List.mem_cons_of_mem _ hs', i', j', by omega, q2, q3⟩
    · cases hk
theorem trees_pl : ∀ (f : Nat) (O : List K3) (x : K3), ∀ t ∈ treesT C G inp f O x, PlT t
  | 0, O, x, t, ht => by rw [treesT] at ht; cases ht
  | f + 1, O, x, t, ht => by
    rw [treesT] at ht
    split at ht
    · cases ht
    · obtain ⟨p, hp, ht⟩ := List.mem_flatMap.1 ht
      split at ht
      · obtain ⟨ks, hks, rfl⟩ := List.mem_map.1 ht
        refine .node p (fun u hu => ?_)
        obtain ⟨s, _, i', j', _, _, _, hu2⟩ := (rows_mem hks).2 u hu
        unfold allOf at hu2
        split at hu2
        · rw [List.mem_singleton] at hu2
          subst hu2
          exact .leaf i'
        · exact trees_pl f _ _ u hu2
      · cases ht
end
theorem show_one {t t' : Tr} (h : PlT t) (h' : PlT t') (e : showT t = showT t') : t = t' :=
  (show_inj t t' [] [] h h' (.inl rfl) (.inl rfl) (by rw [e])).1
end Go.Proofs.YtiklbannoinioaaDoor
namespace Go.Proofs.YtiklbannoinioaaDoor
set_option linter.unusedVariables false
set_option linter.unusedSimpArgs false

/-- How many names may yet be opened at a place. -/
def freeN (O : List K3) (i j : Nat) : Nat := ((List.range 8).filter fun a => decide ((a, i, j) ∉ O)).length
theorem freeN_le (O : List K3) (i j : Nat) : freeN O i j ≤ 8 := by
  have := List.length_filter_le (fun a => decide ((a, i, j) ∉ O)) (List.range 8)
  rw [List.length_range] at this
  exact this
theorem filter_lt {α : Type} [DecidableEq α] {p q : α → Bool} : ∀ {l : List α}, (∀ x ∈ l, q x = true → p x = true) → ∀ {a : α}, a ∈ l → p a = true → q a = false → (l.filter q).length + 1 ≤ (l.filter p).length
  | [], _, a, h, _, _ => by cases h
  | x :: l, hs, a, h, hp, hq => by
    have hsub : (l.filter q).length ≤ (l.filter p).length := by
      clear h
      induction l with
      | nil => simp
      | cons y l ih =>
        have h1 := hs y (by simp)
        have h2 := ih (fun z hz => hs z (by rcases List.mem_cons.1 hz with rfl | hz; simp; simp [hz]))
        by_cases e : q y = true
        · rw [List.filter_cons_of_pos e, List.filter_cons_of_pos (h1 e)]; simp; exact h2
        · rw [List.filter_cons_of_neg e]
          by_cases e2 : p y = true
          · rw [List.filter_cons_of_pos e2]; simp; omega
          · rw [List.filter_cons_of_neg e2]; exact h2
    rcases List.mem_cons.1 h with rfl | h
    · rw [List.filter_cons_of_pos hp, List.filter_cons_of_neg (by rw [hq]; simp)]
      simp
      exact hsub
    · have ih := filter_lt (fun y hy => hs y (List.mem_cons_of_mem _ hy)) h hp hq
      by_cases e : q x = true
      · rw [List.filter_cons_of_pos e, List.filter_cons_of_pos (hs x (by simp) e)]; simp; omega
      · rw [List.filter_cons_of_neg e]
        by_cases e2 : p x = true
        · rw [List.filter_cons_of_pos e2]; simp; omega
        · rw [List.filter_cons_of_neg e2]; exact ih
theorem freeN_cons {O : List K3} {a i j : Nat} (ha : a < 8) (hO : (a, i, j) ∉ O) : freeN ((a, i, j) :: O) i j + 1 ≤ freeN O i j := by
  unfold freeN
  refine filter_lt (fun b _ h => ?_) (List.mem_range.2 ha) (decide_eq_true hO) (by simp)
  have h2 := of_decide_eq_true h
  exact decide_eq_true (fun q => h2 (List.mem_cons_of_mem _ q))
def zN : Nat → Nat
  | 0 => 0
  | d + 1 => 1 + 5 * zN d
theorem zN_mono {a b : Nat} (h : a ≤ b) : zN a ≤ zN b := by
  induction b with
  | zero => have : a = 0 := by omega
            subst this; exact Nat.le_refl _
  | succ b ih =>
    by_cases q : a ≤ b
    · have := ih q
      rw [show zN (b + 1) = 1 + 5 * zN b from rfl]
      omega
    · have : a = b + 1 := by omega
      subst this; exact Nat.le_refl _
theorem zN_top {a : Nat} (h : a ≤ 8) : zN a ≤ 97656 := Nat.le_trans (zN_mono h) (by decide)
section
variable {G : Gr} {inp : List Int} {C : Ct} {tf : Int → Nat → Nat → List Tr}
theorem rows_sz (i j H Z : Nat) (hb : ∀ s i' j', i ≤ i' → i' ≤ j' → j' ≤ j → ∀ t ∈ tf s i' j', (i' = j' → szT t ≤ Z) ∧ (i' = i → j' = j → i < j → szT t ≤ H) ∧ (i' < j' → (i' ≠ i ∨ j' ≠ j) → szT t + 4500000 ≤ 8500000 * (j' - i'))) :
    ∀ (r : List Int) (i' : Nat) (ks : List Tr), i ≤ i' → i' ≤ j → ks ∈ rowsT C inp tf r i' j → (i' = j → szL ks ≤ r.length * Z) ∧ (i < i' → i' < j → szL ks + 4500000 ≤ 8500000 * (j - i') + r.length * Z) ∧ (i' = i → i < j → szL ks ≤ H + r.length * Z ∨ szL ks + 9000000 ≤ 8500000 * (j - i) + r.length * Z)
  | [], i', ks, h1, h2, hk => by
    rw [rowsT] at hk
    split at hk
    · rename_i e
      rw [List.mem_singleton] at hk
      subst hk
      rw [szL]
      exact ⟨fun _ => Nat.zero_le _, fun _ q => by omega, fun q1 q2 => by omega⟩
    · cases hk
  | s :: r, i', ks, h1, h2, hk => by
    rw [rowsT, List.mem_flatMap] at hk
    obtain ⟨m, hm, hk⟩ := hk
    obtain ⟨g1, g2⟩ := mem_mids.1 hm
    split at hk
    · obtain ⟨t, ht, hk⟩ := List.mem_flatMap.1 hk
      obtain ⟨ts, hts, rfl⟩ := List.mem_map.1 hk
      obtain ⟨a1, a2, a3⟩ := rows_sz i j H Z hb r m ts (by omega) g2 hts
      obtain ⟨b1, b2, b3⟩ := hb s i' m h1 g1 g2 t ht
      rw [szL, List.length_cons, Nat.add_mul, Nat.one_mul]
      refine ⟨fun e => ?_, fun e1 e2 => ?_, fun e1 e2 => ?_⟩
      · have em : m = j := by omega
        have := a1 em
        have := b1 (by omega)
        omega
      · by_cases q1 : m = i'
        · have := b1 q1.symm
          have := a2 (by omega) (by omega)
          rw [q1] at this
          omega
        · have c1 := b3 (by omega) (.inl (by omega))
          by_cases q2 : m = j
          · have := a1 q2
            rw [q2] at c1
            omega
          · have := a2 (by omega) (by omega)
            omega
      · subst e1
        by_cases q1 : m = i'
        · have := b1 q1.symm
          have := a3 q1 e2
          omega
        · by_cases q2 : m = j
          · have := a1 q2
            have := b2 rfl q2 e2
            omega
          · have := a2 (by omega) (by omega)
            have := b3 (by omega) (.inr q2)
            omega
    · cases hk
theorem trees_sz (hR : ∀ p, p < G.prods.length → (rtN G p).length ≤ 5) (hC : ∀ x ∈ C.L, x.2.1 ≤ x.2.2 ∧ x.1 < 8) : ∀ (f : Nat) (O : List K3) (a i j : Nat), ∀ t ∈ treesT C G inp f O (a, i, j), (i = j → szT t ≤ zN (freeN O i j)) ∧ (i < j → szT t ≤ 8500000 * (j - i - 1) + 500000 * freeN O i j)
  | 0, O, a, i, j, t, ht => by rw [treesT] at ht; cases ht
  | f + 1, O, a, i, j, t, ht => by
    rw [treesT] at ht
    split at ht
    · cases ht
    · rename_i hno
      have h1 : (a, i, j) ∉ O := fun e => hno (.inl e)
      have h2 : (a, i, j) ∈ C.L := Classical.byContradiction fun e => hno (.inr e)
      obtain ⟨hij, ha⟩ := hC _ h2
      simp only at hij ha
      have hfr := freeN_cons (j := j) (i := i) ha h1
      have hf8 := freeN_le O i j
      obtain ⟨p, hp, ht⟩ := List.mem_flatMap.1 ht
      have hr5 := hR p (mem_byN.1 hp).1
      split at ht
      · obtain ⟨ks, hks, rfl⟩ := List.mem_map.1 ht
        rw [szT]
        by_cases q : i = j
        · subst q
          have hb : ∀ s i' j', i ≤ i' → i' ≤ j' → j' ≤ i → ∀ t ∈ allOf (treesT C G inp f ((a, i, i) :: O)) s i' j', s < 0 → szT t ≤ zN (freeN ((a, i, i) :: O) i i) := fun s i' j' g1 g2 g3 t ht hs => by
            unfold allOf at ht
            rw [if_neg (by omega)] at ht
            have e1 : i' = i := by omega
            have e2 : j' = i := by omega
            subst e1 e2
            exact (trees_sz hR hC f _ _ _ _ t ht).1 rfl
          refine ⟨fun _ => ?_, fun e => absurd e (Nat.lt_irrefl _)⟩
          have hrow : ∀ (r : List Int) (ks : List Tr), ks ∈ rowsT C inp (allOf (treesT C G inp f ((a, i, i) :: O))) r i i → szL ks ≤ r.length * zN (freeN ((a, i, i) :: O) i i) := fun r => by
            induction r with
            | nil =>
              intro ks hks
              rw [rowsT, if_pos rfl, List.mem_singleton] at hks
              subst hks
              rw [szL]
              exact Nat.zero_le _
            | cons s r ih =>
              intro ks hks
              rw [rowsT, List.mem_flatMap] at hks
              obtain ⟨m, hm, hks⟩ := hks
              obtain ⟨g1, g2⟩ := mem_mids.1 hm
              have em : m = i := by omega
              subst em
              split at hks
              · rename_i hst
                rw [Bool.and_eq_true] at hst
                obtain ⟨t, ht, hks⟩ := List.mem_flatMap.1 hks
                obtain ⟨ts, hts, rfl⟩ := List.mem_map.1 hks
                have c1 := ih ts hts
                have hs : s < 0 := by
                  by_cases q : 0 ≤ s
                  · have := hst.1
                    unfold stB at this
                    rw [if_pos q] at this
                    have := (of_decide_eq_true this).1
                    omega
                  · omega
                have c2 := hb s m m (Nat.le_refl _) (Nat.le_refl _) (Nat.le_refl _) t ht hs
                rw [szL, List.length_cons, Nat.add_mul, Nat.one_mul]
                omega
              · cases hks
          have c := hrow _ ks hks
          obtain ⟨d, hd⟩ : ∃ d, freeN O i i = d + 1 := ⟨freeN O i i - 1, by omega⟩
          have hz : zN (freeN ((a, i, i) :: O) i i) ≤ zN d := zN_mono (by omega)
          have c2 : (rtN G p).length * zN (freeN ((a, i, i) :: O) i i) ≤ 5 * zN d := Nat.mul_le_mul hr5 hz
          rw [hd, show zN (d + 1) = 1 + 5 * zN d from rfl]
          omega
        · have hlt : i < j := by omega
          refine ⟨fun e => absurd e q, fun _ => ?_⟩
          have hb := rows_sz (C := C) (inp := inp) (tf := allOf (treesT C G inp f ((a, i, j) :: O))) i j (8500000 * (j - i - 1) + 500000 * freeN ((a, i, j) :: O) i j + 1) 97656 (fun s i' j' g1 g2 g3 t ht => by
            unfold allOf at ht
            by_cases q0 : 0 ≤ s
            · rw [if_pos q0, List.mem_singleton] at ht
              subst ht
              have e : szT (.node (-1) (i' : Int) []) = 1 := by rw [szT, szL]
              rw [e]
              exact ⟨fun _ => by omega, fun _ _ _ => by omega, fun e1 _ => by omega⟩
            · rw [if_neg q0] at ht
              obtain ⟨c1, c2⟩ := trees_sz hR hC f _ _ _ _ t ht
              have c3 := freeN_le ((a, i, j) :: O) i' j'
              refine ⟨fun e => Nat.le_trans (c1 e) (zN_top c3), fun e1 e2 e3 => ?_, fun e1 e2 => ?_⟩
              · subst e1 e2
                have := c2 e3
                omega
              · have := c2 e1
                omega) (rtN G p) i ks (Nat.le_refl _) hij hks
          have c := hb.2.2 rfl hlt
          have c5 : (rtN G p).length * 97656 ≤ 488280 := by omega
          rcases c with c | c <;> omega
      · cases ht
end
end Go.Proofs.YtiklbannoinioaaDoor
namespace Go.Proofs.YtiklbannoinioaaDoor
set_option linter.unusedVariables false
set_option linter.unusedSimpArgs false

/-- The numbers told so far, the latest first; were there too many? -/
structure CS where
  M : List (K3 × Nat)
  many : Bool
def lkK : List (K3 × Nat) → K3 → Option Nat
  | [], _ => none
  | e :: M, x => if x = e.1 then some e.2 else lkK M x
def wStep (C : Ct) (inp : List Int) (cnt : CS → K3 → CS × Nat) (wy : Nat → CS → CS × Nat) (ok : Nat → Bool) (s : Int) (tq : Nat) (q : CS × Nat) (m : Nat) : CS × Nat :=
  if ok m && stB C inp s m tq then
    ((wy m (if 0 ≤ s then (q.1, 1) else cnt q.1 ((-1 - s).toNat, m, tq)).1).1, q.2 + (wy m (if 0 ≤ s then (q.1, 1) else cnt q.1 ((-1 - s).toNat, m, tq)).1).2 * (if 0 ≤ s then (q.1, 1) else cnt q.1 ((-1 - s).toNat, m, tq)).2)
  else q
def waysP (C : Ct) (G : Gr) (inp : List Int) (cnt : CS → K3 → CS × Nat) (p i : Nat) : Nat → Nat → CS → CS × Nat
  | 0, tq, σ => if fitB C p 0 i tq then (σ, 1) else (σ, 0)
  | at_ + 1, tq, σ => if fitB C p (at_ + 1) i tq then (mids i tq).foldl (wStep C inp cnt (fun m σ => waysP C G inp cnt p i at_ m σ) (fun m => fitB C p at_ i m) (nth (rtN G p) at_) tq) (σ, 0) else (σ, 0)
def pStep (C : Ct) (G : Gr) (inp : List Int) (cnt : CS → K3 → CS × Nat) (x : K3) (q : CS × Nat) (p : Nat) : CS × Nat :=
  ((waysP C G inp cnt p x.2.1 (rtN G p).length x.2.2 q.1).1, q.2 + (waysP C G inp cnt p x.2.1 (rtN G p).length x.2.2 q.1).2)
def cntP (C : Ct) (G : Gr) (inp : List Int) : Nat → List K3 → CS → K3 → CS × Nat
  | 0, O, σ, x => match lkK σ.M x with
    | some v => (σ, v)
    | none => (⟨σ.M, true⟩, 0)
  | f + 1, O, σ, x => match lkK σ.M x with
    | some v => (σ, v)
    | none => if x ∈ O ∨ σ.many = true then (⟨σ.M, true⟩, 0)
      else (⟨(x, ((byN G x.1).foldl (pStep C G inp (cntP C G inp f (x :: O)) x) (σ, 0)).2) :: ((byN G x.1).foldl (pStep C G inp (cntP C G inp f (x :: O)) x) (σ, 0)).1.M, ((byN G x.1).foldl (pStep C G inp (cntP C G inp f (x :: O)) x) (σ, 0)).1.many⟩, ((byN G x.1).foldl (pStep C G inp (cntP C G inp f (x :: O)) x) (σ, 0)).2)

/-! ### bounds -/
def zB : Nat → Nat
  | 0 => 0
  | k + 1 => 20 + 5 * zB k
theorem zB_mono {a b : Nat} (h : a ≤ b) : zB a ≤ zB b := by
  induction b with
  | zero => have : a = 0 := by omega
            subst this; exact Nat.le_refl _
  | succ b ih =>
    by_cases q : a ≤ b
    · have := ih q
      rw [show zB (b + 1) = 20 + 5 * zB b from rfl]
      omega
    · have : a = b + 1 := by omega
      subst this; exact Nat.le_refl _
theorem zB_top {a : Nat} (h : a ≤ 8) : zB a ≤ 1953120 := Nat.le_trans (zB_mono h) (by decide)
def phi (w k : Nat) : Nat := if w = 0 then zB k else 166600000 * (w - 1) + 9800000 * k
theorem phi_mono {w a b : Nat} (h : a ≤ b) : phi w a ≤ phi w b := by
  unfold phi
  split
  · exact zB_mono h
  · omega
def scM (M : List (K3 × Nat)) (i j : Nat) : Nat := (M.filter fun e => decide (e.1.2 = (i, j))).length
theorem scM_app (N M : List (K3 × Nat)) (i j : Nat) : scM M i j ≤ scM (N ++ M) i j := by
  unfold scM
  rw [List.filter_append, List.length_append]
  omega
theorem scM_cons (x : K3) (v : Nat) (M : List (K3 × Nat)) : scM ((x, v) :: M) x.2.1 x.2.2 = scM M x.2.1 x.2.2 + 1 := by
  unfold scM
  rw [List.filter_cons_of_pos (by simp)]
  rfl
inductive MB : List (K3 × Nat) → Prop where
  | nil : MB []
  | cons {x : K3} {v : Nat} {M : List (K3 × Nat)} : MB M → (∀ e ∈ M, e.1 ≠ x) → x.1 < 8 → x.2.1 ≤ x.2.2 → x.2.2 ≤ 7 → v < 2 ^ phi (x.2.2 - x.2.1) (scM M x.2.1 x.2.2 + 1) → MB ((x, v) :: M)
theorem MB.names {M : List (K3 × Nat)} (h : MB M) (i j : Nat) : ((M.filter fun e => decide (e.1.2 = (i, j))).map fun e => e.1.1).Nodup ∧ ∀ a ∈ (M.filter fun e => decide (e.1.2 = (i, j))).map fun e => e.1.1, a < 8 := by
  induction h with
  | nil => exact ⟨by simp, fun a h => by simp at h⟩
  | @cons x v M h1 h2 h3 h4 h45 h5 ih =>
    by_cases q : x.2 = (i, j)
    · rw [List.filter_cons_of_pos (by simpa using q), List.map_cons]
      refine ⟨List.nodup_cons.2 ⟨fun hm => ?_, ih.1⟩, fun a ha => ?_⟩
      · rw [List.mem_map] at hm
        obtain ⟨e, he, e2⟩ := hm
        rw [List.mem_filter] at he
        have e3 := of_decide_eq_true he.2
        exact h2 e he.1 (Prod.ext e2 (e3.trans q.symm))
      · rcases List.mem_cons.1 ha with rfl | ha
        · exact h3
        · exact ih.2 a ha
    · rw [List.filter_cons_of_neg (by simpa using q)]
      exact ih
theorem MB.sc {M : List (K3 × Nat)} (h : MB M) (i j : Nat) : scM M i j ≤ 8 := by
  obtain ⟨h1, h2⟩ := h.names i j
  have := nodup_subK _ (List.range 8) h1 (fun a ha => List.mem_range.2 (h2 a ha))
  simpa [scM] using this
theorem MB.sc7 {M : List (K3 × Nat)} (h : MB M) {x : K3} (hx : x.1 < 8) (hn : ∀ e ∈ M, e.1 ≠ x) : scM M x.2.1 x.2.2 + 1 ≤ 8 := by
  obtain ⟨h1, h2⟩ := h.names x.2.1 x.2.2
  have := nodup_subK (x.1 :: (M.filter fun e => decide (e.1.2 = (x.2.1, x.2.2))).map fun e => e.1.1) (List.range 8) (List.nodup_cons.2 ⟨fun hm => by
    rw [List.mem_map] at hm
    obtain ⟨e, he, e2⟩ := hm
    rw [List.mem_filter] at he
    have e3 := of_decide_eq_true he.2
    exact hn e he.1 (Prod.ext e2 e3), h1⟩) (fun a ha => by
      rcases List.mem_cons.1 ha with rfl | ha
      · exact List.mem_range.2 hx
      · exact List.mem_range.2 (h2 a ha))
  simpa [scM] using this
theorem MB.len {M : List (K3 × Nat)} (h : MB M) : M.length ≤ 512 := by
  have key : (M.map fun e => (e.1.1 * 8 + e.1.2.1) * 8 + e.1.2.2).Nodup ∧ (∀ e ∈ M, e.1.1 < 8 ∧ e.1.2.1 < 8 ∧ e.1.2.2 < 8) := by
    induction h with
    | nil => exact ⟨by simp, fun e h => by cases h⟩
    | @cons x v M h1 h2 h3 h4 h45 h5 ih =>
      refine ⟨?_, fun e he => ?_⟩
      · rw [List.map_cons]
        refine List.nodup_cons.2 ⟨fun hm => ?_, ih.1⟩
        obtain ⟨e, he, e2⟩ := List.mem_map.1 hm
        have h6 := ih.2 e he
        dsimp only at e2
        exact h2 e he (Prod.ext (by omega) (Prod.ext (by omega) (by omega)))
      · rcases List.mem_cons.1 he with rfl | he
        · exact ⟨h3, by simp only; omega, by simp only; omega⟩
        · exact ih.2 e he
  have := nodup_subK _ (List.range 512) key.1 (fun a ha => by
    obtain ⟨e, he, rfl⟩ := List.mem_map.1 ha
    have := key.2 e he
    rw [List.mem_range]
    omega)
  simpa using this
theorem lk_mem : ∀ {M : List (K3 × Nat)} {x : K3} {v : Nat}, lkK M x = some v → (x, v) ∈ M
  | [], x, v, h => by cases h
  | e :: M, x, v, h => by
    rw [lkK] at h
    split at h
    · rename_i q
      cases h
      subst q
      simp
    · exact List.mem_cons_of_mem _ (lk_mem h)
theorem lk_none : ∀ {M : List (K3 × Nat)} {x : K3}, lkK M x = none → ∀ e ∈ M, e.1 ≠ x
  | [], x, h, e, he => by cases he
  | d :: M, x, h, e, he => by
    rw [lkK] at h
    split at h
    · cases h
    · rename_i q
      rcases List.mem_cons.1 he with rfl | he
      · exact fun e2 => q e2.symm
      · exact lk_none h e he
theorem MB.look {M : List (K3 × Nat)} (h : MB M) {x : K3} {v : Nat} (hl : lkK M x = some v) : v < 2 ^ phi (x.2.2 - x.2.1) (scM M x.2.1 x.2.2) := by
  induction h with
  | nil => cases hl
  | @cons y u M h1 h2 h3 h4 h45 h5 ih =>
    rw [lkK] at hl
    split at hl
    · rename_i q
      cases hl
      simp only at q
      subst q
      rw [scM_cons]
      exact h5
    · refine Nat.lt_of_lt_of_le (ih hl) (Nat.pow_le_pow_right (by decide) (phi_mono ?_))
      exact scM_app [(y, u)] M x.2.1 x.2.2
structure BI (O : List K3) (σ : CS) : Prop where
  mb : MB σ.M
  no : ∀ e ∈ σ.M, e.1 ∉ O
def Ext (σ σ' : CS) : Prop := (∃ N, σ'.M = N ++ σ.M) ∧ (σ.many = true → σ'.many = true)
theorem Ext.refl (σ : CS) : Ext σ σ := ⟨⟨[], rfl⟩, fun h => h⟩
theorem Ext.trans {a b c : CS} (h : Ext a b) (k : Ext b c) : Ext a c := by
  obtain ⟨⟨N, e⟩, h2⟩ := h
  obtain ⟨⟨N', e'⟩, k2⟩ := k
  exact ⟨⟨N' ++ N, by rw [e', e, List.append_assoc]⟩, fun q => k2 (h2 q)⟩
theorem Ext.sc {a b : CS} (h : Ext a b) (i j : Nat) : scM a.M i j ≤ scM b.M i j := by
  obtain ⟨⟨N, e⟩, _⟩ := h
  rw [e]
  exact scM_app N a.M i j
/-- How large the ways of at symbols are, from i to tq, below a span from i to j. -/
def Eb (i j K at_ tq : Nat) : Nat := if i = j then at_ * (zB K + 3) + 1 else if tq = i then at_ * 1953123 + 1 else if tq < j then 166600000 * (tq - i) - 88200000 + at_ * 1953123 + 1 else phi (j - i) K + at_ * 1953123 + 1
theorem pow_mul_lt {a b x y z : Nat} (ha : a < 2 ^ x) (hb : b < 2 ^ y) (hz : x + y ≤ z) : a * b < 2 ^ z := by
  have h1 : a * b < 2 ^ x * 2 ^ y := Nat.mul_lt_mul'' ha hb
  rw [← Nat.pow_add] at h1
  exact Nat.lt_of_lt_of_le h1 (Nat.pow_le_pow_right (by decide) hz)
section
variable {C : Ct} {G : Gr} {inp : List Int} {O : List K3} {cnt : CS → K3 → CS × Nat} {i j : Nat}
/-- What a count is like. -/
def CB (C : Ct) (O : List K3) (cnt : CS → K3 → CS × Nat) : Prop := ∀ σ y, BI O σ → y ∈ C.L → BI O (cnt σ y).1 ∧ Ext σ (cnt σ y).1 ∧ (cnt σ y).2 < 2 ^ phi (y.2.2 - y.2.1) (scM (cnt σ y).1.M y.2.1 y.2.2)
/-- The steps over places between. -/
theorem fold_bd (hC : ∀ x ∈ C.L, x.2.1 ≤ x.2.2 ∧ x.1 < 8) (hc : CB C O cnt) (hij : i ≤ j) {at_ tq : Nat} {s : Int} {ok : Nat → Bool} {wy : Nat → CS → CS × Nat} (htq : i ≤ tq ∧ tq ≤ j)
    (hw : ∀ m σ, i ≤ m → m ≤ tq → BI O σ → BI O (wy m σ).1 ∧ Ext σ (wy m σ).1 ∧ ∀ K, scM (wy m σ).1.M i j ≤ K → (wy m σ).2 < 2 ^ Eb i j K at_ m) :
    ∀ (ms : List Nat) (q : CS × Nat), (∀ m ∈ ms, i ≤ m ∧ m ≤ tq) → BI O q.1 → BI O (ms.foldl (wStep C inp cnt wy ok s tq) q).1 ∧ Ext q.1 (ms.foldl (wStep C inp cnt wy ok s tq) q).1 ∧ q.2 ≤ (ms.foldl (wStep C inp cnt wy ok s tq) q).2 ∧
      ∀ K, K ≤ 8 → scM (ms.foldl (wStep C inp cnt wy ok s tq) q).1.M i j ≤ K → (ms.foldl (wStep C inp cnt wy ok s tq) q).2 ≤ q.2 + ms.length * (2 ^ (Eb i j K (at_ + 1) tq - 3) - 1)
  | [], q, _, hb => ⟨hb, Ext.refl _, Nat.le_refl _, fun K _ _ => by simp⟩
  | m :: ms, q, hm, hb => by
    have hm0 := hm m (by simp)
    rw [List.foldl_cons]
    have step : BI O (wStep C inp cnt wy ok s tq q m).1 ∧ Ext q.1 (wStep C inp cnt wy ok s tq q m).1 ∧ q.2 ≤ (wStep C inp cnt wy ok s tq q m).2 ∧ ∀ K, K ≤ 8 → scM (wStep C inp cnt wy ok s tq q m).1.M i j ≤ K → (wStep C inp cnt wy ok s tq q m).2 ≤ q.2 + (2 ^ (Eb i j K (at_ + 1) tq - 3) - 1) := by
      unfold wStep
      by_cases hcond : (ok m && stB C inp s m tq) = true
      · rw [if_pos hcond]
        rw [Bool.and_eq_true] at hcond
        have hst := hcond.2
        unfold stB at hst
        have hk : ∃ k : CS × Nat, k = (if 0 ≤ s then (q.1, 1) else cnt q.1 ((-1 - s).toNat, m, tq)) ∧ BI O k.1 ∧ Ext q.1 k.1 ∧ ∀ σ', Ext k.1 σ' → BI O σ' → ∀ K, K ≤ 8 → scM σ'.M i j ≤ K → (m < tq ∨ m = tq) ∧ (m = tq → k.2 < 2 ^ (if i = j then zB K else 1953120)) ∧ (m < tq → (m ≠ i ∨ tq ≠ j) → k.2 < 2 ^ (166600000 * (tq - m) - 88200000)) ∧ (m = i → tq = j → i < j → k.2 < 2 ^ phi (j - i) K ∨ k.2 = 1) := by
          refine ⟨_, rfl, ?_⟩
          by_cases h0 : 0 ≤ s
          · rw [if_pos h0] at hst
            simp only [if_pos h0]
            have e1 := (of_decide_eq_true hst).1
            refine ⟨hb, Ext.refl _, fun σ' _ _ K _ _ => ⟨.inl (by omega), fun e => by omega, fun _ _ => ?_, fun _ _ _ => .inr (by first | rfl | trivial)⟩⟩
            exact Nat.one_lt_two_pow (by omega)
          · rw [if_neg h0] at hst
            simp only [if_neg h0]
            have hL := of_decide_eq_true hst
            obtain ⟨g1, g2, g3⟩ := hc q.1 _ hb hL
            refine ⟨g1, g2, fun σ' hx hb' K hK hsc => ⟨by omega, fun e => ?_, fun e1 e2 => ?_, fun e1 e2 e3 => ?_⟩⟩
            · subst e
              simp only [Nat.sub_self] at g3
              refine Nat.lt_of_lt_of_le g3 (Nat.pow_le_pow_right (by decide) ?_)
              unfold phi
              rw [if_pos rfl]
              by_cases q0 : i = j
              · rw [if_pos q0]
                have em : m = i := by omega
                have e1 : m = j := by omega
                refine zB_mono (Nat.le_trans ?_ hsc)
                have := hx.sc i j
                have e2 : scM (cnt q.1 ((-1 - s).toNat, m, m)).1.M m m = scM (cnt q.1 ((-1 - s).toNat, m, m)).1.M i j := by rw [← q0, em]
                omega
              · rw [if_neg q0]
                exact zB_top (g1.mb.sc m m)
            · simp only at g3
              refine Nat.lt_of_lt_of_le g3 (Nat.pow_le_pow_right (by decide) ?_)
              unfold phi
              rw [if_neg (by omega)]
              have := g1.mb.sc m tq
              omega
            · subst e1 e2
              simp only at g3
              refine .inl (Nat.lt_of_lt_of_le g3 (Nat.pow_le_pow_right (by decide) (phi_mono ?_)))
              have := hx.sc m tq
              omega
        obtain ⟨k, hk0, hk1, hk2, hk3⟩ := hk
        rw [← hk0]
        obtain ⟨w1, w2, w3⟩ := hw m k.1 hm0.1 hm0.2 hk1
        refine ⟨w1, hk2.trans w2, Nat.le_add_right _ _, fun K hK hsc => ?_⟩
        simp only at hsc ⊢
        obtain ⟨c0, c1, c2, c3⟩ := hk3 _ w2 w1 K hK hsc
        have hv := w3 K hsc
        have hzK := zB_top hK
        suffices h : (wy m k.1).2 * k.2 < 2 ^ (Eb i j K (at_ + 1) tq - 3) by omega
        by_cases qij : i = j
        · have em : m = i := by omega
          have et : tq = i := by omega
          have hk := c1 (by omega)
          rw [if_pos qij] at hk
          refine pow_mul_lt hv hk ?_
          unfold Eb
          rw [if_pos qij, if_pos qij, Nat.add_mul]
          omega
        · rcases c0 with c0 | c0
          · by_cases q1 : m = i ∧ tq = j
            · have hv2 : (wy m k.1).2 < 2 ^ (at_ * 1953123 + 1) := by
                have := hv
                unfold Eb at this
                rwa [if_neg qij, if_pos q1.1] at this
              have hE : Eb i j K (at_ + 1) tq - 3 = phi (j - i) K + (at_ * 1953123 + 1) + 1953120 := by
                unfold Eb
                rw [if_neg qij, if_neg (by omega), if_neg (by omega), Nat.add_mul]
                omega
              rw [hE]
              rcases c3 q1.1 q1.2 (by omega) with hk | hk
              · exact pow_mul_lt hv2 hk (by omega)
              · rw [hk, Nat.mul_one]
                exact Nat.lt_of_lt_of_le hv2 (Nat.pow_le_pow_right (by decide) (by omega))
            · have hk := c2 c0 (by omega)
              refine pow_mul_lt hv hk ?_
              unfold Eb phi
              simp only [if_neg qij, Nat.add_mul]
              by_cases a1 : m = i
              · rw [if_pos a1, if_neg (by omega), if_pos (by omega)]
                omega
              · rw [if_neg a1, if_pos (by omega), if_neg (by omega)]
                by_cases a2 : tq < j
                · rw [if_pos a2]; omega
                · rw [if_neg a2, if_neg (by omega)]; omega
          · have hk := c1 c0
            rw [if_neg qij] at hk
            refine pow_mul_lt hv hk ?_
            subst c0
            unfold Eb
            simp only [if_neg qij, Nat.add_mul]
            split
            · omega
            · split <;> omega
      · rw [if_neg hcond]
        exact ⟨hb, Ext.refl _, Nat.le_refl _, fun K _ _ => Nat.le_add_right _ _⟩
    obtain ⟨s1, s2, s3, s4⟩ := step
    obtain ⟨r1, r2, r3, r4⟩ := fold_bd hC hc hij htq hw ms _ (fun m' hm' => hm m' (List.mem_cons_of_mem _ hm')) s1
    refine ⟨r1, s2.trans r2, Nat.le_trans s3 r3, fun K hK hsc => ?_⟩
    have h1 := r4 K hK hsc
    have h2 := s4 K hK (Nat.le_trans (r2.sc i j) hsc)
    rw [List.length_cons, Nat.add_mul, Nat.one_mul]
    omega
theorem ways_bd (hC : ∀ x ∈ C.L, x.2.1 ≤ x.2.2 ∧ x.1 < 8) (hc : CB C O cnt) (hij : i ≤ j) (h7 : j - i ≤ 7) (p : Nat) : ∀ (at_ tq : Nat) (σ : CS), i ≤ tq → tq ≤ j → BI O σ → BI O (waysP C G inp cnt p i at_ tq σ).1 ∧ Ext σ (waysP C G inp cnt p i at_ tq σ).1 ∧ ∀ K, K ≤ 8 → scM (waysP C G inp cnt p i at_ tq σ).1.M i j ≤ K → (waysP C G inp cnt p i at_ tq σ).2 < 2 ^ Eb i j K at_ tq
  | 0, tq, σ, h1, h2, hb => by
    have e : 1 ≤ Eb i j 0 0 tq := by unfold Eb; split; omega; split; omega; split <;> omega
    have hE : ∀ K, 1 ≤ Eb i j K 0 tq := fun K => by unfold Eb; split; omega; split; omega; split <;> omega
    rw [waysP]
    split
    · exact ⟨hb, Ext.refl _, fun K _ _ => Nat.one_lt_two_pow (by have := hE K; omega)⟩
    · exact ⟨hb, Ext.refl _, fun K _ _ => Nat.two_pow_pos _⟩
  | at_ + 1, tq, σ, h1, h2, hb => by
    rw [waysP]
    split
    · have hw : ∀ m σ, i ≤ m → m ≤ tq → BI O σ → BI O (waysP C G inp cnt p i at_ m σ).1 ∧ Ext σ (waysP C G inp cnt p i at_ m σ).1 ∧ ∀ K, scM (waysP C G inp cnt p i at_ m σ).1.M i j ≤ K → (waysP C G inp cnt p i at_ m σ).2 < 2 ^ Eb i j K at_ m := fun m σ g1 g2 hb => by
        obtain ⟨a1, a2, a3⟩ := ways_bd hC hc hij h7 p at_ m σ g1 (by omega) hb
        refine ⟨a1, a2, fun K hsc => ?_⟩
        by_cases q : K ≤ 8
        · exact a3 K q hsc
        · have h8 := a3 8 (Nat.le_refl _) (a1.mb.sc i j)
          refine Nat.lt_of_lt_of_le h8 (Nat.pow_le_pow_right (by decide) ?_)
          have hz := zB_mono (a := 8) (b := K) (by omega)
          have hp := phi_mono (w := j - i) (a := 8) (b := K) (by omega)
          have hmul := Nat.mul_le_mul (Nat.le_refl at_) (Nat.add_le_add_right hz 3)
          unfold Eb
          split
          · omega
          · split
            · omega
            · split <;> omega
      obtain ⟨a1, a2, a3, a4⟩ := fold_bd (inp := inp) hC hc hij ⟨h1, h2⟩ hw (ok := fun m => fitB C p at_ i m) (s := nth (rtN G p) at_) (mids i tq) (σ, 0) (fun m hm => mem_mids.1 hm) hb
      refine ⟨a1, a2, fun K hK hsc => ?_⟩
      have h := a4 K hK hsc
      rw [mids_len] at h
      have hE : 4 ≤ Eb i j K (at_ + 1) tq := by unfold Eb; rw [Nat.add_mul]; split; omega; split; omega; split <;> omega
      obtain ⟨e, he⟩ : ∃ e, Eb i j K (at_ + 1) tq = e + 3 := ⟨Eb i j K (at_ + 1) tq - 3, by omega⟩
      rw [he, Nat.add_sub_cancel] at h
      rw [he, Nat.pow_add]
      have hp := Nat.two_pow_pos e
      have h8 : (tq + 1 - i) * (2 ^ e - 1) ≤ 8 * (2 ^ e - 1) := Nat.mul_le_mul_right _ (by omega)
      dsimp only at h
      rw [Nat.zero_add] at h
      have h3 : 2 ^ e * 2 ^ 3 = 8 * 2 ^ e := by rw [Nat.mul_comm]
      rw [h3]
      refine Nat.lt_of_le_of_lt h ?_
      clear h
      generalize 2 ^ e = P at h8 hp ⊢
      omega
    · exact ⟨hb, Ext.refl _, fun K _ _ => Nat.two_pow_pos _⟩
end
end Go.Proofs.YtiklbannoinioaaDoor
