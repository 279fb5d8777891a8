/- The document's table of what differs: plain steps on rows of truths, and in memory. · The document's table of what differs, walked: its start. -/
import Derived.Test.YthikgdogfkjioaaGreatDoorQ14
import Derived.Test.YthikgdogfkjioaaGreatDoorQ16
import Derived.Test.YthikgdogfkjioaaGreatDoorQ6
import Derived.Deep.LoopGhost
namespace Go.Proofs.YthikgdogfkjioaaGreatDoor
open Go.RowKit BigFrame
set_option linter.unusedVariables false
set_option linter.unusedSimpArgs false
set_option maxRecDepth 100000

def dM (M : List (List Bool)) (s t : Nat) : Bool := bth (rowB M s) t
def setM (M : List (List Bool)) (i k : Nat) (b : Bool) : List (List Bool) := M.set i ((rowB M i).set k b)
theorem dM_set {M : List (List Bool)} {i k : Nat} {b : Bool} (hi : i < M.length) (hk : k < (rowB M i).length) (s t : Nat) : dM (setM M i k b) s t = if s = i ∧ t = k then b else dM M s t := by
  unfold dM setM
  rw [rowB_set hi]
  by_cases e : i = s
  · subst e
    rw [if_pos rfl, bth_set hk]
    by_cases e2 : k = t
    · subst e2; simp
    · rw [if_neg e2, if_neg (fun q => e2 q.2.symm)]
  · rw [if_neg e, if_neg (fun q => e q.1.symm)]
theorem MtSt.set1 {w : World} {D N T : Nat} {ρ : List Nat} {M : List (List Bool)} (h : MtSt w D N T ρ M) {i k : Nat} (hi : i < N) (hk : k < T) (b : Bool) : MtSt (w.setCell ⟨nthN ρ i, k, none⟩ (.bool b)) D N T ρ (setM M i k b) :=
  h.set_ hi (by rw [List.length_set]; exact (h.rows i hi).2) (Kp.set_ (S := fun j => j = nthN ρ i) (Kp.refl _ _) (.inr rfl) _) ((h.rows i hi).1.bset k b)
theorem mark_two {M : List (List Bool)} {n i k : Nat} (hl : M.length = n) (hr : ∀ s, s < n → (rowB M s).length = n) (hi : i < n) (hk : k < i) : (∀ s t, dM (setM (setM M i k true) k i true) s t = mark (dM M) i k s t) := fun s t => by
  have h1 : (rowB (setM M i k true) k).length = n := by
    unfold setM
    rw [rowB_set (by omega), if_neg (by omega)]
    exact hr k (by omega)
  rw [dM_set (by unfold setM; rw [List.length_set]; omega) (by rw [h1]; exact hi), dM_set (by omega) (by rw [hr i hi]; omega)]
  unfold mark
  by_cases a : s = k ∧ t = i
  · rw [if_pos a, if_pos (.inr a)]
  · rw [if_neg a]
    by_cases b : s = i ∧ t = k
    · rw [if_pos b, if_pos (.inl b)]
    · rw [if_neg b, if_neg (fun q => q.elim b a)]
/-! ### the measure -/
theorem countP_le {p q : Nat → Bool} : ∀ l : List Nat, (∀ x ∈ l, p x = true → q x = true) → l.countP p ≤ l.countP q
  | [], _ => by simp
  | a :: l, h => by
    have ih := countP_le (p := p) (q := q) l fun x hx => h x (List.mem_cons_of_mem _ hx)
    have ha := h a (List.mem_cons_self ..)
    rw [List.countP_cons, List.countP_cons]
    cases hp : p a
    · cases q a <;> simp <;> omega
    · rw [ha hp]; simp; omega
theorem countP_lt {p q : Nat → Bool} : ∀ l : List Nat, (∀ x ∈ l, p x = true → q x = true) → ∀ y ∈ l, p y = false → q y = true → l.countP p < l.countP q
  | [], _, y, hy, _, _ => by cases hy
  | a :: l, h, y, hy, h1, h2 => by
    have hm := fun x hx => h x (List.mem_cons_of_mem _ hx)
    have ha := h a (List.mem_cons_self ..)
    rw [List.countP_cons, List.countP_cons]
    rcases List.mem_cons.1 hy with rfl | hy
    · have := countP_le l hm
      rw [h1, h2]; simp; omega
    · have := countP_lt l hm y hy h1 h2
      cases hp : p a
      · cases q a <;> simp <;> omega
      · rw [ha hp]; simp; omega
theorem sum_le {f g : Nat → Nat} : ∀ l : List Nat, (∀ x ∈ l, f x ≤ g x) → (l.map f).sum ≤ (l.map g).sum
  | [], _ => by simp
  | a :: l, h => by
    have := sum_le (f := f) (g := g) l fun x hx => h x (List.mem_cons_of_mem _ hx)
    have := h a (List.mem_cons_self ..)
    simp; omega
theorem sum_lt {f g : Nat → Nat} : ∀ l : List Nat, (∀ x ∈ l, f x ≤ g x) → ∀ y ∈ l, f y < g y → (l.map f).sum < (l.map g).sum
  | [], _, y, hy, _ => by cases hy
  | a :: l, h, y, hy, hlt => by
    have h0 := h a (List.mem_cons_self ..)
    have hm := fun x hx => h x (List.mem_cons_of_mem _ hx)
    rcases List.mem_cons.1 hy with rfl | hy
    · have := sum_le l hm
      simp; omega
    · have := sum_lt l hm y hy hlt
      simp; omega
theorem leftD_lt {n : Nat} {d d' : Nat → Nat → Bool} (h : ∀ s t, d s t = true → d' s t = true) {i k : Nat} (hi : i < n) (hk : k < n) (h1 : d i k = false) (h2 : d' i k = true) : leftD n d' < leftD n d := by
  unfold leftD
  have hle : ∀ s t, (!d' s t) = true → (!d s t) = true := fun s t q => by
    cases e : d s t
    · rfl
    · rw [h s t e] at q; cases q
  exact sum_lt _ (fun s _ => countP_le _ fun t _ => hle s t) i (List.mem_range.2 hi) (countP_lt _ (fun t _ => hle i t) k (List.mem_range.2 hk) (by rw [h2]; rfl) (by rw [h1]; rfl))
theorem mark_left {n : Nat} {d : Nat → Nat → Bool} {i k : Nat} (hi : i < n) (hk : k < i) (h : d i k = false) : leftD n (mark d i k) < leftD n d :=
  leftD_lt (fun s t q => by unfold mark; split; rfl; exact q) hi (show k < n by omega) h (by unfold mark; rw [if_pos (.inl ⟨rfl, rfl⟩)])

/-- What a pass has seen of the table: pairs ahead of (i, k) are settled. -/
def cloA (mv : Nat → Nat → Nat) (K : Nat) (M : List (List Bool)) (i : Nat) : Prop := ∀ s t c, s < i → t < s → c < K → dM M (mv s c) (mv t c) = true → dM M s t = true
def cloB (mv : Nat → Nat → Nat) (K : Nat) (M : List (List Bool)) (i k : Nat) : Prop := cloA mv K M i ∧ ∀ t c, t < k → c < K → dM M (mv i c) (mv t c) = true → dM M i t = true
theorem cloA.zero {mv : Nat → Nat → Nat} {K : Nat} {M : List (List Bool)} : cloA mv K M 0 := fun s t c h => absurd h (by omega)
theorem cloA.inner {mv : Nat → Nat → Nat} {K : Nat} {M : List (List Bool)} {i : Nat} (h : cloA mv K M i) : cloB mv K M i 0 := ⟨h, fun t c h => absurd h (by omega)⟩
theorem cloB.yes {mv : Nat → Nat → Nat} {K : Nat} {M : List (List Bool)} {i k : Nat} (h : cloB mv K M i k) (hd : dM M i k = true) : cloB mv K M i (k + 1) := ⟨h.1, fun t c ht hc q => by
  by_cases e : t = k
  · subst e; exact hd
  · exact h.2 t c (by omega) hc q⟩
theorem cloB.no {mv : Nat → Nat → Nat} {K : Nat} {M : List (List Bool)} {i k : Nat} (h : cloB mv K M i k) (hd : ∀ c, c < K → dM M (mv i c) (mv k c) = false) : cloB mv K M i (k + 1) := ⟨h.1, fun t c ht hc q => by
  by_cases e : t = k
  · subst e; rw [hd c hc] at q; cases q
  · exact h.2 t c (by omega) hc q⟩
theorem cloB.done {mv : Nat → Nat → Nat} {K : Nat} {M : List (List Bool)} {i : Nat} (h : cloB mv K M i i) : cloA mv K M (i + 1) := fun s t c hs ht hc q => by
  by_cases e : s = i
  · subst e; exact h.2 t c ht hc q
  · exact h.1 s t c (by omega) ht hc q
theorem ApI.congr {rule : Nat → Int} {mv : Nat → Nat → Nat} {K n : Nat} {d d' : Nat → Nat → Bool} (h : ApI rule mv K n d) (e : ∀ s t, s < n → t < n → d' s t = d s t) : ApI rule mv K n d' :=
  ⟨fun s t hs ht => by rw [e s t hs ht, e t s ht hs]; exact h.sym s t hs ht, fun s hs => by rw [e s s hs hs]; exact h.diag s hs, fun s t hs ht q => by rw [e s t hs ht]; exact h.base s t hs ht q, fun s t hs ht q => h.sound s t hs ht (by rw [← e s t hs ht]; exact q)⟩
end Go.Proofs.YthikgdogfkjioaaGreatDoor
namespace Go.Proofs.YthikgdogfkjioaaGreatDoor
open Go.RowKit BigFrame
set_option linter.unusedVariables false
set_option linter.unusedSimpArgs false
set_option maxRecDepth 100000

theorem elBs : ElTy Tryz.prog 57 4 1 1 (.bool false) := ⟨Tryz.underlying57, by kernel_rfl, rfl, by decide⟩
theorem elBss : ElTy Tryz.prog 68 57 1 24 (.slice none 0 0) := ⟨Tryz.underlying68, by kernel_rfl, rfl, by decide⟩
def rwv (T b : Nat) : Value := .slice (some ⟨b, 0, none⟩) T T
/-- Rows so far: ρ their blocks, M their truths. -/
structure ApR (w : World) (base n k : Nat) (v : Value) (ρ : List Nat) (M : List (List Bool)) : Prop where
  rl : ρ.length = k
  ml : M.length = k
  o : w.ownsRow base 57 1 v k (ρ.map (rwv n))
  r : ∀ i, i < k → base ≤ nthN ρ i ∧ Blk w (nthN ρ i) 4 (bv (rowB M i)) ∧ (rowB M i).length = n
  nd : ∀ i j, i < k → j < k → nthN ρ i = nthN ρ j → i = j
theorem ApR.zero (w : World) (base n : Nat) : ApR w base n 0 (.slice none 0 0) [] [] := ⟨rfl, rfl, World.ownsRow_nil _ _ _ _, fun i h => absurd h (by omega), fun i j h => absurd h (by omega)⟩
theorem rowB_append {M : List (List Bool)} {c : List Bool} {k : Nat} : rowB (M ++ [c]) k = if k < M.length then rowB M k else if k = M.length then c else [] := by
  unfold rowB
  rw [List.getD_eq_getElem?_getD, List.getD_eq_getElem?_getD]
  by_cases h : k < M.length
  · rw [if_pos h, List.getElem?_append_left h]
  · rw [if_neg h, List.getElem?_append_right (by omega)]
    by_cases h2 : k = M.length
    · subst h2; simp
    · rw [if_neg h2, List.getElem?_eq_none (by simp; omega)]; rfl
theorem ApR.ext {w w' : World} {base n k : Nat} {v : Value} {ρ : List Nat} {M : List (List Bool)} (h : ApR w base n k v ρ M) (hb : Below w.heap.size w w') : ApR w' base n k v ρ M :=
  ⟨h.rl, h.ml, own_ext h.o hb, fun i hi => ⟨(h.r i hi).1, (h.r i hi).2.1.below' hb, (h.r i hi).2.2⟩, h.nd⟩
theorem ApR.push {w w' : World} {base n k g : Nat} {v v' : Value} {ρ : List Nat} {M : List (List Bool)} {L : List Bool} (h : ApR w base n k v ρ M) (hb : Blk w g 4 (bv L)) (hl : L.length = n) (hg : base ≤ g) (hne : ∀ i, i < k → nthN ρ i ≠ g)
    (hgr : w.grownBy w' v.ownBlock) (hr : w'.ownsRow base 57 1 v' (k + 1) (ρ.map (rwv n) ++ [rwv n g])) : ApR w' base n (k + 1) v' (ρ ++ [g]) (M ++ [L]) := by
  have hk : ∀ (q : Nat) (vs : List Value), Blk w q 4 vs → Blk w' q 4 vs := fun q vs hq => hq.grown hgr (fun e => by
    obtain ⟨us, hu⟩ := own_ty h.o e.symm
    exact absurd (Blk.type_eq hq hu) (by decide))
  refine ⟨by rw [List.length_append, h.rl]; rfl, by rw [List.length_append, h.ml]; rfl, by rw [List.map_append]; exact hr, fun i hi => ?_, fun i j hi hj => ?_⟩
  · rw [nthN_snoc, rowB_append, h.rl, h.ml]
    by_cases e : i < k
    · rw [if_pos e, if_pos e]
      exact ⟨(h.r i e).1, hk _ _ (h.r i e).2.1, (h.r i e).2.2⟩
    · rw [if_neg e, if_neg e, if_pos (by omega), if_pos (by omega)]
      exact ⟨hg, hk _ _ hb, hl⟩
  · rw [nthN_snoc, nthN_snoc, h.rl]
    intro q
    by_cases e1 : i < k
    · by_cases e2 : j < k
      · rw [if_pos e1, if_pos e2] at q; exact h.nd i j e1 e2 q
      · rw [if_pos e1, if_neg e2, if_pos (by omega)] at q
        exact absurd q (hne i e1)
    · by_cases e2 : j < k
      · rw [if_neg e1, if_pos (by omega), if_pos e2] at q
        exact absurd q.symm (hne j e2)
      · omega
theorem ApR.done {w : World} {base n : Nat} {v : Value} {ρ : List Nat} {M : List (List Bool)} (h : ApR w base n n v ρ M) (h0 : 0 < n) : ∃ D c, v = .slice (some ⟨D, 0, none⟩) n c ∧ n ≤ c ∧ c ≤ maxLen ∧ base ≤ D ∧ MtSt w D n n ρ M := by
  rcases h.o.2 with ⟨_, q⟩ | ⟨g, cap, cur, rfl, hb, hg, hn, hc, hs, ht⟩
  · omega
  · have hgne : ∀ i, i < n → nthN ρ i ≠ g := fun i hi e => by
      have hx := (h.r i hi).2.1
      rw [e] at hx
      have hy : Blk w g 57 cur.toList := by unfold Blk; rw [hg]
      exact absurd (Blk.type_eq hx hy) (by decide)
    refine ⟨g, cap, rfl, hn, hc, hb, ⟨(Array.getElem?_eq_some_iff.1 hg).1, fun i hi => ?_, h.rl, h.ml, h.nd, hgne, fun i hi => (h.r i hi).2⟩⟩
    have := h.o.cells (g := g) rfl i (rwv n (nthN ρ i)) (by rw [List.getElem?_map, List.getElem?_eq_getElem (by rw [h.rl]; omega), ← nthN_get (by rw [h.rl]; omega)]; rfl)
    unfold rwv at this
    have ha : (⟨g, 0, none⟩ : Addr).add i = ⟨g, i, none⟩ := by simp [Addr.add]; intro h; exact h.symm
    rw [ha] at this
    exact this

set_option maxHeartbeats 8000000 in
theorem apart_any (Ac Ar Am : Option Addr) (cc cr cm K n : Nat) (C : List (List Rg)) (R : List Int) (M : List (List Int)) (ru : Nat → Int) (mv : Nat → Nat → Nat) (w : World) (B : Nat) (hB : B ≤ w.heap.size) (h : FuR w B C R M Ac Ar Am cc cr cm) (hp : FuP K n ru mv R M) (hC : C.length = K) (hK : K ≤ 1000) (h0 : 0 < n) (hn : n ≤ 1001) :
    Calls Tryz.prog 30 #[.agg #[.slice Ac K cc, .slice Ar n cr, .slice Am n cm]] w fun e w' => ∃ D c ρ T, e = .returned (.slice (some ⟨D, 0, none⟩) n c) ∧ n ≤ c ∧ c ≤ maxLen ∧ w.heap.size ≤ D ∧ (∀ k, k < n → w.heap.size ≤ nthN ρ k) ∧ MtSt w' D n n ρ T ∧ Below w.heap.size w w' ∧
      (∀ s t, s < n → t < n → (dM T s t = false ↔ Eqv ru mv (· < K) s t)) := by
  have HP := Lib.hid hp; have HF := Lib.hid h
  have hcK := h.c1
  have hmk : ∀ w : World, (Instr.makeSlice 57 (.int .i64 (n : Int)) (.int .i64 (n : Int))).run Tryz.prog w = .ok (.slice (some ⟨w.heap.size, 0, none⟩) n n) (w.alloc (.cells (zs (.bool false) n) 4)) := fun w =>
    mk_row elBs rfl .i64 .i64 n _ (by omega) (by omega) (by omega) w
  obtain ⟨g, hg⟩ : ∃ g, w.heap.size = g := ⟨_, rfl⟩
  obtain ⟨W1, hW1⟩ : ∃ W1, W1 = w.alloc (.cells #[.slice Ac K cc, .slice Ar n cr, .slice Am n cm] 48) := ⟨_, rfl⟩
  have hs1 : W1.heap.size = g + 1 := by rw [hW1, ← hg]; simp
  have hb1 : Below g w W1 := by rw [hW1, ← hg]; exact (Below.refl _ _).alloc (Nat.le_refl _) _
  have hk1 : Blk W1 g 48 [.slice Ac K cc, .slice Ar n cr, .slice Am n cm] := by rw [hW1, ← hg]; exact Blk.new w _ _
  obtain ⟨rb, ro, rfl, hrb, hrc⟩ := h.r.at_ (by rw [hp.rl]; exact h0)
  obtain ⟨mb, mo, rfl, hmb, hmr⟩ := h.m (by rw [hp.ml]; exact h0)
  have hgB : B ≤ g := by omega
  have HB1 := Lib.hid hb1; have HK1 := Lib.hid hk1; have HS1 := Lib.hid hs1; have HG := Lib.hid hg
  have HRC : Hid (∀ wr, Below (g + 1) W1 wr → ∀ j, j < n → wr.cell? ⟨rb, ro + j, none⟩ = some (.int .i64 (ru j))) := Lib.hid (fun wr hb j hj => by
    have hb2 := hb1.trans (hb.mono (Nat.le_succ g))
    have := hrc j (by rw [hp.rl]; exact hj)
    rw [hp.r j hj] at this
    exact (hb2.cell (p := ⟨rb, ro + j, none⟩) (show rb < g by omega)).trans this)
  have HMR : Hid (∀ wr, Below (g + 1) W1 wr → ∀ k, k < n → ∃ b2 o2 c2, (0 < K → b2 < g) ∧ K ≤ c2 ∧ c2 ≤ maxLen ∧ (∃ A2, (0 < K → A2 = some ⟨b2, o2, none⟩) ∧ wr.cell? ⟨mb, mo + k, none⟩ = some (.slice A2 K c2)) ∧ ∀ c, c < K → wr.cell? ⟨b2, o2 + c, none⟩ = some (.int .i64 (mv k c : Int))) := Lib.hid (fun wr hb k hk => by
    have hb2 := hb1.trans (hb.mono (Nat.le_succ g))
    obtain ⟨A', c', z, q1, q2, r⟩ := hmr k (by rw [hp.ml]; exact hk)
    obtain ⟨e1, e2⟩ := hp.m k hk
    rw [e1] at z q1
    have z2 := (hb2.cell (p := ⟨mb, mo + k, none⟩) (show mb < g by omega)).trans z
    by_cases hK0 : 0 < K
    · obtain ⟨b2, o2, rfl, hb3, hc3⟩ := r.at_ (by rw [e1]; exact hK0)
      refine ⟨b2, o2, c', fun _ => by omega, q1, q2, ⟨_, fun _ => rfl, z2⟩, fun c hc => ?_⟩
      have := hc3 c (by rw [e1]; exact hc)
      rw [e2 c hc] at this
      exact (hb2.cell (p := ⟨b2, o2 + c, none⟩) (show b2 < g by omega)).trans this
    · exact ⟨0, 0, c', fun q => absurd q hK0, q1, q2, ⟨A', fun q => absurd q hK0, z2⟩, fun c hc => absurd hc (by omega)⟩)
  clear hrc hmr hb1 hk1 hs1 h hp hC hcK
  go_enter Tryz.func30, Tryz.ntmps30
  go_wp2_with fail
  rw [← hW1]
  clear hW1 hg
  have z0 := HK1.out.cell (i := 0) rfl
  have z1 := HK1.out.cell (i := 1) rfl
  have z2 := HK1.out.cell (i := 2) rfl
  go_wp2_with fail
  go_loopw [4, 5] (fun v i wr => ∃ (k : Nat) (ρ : List Nat) (T : List (List Bool)), k ≤ n ∧ i = .int .i64 (k : Int) ∧ Hid (Below (g + 1) W1 wr) ∧ Hid (ApR wr (g + 1) n k v ρ T) ∧ Hid (∀ s t, s < k → t < n → dM T s t = (ru s != ru t))) (fun _ i _ => n - (intOf i).toNat)
  case atStart => exact ⟨0, [], [], Nat.zero_le _, rfl, Below.refl _ _, ApR.zero _ _ _, fun s t h => absurd h (by omega)⟩
  case round =>
    as_aux_lemma =>
      clear z0 z1 z2
      obtain ⟨k, ρ, T, hk, rfl, HB, HA, HD⟩ := hrel
      have hzr := HB.out.size
      have hz1 := HS1.out
      have hk1 := HK1.out.below HB.out (Nat.lt_succ_self g)
      have z0 := hk1.cell (i := 0) rfl
      have z1 := hk1.cell (i := 1) rfl
      have z2 := hk1.cell (i := 2) rfl
      clear hk1
      by_cases hlt : k < n
      · as_aux_lemma =>
          obtain ⟨wo, rfl⟩ : ∃ wo : World, wo = wr := ⟨_, rfl⟩
          have dk : decide ((k : Int) < (n : Int)) = true := decide_eq_true (by omega)
          go_wp2_with fail
          obtain ⟨wm, hwm⟩ : ∃ wm, wm = wo.alloc (.cells (zs (.bool false) n) 4) := ⟨_, rfl⟩
          rw [← hwm]
          have hsm : wm.heap.size = wo.heap.size + 1 := by rw [hwm]; simp
          have hbm : Below wo.heap.size wo wm := by rw [hwm]; exact (Below.refl _ _).alloc (Nat.le_refl _) _
          have hblk : Blk wm wo.heap.size 4 (bv (List.replicate n false)) := by rw [hwm, ← bv_rep]; exact Blk.made wo 4 (.bool false) n
          have HBM := Lib.hid hbm; have HBK := Lib.hid hblk; have HSM := Lib.hid hsm
          clear hwm hbm hblk
          go_loopw [7] (fun i wr => ∃ (j : Nat) (L : List Bool), j ≤ n ∧ i = .int .i64 (j : Int) ∧ Hid (Kp (fun q => q = wo.heap.size) wm wr) ∧ Hid (Blk wr wo.heap.size 4 (bv L)) ∧ Hid (L.length = n ∧ ∀ t, t < j → bth L t = (ru k != ru t))) (fun i _ => n - (intOf i).toNat)
          case atStart => exact ⟨0, _, Nat.zero_le _, rfl, Kp.refl _ _, HBK.out, List.length_replicate, fun t h => absurd h (by omega)⟩
          case round =>
            as_aux_lemma =>
              clear HBK z0 z1 z2
              obtain ⟨j, L, hj, rfl, HKP, HBL, HL⟩ := hrel
              have hz2 := HKP.out.size
              have hbw : Below wo.heap.size wo wr := HBM.out.trans (HKP.out.bel (by omega) (fun q h1 h2 => by omega))
              have hbw1 := HB.out.trans (hbw.mono (by omega))
              have hk1 := HK1.out.below hbw1 (Nat.lt_succ_self g)
              have z0 := hk1.cell (i := 0) rfl
              have z1 := hk1.cell (i := 1) rfl
              have z2 := hk1.cell (i := 2) rfl
              have HBW := Lib.hid hbw; have HBW1 := Lib.hid hbw1
              clear hk1 hbw hbw1
              by_cases hjn : j < n
              · as_aux_lemma =>
                  have dj : decide ((j : Int) < (n : Int)) = true := decide_eq_true (by omega)
                  have y1 := HRC.out wr HBW1.out k hlt
                  have y2 := HRC.out wr HBW1.out j hjn
                  have hx := HBL.out.bcell (k := j) (by rw [HL.out.1]; exact hjn)
                  have hf := HBL.out.frozen j
                  have hlw := HBL.out.lt
                  have HLS : Hid ((L.set j (ru k != ru j)).length = n ∧ ∀ t, t < j + 1 → bth (L.set j (ru k != ru j)) t = (ru k != ru t)) := Lib.hid ⟨by rw [List.length_set]; exact HL.out.1, fun t ht => by
                    rw [bth_set (by rw [HL.out.1]; exact hjn)]
                    by_cases e : j = t
                    · subst e; rw [if_pos rfl]
                    · rw [if_neg e]; exact HL.out.2 t (by omega)⟩
                  generalize ru k = x at *
                  generalize ru j = y at *
                  generalize bth L j = z at *
                  go_wp2_with fail
                  refine wp_region_still_tail 14 (by kernel_rfl) (by kernel_rfl) ?_
                  simp only [List.take_succ_cons, List.take_zero, List.drop_succ_cons, List.drop_zero]
                  change wpStill _ _ wr.drew (fun a' => wpList _ _ _ _ a' wr.drew) _ _
                  obtain ⟨w2, hw2⟩ : ∃ w2, w2 = wr.drew := ⟨_, rfl⟩
                  rw [← hw2]
                  have hcl : ∀ p, w2.cell? p = wr.cell? p := by intro p; rw [hw2]; rfl
                  have hf := show w2.frozen? ⟨wo.heap.size, j, none⟩ = false by rw [hw2]; exact hf
                  have z0 := (hcl _).trans z0
                  have z1 := (hcl _).trans z1
                  have z2 := (hcl _).trans z2
                  have y1 := (hcl _).trans y1
                  have y2 := (hcl _).trans y2
                  have hx := (hcl _).trans hx
                  have HKP2 : Hid (Kp (fun q => q = wo.heap.size) wm w2) := Lib.hid (by rw [hw2]; exact HKP.out.draw)
                  have HBL2 : Hid (Blk w2 wo.heap.size 4 (bv L)) := Lib.hid (by rw [hw2]; exact HBL.out.drew)
                  clear hcl hw2
                  refine wpStill_of_quiet _ _ ?_
                  repeat (first | go_big_quiet_skip | (go_big_quiet_want; go_big_quiet_op; go_big_quiet_on))
                  refine wpQuiet_nil ?_
                  go_wp2_with fail
                  go_roundw
                  case rel => exact ⟨j + 1, _, by omega, by go_num, Lib.hid (HKP2.out.set_ (p := ⟨wo.heap.size, j, none⟩) (.inr rfl) _), Lib.hid (HBL2.out.bset j (x != y)), HLS⟩
                  case measure => simp [intOf]; omega
              · as_aux_lemma =>
                  have dj : decide ((j : Int) < (n : Int)) = false := decide_eq_false (by omega)
                  have e : j = n := by omega
                  subst e
                  have HAX := Lib.hid (HA.out.ext HBW.out)
                  have HRL : Hid (∀ s t, s < k + 1 → t < j → dM (T ++ [L]) s t = (ru s != ru t)) := Lib.hid (fun s t hs ht => by
                    unfold dM
                    rw [rowB_append, HA.out.ml]
                    by_cases e : s < k
                    · rw [if_pos e]; exact HD.out s t e ht
                    · rw [if_neg e, if_pos (by omega)]
                      have : s = k := by omega
                      subst this
                      exact HL.out.2 t ht)
                  have HNE : Hid (∀ i, i < k → nthN ρ i ≠ wo.heap.size) := Lib.hid (fun i hi e => by have := (HA.out.r i hi).2.1.lt; omega)
                  have HSZ : Hid ((wr.alloc (.cells #[.slice (some ⟨wo.heap.size, 0, none⟩) j j] 57)).heap.size = wr.heap.size + 1) := Lib.hid (by simp)
                  go_wp2_with (at_builtin; refine wpList_app elBss rfl (.tmp 41) (.tmp 43) rfl (g + 1) _ k 1 _ [.slice (some ⟨wo.heap.size, 0, none⟩) j j] rfl HAX.out.o rfl rfl (by simp [Value.oneCell']) (by omega) (by omega) (by omega) ?_; intro v5 w5 hown5 hg5 hat5; have HA5 := Lib.hid (HAX.out.push HBL.out HL.out.1 (by omega) HNE.out hg5 hown5); have HB5 := Lib.hid (HBW1.out.grown hg5 (by omega) (fun q e => (HAX.out.o.lt _ e).1)); clear hown5 hg5 hat5)
                  go_roundw
                  case rel => exact ⟨k + 1, _, _, by omega, by go_num, HB5, HA5, HRL⟩
                  case measure => simp [intOf]; omega
      · as_aux_lemma =>
          have dk : decide ((k : Int) < (n : Int)) = false := decide_eq_false (by omega)
          have e : n = k := by omega
          subst e
          obtain ⟨D, cD, rfl, hD1, hD2, hD3, hmt⟩ := HA.out.done h0
          have HRO : Hid (∀ i, i < n → g + 1 ≤ nthN ρ i) := Lib.hid (fun i hi => (HA.out.r i hi).1)
          have HAP : Hid (ApI ru mv K n (dM T)) := Lib.hid (ApI.start.congr (fun s t hs ht => by rw [HD.out s t hs ht]; by_cases e : ru s = ru t <;> simp [e]))
          have HMT := Lib.hid hmt
          have HD2 := Lib.hid hD2
          clear HA HD hmt hD2
          go_wp2_with fail
          obtain ⟨wo, rfl⟩ : ∃ wo : World, wo = wr := ⟨_, rfl⟩
          go_loopg [8] (leftD n (dM T) + 1) (fun gk ag wr => ∃ (b : Bool) (T : List (List Bool)), ag = .bool b ∧ gk = (if b then leftD n (dM T) + 1 else 0) ∧ Hid (Below (g + 1) W1 wr ∧ MtSt wr D n n ρ T) ∧ Hid (ApI ru mv K n (dM T)) ∧ Hid (b = false → cloA mv K T n))
          case atStart => exact ⟨true, T, rfl, rfl, ⟨HB.out, HMT.out⟩, HAP, fun h => by cases h⟩
          case round =>
            clear HB HAP HMT hzr z0 z1 z2
            obtain ⟨b, T0, rfl, hgk, HM0, HAP0, HCL0⟩ := hrel
            cases b
            · as_aux_lemma =>
                go_wp2_with fail
                go_ret
                have hgw := HG.out
                refine ⟨D, cD, rfl, hD1, HD2.out, by omega, ρ, fun i hi => by have := HRO.out i hi; omega, T0, HM0.out.2, ?_, fun s t hs ht => ?_⟩
                · have := HB1.out.trans (HM0.out.1.mono (Nat.le_succ g))
                  rw [hgw]; exact this
                · exact HAP0.out.done (fun s c hs hc => HP.out.lt s c hs hc) (fun s t c hs ht hc => HCL0.out (by simp) s t c hs ht hc) hs ht
            · as_aux_lemma =>
                have HGK := Lib.hid hgk
                clear hgk HCL0
                go_wp2_with fail
                obtain ⟨wo2, rfl⟩ : ∃ wo2 : World, wo2 = wr := ⟨_, rfl⟩
                go_loopw [8, 9] (fun ag iv wr => ∃ (i : Nat) (b : Bool) (T : List (List Bool)), i ≤ n ∧ iv = .int .i64 (i : Int) ∧ ag = .bool b ∧ Hid (Below (g + 1) W1 wr ∧ MtSt wr D n n ρ T) ∧ Hid (ApI ru mv K n (dM T)) ∧ Hid ((b = true → leftD n (dM T) < leftD n (dM T0)) ∧ (b = false → T = T0 ∧ cloA mv K T i))) (fun _ iv _ => n - (intOf iv).toNat)
                case atStart => exact ⟨0, false, T0, Nat.zero_le _, rfl, rfl, HM0, HAP0, ⟨fun h => (by cases h), fun _ => ⟨rfl, cloA.zero⟩⟩⟩
                case round =>
                  as_aux_lemma =>
                    clear HM0 HAP0
                    obtain ⟨i, b, T, hi, rfl, rfl, HM, HAP, HX⟩ := hrel
                    by_cases hin : i < n
                    · as_aux_lemma =>
                        have di : decide ((i : Int) < (n : Int)) = true := decide_eq_true (by omega)
                        go_wp2_with fail
                        obtain ⟨wo3, rfl⟩ : ∃ wo3 : World, wo3 = wr := ⟨_, rfl⟩
                        go_loopw [8, 10] (fun ag kv wr => ∃ (k : Nat) (b : Bool) (T : List (List Bool)), k ≤ i ∧ kv = .int .i64 (k : Int) ∧ ag = .bool b ∧ Hid (Below (g + 1) W1 wr ∧ MtSt wr D n n ρ T) ∧ Hid (ApI ru mv K n (dM T)) ∧ Hid ((b = true → leftD n (dM T) < leftD n (dM T0)) ∧ (b = false → T = T0 ∧ cloB mv K T i k))) (fun _ kv _ => i - (intOf kv).toNat)
                        case atStart => exact ⟨0, b, T, Nat.zero_le _, rfl, rfl, HM, HAP, ⟨HX.out.1, fun h => ⟨(HX.out.2 h).1, (HX.out.2 h).2.inner⟩⟩⟩
                        case round =>
                          as_aux_lemma =>
                            clear HM HAP HX
                            obtain ⟨k, b, T, hk, rfl, rfl, HM, HAP, HX⟩ := hrel
                            by_cases hki : k < i
                            · as_aux_lemma =>
                                have dk : decide ((k : Int) < (i : Int)) = true := decide_eq_true (by omega)
                                have y1 := HM.out.2.d i hin
                                have y2 := (HM.out.2.rows i hin).1.bcell (k := k) (by rw [(HM.out.2.rows i hin).2]; omega)
                                change wr.cell? ⟨nthN ρ i, k, none⟩ = some (.bool (dM T i k)) at y2
                                cases hd : dM T i k
                                · rw [hd] at y2
                                  have HDF := Lib.hid hd
                                  clear hd
                                  go_wp2_with fail
                                  obtain ⟨wo4, rfl⟩ : ∃ wo4 : World, wo4 = wr := ⟨_, rfl⟩
                                  go_loopw [8, 11] (fun ag cv wr => ∃ (c : Nat) (b : Bool) (T : List (List Bool)), c ≤ K ∧ cv = .int .i64 (c : Int) ∧ ag = .bool b ∧ Hid (Below (g + 1) W1 wr ∧ MtSt wr D n n ρ T) ∧ Hid (ApI ru mv K n (dM T)) ∧ Hid ((b = true → leftD n (dM T) < leftD n (dM T0)) ∧ (b = false → T = T0 ∧ cloB mv K T i k ∧ dM T i k = false ∧ ∀ c', c' < c → dM T (mv i c') (mv k c') = false))) (fun _ cv _ => K - (intOf cv).toNat)
                                  case atStart => exact ⟨0, b, T, Nat.zero_le _, rfl, rfl, HM, HAP, ⟨HX.out.1, fun h => ⟨(HX.out.2 h).1, (HX.out.2 h).2, HDF.out, fun c h => absurd h (by omega)⟩⟩⟩
                                  case round =>
                                    as_aux_lemma =>
                                      clear HM HAP HX HDF y1 y2
                                      obtain ⟨c, b, T, hc, rfl, rfl, HM, HAP, HX⟩ := hrel
                                      have hkn : k < n := by omega
                                      have hk1 := HK1.out.below HM.out.1 (Nat.lt_succ_self g)
                                      have z0 := hk1.cell (i := 0) rfl
                                      have z2 := hk1.cell (i := 2) rfl
                                      have y1 := HM.out.2.d i hin
                                      have y2 := (HM.out.2.rows i hin).1.bcell (k := k) (by rw [(HM.out.2.rows i hin).2]; omega)
                                      change wr.cell? ⟨nthN ρ i, k, none⟩ = some (.bool (dM T i k)) at y2
                                      clear hk1
                                      by_cases hcK : c < K
                                      · have dc : decide ((c : Int) < (K : Int)) = true := decide_eq_true (by omega)
                                        cases hd : dM T i k
                                        · as_aux_lemma =>
                                            rw [hd] at y2
                                            have HDF := Lib.hid hd
                                            clear hd
                                            have hmi := HP.out.lt i c hin hcK
                                            have hmk := HP.out.lt k c hkn hcK
                                            obtain ⟨b2, o2, c2, hb2, p1, p2, ⟨A2, hA2, x1⟩, x2a⟩ := HMR.out wr HM.out.1 i hin
                                            obtain ⟨b3, o3, c3, hb3, p3, p4, ⟨A3, hA3, x3⟩, x4a⟩ := HMR.out wr HM.out.1 k hkn
                                            have e2 := hA2 (by omega)
                                            have e3 := hA3 (by omega)
                                            subst e2 e3
                                            have x2 := x2a c hcK
                                            have x4 := x4a c hcK
                                            clear x2a x4a
                                            have y3 := HM.out.2.d (mv i c) hmi
                                            have y4 := (HM.out.2.rows _ hmi).1.bcell (k := mv k c) (by rw [(HM.out.2.rows _ hmi).2]; exact hmk)
                                            change wr.cell? ⟨nthN ρ (mv i c), mv k c, none⟩ = some (.bool (dM T (mv i c) (mv k c))) at y4
                                            have HE : Hid (∀ v, dM T (mv i c) (mv k c) = v → dM T (mv i c) (mv k c) = v) := Lib.hid (fun v h => h)
                                            cases he : dM T (mv i c) (mv k c)
                                            · rw [he] at y4
                                              have HEF := Lib.hid he
                                              have HX2 : Hid ((b = true → leftD n (dM T) < leftD n (dM T0)) ∧ (b = false → T = T0 ∧ cloB mv K T i k ∧ dM T i k = false ∧ ∀ c', c' < c + 1 → dM T (mv i c') (mv k c') = false)) := Lib.hid ⟨HX.out.1, fun h => ⟨(HX.out.2 h).1, (HX.out.2 h).2.1, HDF.out, fun c' h' => by
                                                by_cases q : c' = c
                                                · subst q; exact HEF.out
                                                · exact (HX.out.2 h).2.2.2 c' (by omega)⟩⟩
                                              generalize mv i c = mi at *
                                              generalize mv k c = mk at *
                                              clear he hA2 hA3 HE
                                              go_wp2_with fail
                                              go_quiet (fail)
                                              go_wp2_with fail
                                              go_roundw
                                              case rel => exact ⟨c + 1, b, T, by omega, by go_num, rfl, ⟨below_drewN HM.out.1 nq, HM.out.2.below (below_drewN (Below.refl _ _) nq)⟩, HAP, HX2⟩
                                              case measure => simp [intOf]; omega
                                            · rw [he] at y4
                                              have hml := HM.out.2.ml
                                              have hrl := fun s hs => (HM.out.2.rows s hs).2
                                              have hm2 := mark_two hml hrl hin hki
                                              have HAP2 : Hid (ApI ru mv K n (dM (setM (setM T i k true) k i true))) := Lib.hid ((HAP.out.mark hin hki (fun s c hs hc => HP.out.lt s c hs hc) hcK he).congr (fun s t _ _ => hm2 s t))
                                              have hle : leftD n (dM T) ≤ leftD n (dM T0) := by
                                                cases hb : b
                                                · rw [(HX.out.2 hb).1]; exact Nat.le_refl _
                                                · exact Nat.le_of_lt (HX.out.1 hb)
                                              have HLE : Hid (leftD n (dM (setM (setM T i k true) k i true)) < leftD n (dM T0)) := Lib.hid (by
                                                have e : dM (setM (setM T i k true) k i true) = mark (dM T) i k := by funext s t; exact hm2 s t
                                                rw [e]
                                                exact Nat.lt_of_lt_of_le (mark_left hin hki HDF.out) hle)
                                              have hri := HRO.out i hin
                                              have hrk := HRO.out k hkn
                                              generalize mv i c = mi at *
                                              generalize mv k c = mk at *
                                              clear he hA2 hA3 HE hml hrl hm2 hle HX
                                              go_wp2_with fail
                                              go_quiet (fail)
                                              obtain ⟨w2, hw2⟩ : ∃ w2, w2 = wr.drewN nq := ⟨_, rfl⟩
                                              have hM2 : Below (g + 1) W1 w2 ∧ MtSt w2 D n n ρ T := by rw [hw2]; exact ⟨below_drewN HM.out.1 nq, HM.out.2.below (below_drewN (Below.refl _ _) nq)⟩
                                              have hm3 := hM2.2.set1 hin (show k < n by omega) true
                                              have u1 := hM2.2.d i hin
                                              have u2 := (hM2.2.rows i hin).1.bcell (k := k) (by rw [(hM2.2.rows i hin).2]; omega)
                                              have u3 := (hM2.2.rows i hin).1.frozen k
                                              have v1 := hm3.d k hkn
                                              have v2 := (hm3.rows k hkn).1.bcell (k := i) (by rw [(hm3.rows k hkn).2]; omega)
                                              have v3 := (hm3.rows k hkn).1.frozen i
                                              have HM4 : Hid (Below (g + 1) W1 ((w2.setCell ⟨nthN ρ i, k, none⟩ (.bool true)).setCell ⟨nthN ρ k, i, none⟩ (.bool true)) ∧ MtSt ((w2.setCell ⟨nthN ρ i, k, none⟩ (.bool true)).setCell ⟨nthN ρ k, i, none⟩ (.bool true)) D n n ρ (setM (setM T i k true) k i true)) :=
                                                Lib.hid ⟨(hM2.1.setCell (p := ⟨nthN ρ i, k, none⟩) hri _).setCell (p := ⟨nthN ρ k, i, none⟩) hrk _, hm3.set1 hkn hin true⟩
                                              rw [← hw2]
                                              generalize bth (rowB T i) k = o1 at *
                                              generalize bth (rowB (setM T i k true) k) i = o4 at *
                                              clear hw2 hM2 hm3 y1 y2 y3 y4 x1 x2 x3 x4 z0 z2 HM hri hrk
                                              go_wp2_with fail
                                              go_roundw
                                              case rel => exact ⟨c + 1, true, _, by omega, by go_num, rfl, HM4, HAP2, ⟨fun _ => HLE.out, fun h => (by cases h)⟩⟩
                                              case measure => simp [intOf]; omega
                                        · as_aux_lemma =>
                                            rw [hd] at y2
                                            have hb : b = true := by
                                              cases hb : b
                                              · have := (HX.out.2 hb).2.2.1; rw [hd] at this; cases this
                                              · rfl
                                            subst hb
                                            clear hd
                                            go_wp2_with fail
                                            go_roundw
                                            case rel => exact ⟨k + 1, true, T, by omega, by go_num, rfl, HM, HAP, ⟨HX.out.1, fun h => (by cases h)⟩⟩
                                            case measure => simp [intOf]; omega
                                      · as_aux_lemma =>
                                          have dc : decide ((c : Int) < (K : Int)) = false := decide_eq_false (by omega)
                                          have HX2 : Hid ((b = true → leftD n (dM T) < leftD n (dM T0)) ∧ (b = false → T = T0 ∧ cloB mv K T i (k + 1))) := Lib.hid ⟨HX.out.1, fun h => ⟨(HX.out.2 h).1, (HX.out.2 h).2.1.no (fun c' h' => (HX.out.2 h).2.2.2 c' (by omega))⟩⟩
                                          generalize dM T i k = o1 at *
                                          go_wp2_with fail
                                          go_roundw
                                          case rel => exact ⟨k + 1, b, T, by omega, by go_num, rfl, HM, HAP, HX2⟩
                                          case measure => simp [intOf]; omega
                                · as_aux_lemma =>
                                    rw [hd] at y2
                                    have HX2 : Hid ((b = true → leftD n (dM T) < leftD n (dM T0)) ∧ (b = false → T = T0 ∧ cloB mv K T i (k + 1))) := Lib.hid ⟨HX.out.1, fun h => ⟨(HX.out.2 h).1, (HX.out.2 h).2.yes hd⟩⟩
                                    clear hd
                                    go_wp2_with fail
                                    go_roundw
                                    case rel => exact ⟨k + 1, b, T, by omega, by go_num, rfl, HM, HAP, HX2⟩
                                    case measure => simp [intOf]; omega
                            · as_aux_lemma =>
                                have dk : decide ((k : Int) < (i : Int)) = false := decide_eq_false (by omega)
                                have e : i = k := by omega
                                have HX2 : Hid ((b = true → leftD n (dM T) < leftD n (dM T0)) ∧ (b = false → T = T0 ∧ cloA mv K T (i + 1))) := Lib.hid ⟨HX.out.1, fun h => ⟨(HX.out.2 h).1, cloB.done (by have := (HX.out.2 h).2; rwa [← e] at this)⟩⟩
                                clear e
                                go_wp2_with fail
                                go_roundw
                                case rel => exact ⟨i + 1, b, T, by omega, by go_num, rfl, HM, HAP, HX2⟩
                                case measure => simp [intOf]; omega
                    · as_aux_lemma =>
                        have di : decide ((i : Int) < (n : Int)) = false := decide_eq_false (by omega)
                        have e : i = n := by omega
                        cases b
                        · have HCN : Hid (T = T0 ∧ cloA mv K T n) := Lib.hid (by have := HX.out.2 rfl; rwa [e] at this)
                          clear e HX
                          go_wp2_with fail
                          go_roundg 0
                          case measure => rw [HGK.out]; simp
                          case rel => exact ⟨false, T, rfl, rfl, HM, HAP, fun _ => HCN.out.2⟩
                        · have HLT : Hid (leftD n (dM T) < leftD n (dM T0)) := Lib.hid (HX.out.1 rfl)
                          clear e HX
                          go_wp2_with fail
                          go_roundg (leftD n (dM T) + 1)
                          case measure => rw [HGK.out]; simp; exact HLT.out
                          case rel => exact ⟨true, T, rfl, rfl, HM, HAP, fun h => by cases h⟩
end Go.Proofs.YthikgdogfkjioaaGreatDoor
