/- Counting, plain: every count stays small enough. -/
import Derived.Test.YtiklbannoinioaaDoorQ15
namespace Go.Proofs.YtiklbannoinioaaDoor
set_option linter.unusedVariables false
set_option linter.unusedSimpArgs false

theorem Eb_mono {i j K a b tq : Nat} (h : a ≤ b) : Eb i j K a tq ≤ Eb i j K b tq := by
  have h1 := Nat.mul_le_mul_right (zB K + 3) h
  unfold Eb
  split
  · omega
  · split
    · omega
    · split <;> omega
/-- Small enough. -/
def Sm (x : Nat) : Prop := ∃ E, E ≤ 1300000000 ∧ x < 2 ^ E
theorem Sm.mono {x y : Nat} (h : Sm y) (hx : x ≤ y) : Sm x := by
  obtain ⟨E, h1, h2⟩ := h
  exact ⟨E, h1, Nat.lt_of_le_of_lt hx h2⟩
section
variable {C : Ct} {G : Gr} {inp : List Int}
theorem pfold_bd (hC : ∀ x ∈ C.L, x.2.1 ≤ x.2.2 ∧ x.1 < 8) {O : List K3} {cnt : CS → K3 → CS × Nat} (hc : CB C O cnt) (hR : ∀ p, p < G.prods.length → (rtN G p).length ≤ 5) {x : K3} (hij : x.2.1 ≤ x.2.2) (h7 : x.2.2 ≤ 7) :
    ∀ (ps : List Nat) (q : CS × Nat), (∀ p ∈ ps, p < G.prods.length) → BI O q.1 → BI O (ps.foldl (pStep C G inp cnt x) q).1 ∧ Ext q.1 (ps.foldl (pStep C G inp cnt x) q).1 ∧ q.2 ≤ (ps.foldl (pStep C G inp cnt x) q).2 ∧
      ∀ K, K ≤ 8 → scM (ps.foldl (pStep C G inp cnt x) q).1.M x.2.1 x.2.2 ≤ K → (ps.foldl (pStep C G inp cnt x) q).2 ≤ q.2 + ps.length * (2 ^ Eb x.2.1 x.2.2 K 5 x.2.2 - 1)
  | [], q, _, hb => ⟨hb, Ext.refl _, Nat.le_refl _, fun K _ _ => by simp⟩
  | p :: ps, q, hp, hb => by
    rw [List.foldl_cons]
    obtain ⟨w1, w2, w3⟩ := ways_bd (inp := inp) (G := G) hC hc hij (by omega) p (rtN G p).length x.2.2 q.1 hij (Nat.le_refl _) hb
    obtain ⟨r1, r2, r3, r4⟩ := pfold_bd hC hc hR hij h7 ps (pStep C G inp cnt x q p) (fun p' h => hp p' (List.mem_cons_of_mem _ h)) w1
    refine ⟨r1, w2.trans r2, Nat.le_trans (Nat.le_add_right _ _) r3, fun K hK hsc => ?_⟩
    have h1 := r4 K hK hsc
    have h2 := w3 K hK (Nat.le_trans (r2.sc x.2.1 x.2.2) hsc)
    have h3 : 2 ^ Eb x.2.1 x.2.2 K (rtN G p).length x.2.2 ≤ 2 ^ Eb x.2.1 x.2.2 K 5 x.2.2 := Nat.pow_le_pow_right (by decide) (Eb_mono (hR p (hp p (by simp))))
    refine Nat.le_trans h1 ?_
    unfold pStep
    rw [List.length_cons, Nat.add_mul, Nat.one_mul]
    generalize 2 ^ Eb x.2.1 x.2.2 K 5 x.2.2 = P at h3 ⊢
    generalize 2 ^ Eb x.2.1 x.2.2 K (rtN G p).length x.2.2 = P2 at h2 h3
    simp only
    omega
theorem byN_len {n : Nat} (hP : G.prods.length ≤ n) (a : Nat) : (byN G a).length ≤ n := by
  have := List.length_filter_le (fun p => decide (lfN G p = (a : Int))) (List.range G.prods.length)
  rw [List.length_range] at this
  unfold byN
  omega
theorem cnt_bd (hC : ∀ x ∈ C.L, x.2.1 ≤ x.2.2 ∧ x.1 < 8) (h7 : ∀ x ∈ C.L, x.2.2 ≤ 7) (hR : ∀ p, p < G.prods.length → (rtN G p).length ≤ 5) (hP : G.prods.length ≤ 14) : ∀ (f : Nat) (O : List K3), CB C O (cntP C G inp f O)
  | 0, O => fun σ x hb hx => by
    rw [cntP]
    split
    · rename_i v hv
      exact ⟨hb, Ext.refl _, hb.mb.look hv⟩
    · exact ⟨⟨hb.mb, hb.no⟩, ⟨⟨[], rfl⟩, fun _ => rfl⟩, Nat.two_pow_pos _⟩
  | f + 1, O => fun σ x hb hx => by
    rw [cntP]
    split
    · rename_i v hv
      exact ⟨hb, Ext.refl _, hb.mb.look hv⟩
    · rename_i hv
      split
      · exact ⟨⟨hb.mb, hb.no⟩, ⟨⟨[], rfl⟩, fun _ => rfl⟩, Nat.two_pow_pos _⟩
      · rename_i hno
        have hno1 : x ∉ O := fun h => hno (.inl h)
        obtain ⟨hij, hx8⟩ := hC x hx
        have hb2 : BI (x :: O) σ := ⟨hb.mb, fun e he h => by
          rcases List.mem_cons.1 h with h | h
          · exact lk_none hv e he h
          · exact hb.no e he h⟩
        obtain ⟨r1, r2, r3, r4⟩ := pfold_bd (inp := inp) hC (cnt_bd hC h7 hR hP f (x :: O)) hR hij (h7 x hx) (byN G x.1) (σ, 0) (fun p hp => (mem_byN.1 hp).1) hb2
        generalize (byN G x.1).foldl (pStep C G inp (cntP C G inp f (x :: O)) x) (σ, 0) = r at r1 r2 r3 r4
        have hnx : ∀ e ∈ r.1.M, e.1 ≠ x := fun e he h => r1.no e he (by rw [h]; simp)
        have hsc := r1.mb.sc7 hx8 hnx
        have h4 := r4 (scM r.1.M x.2.1 x.2.2) (by omega) (Nat.le_refl _)
        have hl := byN_len hP x.1
        have hv2 : r.2 < 2 ^ phi (x.2.2 - x.2.1) (scM r.1.M x.2.1 x.2.2 + 1) := by
          have hE : Eb x.2.1 x.2.2 (scM r.1.M x.2.1 x.2.2) 5 x.2.2 + 4 ≤ phi (x.2.2 - x.2.1) (scM r.1.M x.2.1 x.2.2 + 1) := by
            unfold Eb
            by_cases q : x.2.1 = x.2.2
            · rw [if_pos q]
              unfold phi
              rw [if_pos (by omega), show zB (scM r.1.M x.2.1 x.2.2 + 1) = 20 + 5 * zB (scM r.1.M x.2.1 x.2.2) from rfl]
              omega
            · rw [if_neg q, if_neg (by omega), if_neg (by omega)]
              unfold phi
              rw [if_neg (by omega), if_neg (by omega)]
              omega
          refine Nat.lt_of_lt_of_le ?_ (Nat.pow_le_pow_right (by decide) hE)
          rw [Nat.pow_add]
          have hp := Nat.two_pow_pos (Eb x.2.1 x.2.2 (scM r.1.M x.2.1 x.2.2) 5 x.2.2)
          have h14 := Nat.mul_le_mul_right (2 ^ Eb x.2.1 x.2.2 (scM r.1.M x.2.1 x.2.2) 5 x.2.2 - 1) hl
          have h3 : ∀ P : Nat, P * 2 ^ 4 = 16 * P := fun P => by rw [Nat.mul_comm]
          rw [h3]
          dsimp only at h4
          generalize 2 ^ Eb x.2.1 x.2.2 (scM r.1.M x.2.1 x.2.2) 5 x.2.2 = P at hp h14 h4 ⊢
          omega
        refine ⟨⟨MB.cons r1.mb hnx hx8 hij (h7 x hx) hv2, fun e he h => ?_⟩, ?_, ?_⟩
        · rcases List.mem_cons.1 he with rfl | he
          · exact hno1 h
          · exact r1.no e he (List.mem_cons_of_mem _ h)
        · obtain ⟨⟨N, e⟩, e2⟩ := r2
          exact ⟨⟨(x, r.2) :: N, by simp only; rw [e]; rfl⟩, e2⟩
        · simp only
          rw [scM_cons]
          exact hv2
/-- Every number that comes up has few parts. -/
theorem phi_top {w k : Nat} (hw : w ≤ 7) (hk : k ≤ 8) : phi w k ≤ 1078000000 := by
  unfold phi
  split
  · have := zB_top hk; omega
  · omega
theorem Eb_top {i j K at_ tq : Nat} (hw : j - i ≤ 7) (hK : K ≤ 8) (ha : at_ ≤ 5) (h1 : i ≤ tq) (h2 : tq ≤ j) : Eb i j K at_ tq ≤ 1288000000 := by
  have hz := zB_top hK
  have hp := phi_top hw hK
  have h1 : at_ * (zB K + 3) ≤ 5 * 1953123 := Nat.mul_le_mul ha (by omega)
  unfold Eb
  split
  · omega
  · split
    · omega
    · split
      · omega
      · omega
theorem ways_pre (hC : ∀ x ∈ C.L, x.2.1 ≤ x.2.2 ∧ x.1 < 8) {O : List K3} {cnt : CS → K3 → CS × Nat} (hc : CB C O cnt) {i j : Nat} (hij : i ≤ j) (h7 : j - i ≤ 7) (p at_ tq : Nat) (σ : CS) (hi : i ≤ tq) (htq : tq ≤ j) (ha : at_ + 1 ≤ 5) (hb : BI O σ) (ef : fitB C p (at_ + 1) i tq = true) {W : CS × Nat → Nat → CS × Nat}
    (hW : W = wStep C inp cnt (fun m σ => waysP C G inp cnt p i at_ m σ) (fun m => fitB C p at_ i m) (nth (rtN G p) at_) tq) (k : Nat) (hk : k ≤ tq + 1 - i) : BI O ((midsTo i k).foldl W (σ, 0)).1 ∧ Sm ((midsTo i k).foldl W (σ, 0)).2 := by
  subst hW
  have hw : ∀ m σ, i ≤ m → m ≤ tq → BI O σ → BI O (waysP C G inp cnt p i at_ m σ).1 ∧ Ext σ (waysP C G inp cnt p i at_ m σ).1 ∧ ∀ K, scM (waysP C G inp cnt p i at_ m σ).1.M i j ≤ K → (waysP C G inp cnt p i at_ m σ).2 < 2 ^ Eb i j K at_ m := fun m σ g1 g2 hb => by
    obtain ⟨a1, a2, a3⟩ := ways_bd (inp := inp) (G := G) hC hc hij h7 p at_ m σ g1 (by omega) hb
    refine ⟨a1, a2, fun K hsc => ?_⟩
    by_cases q : K ≤ 8
    · exact a3 K q hsc
    · have h8 := a3 8 (Nat.le_refl _) (a1.mb.sc i j)
      refine Nat.lt_of_lt_of_le h8 (Nat.pow_le_pow_right (by decide) ?_)
      have hz := zB_mono (a := 8) (b := K) (by omega)
      have hp := phi_mono (w := j - i) (a := 8) (b := K) (by omega)
      have hmul := Nat.mul_le_mul (Nat.le_refl at_) (Nat.add_le_add_right hz 3)
      unfold Eb
      split
      · omega
      · split
        · omega
        · split <;> omega
  have hmem : ∀ d, ∀ m ∈ (List.range d).map (i + ·), d ≤ tq + 1 - i → i ≤ m ∧ m ≤ tq := fun d m hm hd => by
    rw [List.mem_map] at hm
    obtain ⟨a, ha, rfl⟩ := hm
    rw [List.mem_range] at ha
    omega
  obtain ⟨a1, a2, a3, a4⟩ := fold_bd (inp := inp) hC hc hij ⟨hi, htq⟩ hw (ok := fun m => fitB C p at_ i m) (s := nth (rtN G p) at_) (midsTo i k) (σ, 0) (fun m hm => hmem k m hm hk) hb
  refine ⟨a1, ?_⟩
  have hfull := (ways_bd (inp := inp) (G := G) hC hc hij h7 p (at_ + 1) tq σ hi htq hb)
  rw [waysP, if_pos ef] at hfull
  obtain ⟨f1, f2, f3⟩ := hfull
  have f4 := f3 8 (Nat.le_refl _) (f1.mb.sc i j)
  have f5 : Sm _ := ⟨_, Nat.le_trans (Eb_top h7 (Nat.le_refl _) ha hi htq) (by decide), f4⟩
  refine f5.mono ?_
  obtain ⟨d, hd⟩ : ∃ d, tq + 1 - i = k + d := ⟨tq + 1 - i - k, by omega⟩
  have e : mids i tq = midsTo i k ++ ((List.range d).map (k + ·)).map (i + ·) := by
    unfold mids midsTo
    rw [hd, List.range_add, List.map_append]
  rw [e, List.foldl_append]
  exact (fold_bd (inp := inp) hC hc hij ⟨hi, htq⟩ hw (ok := fun m => fitB C p at_ i m) (s := nth (rtN G p) at_) (((List.range d).map (k + ·)).map (i + ·)) _ (fun m hm => by
    rw [List.mem_map] at hm
    obtain ⟨a, ha, rfl⟩ := hm
    rw [List.mem_map] at ha
    obtain ⟨b, hb, rfl⟩ := ha
    rw [List.mem_range] at hb
    omega) a1).2.2.1
theorem ways_top (hC : ∀ x ∈ C.L, x.2.1 ≤ x.2.2 ∧ x.1 < 8) {O : List K3} {cnt : CS → K3 → CS × Nat} (hc : CB C O cnt) {i j : Nat} (hij : i ≤ j) (h7 : j - i ≤ 7) (p at_ tq : Nat) (σ : CS) (hi : i ≤ tq) (htq : tq ≤ j) (ha : at_ ≤ 5) (hb : BI O σ) : BI O (waysP C G inp cnt p i at_ tq σ).1 ∧ Sm (waysP C G inp cnt p i at_ tq σ).2 := by
  obtain ⟨f1, f2, f3⟩ := ways_bd (inp := inp) (G := G) hC hc hij h7 p at_ tq σ hi htq hb
  exact ⟨f1, _, Nat.le_trans (Eb_top h7 (Nat.le_refl _) ha hi htq) (by decide), f3 8 (Nat.le_refl _) (f1.mb.sc i j)⟩
theorem cnt_top {O : List K3} {cnt : CS → K3 → CS × Nat} (hc : CB C O cnt) {σ : CS} {y : K3} (hb : BI O σ) (hy : y ∈ C.L) (h7 : y.2.2 ≤ 7) : BI O (cnt σ y).1 ∧ Sm (cnt σ y).2 := by
  obtain ⟨f1, f2, f3⟩ := hc σ y hb hy
  exact ⟨f1, _, Nat.le_trans (phi_top (by omega) (f1.mb.sc _ _)) (by decide), f3⟩
end
end Go.Proofs.YtiklbannoinioaaDoor
