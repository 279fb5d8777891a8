/- Plain: where not too many are counted, what is counted is how many trees are told. · The law's grammar of one sentence: its chart, its tree, its count. · The law's first question, tells: the one tree of one sentence is told. -/
import Derived.Test.YtiklbannoinioaaDoorQ28
import Derived.Test.YtiklbannoinioaaDoorQ27
namespace Go.Proofs.YtiklbannoinioaaDoor
set_option linter.unusedVariables false
set_option linter.unusedSimpArgs false

section
variable (C : Ct) (G : Gr) (inp : List Int)
/-- A span stands within a row. -/
def ChRow (r : List Int) (i j : Nat) (z : K3) : Prop := ∃ r1 r2, r = r1 ++ (-1 - (z.1 : Int)) :: r2 ∧ Rw (ST C.L inp) r1 i z.2.1 ∧ z.2.1 ≤ z.2.2 ∧ z ∈ C.L ∧ Rw (ST C.L inp) r2 z.2.2 j
def Child (x z : K3) : Prop := ∃ p ∈ byN G x.1, fitB C p (rtN G p).length x.2.1 x.2.2 = true ∧ ChRow C inp (rtN G p) x.2.1 x.2.2 z
def Fin' (x : K3) : Prop := Acc (fun z x => Child C G inp x z) x
inductive Rch : K3 → K3 → Prop where
  | refl (x : K3) : Rch x x
  | step {x y z : K3} : Child C G inp x y → Rch y z → Rch x z
/-- How many trees. -/
def nT (x : K3) : Nat := (treesT C G inp C.L.length [] x).length
def gT (s : Int) (m m' : Nat) : Nat := if 0 ≤ s then 1 else nT C G inp ((-1 - s).toNat, m, m')
end
section
variable {C : Ct} {G : Gr} {inp : List Int}
theorem Rch.trans {x y z : K3} (h : Rch C G inp x y) (k : Rch C G inp y z) : Rch C G inp x z := by
  induction h with
  | refl => exact k
  | step a _ ih => exact .step a (ih k)
theorem Fin'.irr {x : K3} (h : Fin' C G inp x) : ∀ z, Child C G inp x z → ¬ Rch C G inp z x := by
  induction h with
  | intro x _ ih =>
    intro z hz hr
    cases hr with
    | refl => exact ih x hz x hz (.refl x)
    | step a b => exact ih z hz _ a (b.trans (.step hz (.refl z)))
theorem len_trees {f : Nat} {O : List K3} {x : K3} (h : ¬ (x ∈ O ∨ x ∉ C.L)) : (treesT C G inp (f + 1) O x).length = sumN (byN G x.1) fun p => if fitB C p (rtN G p).length x.2.1 x.2.2 = true then cR C inp (fun s i j => (allOf (treesT C G inp f (x :: O)) s i j).length) (rtN G p) x.2.1 x.2.2 else 0 := by
  rw [treesT, if_neg h, len_flatN]
  refine sumN_congr (fun p _ => ?_)
  by_cases q : fitB C p (rtN G p).length x.2.1 x.2.2 = true
  · rw [if_pos q, if_pos q, List.length_map, rows_len]
  · rw [if_neg q, if_neg q]; rfl
/-- With no span within itself the length does not hang on what is open. -/
theorem Fin'.len {x : K3} (h : Fin' C G inp x) : x ∈ C.L → ∃ n, (∀ f O, Fuel C f O → (∀ z, Rch C G inp x z → z ∉ O) → (treesT C G inp f O x).length = n) ∧ n = sumN (byN G x.1) fun p => if fitB C p (rtN G p).length x.2.1 x.2.2 = true then cR C inp (gT C G inp) (rtN G p) x.2.1 x.2.2 else 0 := by
  induction h with
  | intro x hacc ih =>
    intro hx
    have hfin : Fin' C G inp x := Acc.intro x hacc
    refine ⟨_, fun f O hf hO => ?_, rfl⟩
    have hxO : x ∉ O := hO x (.refl x)
    obtain ⟨f', rfl⟩ : ∃ f', f = f' + 1 := by
      cases f with
      | zero => exact absurd hx (fun h => hf.none.elim hxO (fun e => e h))
      | succ f' => exact ⟨f', rfl⟩
    rw [len_trees (fun e => e.elim hxO (fun e => e hx))]
    refine sumN_congr (fun p hp => ?_)
    by_cases q : fitB C p (rtN G p).length x.2.1 x.2.2 = true
    · rw [if_pos q, if_pos q]
      refine cR_congr (fun r1 s r2 m m' e h1 hmm h2 h3 => ?_)
      unfold allOf gT
      by_cases h0 : 0 ≤ s
      · rw [if_pos h0, if_pos h0]; rfl
      · rw [if_neg h0, if_neg h0]
        have hzL : ((-1 - s).toNat, m, m') ∈ C.L := by
          unfold stB at h2
          rw [if_neg h0] at h2
          exact of_decide_eq_true h2
        have hch : Child C G inp x ((-1 - s).toNat, m, m') := ⟨p, hp, q, r1, r2, by rw [e]; congr 2; simp only; omega, h1, hmm, hzL, h3⟩
        obtain ⟨n, hn, _⟩ := ih _ hch hzL
        have hno : ∀ z, Rch C G inp ((-1 - s).toNat, m, m') z → z ∉ x :: O := fun z hz hm => by
          rcases List.mem_cons.1 hm with rfl | hm
          · exact hfin.irr _ hch hz
          · exact hO z (.step hch hz) hm
        rw [hn f' (x :: O) (hf.step hxO hx) hno]
        exact (hn C.L.length [] (Fuel.start _ _) (fun z _ h => by cases h)).symm
    · rw [if_neg q, if_neg q]
theorem Fin'.nT {x : K3} (h : Fin' C G inp x) (hx : x ∈ C.L) : nT C G inp x = sumN (byN G x.1) fun p => if fitB C p (rtN G p).length x.2.1 x.2.2 = true then cR C inp (gT C G inp) (rtN G p) x.2.1 x.2.2 else 0 := by
  obtain ⟨n, h1, h2⟩ := h.len hx
  unfold Go.Proofs.YtiklbannoinioaaDoor.nT
  rw [h1 _ _ (Fuel.start _ _) (fun z _ h => by cases h), h2]
end
/-- Too many stays too many. -/
def MM (cnt : CS → K3 → CS × Nat) : Prop := ∀ σ x, σ.many = true → (cnt σ x).1.many = true
section
variable {C : Ct} {G : Gr} {inp : List Int} {cnt : CS → K3 → CS × Nat}
theorem many_wfold (hmm : MM cnt) {wy : Nat → CS → CS × Nat} {ok : Nat → Bool} {s : Int} {tq : Nat} (hwy : ∀ m σ, σ.many = true → (wy m σ).1.many = true) : ∀ (ms : List Nat) (q : CS × Nat), q.1.many = true → (ms.foldl (wStep C inp cnt wy ok s tq) q).1.many = true
  | [], q, h => h
  | m :: ms, q, h => by
    rw [List.foldl_cons]
    refine many_wfold hmm hwy ms _ ?_
    unfold wStep
    split
    · refine hwy _ _ ?_
      split
      · exact h
      · exact hmm _ _ h
    · exact h
theorem many_ways (hmm : MM cnt) (p i : Nat) : ∀ (at_ tq : Nat) (σ : CS), σ.many = true → (waysP C G inp cnt p i at_ tq σ).1.many = true
  | 0, tq, σ, h => by rw [waysP]; split <;> exact h
  | at_ + 1, tq, σ, h => by
    rw [waysP]
    split
    · exact many_wfold hmm (fun m σ h => many_ways hmm p i at_ m σ h) _ _ h
    · exact h
theorem many_pfold (hmm : MM cnt) (x : K3) : ∀ (ps : List Nat) (q : CS × Nat), q.1.many = true → (ps.foldl (pStep C G inp cnt x) q).1.many = true
  | [], q, h => h
  | p :: ps, q, h => by
    rw [List.foldl_cons]
    exact many_pfold hmm x ps _ (many_ways hmm p _ _ _ _ h)
theorem many_cnt : ∀ (f : Nat) (O : List K3), MM (cntP C G inp f O)
  | 0, O => fun σ x h => by
    rw [cntP]
    split
    · exact h
    · rfl
  | f + 1, O => fun σ x h => by
    rw [cntP]
    split
    · exact h
    · rw [if_pos (.inr h)]
end
section
variable {G : Gr} {inp : List Int} {I : Nat → List K3} {k : Nat} {L : List K3}
/-- What is told is right. -/
def CI (C : Ct) (G : Gr) (inp : List Int) (σ : CS) : Prop := ∀ x v, lkK σ.M x = some v → Fin' C G inp x ∧ v = nT C G inp x
/-- A name's productions were begun. -/
def Bgn (G : Gr) (I : Nat → List K3) (x : K3) : Prop := ∀ p ∈ byN G x.1, (p, 0, x.2.1) ∈ I x.2.1
def CO (G : Gr) (inp : List Int) (I : Nat → List K3) (L : List K3) (cnt : CS → K3 → CS × Nat) : Prop := ∀ σ x, x ∈ L → Bgn G I x → CI ⟨I, L⟩ G inp σ → (cnt σ x).1.many = false → σ.many = false ∧ CI ⟨I, L⟩ G inp (cnt σ x).1 ∧ Fin' ⟨I, L⟩ G inp x ∧ (cnt σ x).2 = nT ⟨I, L⟩ G inp x
theorem fit_b (hc : Chart G inp k I L) {p i : Nat} (hp : (p, 0, i) ∈ I i) {at_ j : Nat} (ha : at_ ≤ (rtN G p).length) (hj : j < k) : fitB ⟨I, L⟩ p at_ i j = true ↔ Rw (ST L inp) ((rtN G p).take at_) i j := by
  unfold fitB
  rw [decide_eq_true_iff]
  exact hc.fit hp at_ ha j hj
theorem wfold_ok (hc : Chart G inp k I L) {cnt : CS → K3 → CS × Nat} (hmm : MM cnt) (hco : CO G inp I L cnt) {p i at_ tq : Nat} (hp : (p, 0, i) ∈ I i) (ha : at_ < (rtN G p).length) (htq : tq < k)
    (hw : ∀ m σ, i ≤ m → m ≤ tq → CI ⟨I, L⟩ G inp σ → (waysP ⟨I, L⟩ G inp cnt p i at_ m σ).1.many = false → σ.many = false ∧ CI ⟨I, L⟩ G inp (waysP ⟨I, L⟩ G inp cnt p i at_ m σ).1 ∧ (waysP ⟨I, L⟩ G inp cnt p i at_ m σ).2 = cR ⟨I, L⟩ inp (gT ⟨I, L⟩ G inp) ((rtN G p).take at_) i m ∧ ∀ z, ChRow ⟨I, L⟩ inp ((rtN G p).take at_) i m z → Fin' ⟨I, L⟩ G inp z) :
    ∀ (ms : List Nat) (q : CS × Nat), (∀ m ∈ ms, i ≤ m ∧ m ≤ tq) → CI ⟨I, L⟩ G inp q.1 → (ms.foldl (wStep ⟨I, L⟩ inp cnt (fun m σ => waysP ⟨I, L⟩ G inp cnt p i at_ m σ) (fun m => fitB ⟨I, L⟩ p at_ i m) (nth (rtN G p) at_) tq) q).1.many = false →
      q.1.many = false ∧ CI ⟨I, L⟩ G inp (ms.foldl (wStep ⟨I, L⟩ inp cnt (fun m σ => waysP ⟨I, L⟩ G inp cnt p i at_ m σ) (fun m => fitB ⟨I, L⟩ p at_ i m) (nth (rtN G p) at_) tq) q).1 ∧
      (ms.foldl (wStep ⟨I, L⟩ inp cnt (fun m σ => waysP ⟨I, L⟩ G inp cnt p i at_ m σ) (fun m => fitB ⟨I, L⟩ p at_ i m) (nth (rtN G p) at_) tq) q).2 = q.2 + sumN ms (fun m => cR ⟨I, L⟩ inp (gT ⟨I, L⟩ G inp) ((rtN G p).take at_) i m * aW ⟨I, L⟩ inp (gT ⟨I, L⟩ G inp) (nth (rtN G p) at_) m tq) ∧
      ∀ m ∈ ms, Rw (ST L inp) ((rtN G p).take at_) i m → stB ⟨I, L⟩ inp (nth (rtN G p) at_) m tq = true → (∀ z, ChRow ⟨I, L⟩ inp ((rtN G p).take at_) i m z → Fin' ⟨I, L⟩ G inp z) ∧ (nth (rtN G p) at_ < 0 → Fin' ⟨I, L⟩ G inp ((-1 - nth (rtN G p) at_).toNat, m, tq))
  | [], q, _, hci, hm => ⟨hm, hci, rfl, fun m h => by cases h⟩
  | m :: ms, q, hms, hci, hm => by
    rw [List.foldl_cons] at hm ⊢
    have hm0 := hms m (by simp)
    have hf := fit_b hc hp (at_ := at_) (j := m) (by omega) (by omega)
    by_cases hcond : (fitB ⟨I, L⟩ p at_ i m && stB ⟨I, L⟩ inp (nth (rtN G p) at_) m tq) = true
    · have hcond' := hcond
      rw [Bool.and_eq_true] at hcond'
      have hrw := hf.1 hcond'.1
      obtain ⟨kq, hkq⟩ : ∃ kq, kq = (if 0 ≤ nth (rtN G p) at_ then (q.1, 1) else cnt q.1 ((-1 - nth (rtN G p) at_).toNat, m, tq)) := ⟨_, rfl⟩
      have hstep : wStep ⟨I, L⟩ inp cnt (fun m σ => waysP ⟨I, L⟩ G inp cnt p i at_ m σ) (fun m => fitB ⟨I, L⟩ p at_ i m) (nth (rtN G p) at_) tq q m = ((waysP ⟨I, L⟩ G inp cnt p i at_ m kq.1).1, q.2 + (waysP ⟨I, L⟩ G inp cnt p i at_ m kq.1).2 * kq.2) := by
        unfold wStep
        rw [if_pos hcond, ← hkq]
      obtain ⟨qq, hqq⟩ : ∃ qq : CS × Nat, qq = ((waysP ⟨I, L⟩ G inp cnt p i at_ m kq.1).1, q.2 + (waysP ⟨I, L⟩ G inp cnt p i at_ m kq.1).2 * kq.2) := ⟨_, rfl⟩
      have hqq1 : qq.1 = (waysP ⟨I, L⟩ G inp cnt p i at_ m kq.1).1 := by rw [hqq]
      have hqq2 : qq.2 = q.2 + (waysP ⟨I, L⟩ G inp cnt p i at_ m kq.1).2 * kq.2 := by rw [hqq]
      rw [hstep, ← hqq] at hm ⊢
      have hk : kq.1.many = false → q.1.many = false ∧ CI ⟨I, L⟩ G inp kq.1 ∧ kq.2 = gT ⟨I, L⟩ G inp (nth (rtN G p) at_) m tq ∧ (nth (rtN G p) at_ < 0 → Fin' ⟨I, L⟩ G inp ((-1 - nth (rtN G p) at_).toNat, m, tq)) := fun hkm => by
        by_cases h0 : 0 ≤ nth (rtN G p) at_
        · rw [if_pos h0] at hkq
          subst hkq
          exact ⟨hkm, hci, by unfold gT; rw [if_pos h0], fun h => by omega⟩
        · rw [if_neg h0] at hkq
          obtain ⟨a, hA⟩ : ∃ a : Nat, nth (rtN G p) at_ = -1 - (a : Int) := ⟨(-1 - nth (rtN G p) at_).toNat, by omega⟩
          have hzL : ((-1 - nth (rtN G p) at_).toNat, m, tq) ∈ L := by
            have := hcond'.2
            unfold stB at this
            rw [if_neg h0] at this
            exact of_decide_eq_true this
          have hb : Bgn G I ((-1 - nth (rtN G p) at_).toNat, m, tq) := fun q' hq' => by
            have hit : (p, at_, i) ∈ I m := (hc.fit hp at_ (by omega) m (by omega)).2 hrw
            have hah : aheadO G (p, at_, i) = some (-1 - (a : Int)) := by
              unfold aheadO
              rw [if_neg (by simp only; omega), ← hA]
            refine hc.beg m (by omega) _ hit a hah q' ?_
            rw [hA] at hq'
            rwa [show (-1 - (-1 - (a : Int))).toNat = a by omega] at hq'
          rw [hkq] at hkm ⊢
          obtain ⟨g1, g2, g3, g4⟩ := hco q.1 _ hzL hb hci hkm
          exact ⟨g1, g2, by unfold gT; rw [if_neg h0]; exact g4, fun _ => g3⟩
      by_cases hkc : kq.1.many = false
      · obtain ⟨k1, k2, k3, k4⟩ := hk hkc
        by_cases hwm : (waysP ⟨I, L⟩ G inp cnt p i at_ m kq.1).1.many = false
        · obtain ⟨w1, w2, w3, w4⟩ := hw m kq.1 hm0.1 hm0.2 k2 hwm
          obtain ⟨r1, r2, r3, r4⟩ := wfold_ok hc hmm hco hp ha htq hw ms qq (fun m' h => hms m' (List.mem_cons_of_mem _ h)) (by rw [hqq1]; exact w2) hm
          refine ⟨k1, r2, ?_, fun m' hm' => ?_⟩
          · rw [r3, sumN_cons, hqq2, w3, k3]
            unfold aW
            rw [if_pos hcond'.2]
            omega
          · rcases List.mem_cons.1 hm' with rfl | hm'
            · exact fun _ _ => ⟨w4, k4⟩
            · exact r4 m' hm'
        · exact absurd (many_wfold (C := ⟨I, L⟩) (inp := inp) (ok := fun m => fitB ⟨I, L⟩ p at_ i m) (s := nth (rtN G p) at_) (tq := tq) hmm (fun m σ h => many_ways (C := ⟨I, L⟩) (G := G) (inp := inp) hmm p i at_ m σ h) ms qq (by rw [hqq1]; simpa using hwm)) (by rw [hm]; simp)
      · exact absurd (many_wfold (C := ⟨I, L⟩) (inp := inp) (ok := fun m => fitB ⟨I, L⟩ p at_ i m) (s := nth (rtN G p) at_) (tq := tq) hmm (fun m σ h => many_ways (C := ⟨I, L⟩) (G := G) (inp := inp) hmm p i at_ m σ h) ms qq (by rw [hqq1]; exact many_ways hmm p i at_ m _ (by simpa using hkc))) (by rw [hm]; simp)
    · have hstep : wStep ⟨I, L⟩ inp cnt (fun m σ => waysP ⟨I, L⟩ G inp cnt p i at_ m σ) (fun m => fitB ⟨I, L⟩ p at_ i m) (nth (rtN G p) at_) tq q m = q := by
        unfold wStep
        rw [if_neg hcond]
      rw [hstep] at hm ⊢
      obtain ⟨r1, r2, r3, r4⟩ := wfold_ok hc hmm hco hp ha htq hw ms q (fun m' h => hms m' (List.mem_cons_of_mem _ h)) hci hm
      refine ⟨r1, r2, ?_, fun m' hm' => ?_⟩
      · rw [r3, sumN_cons]
        have e0 : cR ⟨I, L⟩ inp (gT ⟨I, L⟩ G inp) ((rtN G p).take at_) i m * aW ⟨I, L⟩ inp (gT ⟨I, L⟩ G inp) (nth (rtN G p) at_) m tq = 0 := by
          unfold aW
          by_cases q1 : stB ⟨I, L⟩ inp (nth (rtN G p) at_) m tq = true
          · rw [cR_zero (fun h => hcond (by rw [Bool.and_eq_true]; exact ⟨hf.2 h, q1⟩)), Nat.zero_mul]
          · rw [if_neg q1, Nat.mul_zero]
        omega
      · rcases List.mem_cons.1 hm' with rfl | hm'
        · exact fun h1 h2 => absurd (by rw [Bool.and_eq_true]; exact ⟨hf.2 h1, h2⟩) hcond
        · exact r4 m' hm'
theorem chRow_nil {C : Ct} {i j : Nat} {z : K3} : ¬ ChRow C inp [] i j z := by
  rintro ⟨r1, r2, e, _⟩
  simp at e
theorem ChRow.rw {C : Ct} {r : List Int} {i j : Nat} {z : K3} (h : ChRow C inp r i j z) : Rw (ST C.L inp) r i j := by
  obtain ⟨r1, r2, rfl, h1, h2, h3, h4⟩ := h
  exact h1.app ⟨z.2.2, h2, h4.le, ST_name.2 h3, h4⟩
theorem ways_ok (hc : Chart G inp k I L) {cnt : CS → K3 → CS × Nat} (hmm : MM cnt) (hco : CO G inp I L cnt) {p i : Nat} (hp : (p, 0, i) ∈ I i) : ∀ (at_ : Nat), at_ ≤ (rtN G p).length → ∀ (tq : Nat) (σ : CS), tq < k → CI ⟨I, L⟩ G inp σ → (waysP ⟨I, L⟩ G inp cnt p i at_ tq σ).1.many = false →
    σ.many = false ∧ CI ⟨I, L⟩ G inp (waysP ⟨I, L⟩ G inp cnt p i at_ tq σ).1 ∧ (waysP ⟨I, L⟩ G inp cnt p i at_ tq σ).2 = cR ⟨I, L⟩ inp (gT ⟨I, L⟩ G inp) ((rtN G p).take at_) i tq ∧ ∀ z, ChRow ⟨I, L⟩ inp ((rtN G p).take at_) i tq z → Fin' ⟨I, L⟩ G inp z
  | 0, _, tq, σ, htq, hci, hm => by
    have hf := fit_b hc hp (at_ := 0) (j := tq) (Nat.zero_le _) htq
    rw [waysP] at hm ⊢
    rw [List.take_zero] at hf ⊢
    by_cases q : fitB ⟨I, L⟩ p 0 i tq = true
    · rw [if_pos q] at hm ⊢
      have e : i = tq := hf.1 q
      exact ⟨hm, hci, by rw [cR, if_pos e], fun z hz => absurd hz chRow_nil⟩
    · rw [if_neg q] at hm ⊢
      exact ⟨hm, hci, by rw [cR_zero (fun h => q (hf.2 h))], fun z hz => absurd hz chRow_nil⟩
  | at_ + 1, ha, tq, σ, htq, hci, hm => by
    have hf := fit_b hc hp (at_ := at_ + 1) (j := tq) ha htq
    rw [waysP] at hm ⊢
    by_cases q : fitB ⟨I, L⟩ p (at_ + 1) i tq = true
    · rw [if_pos q] at hm ⊢
      have hl : at_ < (rtN G p).length := by omega
      have hrow := hf.1 q
      have htk : (rtN G p).take (at_ + 1) = (rtN G p).take at_ ++ [nth (rtN G p) at_] := by
        rw [List.take_add_one, List.getElem?_eq_getElem hl, nth_get hl]; rfl
      obtain ⟨r1, r2, r3, r4⟩ := wfold_ok hc hmm hco hp hl htq (fun m σ h1 h2 h3 h4 => ways_ok hc hmm hco hp at_ (by omega) m σ (by omega) h3 h4) (mids i tq) (σ, 0) (fun m hm => mem_mids.1 hm) hci hm
      refine ⟨r1, r2, ?_, fun z hz => ?_⟩
      · rw [r3, htk, cR_snoc]
        simp only [Nat.zero_add]
      · rw [htk] at hz
        obtain ⟨z1, z2, e, g1, g2, g3, g4⟩ := hz
        rcases List.eq_nil_or_concat z2 with e2 | ⟨z3, u, e2⟩
        · subst e2
          obtain ⟨e3, e4⟩ := List.append_inj' e rfl
          cases g4
          have e5 : nth (rtN G p) at_ = -1 - (z.1 : Int) := by simpa using e4
          rw [← e3] at g1
          have h4 := (r4 z.2.1 (mem_mids.2 ⟨g1.le, g2⟩) g1 (by rw [e5]; exact ST_name.2 g3)).2 (by omega)
          rw [e5, show (-1 - (-1 - (z.1 : Int))).toNat = z.1 by omega] at h4
          exact h4
        · rw [List.concat_eq_append] at e2
          subst e2
          have e3 : (rtN G p).take at_ ++ [nth (rtN G p) at_] = (z1 ++ (-1 - (z.1 : Int)) :: z3) ++ [u] := by rw [e]; simp
          obtain ⟨e4, e5⟩ := List.append_inj' e3 rfl
          have e6 : nth (rtN G p) at_ = u := by simpa using e5
          obtain ⟨m2, h1, m3, h2, h3, h5, h6⟩ := Rw.unapp g4
          have e7 : m3 = tq := h6
          subst e7
          have hch : ChRow ⟨I, L⟩ inp ((rtN G p).take at_) i m2 z := ⟨z1, z3, e4, g1, g2, g3, h1⟩
          exact (r4 m2 (mem_mids.2 ⟨hch.rw.le, h2⟩) hch.rw (by rw [e6]; exact h5)).1 z hch
    · rw [if_neg q] at hm ⊢
      exact ⟨hm, hci, by rw [cR_zero (fun h => q (hf.2 h))], fun z hz => absurd (hf.2 hz.rw) q⟩
theorem pfold_ok (hc : Chart G inp k I L) {cnt : CS → K3 → CS × Nat} (hmm : MM cnt) (hco : CO G inp I L cnt) {x : K3} (hx : x.2.2 < k) : ∀ (ps : List Nat) (q : CS × Nat), (∀ p ∈ ps, (p, 0, x.2.1) ∈ I x.2.1) → CI ⟨I, L⟩ G inp q.1 → (ps.foldl (pStep ⟨I, L⟩ G inp cnt x) q).1.many = false →
    q.1.many = false ∧ CI ⟨I, L⟩ G inp (ps.foldl (pStep ⟨I, L⟩ G inp cnt x) q).1 ∧ (ps.foldl (pStep ⟨I, L⟩ G inp cnt x) q).2 = q.2 + sumN ps (fun p => if fitB ⟨I, L⟩ p (rtN G p).length x.2.1 x.2.2 = true then cR ⟨I, L⟩ inp (gT ⟨I, L⟩ G inp) (rtN G p) x.2.1 x.2.2 else 0) ∧
      ∀ p ∈ ps, ∀ z, ChRow ⟨I, L⟩ inp (rtN G p) x.2.1 x.2.2 z → Fin' ⟨I, L⟩ G inp z
  | [], q, _, hci, hm => ⟨hm, hci, rfl, fun p h => by cases h⟩
  | p :: ps, q, hps, hci, hm => by
    rw [List.foldl_cons] at hm ⊢
    have hp := hps p (by simp)
    by_cases hwm : (pStep ⟨I, L⟩ G inp cnt x q p).1.many = false
    · obtain ⟨w1, w2, w3, w4⟩ := ways_ok hc hmm hco hp (rtN G p).length (Nat.le_refl _) x.2.2 q.1 hx hci hwm
      rw [List.take_length] at w3 w4
      obtain ⟨r1, r2, r3, r4⟩ := pfold_ok hc hmm hco hx ps (pStep ⟨I, L⟩ G inp cnt x q p) (fun p' h => hps p' (List.mem_cons_of_mem _ h)) w2 hm
      refine ⟨w1, r2, ?_, fun p' hp' => ?_⟩
      · rw [r3, sumN_cons]
        have hf := fit_b hc hp (at_ := (rtN G p).length) (j := x.2.2) (Nat.le_refl _) hx
        rw [List.take_length] at hf
        have e : (if fitB ⟨I, L⟩ p (rtN G p).length x.2.1 x.2.2 = true then cR ⟨I, L⟩ inp (gT ⟨I, L⟩ G inp) (rtN G p) x.2.1 x.2.2 else 0) = cR ⟨I, L⟩ inp (gT ⟨I, L⟩ G inp) (rtN G p) x.2.1 x.2.2 := by
          by_cases q1 : fitB ⟨I, L⟩ p (rtN G p).length x.2.1 x.2.2 = true
          · rw [if_pos q1]
          · rw [if_neg q1, cR_zero (fun h => q1 (hf.2 h))]
        rw [e]
        unfold pStep
        simp only [w3]
        omega
      · rcases List.mem_cons.1 hp' with rfl | hp'
        · exact w4
        · exact r4 p' hp'
    · exact absurd (many_pfold hmm x ps _ (by simpa using hwm)) (by rw [hm]; simp)
theorem cnt_ok (hc : Chart G inp k I L) : ∀ (f : Nat) (O : List K3), CO G inp I L (cntP ⟨I, L⟩ G inp f O)
  | 0, O => fun σ x hx hb hci hm => by
    rw [cntP] at hm ⊢
    cases el : lkK σ.M x with
    | some v =>
      simp only [el] at hm ⊢
      exact ⟨hm, hci, hci x v el⟩
    | none => simp only [el] at hm; cases hm
  | f + 1, O => fun σ x hx hb hci hm => by
    rw [cntP] at hm ⊢
    cases el : lkK σ.M x with
    | some v =>
      simp only [el] at hm ⊢
      exact ⟨hm, hci, hci x v el⟩
    | none =>
      simp only [el] at hm ⊢
      by_cases q : x ∈ O ∨ σ.many = true
      · rw [if_pos q] at hm; cases hm
      · rw [if_neg q] at hm ⊢
        obtain ⟨r1, r2, r3, r4⟩ := pfold_ok hc (many_cnt f (x :: O)) (cnt_ok hc f (x :: O)) (hc.lt x hx).2.1 (byN G x.1) (σ, 0) hb hci hm
        have hfin : Fin' ⟨I, L⟩ G inp x := Acc.intro x (fun z hz => by
          obtain ⟨p, hp, _, hz⟩ := hz
          exact r4 p hp z hz)
        have hv := hfin.nT hx
        simp only [Nat.zero_add] at r3
        have hval : ((byN G x.1).foldl (pStep ⟨I, L⟩ G inp (cntP ⟨I, L⟩ G inp f (x :: O)) x) (σ, 0)).2 = nT ⟨I, L⟩ G inp x := by rw [r3, hv]
        refine ⟨r1, fun y v hy => ?_, hfin, hval⟩
        simp only [lkK] at hy
        split at hy
        · rename_i e
          subst e
          cases hy
          exact ⟨hfin, hval⟩
        · exact r2 y v hy
end
end Go.Proofs.YtiklbannoinioaaDoor
namespace Go.Proofs.YtiklbannoinioaaDoor
open Go.RowKit BigFrame Go.Maps
set_option linter.unusedVariables false
set_option linter.unusedSimpArgs false
set_option maxRecDepth 100000

def G1 : Gr := ⟨1, 1, 0, [(0, [0], 0)], [], []⟩
theorem g1_ok : GOk G1 := by
  refine ⟨by decide, by decide, by decide, by decide, by decide, by decide, by decide, .inl rfl, by decide, fun x h => by simp [G1] at h, fun x h => by simp [G1] at h, fun p hp => ?_⟩
  simp [G1] at hp
  subst hp
  refine ⟨by decide, by decide, by decide, by decide, by decide, fun s hs => ?_⟩
  simp at hs
  subst hs
  exact ⟨by decide, by decide⟩
def I1 (j : Nat) : List K3 := if j = 0 then [(0, 0, 0)] else [(0, 1, 0)]
theorem g1_filled : Filled G1 [0] I1 2 [(0, 0, 1)] := by
  refine .step (L := []) (.step (L := []) .zero ?_ ?_) ?_ ?_
  · have e : (startL G1 [0] I1 0).foldl stP ([], []) = ([(0, 0, 0)], [(0, 0, 0)]) := by decide
    rw [e]
    show RunsTo G1 I1 0 [(0, 0, 0)] ([] ++ [(0, 0, 0)]) [] _ _
    refine .step ?_
    have e2 : popS G1 I1 0 [(0, 0, 0)] [] [] (0, 0, 0) = ([(0, 0, 0)], [], []) := by decide
    rw [e2]
    exact .done _ _
  · exact ⟨by decide, fun x hx => by simp [I1] at hx; subst hx; exact ⟨by decide, by decide, by decide⟩, by decide, fun x hx => by cases hx⟩
  · have e : (startL G1 [0] I1 1).foldl stP ([], []) = ([(0, 1, 0)], [(0, 1, 0)]) := by decide
    rw [e]
    show RunsTo G1 I1 1 [(0, 1, 0)] ([] ++ [(0, 1, 0)]) [] _ _
    refine .step ?_
    have e2 : popS G1 I1 1 [(0, 1, 0)] [] [] (0, 1, 0) = ([(0, 1, 0)], [], [(0, 0, 1)]) := by decide
    rw [e2]
    exact .done _ _
  · exact ⟨by decide, fun x hx => by simp [I1] at hx; subst hx; exact ⟨by decide, by decide, by decide⟩, by decide, fun x hx => by cases hx⟩
theorem g1_ch : (chT G1 [0]).I 0 = [(0, 0, 0)] ∧ (chT G1 [0]).I 1 = [(0, 1, 0)] ∧ (chT G1 [0]).L = [(0, 0, 1)] := by
  have h := chT_filled (G := G1) (inp := [0]) g1_filled
  obtain ⟨h1, h2⟩ := g1_filled.det g1_ok (by decide) h
  exact ⟨h1 0 (by decide), h1 1 (by decide), h2⟩
theorem g1_has : hasT G1 [0] = true := by
  unfold hasT wholeX
  rw [g1_ch.2.2]
  decide
theorem g1_byN : byN G1 0 = [0] := by decide
theorem g1_rt : rtN G1 0 = [0] := by decide
theorem g1_trees : tsT G1 [0] 2 = [.node 0 0 [.node (-1) 0 []]] := by
  obtain ⟨h0, h1, h2⟩ := g1_ch
  unfold tsT
  rw [if_pos g1_has, h2]
  show List.take 2 (treesT (chT G1 [0]) G1 [0] 1 [] (0, 0, 1)) = _
  rw [treesT, if_neg (by rw [h2]; decide)]
  show List.take 2 ((byN G1 0).flatMap _) = _
  rw [g1_byN]
  simp only [List.flatMap_cons, List.flatMap_nil, List.append_nil, g1_rt]
  have ef : fitB (chT G1 [0]) 0 [(0 : Int)].length 0 1 = true := by unfold fitB; rw [h1]; decide
  rw [if_pos ef]
  have em : mids 0 1 = [0, 1] := by decide
  have es0 : stB (chT G1 [0]) [0] 0 0 0 = false := by unfold stB; decide
  have es1 : stB (chT G1 [0]) [0] 0 0 1 = true := by unfold stB; decide
  rw [rowsT, em]
  simp only [List.flatMap_cons, List.flatMap_nil, List.append_nil, es0, es1, Bool.false_and, Bool.true_and, Bool.false_eq_true, if_false, List.nil_append]
  have er : restB (chT G1 [0]) [0] [] 1 1 = true := by unfold restB; decide
  rw [if_pos er]
  rfl
theorem g1_count : cntS G1 [0] = [49] := by
  obtain ⟨h0, h1, h2⟩ := g1_ch
  have hc : cntW G1 [0] = (⟨[((0, 0, 1), 1)], false⟩, 1) := by
    unfold cntW
    rw [h2]
    show cntP (chT G1 [0]) G1 [0] 1 [] ⟨[], false⟩ (0, 0, 1) = _
    rw [cntP]
    simp only [lkK]
    rw [if_neg (by decide)]
    have e : (byN G1 0).foldl (pStep (chT G1 [0]) G1 [0] (cntP (chT G1 [0]) G1 [0] 0 [(0, 0, 1)]) (0, 0, 1)) (⟨[], false⟩, 0) = (⟨[], false⟩, 1) := by
      rw [g1_byN]
      simp only [List.foldl_cons, List.foldl_nil, pStep, g1_rt]
      have em : mids 0 1 = [0, 1] := by decide
      have ef : fitB (chT G1 [0]) 0 1 0 1 = true := by unfold fitB; rw [h1]; decide
      have f0 : fitB (chT G1 [0]) 0 0 0 0 = true := by unfold fitB; rw [h0]; decide
      have f1 : fitB (chT G1 [0]) 0 0 0 1 = false := by unfold fitB; rw [h1]; decide
      have es1 : stB (chT G1 [0]) [0] 0 0 1 = true := by unfold stB; decide
      have en : nth [(0 : Int)] 0 = 0 := by decide
      show ((waysP (chT G1 [0]) G1 [0] (cntP (chT G1 [0]) G1 [0] 0 [(0, 0, 1)]) 0 0 (0 + 1) 1 ⟨[], false⟩).1, 0 + (waysP (chT G1 [0]) G1 [0] (cntP (chT G1 [0]) G1 [0] 0 [(0, 0, 1)]) 0 0 (0 + 1) 1 ⟨[], false⟩).2) = _
      rw [waysP, if_pos ef, em]
      simp only [List.foldl_cons, List.foldl_nil, wStep, f0, f1, g1_rt, en, es1, Bool.and_self, Bool.false_and, if_true, Bool.false_eq_true, if_false, waysP]
      rfl
    rw [e]
  unfold cntS
  rw [if_pos g1_has, hc]
  simp only [Bool.false_eq_true, if_false]
  rw [Lib.decDigits]
  decide
theorem g1_show : showT (.node 0 0 [.node (-1) 0 []]) = [40, 48, 32, 48, 41] := by
  rw [showT, if_neg (by decide), showL, showT, if_pos (by decide), showL]
  have e : Lib.itoa 0 = [48] := by
    have := itoa_nat 0
    rw [show ((0 : Nat) : Int) = 0 from rfl] at this
    rw [this, Lib.decDigits]
    decide
  rw [e]
  rfl
end Go.Proofs.YtiklbannoinioaaDoor
namespace Go.Proofs.YtiklbannoinioaaDoor
open Go.RowKit BigFrame Go.Maps
set_option linter.unusedVariables false
set_option linter.unusedSimpArgs false
set_option maxRecDepth 100000

theorem g1_in (w : World) (a b : Nat) (ha : a < w.heap.size) (hb : b < w.heap.size) (z0 : w.cell? ⟨a, 0, none⟩ = some (.int .i64 0)) (z1 : w.cell? ⟨a, 1, none⟩ = some (.slice (some ⟨b, 0, none⟩) 1 1)) (z2 : w.cell? ⟨a, 2, none⟩ = some (.int .i64 0)) (y0 : w.cell? ⟨b, 0, none⟩ = some (.int .i64 0)) :
    GrIn w w.heap.size G1 (some ⟨a, 0, none⟩) none none 1 1 0 0 0 0 := by
  have h0 : (Lit.int .i64 0).wf = true := by decide
  have hr : (shL shInt).rd w (Lo w.heap.size) [0] [.slice (some ⟨b, 0, none⟩) 1 1] := ⟨some ⟨b, 0, none⟩, 1, [[.int .i64 0]], rfl, Nat.le_refl _, by decide, rfl, fun i x d hx hd => by
    cases i with
    | zero => simp at hx hd; subst hx hd; exact ⟨rfl, h0⟩
    | succ i => simp at hx, fun _ => ⟨b, 0, rfl, hb, fun j u hu => by
    cases j with
    | zero => simp at hu; subst hu; exact y0
    | succ j => simp at hu⟩⟩
  refine ⟨⟨some ⟨a, 0, none⟩, 1, [[.int .i64 0, .slice (some ⟨b, 0, none⟩) 1 1, .int .i64 0]], rfl, Nat.le_refl _, by decide, rfl, fun i x d hx hd => ?_, fun _ => ⟨a, 0, rfl, ha, fun j u hu => ?_⟩⟩, Rd.nil _ _ _, rfl, Nat.zero_le _, Rd.nil _ _ _, rfl, Nat.zero_le _⟩
  · cases i with
    | zero =>
      simp [G1] at hx hd
      subst hx hd
      exact ⟨[.int .i64 0], [.slice (some ⟨b, 0, none⟩) 1 1, .int .i64 0], rfl, ⟨rfl, h0⟩, [.slice (some ⟨b, 0, none⟩) 1 1], [.int .i64 0], rfl, hr, rfl, h0⟩
    | succ i => simp [G1] at hx
  · match j with
    | 0 => simp at hu; subst hu; exact z0
    | 1 => simp at hu; subst hu; exact z1
    | 2 => simp at hu; subst hu; exact z2
    | j + 3 => simp at hu
theorem one_any (w : World) : Calls Tryd.prog 13 #[] w fun e w' => ∃ a, e = .returned (.agg #[.int .i64 1, .int .i64 1, .int .i64 0, .slice (some ⟨a, 0, none⟩) 1 1, .slice none 0 0, .slice none 0 0]) ∧ GrIn w' w'.heap.size G1 (some ⟨a, 0, none⟩) none none 1 1 0 0 0 0 ∧ Below w.heap.size w w' := by
  go_enter Tryd.func13, Tryd.ntmps13
  go_wp2_with fail
  refine bodyPost_ret (v := .agg #[.int .i64 1, .int .i64 1, .int .i64 0, .slice (some ⟨w.heap.size + 1 + 1, 0, none⟩) 1 1, .slice none 0 0, .slice none 0 0]) (by simp [results, Tryd.results13, go_sem]) rfl ⟨w.heap.size + 1 + 1, rfl, ?_, (((Below.refl _ _).alloc (Nat.le_refl _) _).alloc (by simp) _).alloc (by simp; omega) _⟩
  refine g1_in _ (w.heap.size + 1 + 1) (w.heap.size + 1) (by simp) (by simp; try omega) ?_ ?_ ?_ ?_
  all_goals
    have h3 := Blk.new ((w.alloc (.cells #[.int .i64 1, .int .i64 1, .int .i64 0, .slice (some ⟨w.heap.size + 1 + 1, 0, none⟩) 1 1, .slice none 0 0, .slice none 0 0] 25)).alloc (.cells #[.int .i64 0] 3)) 40 [.int .i64 0, .slice (some ⟨w.heap.size + 1, 0, none⟩) 1 1, .int .i64 0]
    have h2 := (Blk.new (w.alloc (.cells #[.int .i64 1, .int .i64 1, .int .i64 0, .slice (some ⟨w.heap.size + 1 + 1, 0, none⟩) 1 1, .slice none 0 0, .slice none 0 0] 25)) 3 [.int .i64 0]).alloc (.cells #[.int .i64 0, .slice (some ⟨w.heap.size + 1, 0, none⟩) 1 1, .int .i64 0] 40)
    have e3 : ((w.alloc (.cells #[.int .i64 1, .int .i64 1, .int .i64 0, .slice (some ⟨w.heap.size + 1 + 1, 0, none⟩) 1 1, .slice none 0 0, .slice none 0 0] 25)).alloc (.cells #[.int .i64 0] 3)).heap.size = w.heap.size + 1 + 1 := by simp
    have e2 : (w.alloc (.cells #[.int .i64 1, .int .i64 1, .int .i64 0, .slice (some ⟨w.heap.size + 1 + 1, 0, none⟩) 1 1, .slice none 0 0, .slice none 0 0] 25)).heap.size = w.heap.size + 1 := by simp
    rw [e3] at h3
    rw [e2] at h2
    first | exact h3.cell rfl | exact h2.cell rfl


theorem one_len : (tsT G1 [0] 2).length = 1 := by rw [g1_trees]; rfl
set_option maxHeartbeats 8000000 in
theorem tells_any (w : World) (hgl : 0 < w.heap.size) (hp : Pow w) : Calls Tryd.prog 4 #[] w fun e w' => e = .returned (.bool true) ∧ Below w.heap.size w w' := by
  have hR : ∀ p, p < G1.prods.length → (rtN G1 p).length ≤ 5 := fun p hp => by
    have : p = 0 := by simp [G1] at hp; omega
    subst this
    decide
  have HR := Lib.hid hR
  have HO := Lib.hid (one_any w)
  clear hR
  have HGL := Lib.hid hgl; have HP := Lib.hid hp
  clear hgl hp
  go_enter Tryd.func4, Tryd.ntmps4
  go_wp2_with fail
  refine HO.out.mono ?_
  rintro e w1 ⟨a1, rfl, hg1, hb1⟩
  obtain ⟨w2, hw2⟩ : ∃ w2, w2 = w1.alloc (.cells #[.int .i64 0] 3) := ⟨_, rfl⟩
  have hb2 : Below w1.heap.size w1 w2 := by rw [hw2]; exact (Below.refl _ _).alloc (Nat.le_refl _) _
  have hx2 : Blk w2 w1.heap.size 3 (iv [0]) := by rw [hw2]; exact Blk.new w1 _ _
  have HT := Lib.hid (pTrees_any G1 (some ⟨a1, 0, none⟩) none none 1 1 0 0 0 0 (some ⟨w1.heap.size, 0, none⟩) 1 1 2 [0] w2 w2.heap.size (Nat.le_refl _) ((hg1.below hb2).more hb2.size) g1_ok (by decide) ⟨Nat.le_refl _, by unfold maxLen; decide⟩ rfl (hx2.rdI hx2.lt) (by decide) (by rw [g1_ch.2.2]; decide))
  have HB2 := Lib.hid (hb1.trans (hb2.mono hb1.size)); have HW2 := Lib.hid hw2
  clear hg1 hb1 hb2 hx2 hw2 HO
  go_wp2_with fail
  rw [← HW2.out]
  refine HT.out.mono ?_
  rintro e w3 ⟨v, rfl, hto⟩
  have hb3 := HB2.out.trans (hto.bel.mono HB2.out.size)
  obtain ⟨vs, hown, R, hRs, hel⟩ := hto.ex
  rw [one_len] at hown
  rcases hown.2 with ⟨_, e⟩ | ⟨g, cap, cur, rfl, hbg, hg, hc1, hc2, _, _⟩
  · cases e
  · obtain ⟨u, hu, hti⟩ := hel 0 _ (by rw [g1_trees]; rfl)
    have hu2 := hown.cells (g := g) rfl 0 u hu
    have hadd : (⟨g, 0, none⟩ : Addr).add 0 = ⟨g, 0, none⟩ := by unfold Addr.add; split <;> simp_all
    rw [hadd] at hu2
    have htb : TrB w3 w3.heap.size u (.node 0 0 [.node (-1) 0 []]) := TrIn.keep (fun _ _ => rfl) hRs hti
    obtain ⟨b0, _, _, rfl, _⟩ := TrIn.node_inv hti
    have HU2 := Lib.hid hu2; have HTB := Lib.hid htb; have HB3 := Lib.hid hb3; have HGT := Lib.hid (Array.getElem?_eq_some_iff.1 hg).1
    have HO2 := Lib.hid (one_any w3)
    unfold maxLen at hc2
    clear hu2 htb hti hel hRs hto hown hbg hg hadd hu hb3 HT
    go_wp2_with fail
    refine HO2.out.mono ?_
    rintro e w4 ⟨a4, rfl, hg4, hb4⟩
    obtain ⟨w5, hw5⟩ : ∃ w5, w5 = w4.alloc (.cells #[.int .i64 0] 3) := ⟨_, rfl⟩
    have hb5 : Below w4.heap.size w4 w5 := by rw [hw5]; exact (Below.refl _ _).alloc (Nat.le_refl _) _
    have hx5 : Blk w5 w4.heap.size 3 (iv [0]) := by rw [hw5]; exact Blk.new w4 _ _
    have hb05 := HB3.out.trans ((hb4.trans (hb5.mono hb4.size)).mono HB3.out.size)
    have HC := Lib.hid (pCount_any' G1 (some ⟨a4, 0, none⟩) none none 1 1 0 0 0 0 (some ⟨w4.heap.size, 0, none⟩) 1 1 [0] w5 w5.heap.size (Nat.le_refl _) (Nat.lt_of_lt_of_le HGL.out hb05.size) (HP.out.below HGL.out hb05) ((hg4.below hb5).more hb5.size) g1_ok (by decide) ⟨Nat.le_refl _, by unfold maxLen; decide⟩ rfl (hx5.rdI hx5.lt) HR.out (by decide) (by decide))
    have HB35 := Lib.hid (hb4.trans (hb5.mono hb4.size)); have HW5 := Lib.hid hw5
    clear hg4 hb4 hb5 hx5 hw5 hb05 HO2
    go_wp2_with fail
    rw [← HW5.out]
    refine HC.out.mono ?_
    rintro e w6 ⟨rfl, hb6, -⟩
    have HB36 := Lib.hid (HB35.out.trans (hb6.mono HB35.out.size))
    have HO3 := Lib.hid (one_any w6)
    rw [g1_count]
    unfold bs
    clear hb6 HC
    go_wp2_with fail
    refine HO3.out.mono ?_
    rintro e w7 ⟨a7, rfl, hg7, hb7⟩
    obtain ⟨w8, hw8⟩ : ∃ w8, w8 = w7.alloc (.cells #[.int .i64 0] 3) := ⟨_, rfl⟩
    have hb8 : Below w7.heap.size w7 w8 := by rw [hw8]; exact (Below.refl _ _).alloc (Nat.le_refl _) _
    have hx8 : Blk w8 w7.heap.size 3 (iv [0]) := by rw [hw8]; exact Blk.new w7 _ _
    have HH := Lib.hid (pHas_any G1 (some ⟨a7, 0, none⟩) none none 1 1 0 0 0 0 (some ⟨w7.heap.size, 0, none⟩) 1 1 [0] w8 w8.heap.size (Nat.le_refl _) ((hg7.below hb8).more hb8.size) g1_ok (by decide) ⟨Nat.le_refl _, by unfold maxLen; decide⟩ rfl (hx8.rdI hx8.lt))
    have HB38 := Lib.hid (HB36.out.trans ((hb7.trans (hb8.mono hb7.size)).mono HB36.out.size)); have HW8 := Lib.hid hw8
    clear hg7 hb7 hb8 hx8 hw8 HO3
    go_wp2_with fail
    rw [← HW8.out]
    refine HH.out.mono ?_
    rintro e w9 ⟨rfl, hb9, -⟩
    rw [g1_has]
    have hb39 := HB38.out.trans (hb9.mono HB38.out.size)
    have y0 := (hb39.cell (p := ⟨g, 0, none⟩) HGT.out).trans HU2.out
    have hb09 := HB3.out.trans (hb39.mono HB3.out.size)
    have HS := Lib.hid (pshow_any w9.heap.size (Nat.lt_of_lt_of_le HGL.out hb09.size) (.node 0 0 [.node (-1) 0 []]) (by decide) (.node (by decide) (by decide) (by decide) (by decide) (fun k hk => by simp at hk; subst hk; exact .node (by decide) (by decide) (by decide) (by decide) (fun k hk => by cases hk))) _ w9 (Nat.le_refl _) (HP.out.below HGL.out hb09) (TrB.more (TrB.below HTB.out hb39) hb39.size))
    rw [g1_show] at HS
    have HB9 := Lib.hid hb09
    clear hb39 hb09 hb9 HH
    unfold bs at HS
    go_wp2_with fail
    refine HS.out.mono ?_
    rintro e w10 ⟨rfl, hb10⟩
    have HB10 := Lib.hid (HB9.out.trans (hb10.mono HB9.out.size))
    clear hb10 HS
    go_wp2_with fail
    go_ret
    exact ⟨rfl, HB10.out⟩
end Go.Proofs.YtiklbannoinioaaDoor
