/- Plain: the program's least automaton is the document's. · The alphabet: the pieces of all classes, gathered and then ordered. -/
import Derived.Test.YthikgdogfkjioaaGreatDoorQ26
import Derived.Test.YthikgdogfkjioaaGreatDoorQ45
import Derived.Test.YthikgdogfkjioaaGreatDoorQ28
import Derived.Test.YthikgdogfkjioaaGreatDoorQ15
import Derived.Test.YthikgdogfkjioaaGreatDoorQ13
namespace Go.Proofs.YthikgdogfkjioaaGreatDoor
set_option linter.unusedVariables false
set_option linter.unusedSimpArgs false

/-- The program's answer. -/
structure PeaR (l : List St) (acc : List St) : Prop where
  ex : ∃ C X O part count, ∃ AL : List Bool, Parted (setsP l) C ∧ Cover 0 1114111 X ∧ (∀ r ∈ X, ∀ p, r.1 ≤ p → p ≤ r.2 → clsOf C p = clsOf C r.1) ∧ Mini (rul l) (fun s c => dlt l s (repOf C c)) (l.length + 1) C.length O part count ∧
    (∀ k, k < count → (bAt AL k = true ↔ Live (fun k => rul l (oAt O (fstOf O.length part k))) (fun k c => part (O.idxOf (dlt l (oAt O (fstOf O.length part k)) (repOf C c)))) (· < C.length) k)) ∧
    ((bAt AL 0 = false ∧ acc = []) ∨ (bAt AL 0 = true ∧ ∃ ord, ShI count (thE (bAt AL) C (fun k c => part (O.idxOf (dlt l (oAt O (fstOf O.length part k)) (repOf C c)))) (fun k => rul l (oAt O (fstOf O.length part k)))) X ord.length ord acc)) ∧ X.length ≤ 64400
theorem build_stop {σ : Type} {e : Env σ} {pcs : List (Int × Int)} {x : σ} {f : Nat} {ord : List σ} {acc : List St} (h : build e pcs f 0 [x] [] = (ord, acc)) (hl : ord.length = f) : ∀ k, build e pcs (f + k) 0 [x] [] = (ord, acc)
  | 0 => h
  | k + 1 => by
    rw [← Nat.add_assoc, build_succ, build_stop h hl k, Nat.zero_add]
    simp only
    rw [List.getElem?_eq_none (by omega)]
theorem least_alive {l : List St} (hok : okA l = true) {CR CP : List (List Rg)} {e : List Int} {d : Nat → Nat → Bool} {no : Nat → Bool} {L : List Rg} {m : Nat} {o at_ part : Nat → Nat} {al : Nat → Bool} (hD : DocL l CR e d no) (hP : ProL l CP L m o at_ part al) :
    (docE l CR d no).alive 0 = (proE l CP m o at_ part al).alive (part 0) := by
  have k1 := cls_of_parted hD.f_c (fun s p q hp hq h => setsR_const hp hq h)
  have k2 := cls_of_parted hP.f_c (fun s p q hp hq h => setsP_const hok hp hq h)
  have t2 := hP.f_l.tiles (by omega)
  have i1 := tiles_in hD.f_t
  have i2 := tiles_in t2
  have E1 := table_env hok k1 hD.f_d hD.f_no (pcs := stretches e) (fun pc hp => by have := i1 pc hp; exact ⟨by omega, by omega⟩)
  have E2 := parts_env k2 (R := StandsFor m o part) (ruM := fun k => rul l (o (fstOf m part k))) (mvM := fun k c => part (at_ (dlt l (o (fstOf m part k)) (repOf CP c)))) (al := al) (fun k s h => hP.f_p.ru h) (fun k s c h hc => hP.f_p.step h hc) (fun k s k' s' h h' => hP.f_p.same h h')
    (fun k s ⟨i, hi, _, e⟩ => by subst e; exact hP.f_al i hi) (pcs := L) (fun pc hp => by have := i2 pc hp; exact ⟨by omega, by omega⟩)
  exact (E1.alive 0 0 ⟨rfl, Nat.zero_le _⟩).trans (E2.alive (part 0) 0 ⟨0, hP.f_m, hP.f_o, rfl⟩).symm
theorem PeaR.moves {l acc : List St} (h : PeaR l acc) : ∀ s ∈ acc, s.2.length ≤ 64400 := fun s hs => by
  obtain ⟨CP, X, O, part, count, AL, p1, p2, p3, p4, p5, p6, p7⟩ := h.ex
  rcases p6 with ⟨_, r2⟩ | ⟨_, ordP, hT⟩
  · rw [r2] at hs; cases hs
  · have := hT.m s hs; omega
theorem lea_pea {l accR accP : List St} (hok : okA l = true) (hR : LeaR l accR) (hP : PeaR l accP) : accP = accR := by
  obtain ⟨C, T, L, c1, c2, c3, c4⟩ := hR.ex
  obtain ⟨CP, X, O, part, count, AL, p1, p2, p3, p4, p5, p6, -⟩ := hP.ex
  have hPL : ProL l CP X O.length (oAt O) (fun t => O.idxOf t) part (bAt AL) := ⟨p1, p2, p3, p4.pr, p4.pos, p4.zero, fun i hi => p5 _ (p4.lt i hi)⟩
  have hDL : ∀ E, EdS E C → DocL l C E (dM T) (bth L) := fun E hE => ⟨c1, edged_of hE c1, fun x hx => by have := hE.o.bd x hx; unfold MP at this; omega, edges_tiles hE.o, fun s t hs ht => c2 s t (by omega) (by omega), fun s hs => c3 s (by omega)⟩
  obtain ⟨E0, e1, e2, e3⟩ := edges_all C
  have hal := least_alive hok (hDL E0 ⟨e1, e2⟩) hPL
  have ha : (!bth L 0) = bAt AL (part 0) := hal
  rw [p4.z] at ha
  rcases c4 with ⟨q1, q2⟩ | ⟨q1, E, ordR, hE, hS⟩
  · rcases p6 with ⟨_, r2⟩ | ⟨r1, _⟩
    · rw [q2, r2]
    · rw [q1, r1] at ha; cases ha
  · rcases p6 with ⟨r1, _⟩ | ⟨r1, ordP, hT⟩
    · rw [q1, r1] at ha; cases ha
    · have hj := fun f => (least_joined hok (hDL E hE) hPL f).1
      rw [p4.z] at hj
      have s1 : build (docE l C (dM T) (bth L)) (stretches E) ordR.length 0 [0] [] = (ordR, accR) := hS.b
      have s2 : build (proE l CP O.length (oAt O) (fun t => O.idxOf t) part (bAt AL)) X ordP.length 0 [0] [] = (ordP, accP) := hT.b
      have f1 := build_stop s1 rfl ordP.length
      have f2 := build_stop s2 rfl ordR.length
      rw [Nat.add_comm] at f2
      have := hj (ordR.length + ordP.length)
      rw [f1, f2] at this
      exact this.symm
end Go.Proofs.YthikgdogfkjioaaGreatDoor
namespace Go.Proofs.YthikgdogfkjioaaGreatDoor
set_option linter.unusedVariables false
set_option linter.unusedSimpArgs false
set_option maxRecDepth 100000

theorem nthR_snoc {X : List Rg} {r : Rg} {k : Nat} : nthR (X ++ [r]) k = if k < X.length then nthR X k else if k = X.length then r else (0, 0) := by
  unfold nthR
  rw [List.getD_eq_getElem?_getD, List.getD_eq_getElem?_getD]
  by_cases h : k < X.length
  · rw [if_pos h, List.getElem?_append_left h]
  · rw [if_neg h, List.getElem?_append_right (by omega)]
    by_cases h2 : k = X.length
    · subst h2; simp
    · rw [if_neg h2, List.getElem?_eq_none (by simp; omega)]; rfl
theorem nth_snoc {X : List Int} {r : Int} {k : Nat} : nth (X ++ [r]) k = if k < X.length then nth X k else if k = X.length then r else 0 := by
  unfold nth
  rw [List.getD_eq_getElem?_getD, List.getD_eq_getElem?_getD]
  by_cases h : k < X.length
  · rw [if_pos h, List.getElem?_append_left h]
  · rw [if_neg h, List.getElem?_append_right (by omega)]
    by_cases h2 : k = X.length
    · subst h2; simp
    · rw [if_neg h2, List.getElem?_eq_none (by simp; omega)]; rfl
theorem can_piece : ∀ {l : List Rg} {f : Int} {r : Rg}, CanF f l → r ∈ l → f ≤ r.1 ∧ r.1 ≤ r.2 ∧ r.2 ≤ MP
  | (a, b) :: t, f, r, h, hr => by
    obtain ⟨h1, h2, h3, h4⟩ := h
    rcases List.mem_cons.1 hr with e | e
    · subst e; exact ⟨h1, h2, h3⟩
    · have := can_piece h4 e
      omega
theorem mem_piece {l : List Rg} {r : Rg} (hr : r ∈ l) (h : r.1 ≤ r.2) : memR l r.1 = true := by
  unfold memR
  rw [List.any_eq_true]
  exact ⟨r, hr, by simp; exact h⟩
/-- Gathered so far: the classes ahead of class c, and j pieces of it. -/
structure AlI (C : List (List Rg)) (c j : Nat) (X : List Rg) (Y : List Int) : Prop where
  len : Y.length = X.length
  fr : ∀ k, k < X.length → ∃ d, d < C.length ∧ nth Y k = (d : Int) ∧ nthR X k ∈ nthS C d
  on : ∀ d, d < C.length → (d < c ∨ (d = c ∧ 0 < j)) → ∃ k, k < X.length ∧ nth Y k = (d : Int)
  size : X.length ≤ c * 200 + j
section
variable {C : List (List Rg)} {c j : Nat} {X : List Rg} {Y : List Int}
theorem AlI.start : AlI C 0 0 [] [] := ⟨rfl, fun k h => absurd h (by simp), fun d h1 h2 => by omega, by simp⟩
theorem AlI.push (h : AlI C c j X Y) (hc : c < C.length) (hj : j < (nthS C c).length) : AlI C c (j + 1) (X ++ [nthR (nthS C c) j]) (Y ++ [(c : Int)]) := by
  have hl := h.len
  refine ⟨by simp [hl], fun k hk => ?_, fun d hd q => ?_, by have := h.size; simp; omega⟩
  · rw [nthR_snoc, nth_snoc, hl]
    by_cases e : k < X.length
    · rw [if_pos e, if_pos e]; exact h.fr k e
    · have e2 : k = X.length := by simp at hk; omega
      rw [if_neg e, if_neg e, if_pos e2, if_pos e2]
      exact ⟨c, hc, rfl, by rw [nthR_get hj]; exact List.getElem_mem hj⟩
  · by_cases e : d = c
    · subst e
      exact ⟨X.length, by simp, by rw [nth_snoc, hl]; simp⟩
    · obtain ⟨k, hk, e2⟩ := h.on d hd (.inl (by omega))
      exact ⟨k, by simp; omega, by rw [nth_snoc, hl, if_pos hk]; exact e2⟩
theorem AlI.next (h : AlI C c j X Y) (h0 : 0 < j) (hj : j ≤ 200) : AlI C (c + 1) 0 X Y :=
  ⟨h.len, h.fr, fun d hd q => h.on d hd (by omega), by have := h.size; omega⟩
theorem AlI.done {S : List (List Rg)} (h : AlI C C.length 0 X Y) (hP : Parted S C) : AlP C X Y := by
  have key : ∀ k, k < X.length → ∀ d, d < C.length → nthR X k ∈ nthS C d → isP (nthR X k).1 ∧ clsOf C (nthR X k).1 = d := fun k hk d hd hm => by
    rw [nthS_get hd] at hm
    obtain ⟨x, hx, q⟩ := hP.each _ (List.getElem_mem hd)
    obtain ⟨p1, p2, p3⟩ := can_piece q.can hm
    unfold MP at p3
    exact ⟨⟨p1, by omega⟩, hP.cls hd (mem_piece hm p2)⟩
  refine ⟨h.len, fun k hk => ?_, fun k hk => ?_, fun d hd => ?_⟩
  · obtain ⟨d, hd, e, hm⟩ := h.fr k hk
    exact (key k hk d hd hm).1
  · obtain ⟨d, hd, e, hm⟩ := h.fr k hk
    have := (key k hk d hd hm).2
    exact ⟨by rw [this]; exact e, by rw [this]; exact hd⟩
  · obtain ⟨k, hk, e⟩ := h.on d hd (.inl hd)
    obtain ⟨d', hd', e', hm⟩ := h.fr k hk
    have : d' = d := by rw [e] at e'; omega
    subst this
    exact ⟨k, hk, (key k hk d' hd' hm).2⟩
/-- Ordered: every number of a piece once. -/
theorem AlP.perm (h : AlP C X Y) {o : List Nat} (ho : o.Perm (List.range X.length)) : AlP C (o.map (nthR X)) (o.map (nth Y)) := by
  have hm : ∀ k (hk : k < o.length), o[k] < X.length := fun k hk => by
    have := ho.mem_iff.1 (List.getElem_mem hk)
    simpa using this
  have hx : ∀ k (hk : k < o.length), nthR (o.map (nthR X)) k = nthR X o[k] := fun k hk => by rw [nthR_get (by simpa using hk)]; simp
  have hy : ∀ k (hk : k < o.length), nth (o.map (nth Y)) k = nth Y o[k] := fun k hk => by rw [nth_get (by simpa using hk)]; simp
  refine ⟨by simp, fun k hk => ?_, fun k hk => ?_, fun c hc => ?_⟩
  · have hk' : k < o.length := by simpa using hk
    rw [hx k hk']
    exact h.pt _ (hm k hk')
  · have hk' : k < o.length := by simpa using hk
    rw [hx k hk', hy k hk']
    exact h.cls _ (hm k hk')
  · obtain ⟨k, hk, e⟩ := h.on c hc
    obtain ⟨i, hi, e2⟩ := List.getElem_of_mem (ho.mem_iff.2 (List.mem_range.2 hk))
    exact ⟨i, by simpa using hi, by rw [hx i hi, e2]; exact e⟩
end
end Go.Proofs.YthikgdogfkjioaaGreatDoor
