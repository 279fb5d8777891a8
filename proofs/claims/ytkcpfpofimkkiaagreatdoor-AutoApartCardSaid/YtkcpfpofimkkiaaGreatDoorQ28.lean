/- Plain: the search of the document and the program's search go over the same pairs. · Plain: the least automaton's building, round by round. No program here. · Plain: what the search's table holds from round to round. -/
import Derived.Test.YtkcpfpofimkkiaaGreatDoorQ13
import Derived.Test.YtkcpfpofimkkiaaGreatDoorQ16
import Derived.Test.YtkcpfpofimkkiaaGreatDoorQ27
namespace Go.Proofs.YtkcpfpofimkkiaaGreatDoor
set_option linter.unusedVariables false
set_option linter.unusedSimpArgs false

/-- Both automata step. -/
def stP (la lb : List St) (s : Nat × Nat) (p : Int) : Nat × Nat := (dlt la s.1 p, dlt lb s.2 p)
theorem stP_le {la lb : List St} (ha : okA la = true) (hb : okA lb = true) (s : Nat × Nat) (p : Int) : (stP la lb s p).1 ≤ la.length ∧ (stP la lb s p).2 ≤ lb.length := ⟨dlt_le ha _ _, dlt_le hb _ _⟩
/-- What the first k stretches bring. -/
def rowT (st : Nat × Nat → Int → Nat × Nat) (n : Nd) (X : List (Int × Int)) (k : Nat) (T : List Nd) : List Nd := rowN st n ((X.take k).filterMap fpt) T
theorem rowT_zero (st : Nat × Nat → Int → Nat × Nat) (n : Nd) (X : List (Int × Int)) (T : List Nd) : rowT st n X 0 T = T := rfl
theorem rowT_none {st : Nat × Nat → Int → Nat × Nat} {n : Nd} {X : List (Int × Int)} {k : Nat} {r : Int × Int} {T : List Nd} (h : X[k]? = some r) (hf : fpt r = none) : rowT st n X (k + 1) T = rowT st n X k T := by
  unfold rowT
  rw [List.take_add_one, h, List.filterMap_append]
  simp [hf]
theorem rowT_some {st : Nat × Nat → Int → Nat × Nat} {n : Nd} {X : List (Int × Int)} {k : Nat} {r : Int × Int} {T : List Nd} {p : Int} (h : X[k]? = some r) (hf : fpt r = some p) : rowT st n X (k + 1) T = addN st n (rowT st n X k T) p := by
  unfold rowT
  rw [List.take_add_one, h, List.filterMap_append, rowN_app]
  simp [hf, rowN]
theorem rowT_all (st : Nat × Nat → Int → Nat × Nat) (n : Nd) (X : List (Int × Int)) (T : List Nd) : rowT st n X X.length T = rowN st n (X.filterMap fpt) T := by
  unfold rowT; rw [List.take_length]
theorem OkN.rowT {st : Nat × Nat → Int → Nat × Nat} {N M : Nat} (hs : ∀ s p, (st s p).1 ≤ N ∧ (st s p).2 ≤ M) (n : Nd) {X : List (Int × Int)} {k : Nat} {T : List Nd} (h : OkN N M T) : OkN N M (rowT st n X k T) := OkN.row hs n h
theorem OkN.st {st : Nat × Nat → Int → Nat × Nat} {N M : Nat} (hs : ∀ s p, (st s p).1 ≤ N ∧ (st s p).2 ≤ M) (ps : List Int) : ∀ i, OkN N M (stN st ps i)
  | 0 => OkN.start N M
  | i + 1 => by
    rw [stN]
    split
    · exact OkN.row hs _ (OkN.st hs ps i)
    · exact OkN.st hs ps i

/-- The halves. -/
def halv : List Rg := [(55296, 57343)]
theorem halv_in {p : Int} (hp : isP p) : inR halv p = (decide (55296 ≤ p) && decide (p ≤ 57343)) := by
  unfold inR memR halv
  rw [isPt_iff.2 hp]
  simp
/-- The document's stretches: each lies within one class; halves alone. -/
theorem doc_tiles {S C : List (List Rg)} {E : List Int} (hP : Parted S C) (hE : EdS E C) : Tiles 0 (stretches E) 1114111 ∧ ∀ r ∈ stretches E, ∀ p, r.1 ≤ p → p ≤ r.2 → isP p ∧ isP r.1 ∧ sig S p = sig S r.1 := by
  have ht := edges_tiles hE.o
  refine ⟨ht, fun r hr p h1 h2 => ?_⟩
  have hi := tiles_in ht r hr
  obtain ⟨k, hk, e⟩ := stretches_at hr
  have hc := (edged_of hE hP).cls hk (p := p) (by rw [e] at h1; exact h1) (by rw [e] at h2; simp only at h2; omega)
  have e1 : r.1 = E[k] := by rw [e]
  rw [← e1] at hc
  have p1 : isP p := ⟨by omega, by omega⟩
  have p2 : isP r.1 := ⟨by omega, by omega⟩
  refine ⟨p1, p2, ?_⟩
  obtain ⟨c, hcm, hm⟩ := hP.all p (isPt_iff.2 p1)
  obtain ⟨d, hdm, hd⟩ := hP.all r.1 (isPt_iff.2 p2)
  obtain ⟨i, hi1, rfl⟩ := List.getElem_of_mem hcm
  obtain ⟨j, hj1, rfl⟩ := List.getElem_of_mem hdm
  have q1 := hP.cls hi1 hm
  have q2 := hP.cls hj1 hd
  have e2 : i = j := by rw [← q1, ← q2, hc]
  subst e2
  exact ((hP.each _ hcm).sig hm hd).2.2
theorem doc_fpt {S C : List (List Rg)} {E : List Int} (hP : Parted S C) (hE : EdS E C) (hh : halv ∈ S) {r : Int × Int} (hr : r ∈ stretches E) : fpt r = if 55296 ≤ r.1 ∧ r.1 ≤ 57343 then none else some r.1 := by
  obtain ⟨ht, h⟩ := doc_tiles hP hE
  have hi := tiles_in ht r hr
  unfold fpt
  simp only
  by_cases q : 55296 ≤ r.1 ∧ r.1 ≤ 57343
  · rw [if_pos q, if_pos q, if_neg]
    obtain ⟨p1, p2, hs⟩ := h r hr r.2 hi.2.1 (Int.le_refl _)
    have := sig_mem hs hh
    rw [halv_in p1, halv_in p2] at this
    simp only [q.1, q.2, decide_true, Bool.and_true, Bool.and_eq_true, decide_eq_true_eq] at this
    omega
  · rw [if_neg q, if_neg q, if_pos hi.2.1]
/-- The document's answer by all points. -/
theorem doc_ans {la lb : List St} {C : List (List Rg)} {E : List Int} {hit : Nat × Nat → Bool} {r : Option (List Int)} (hP : Parted (setsR la ++ setsR lb ++ [halv]) C) (hE : EdS E C) (h : AnsN (stP la lb) ((stretches E).filterMap fpt) hit r) : AnsN (stP la lb) ((pts 0 1114112).filter vpt) hit r := by
  obtain ⟨ht, hs⟩ := doc_tiles hP hE
  refine h.tiles ht fun s x hx p h1 h2 => ?_
  obtain ⟨p1, p2, e⟩ := hs x hx p h1 h2
  unfold Go.Proofs.YtkcpfpofimkkiaaGreatDoor.sig at e
  rw [List.map_append, List.map_append, List.map_append, List.map_append] at e
  obtain ⟨e1, _⟩ := List.append_inj e (by simp)
  obtain ⟨e2, e3⟩ := List.append_inj e1 (by simp)
  unfold stP
  rw [setsR_const (l := la) p1 p2 e2, setsR_const (l := lb) p1 p2 e3]
/-- The program's answer by all points. -/
theorem pro_ans {la lb : List St} {S C : List (List Rg)} {X : List Rg} {Y : List Int} {hit : Nat × Nat → Bool} {r : Option (List Int)} (hA : Alph S C X Y) (ha : Cls la C.length (repOf C) (clsOf C)) (hb : Cls lb C.length (repOf C) (clsOf C)) (h : AnsN (stP la lb) (X.filterMap fpt) hit r) : AnsN (stP la lb) ((pts 0 1114112).filter vpt) hit r := by
  have ht := Cover.tiles (by decide) hA.c
  refine h.tiles ht fun s x hx p h1 h2 => ?_
  have ho := hA.c.ok x hx
  have p1 : isP p := ⟨by omega, by omega⟩
  have p2 : isP x.1 := ⟨by omega, by omega⟩
  have e := hA.one x hx p h1 h2
  unfold stP
  rw [ha.co s.1 p p1, ha.co s.1 x.1 p2, hb.co s.2 p p1, hb.co s.2 x.1 p2, e]
end Go.Proofs.YtkcpfpofimkkiaaGreatDoor
namespace Go.Proofs.YtkcpfpofimkkiaaGreatDoor
set_option linter.unusedVariables false
set_option linter.unusedSimpArgs false

section
variable {σ : Type} {e : Env σ} {pcs : List (Int × Int)}
theorem build_short : ∀ (f i : Nat) (ord : List σ) (acc : List St), ord[i]? = none → build e pcs f i ord acc = (ord, acc)
  | 0, _, _, _, _ => rfl
  | f + 1, i, ord, acc, h => by rw [build, h]
/-- One round more. -/
theorem build_succ : ∀ (f i : Nat) (ord : List σ) (acc : List St), build e pcs (f + 1) i ord acc = match (build e pcs f i ord acc).1[i + f]? with
    | some s => ((rowOf e pcs s (build e pcs f i ord acc).1).1, (build e pcs f i ord acc).2 ++ [(e.rule s, (rowOf e pcs s (build e pcs f i ord acc).1).2)])
    | none => build e pcs f i ord acc
  | 0, i, ord, acc => by
    rw [build, build, Nat.add_zero]
    cases ord[i]? <;> rfl
  | f + 1, i, ord, acc => by
    rw [build]
    cases h : ord[i]? with
    | none =>
      have h2 : ord[i + (f + 1)]? = none := List.getElem?_eq_none (by have := List.getElem?_eq_none_iff.1 h; omega)
      have e2 : build e pcs (f + 1) i ord acc = (ord, acc) := build_short _ _ _ _ h
      rw [e2, h2]
    | some s =>
      have e2 : build e pcs (f + 1) i ord acc = build e pcs f (i + 1) (rowOf e pcs s ord).1 (acc ++ [(e.rule s, (rowOf e pcs s ord).2)]) := by rw [build, h]
      simp only
      rw [e2, build_succ f (i + 1), show i + 1 + f = i + (f + 1) by omega]
theorem build_round {f : Nat} {ord0 ord : List σ} {acc : List St} {s : σ} (h : build e pcs f 0 ord0 [] = (ord, acc)) (hs : ord[f]? = some s) : build e pcs (f + 1) 0 ord0 [] = ((rowOf e pcs s ord).1, acc ++ [(e.rule s, (rowOf e pcs s ord).2)]) := by
  rw [build_succ, h, Nat.zero_add]
  simp only [hs]
/-- The row so far. -/
def rowK (e : Env σ) (pcs : List (Int × Int)) (s : σ) (ord : List σ) (k : Nat) : List σ × List Mv := (pcs.take k).foldl (stepPc e s) (ord, [])
theorem rowK_zero {s : σ} {ord : List σ} : rowK e pcs s ord 0 = (ord, []) := rfl
theorem rowK_succ {s : σ} {ord : List σ} {k : Nat} (hk : k < pcs.length) : rowK e pcs s ord (k + 1) = stepPc e s (rowK e pcs s ord k) pcs[k] := by
  unfold rowK
  rw [List.take_succ_eq_append_getElem hk, List.foldl_append]; rfl
theorem rowK_all {s : σ} {ord : List σ} {k : Nat} (hk : pcs.length ≤ k) : rowK e pcs s ord k = rowOf e pcs s ord := by unfold rowK rowOf; rw [List.take_of_length_le hk]
end
theorem joinM_nil (lo hi : Int) (j : Nat) : joinM [] lo hi j = [(lo, hi, (j : Int))] := rfl
theorem joinM_yes (l : List Mv) (x y lo hi : Int) (j : Nat) (h : y + 1 = lo) : joinM (l ++ [(x, y, (j : Int))]) lo hi j = l ++ [(x, hi, (j : Int))] := by
  unfold joinM; simp [h]
theorem joinM_no (l : List Mv) (x y z lo hi : Int) (j : Nat) (h : ¬ (z = (j : Int) ∧ y + 1 = lo)) : joinM (l ++ [(x, y, z)]) lo hi j = l ++ [(x, y, z)] ++ [(lo, hi, (j : Int))] := by
  unfold joinM
  simp only [List.getLast?_append, List.getLast?_singleton, Option.some_or]
  rw [if_neg h]
theorem joinM_len (l : List Mv) (lo hi : Int) (j : Nat) : (joinM l lo hi j).length ≤ l.length + 1 := by
  rcases List.eq_nil_or_concat l with rfl | ⟨l0, ⟨x, y, z⟩, rfl⟩
  · simp [joinM_nil]
  · rw [List.concat_eq_append]
    by_cases h : z = (j : Int) ∧ y + 1 = lo
    · obtain ⟨rfl, h2⟩ := h
      rw [joinM_yes _ _ _ _ _ _ h2]; simp
    · rw [joinM_no _ _ _ _ _ _ _ h]; simp
theorem stretches_len : ∀ e : List Int, (stretches e).length = e.length - 1
  | [] => rfl
  | [_] => rfl
  | x :: y :: r => by
    have := stretches_len (y :: r)
    unfold stretches
    simp only [List.length_cons] at this ⊢
    omega
theorem stretches_get : ∀ (e : List Int) (k : Nat) (h : k + 1 < e.length) (h2 : k < (stretches e).length), (stretches e)[k] = (e[k], e[k + 1] - 1)
  | [], k, h, _ => by simp at h
  | [_], k, h, _ => by simp at h
  | x :: y :: r, 0, h, _ => rfl
  | x :: y :: r, k + 1, h, h2 => by
    have := stretches_get (y :: r) k (by simpa using h) (by simpa [stretches] using h2)
    simpa [stretches] using this

/-- The order: states that are not the same, no number twice. -/
structure OrdP (n : Nat) (ord : List Nat) : Prop where
  lt : ∀ s ∈ ord, s < n
  nd : ord.Nodup
theorem OrdP.len {n : Nat} {ord : List Nat} (h : OrdP n ord) : ord.length ≤ n := by
  have := len_le_of_sub h.nd (b := List.range n) (fun x hx => List.mem_range.2 (h.lt x hx))
  rwa [List.length_range] at this
theorem OrdP.one {n : Nat} (h : 0 < n) : OrdP n [0] := ⟨fun s hs => by rw [List.mem_singleton] at hs; omega, by simp⟩
theorem OrdP.step {n : Nat} {e : Env Nat} {s : Nat} {st : List Nat × List Mv} {pc : Int × Int} (h : OrdP n st.1) (ht : e.tg s pc.1 < n) (hr : e.same (e.tg s pc.1) (e.tg s pc.1) = true) : OrdP n (stepPc e s st pc).1 := by
  unfold stepPc
  split
  · split
    · exact h
    · rename_i q
      have hno : e.tg s pc.1 ∉ st.1 := fun hm => q (List.findIdx_lt_length_of_exists ⟨_, hm, hr⟩)
      refine ⟨fun x hx => ?_, ?_⟩
      · rcases List.mem_append.1 hx with hx | hx
        · exact h.lt x hx
        · rw [List.mem_singleton] at hx; subst hx; exact ht
      · refine List.nodup_append.2 ⟨h.nd, by simp, fun a ha b hb => ?_⟩
        rw [List.mem_singleton] at hb
        subst hb
        intro e; subst e; exact hno ha
  · exact h
theorem stepPc_grows {σ : Type} {e : Env σ} {s : σ} {st : List σ × List Mv} {pc : Int × Int} : ∃ x, (stepPc e s st pc).1 = st.1 ++ x := by
  unfold stepPc
  split
  · split
    · exact ⟨[], by simp⟩
    · exact ⟨_, rfl⟩
  · exact ⟨[], by simp⟩
theorem stepPc_len {σ : Type} {e : Env σ} {s : σ} {st : List σ × List Mv} {pc : Int × Int} : (stepPc e s st pc).2.length ≤ st.2.length + 1 := by
  unfold stepPc
  split
  · exact joinM_len _ _ _ _
  · simp
end Go.Proofs.YtkcpfpofimkkiaaGreatDoor
namespace Go.Proofs.YtkcpfpofimkkiaaGreatDoor
set_option linter.unusedVariables false
set_option linter.unusedSimpArgs false

theorem addN_pre (st : Nat × Nat → Int → Nat × Nat) (n : Nd) (T : List Nd) (p : Int) : ∃ s, addN st n T p = T ++ s := by
  unfold addN
  split
  · exact ⟨[], by simp⟩
  · exact ⟨_, rfl⟩
theorem rowN_pre (st : Nat × Nat → Int → Nat × Nat) (n : Nd) : ∀ (ps : List Int) (T : List Nd), ∃ s, rowN st n ps T = T ++ s
  | [], T => ⟨[], by simp [rowN]⟩
  | p :: ps, T => by
    obtain ⟨s, hs⟩ := addN_pre st n T p
    obtain ⟨s2, hs2⟩ := rowN_pre st n ps (addN st n T p)
    exact ⟨s ++ s2, by show rowN st n ps (addN st n T p) = _; rw [hs2, hs, List.append_assoc]⟩
theorem rowT_pre (st : Nat × Nat → Int → Nat × Nat) (n : Nd) (X : List (Int × Int)) (k : Nat) (T : List Nd) : ∃ s, rowT st n X k T = T ++ s := rowN_pre st n _ T
theorem rowT_get {st : Nat × Nat → Int → Nat × Nat} {n : Nd} {X : List (Int × Int)} {k : Nat} {T : List Nd} {j : Nat} (hj : j < T.length) : (rowT st n X k T)[j]? = T[j]? := by
  obtain ⟨s, hs⟩ := rowT_pre st n X k T
  rw [hs, List.getElem?_append_left hj]
theorem rowT_len {st : Nat × Nat → Int → Nat × Nat} {n : Nd} {X : List (Int × Int)} {k : Nat} {T : List Nd} : T.length ≤ (rowT st n X k T).length := by
  obtain ⟨s, hs⟩ := rowT_pre st n X k T
  rw [hs, List.length_append]; omega
/-- Ways are short. -/
theorem addN_way {st : Nat × Nat → Int → Nat × Nat} {n : Nd} {T : List Nd} {p : Int} {i : Nat} (h : ∀ m ∈ T, m.2.length ≤ i + 1) (hn : n.2.length ≤ i) : ∀ m ∈ addN st n T p, m.2.length ≤ i + 1 := by
  unfold addN
  split
  · exact h
  · intro m hm
    rcases List.mem_append.1 hm with hm | hm
    · exact h m hm
    · rw [List.mem_singleton] at hm
      rw [hm]
      show (n.2 ++ [p]).length ≤ _
      rw [List.length_append, List.length_singleton]; omega
theorem rowN_way {st : Nat × Nat → Int → Nat × Nat} {n : Nd} {i : Nat} (hn : n.2.length ≤ i) : ∀ (ps : List Int) {T : List Nd}, (∀ m ∈ T, m.2.length ≤ i + 1) → ∀ m ∈ rowN st n ps T, m.2.length ≤ i + 1
  | [], T, h => h
  | p :: ps, T, h => rowN_way hn ps (T := addN st n T p) (addN_way h hn)
theorem stN_way (st : Nat × Nat → Int → Nat × Nat) (ps : List Int) : ∀ i, ∀ m ∈ stN st ps i, m.2.length ≤ i
  | 0 => fun m hm => by
    rw [stN, List.mem_singleton] at hm
    rw [hm]; exact Nat.le_refl _
  | i + 1 => by
    rw [stN]
    split
    · rename_i n hn
      exact rowN_way (stN_way st ps i n (List.mem_of_getElem? hn)) ps (fun m hm => by have := stN_way st ps i m hm; omega)
    · exact fun m hm => by have := stN_way st ps i m hm; omega
/-- Points of ways are points. -/
theorem rowN_pts {st : Nat × Nat → Int → Nat × Nat} {n : Nd} (hn : ∀ q ∈ n.2, isP q) : ∀ (ps : List Int) {T : List Nd}, (∀ p ∈ ps, isP p) → (∀ m ∈ T, ∀ q ∈ m.2, isP q) → ∀ m ∈ rowN st n ps T, ∀ q ∈ m.2, isP q
  | [], T, _, h => h
  | p :: ps, T, hp, h => rowN_pts hn ps (T := addN st n T p) (fun q hq => hp q (List.mem_cons_of_mem _ hq)) (by
    unfold addN
    split
    · exact h
    · intro m hm
      rcases List.mem_append.1 hm with hm | hm
      · exact h m hm
      · rw [List.mem_singleton] at hm
        rw [hm]
        intro q hq
        rcases List.mem_append.1 hq with hq | hq
        · exact hn q hq
        · rw [List.mem_singleton] at hq
          rw [hq]; exact hp p List.mem_cons_self)
theorem addN_yes {st : Nat × Nat → Int → Nat × Nat} {n : Nd} {T : List Nd} {p : Int} (h : st n.1 p ∈ T.map (·.1)) : addN st n T p = T := by unfold addN; rw [if_pos h]
theorem addN_no {st : Nat × Nat → Int → Nat × Nat} {n : Nd} {T : List Nd} {p : Int} (h : ¬ st n.1 p ∈ T.map (·.1)) : addN st n T p = T ++ [(st n.1 p, n.2 ++ [p])] := by unfold addN; rw [if_neg h]
/-- Pairs behind i rounds, no hit so far. -/
structure SrI (st : Nat × Nat → Int → Nat × Nat) (ps : List Int) (hit : Nat × Nat → Bool) (i : Nat) : Prop where
  lt : i ≤ (stN st ps i).length
  no : ∀ j, j < i → ∀ m, (stN st ps j)[j]? = some m → hit m.1 = false
theorem SrI.start (st : Nat × Nat → Int → Nat × Nat) (ps : List Int) (hit : Nat × Nat → Bool) : SrI st ps hit 0 := ⟨Nat.zero_le _, fun j hj => by omega⟩
theorem SrI.next {st : Nat × Nat → Int → Nat × Nat} {ps : List Int} {hit : Nat × Nat → Bool} {i : Nat} {n : Nd} (h : SrI st ps hit i) (hn : (stN st ps i)[i]? = some n) (h0 : hit n.1 = false) : SrI st ps hit (i + 1) := by
  refine ⟨?_, fun j hj m hm => ?_⟩
  · rw [stN_succ hn]
    obtain ⟨s, hs⟩ := rowN_pre st n ps (stN st ps i)
    have := (List.getElem?_eq_some_iff.1 hn).1
    rw [hs, List.length_append]; omega
  · by_cases q : j < i
    · exact h.no j q m hm
    · obtain rfl : j = i := by omega
      rw [hn] at hm; cases hm; exact h0
theorem SrI.yes {st : Nat × Nat → Int → Nat × Nat} {ps : List Int} {hit : Nat × Nat → Bool} {i : Nat} {n : Nd} (h : SrI st ps hit i) (hn : (stN st ps i)[i]? = some n) (h1 : hit n.1 = true) : AnsN st ps hit (some n.2) := .yes i n hn h1 h.no
theorem SrI.none {st : Nat × Nat → Int → Nat × Nat} {ps : List Int} {hit : Nat × Nat → Bool} {i : Nat} (h : SrI st ps hit i) (hn : ¬ i < (stN st ps i).length) : AnsN st ps hit none := .no i (by omega) h.no
/-- All stretches gone through: the next round's table. -/
theorem rowT_done {st : Nat × Nat → Int → Nat × Nat} {X : List (Int × Int)} {i : Nat} {n : Nd} (hn : (stN st (X.filterMap fpt) i)[i]? = some n) : rowT st n X X.length (stN st (X.filterMap fpt) i) = stN st (X.filterMap fpt) (i + 1) := by
  rw [rowT_all, stN_succ hn]
/-- Classes of sets joined tell the first automaton's states apart, and the second's. -/
theorem cls_joined {la lb : List St} {C : List (List Rg)} {x : List (List Rg)} (hP : Parted (setsR la ++ setsR lb ++ x) C) : Cls la C.length (repOf C) (clsOf C) ∧ Cls lb C.length (repOf C) (clsOf C) := by
  have key : ∀ p q, sig (setsR la ++ setsR lb ++ x) p = sig (setsR la ++ setsR lb ++ x) q → sig (setsR la) p = sig (setsR la) q ∧ sig (setsR lb) p = sig (setsR lb) q := fun p q e => by
    unfold Go.Proofs.YtkcpfpofimkkiaaGreatDoor.sig at e ⊢
    rw [List.map_append, List.map_append, List.map_append, List.map_append] at e
    obtain ⟨e1, _⟩ := List.append_inj e (by simp)
    exact List.append_inj e1 (by simp)
  exact ⟨cls_of_parted hP (fun s p q hp hq e => setsR_const hp hq (key p q e).1), cls_of_parted hP (fun s p q hp hq e => setsR_const hp hq (key p q e).2)⟩
end Go.Proofs.YtkcpfpofimkkiaaGreatDoor
