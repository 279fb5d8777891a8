/- The program's dense automaton: thick, its row. · The alphabet: the pieces of all classes, gathered and then ordered. · Memory: two rows grown side by side: integers, and rows of integers. -/
import Derived.Test.YtkcpfpofimkkiaaGreatDoorQ13
import Derived.Test.YtkcpfpofimkkiaaGreatDoorQ15
import Derived.Test.YtkcpfpofimkkiaaGreatDoorQ1
import Derived.Test.YtkcpfpofimkkiaaGreatDoorQ6
import Derived.Test.YtkcpfpofimkkiaaGreatDoorQ11
namespace Go.Proofs.YtkcpfpofimkkiaaGreatDoor
open Go.RowKit BigFrame
set_option linter.unusedVariables false
set_option linter.unusedSimpArgs false
set_option maxRecDepth 100000

/-- An alphabet: pieces, the class of each. -/
structure AlP (C : List (List Rg)) (X : List Rg) (Y : List Int) : Prop where
  len : Y.length = X.length
  pt : ∀ k, k < X.length → isP (nthR X k).1
  cls : ∀ k, k < X.length → nth Y k = (clsOf C (nthR X k).1 : Int) ∧ clsOf C (nthR X k).1 < C.length
  on : ∀ c, c < C.length → ∃ k, k < X.length ∧ clsOf C (nthR X k).1 = c
/-- The row so far: numbers of classes filled in by the first k pieces. -/
structure ThR (l : List St) (C : List (List Rg)) (X : List Rg) (i k : Nat) (row : List Int) : Prop where
  len : row.length = C.length
  a : ∀ c, c < C.length → nth row c = (l.length : Int) ∨ nth row c = (dlt l i (repOf C c) : Int)
  b : ∀ j, j < k → nth row (clsOf C (nthR X j).1) = (dlt l i (repOf C (clsOf C (nthR X j).1)) : Int)
theorem ThR.start {l : List St} {C : List (List Rg)} {X : List Rg} {i : Nat} : ThR l C X i 0 (List.replicate C.length (l.length : Int)) :=
  ⟨by simp, fun c hc => .inl (by unfold nth; simp [List.getD, hc]), fun j h => absurd h (by omega)⟩
theorem ThR.yes {l : List St} {C : List (List Rg)} {X : List Rg} {Y : List Int} {i k : Nat} {row : List Int} (h : ThR l C X i k row) (hA : AlP C X Y) (hC : Cls l C.length (repOf C) (clsOf C)) (hk : k < X.length) {t : Int} (ht : (dlt l i (nthR X k).1 : Int) = t) :
    ThR l C X i (k + 1) (row.set (clsOf C (nthR X k).1) t) := by
  obtain ⟨h1, h2⟩ := hA.cls k hk
  have e : (dlt l i (repOf C (clsOf C (nthR X k).1)) : Int) = t := by rw [← hC.co i _ (hA.pt k hk)]; exact ht
  have hl : clsOf C (nthR X k).1 < row.length := by rw [h.len]; exact h2
  refine ⟨by rw [List.length_set]; exact h.len, fun c hc => ?_, fun j hj => ?_⟩
  · rw [nth_set hl]
    by_cases q : clsOf C (nthR X k).1 = c
    · subst q; rw [if_pos rfl]; exact .inr e.symm
    · rw [if_neg q]; exact h.a c hc
  · rw [nth_set hl]
    by_cases q : clsOf C (nthR X k).1 = clsOf C (nthR X j).1
    · rw [if_pos q, ← q]; exact e.symm
    · rw [if_neg q]
      have : j ≠ k := fun z => q (by rw [z])
      exact h.b j (by omega)
theorem ThR.no {l : List St} {C : List (List Rg)} {X : List Rg} {Y : List Int} {i k : Nat} {row : List Int} (h : ThR l C X i k row) (hA : AlP C X Y) (hC : Cls l C.length (repOf C) (clsOf C)) (hk : k < X.length) (ht : dlt l i (nthR X k).1 = l.length) : ThR l C X i (k + 1) row := by
  obtain ⟨h1, h2⟩ := hA.cls k hk
  have e : dlt l i (repOf C (clsOf C (nthR X k).1)) = l.length := by rw [← hC.co i _ (hA.pt k hk)]; exact ht
  refine ⟨h.len, h.a, fun j hj => ?_⟩
  by_cases q : j = k
  · subst q
    rcases h.a _ h2 with z | z
    · rw [z, e]
    · exact z
  · exact h.b j (by omega)
theorem ThR.done {l : List St} {C : List (List Rg)} {X : List Rg} {Y : List Int} {i : Nat} {row : List Int} (h : ThR l C X i X.length row) (hA : AlP C X Y) : row = fulRow l C i := by
  apply List.ext_getElem
  · rw [h.len]; simp [fulRow]
  · intro c h1 h2
    have hc : c < C.length := by rw [← h.len]; exact h1
    obtain ⟨k, hk, e⟩ := hA.on c hc
    have := h.b k hk
    rw [e] at this
    rw [nth_get h1] at this
    rw [this]
    simp [fulRow]
/-- The last row: no state leads anywhere. -/
theorem ful_last {l : List St} {C : List (List Rg)} : List.replicate C.length (l.length : Int) = fulRow l C l.length := by
  unfold fulRow
  apply List.ext_getElem
  · simp
  · intro c h1 h2
    simp [dlt]
end Go.Proofs.YtkcpfpofimkkiaaGreatDoor
namespace Go.Proofs.YtkcpfpofimkkiaaGreatDoor
set_option linter.unusedVariables false
set_option linter.unusedSimpArgs false
set_option maxRecDepth 100000

theorem nthR_snoc {X : List Rg} {r : Rg} {k : Nat} : nthR (X ++ [r]) k = if k < X.length then nthR X k else if k = X.length then r else (0, 0) := by
  unfold nthR
  rw [List.getD_eq_getElem?_getD, List.getD_eq_getElem?_getD]
  by_cases h : k < X.length
  · rw [if_pos h, List.getElem?_append_left h]
  · rw [if_neg h, List.getElem?_append_right (by omega)]
    by_cases h2 : k = X.length
    · subst h2; simp
    · rw [if_neg h2, List.getElem?_eq_none (by simp; omega)]; rfl
theorem nth_snoc {X : List Int} {r : Int} {k : Nat} : nth (X ++ [r]) k = if k < X.length then nth X k else if k = X.length then r else 0 := by
  unfold nth
  rw [List.getD_eq_getElem?_getD, List.getD_eq_getElem?_getD]
  by_cases h : k < X.length
  · rw [if_pos h, List.getElem?_append_left h]
  · rw [if_neg h, List.getElem?_append_right (by omega)]
    by_cases h2 : k = X.length
    · subst h2; simp
    · rw [if_neg h2, List.getElem?_eq_none (by simp; omega)]; rfl
theorem can_piece : ∀ {l : List Rg} {f : Int} {r : Rg}, CanF f l → r ∈ l → f ≤ r.1 ∧ r.1 ≤ r.2 ∧ r.2 ≤ MP
  | (a, b) :: t, f, r, h, hr => by
    obtain ⟨h1, h2, h3, h4⟩ := h
    rcases List.mem_cons.1 hr with e | e
    · subst e; exact ⟨h1, h2, h3⟩
    · have := can_piece h4 e
      omega
theorem mem_piece {l : List Rg} {r : Rg} (hr : r ∈ l) (h : r.1 ≤ r.2) : memR l r.1 = true := by
  unfold memR
  rw [List.any_eq_true]
  exact ⟨r, hr, by simp; exact h⟩
/-- Gathered so far: the classes ahead of class c, and j pieces of it. -/
structure AlI (C : List (List Rg)) (c j : Nat) (X : List Rg) (Y : List Int) : Prop where
  len : Y.length = X.length
  fr : ∀ k, k < X.length → ∃ d, d < C.length ∧ nth Y k = (d : Int) ∧ nthR X k ∈ nthS C d
  on : ∀ d, d < C.length → (d < c ∨ (d = c ∧ 0 < j)) → ∃ k, k < X.length ∧ nth Y k = (d : Int)
  size : X.length ≤ c * 330 + j
section
variable {C : List (List Rg)} {c j : Nat} {X : List Rg} {Y : List Int}
theorem AlI.start : AlI C 0 0 [] [] := ⟨rfl, fun k h => absurd h (by simp), fun d h1 h2 => by omega, by simp⟩
theorem AlI.push (h : AlI C c j X Y) (hc : c < C.length) (hj : j < (nthS C c).length) : AlI C c (j + 1) (X ++ [nthR (nthS C c) j]) (Y ++ [(c : Int)]) := by
  have hl := h.len
  refine ⟨by simp [hl], fun k hk => ?_, fun d hd q => ?_, by have := h.size; simp; omega⟩
  · rw [nthR_snoc, nth_snoc, hl]
    by_cases e : k < X.length
    · rw [if_pos e, if_pos e]; exact h.fr k e
    · have e2 : k = X.length := by simp at hk; omega
      rw [if_neg e, if_neg e, if_pos e2, if_pos e2]
      exact ⟨c, hc, rfl, by rw [nthR_get hj]; exact List.getElem_mem hj⟩
  · by_cases e : d = c
    · subst e
      exact ⟨X.length, by simp, by rw [nth_snoc, hl]; simp⟩
    · obtain ⟨k, hk, e2⟩ := h.on d hd (.inl (by omega))
      exact ⟨k, by simp; omega, by rw [nth_snoc, hl, if_pos hk]; exact e2⟩
theorem AlI.next (h : AlI C c j X Y) (h0 : 0 < j) (hj : j ≤ 330) : AlI C (c + 1) 0 X Y :=
  ⟨h.len, h.fr, fun d hd q => h.on d hd (by omega), by have := h.size; omega⟩
theorem AlI.done {S : List (List Rg)} (h : AlI C C.length 0 X Y) (hP : Parted S C) : AlP C X Y := by
  have key : ∀ k, k < X.length → ∀ d, d < C.length → nthR X k ∈ nthS C d → isP (nthR X k).1 ∧ clsOf C (nthR X k).1 = d := fun k hk d hd hm => by
    rw [nthS_get hd] at hm
    obtain ⟨x, hx, q⟩ := hP.each _ (List.getElem_mem hd)
    obtain ⟨p1, p2, p3⟩ := can_piece q.can hm
    unfold MP at p3
    exact ⟨⟨p1, by omega⟩, hP.cls hd (mem_piece hm p2)⟩
  refine ⟨h.len, fun k hk => ?_, fun k hk => ?_, fun d hd => ?_⟩
  · obtain ⟨d, hd, e, hm⟩ := h.fr k hk
    exact (key k hk d hd hm).1
  · obtain ⟨d, hd, e, hm⟩ := h.fr k hk
    have := (key k hk d hd hm).2
    exact ⟨by rw [this]; exact e, by rw [this]; exact hd⟩
  · obtain ⟨k, hk, e⟩ := h.on d hd (.inl hd)
    obtain ⟨d', hd', e', hm⟩ := h.fr k hk
    have : d' = d := by rw [e] at e'; omega
    subst this
    exact ⟨k, hk, (key k hk d' hd' hm).2⟩
/-- Ordered: every number of a piece once. -/
theorem AlP.perm (h : AlP C X Y) {o : List Nat} (ho : o.Perm (List.range X.length)) : AlP C (o.map (nthR X)) (o.map (nth Y)) := by
  have hm : ∀ k (hk : k < o.length), o[k] < X.length := fun k hk => by
    have := ho.mem_iff.1 (List.getElem_mem hk)
    simpa using this
  have hx : ∀ k (hk : k < o.length), nthR (o.map (nthR X)) k = nthR X o[k] := fun k hk => by rw [nthR_get (by simpa using hk)]; simp
  have hy : ∀ k (hk : k < o.length), nth (o.map (nth Y)) k = nth Y o[k] := fun k hk => by rw [nth_get (by simpa using hk)]; simp
  refine ⟨by simp, fun k hk => ?_, fun k hk => ?_, fun c hc => ?_⟩
  · have hk' : k < o.length := by simpa using hk
    rw [hx k hk']
    exact h.pt _ (hm k hk')
  · have hk' : k < o.length := by simpa using hk
    rw [hx k hk', hy k hk']
    exact h.cls _ (hm k hk')
  · obtain ⟨k, hk, e⟩ := h.on c hc
    obtain ⟨i, hi, e2⟩ := List.getElem_of_mem (ho.mem_iff.2 (List.mem_range.2 hk))
    exact ⟨i, by simpa using hi, by rw [hx i hi, e2]; exact e⟩
end
end Go.Proofs.YtkcpfpofimkkiaaGreatDoor
namespace Go.Proofs.YtkcpfpofimkkiaaGreatDoor
open Go.RowKit BigFrame
set_option linter.unusedVariables false
set_option linter.unusedSimpArgs false
set_option maxRecDepth 100000

/-- append of elements that lie in a block of their own, wherever it is. -/
theorem wpList_appB {P : Program} {t e : TypeId} {size bytes : Nat} {z : Value} (E : ElTy P t e size bytes z) {ops : Array Oper} {rest : List Oper} {o : Oper} {a : Act} {Q : Exit → Act → World → Prop} {w : World} (hgd : o.guard = none) (s x : Operand)
    (ho : o.op = .call { callee := .builtin .append, args := #[s, x], argTypes := #[t, t] })
    (base : Nat) (v : Value) (n m b : Nat) (xs news : List Value) (hs : a.eval s = v) (hown : w.ownsRow base e size v n xs)
    (hx : a.eval x = .slice (some ⟨b, 0, none⟩) m m) (hb : Blk w b e news) (hl : news.length = m * size) (h1 : ∀ u ∈ news, u.oneCell' = true)
    (h63 : n + m ≤ 140737488355328) (hbytes : (n + m) * bytes ≤ 140737488355328) (hbase : base ≤ w.heap.size)
    (h : ∀ v' w', w'.ownsRow base e size v' (n + m) (xs ++ news) → w.grownBy w' v.ownBlock → (v'.ownBlock = v.ownBlock ∨ v'.ownBlock = some w.heap.size) → wpList P ops Q rest (a.put o.dst v') w') :
    wpList P ops Q (o :: rest) a w := by
  obtain ⟨i, hi, hz, hsz, hby⟩ := info_parts E.hi
  refine wpList_append_own_at _ hgd s x t ho base e i z size bytes E.ht hi hz hsz hby E.hz E.hs v n xs hs hown ⟨b, 0, none⟩ m m news hx hl (fun j u hu => ?_) h1 (by simp only [maxLen]; omega) hbytes hbase ?_
  · have hadd : (⟨b, 0, none⟩ : Addr).add j = ⟨b, j, none⟩ := by unfold Addr.add; split <;> simp_all
    rw [hadd]
    exact hb.cell hu
  · intro v' w' h2 h3 _ h5
    exact h v' w' h2 h3 h5
/-- Two rows under way; u: the row to come. -/
structure Th (w W : World) (gd base : Nat) (kv vr0 vm0 vr vm u : Value) (vs : List Value) (R : List Int) (M : List (List Int)) (row : List Int) : Prop where
  b : Below base w W
  kd : Blk W gd 46 [kv, vr0, vm0]
  r : W.ownsRow base 3 1 vr R.length (iv R)
  m : OwM W base vm vs M
  ap : ∀ (j : Nat) (u' : Value), vs[j]? = some u' → u'.ownBlock = none ∨ u'.ownBlock ≠ vr.ownBlock
  ur : W.ownsRow base 3 1 u row.length (iv row)
  au : u.ownBlock = none ∨ u.ownBlock ≠ vr.ownBlock
  lt : gd < base
  le : base ≤ w.heap.size
section
variable {w W W' : World} {gd base : Nat} {kv vr0 vm0 vr vm u : Value} {vs : List Value} {R : List Int} {M : List (List Int)} {row : List Int}
theorem Th.ext (h : Th w W gd base kv vr0 vm0 vr vm u vs R M row) (hb : Below W.heap.size W W') : Th w W' gd base kv vr0 vm0 vr vm u vs R M row :=
  ⟨h.b.trans (hb.mono (Nat.le_trans h.le h.b.size)), h.kd.below' hb, own_ext h.r hb, h.m.ext hb, h.ap, own_ext h.ur hb, h.au, h.lt, h.le⟩
theorem Th.base_le (h : Th w W gd base kv vr0 vm0 vr vm u vs R M row) : base ≤ W.heap.size := Nat.le_trans h.le h.b.size
theorem Th.appR (h : Th w W gd base kv vr0 vm0 vr vm u vs R M row) {vr' : Value} {x : Int} (hg : W.grownBy W' vr.ownBlock) (hr : W'.ownsRow base 3 1 vr' (R.length + 1) (iv R ++ [.int .i64 x])) (hat : vr'.ownBlock = vr.ownBlock ∨ vr'.ownBlock = some W.heap.size) :
    Th w W' gd base kv vr0 vm0 vr' vm u vs (R ++ [x]) M row := by
  have hlo : ∀ q, vr.ownBlock = some q → base ≤ q := fun q e => (h.r.lt q e).1
  have hlt := h.lt
  have key : ∀ {n : Nat} {v : Value} {xs : List Value}, W.ownsRow base 3 1 v n xs → (v.ownBlock = none ∨ v.ownBlock ≠ vr.ownBlock) → (v.ownBlock = none ∨ v.ownBlock ≠ vr'.ownBlock) := fun {n v xs} hv hne => by
    cases hob : v.ownBlock with
    | none => exact .inl rfl
    | some q =>
      refine .inr fun e => ?_
      rcases hat with e2 | e2
      · rcases hne with z | z
        · rw [hob] at z; cases z
        · exact z (by rw [hob, e, e2])
      · have := (hv.lt q hob).2
        rw [e2] at e; cases e; omega
  refine ⟨h.b.grown hg h.base_le (fun q e => hlo q e), h.kd.grown hg (fun e => by have := hlo gd e.symm; omega), ?_, h.m.grown hg (own_ne h.m.row h.r (by decide)) h.ap, fun j u' hu => key (h.m.cl j u' hu) (h.ap j u' hu), h.ur.kept hg h.au, key h.ur h.au, h.lt, h.le⟩
  rw [List.length_append, show iv (R ++ [x]) = iv R ++ [.int .i64 x] by unfold iv; rw [List.map_append]; rfl]
  exact hr
theorem Th.appM (h : Th w W gd base kv vr0 vm0 vr vm u vs R M row) {vm' : Value} (hg : W.grownBy W' vm.ownBlock) (hr : W'.ownsRow base 37 1 vm' (M.length + 1) (vs ++ [u])) :
    Th w W' gd base kv vr0 vm0 vr vm' u (vs ++ [u]) R (M ++ [row]) row := by
  have hlo : ∀ q, vm.ownBlock = some q → base ≤ q := fun q e => (h.m.row.lt q e).1
  have hlt := h.lt
  exact ⟨h.b.grown hg h.base_le (fun q e => hlo q e), h.kd.grown hg (fun e => by have := hlo gd e.symm; omega), h.r.kept hg (own_ne h.r h.m.row (by decide)), h.m.push hg h.ur hr, all_snoc h.ap h.au, h.ur.kept hg (own_ne h.ur h.m.row (by decide)), h.au, h.lt, h.le⟩
end
end Go.Proofs.YtkcpfpofimkkiaaGreatDoor
