/- newChart: place by place (plain), and what of its memory stays as it is. · A filled chart, plain: what holds of its items and spans. · A chart being filled, plain: what stays true step by step. -/
import Derived.Test.YtiklbannoinioaaDoorQ10
import Derived.Test.YtiklbannoinioaaDoorQ11
namespace Go.Proofs.YtiklbannoinioaaDoor
open Go.RowKit BigFrame Go.Maps
set_option linter.unusedVariables false
set_option linter.unusedSimpArgs false
set_option maxRecDepth 100000

/-- The first k places, filled one behind the other. -/
inductive Filled (G : Gr) (inp : List Int) (I : Nat → List K3) : Nat → List K3 → Prop where
  | zero : Filled G inp I 0 []
  | step {k : Nat} {L L' : List K3} : Filled G inp I k L → RunsTo G I k ((startL G inp I k).foldl stP ([], [])).1 ((startL G inp I k).foldl stP ([], [])).2 L (I k) L' → VI G k (I k, []) → Filled G inp I (k + 1) L'
section
variable {G : Gr} {inp : List Int} {I I' : Nat → List K3}
theorem Filled.ok : ∀ {k : Nat} {L : List K3}, Filled G inp I k L → ∀ j, j < k → VI G j (I j, [])
  | _, _, .zero, j, h => by omega
  | _, _, .step (k := k) h1 h2 h3, j, h => by
    by_cases e : j = k
    · subst e; exact h3
    · exact h1.ok j (by omega)
theorem RunsTo.congr (hk : GOk G) {tq : Nat} (ht : tq ≤ 100) (hI : ∀ j, j < tq → ∀ y ∈ I j, ItOk G j y) (he : ∀ j, j < tq → I' j = I j) {l t L l' L' : List K3} (h : RunsTo G I tq l t L l' L') (hV : VI G tq (l, t)) : RunsTo G I' tq l t L l' L' := by
  induction h with
  | done l L => exact .done l L
  | @step l t L l' L' x h ih =>
    have hx : x ∈ l := hV.sb x (by simp)
    have hxo := hV.ok x hx
    have e : popS G I' tq l t L x = popS G I tq l t L x := by
      unfold popS
      by_cases q : x.2.2 = tq
      · simp only [if_pos q]
      · simp only [if_neg q, he x.2.2 (by have := hxo.2.2; omega)]
    refine .step ?_
    rw [e]
    exact ih (pop_ok hk ht hI hV).1
theorem startL_congr {k : Nat} (he : ∀ j, j < k → I' j = I j) : startL G inp I' k = startL G inp I k := by
  unfold startL
  by_cases q : k = 0
  · simp only [if_pos q]
  · simp only [if_neg q, he (k - 1) (by omega)]
theorem start_VI {k : Nat} (hI : ∀ j, j < k → ∀ y ∈ I j, ItOk G j y) : VI G k ((startL G inp I k).foldl stP ([], [])) := by
  refine VI.fold _ ⟨List.nodup_nil, (fun x q => by cases q), List.nodup_nil, (fun x q => by cases q)⟩ ?_
  unfold startL
  split
  · exact beg_ok
  · exact scan_ok (m := k - 1) (by omega) (hI (k - 1) (by omega))
theorem Filled.congr (hk : GOk G) {k : Nat} {L : List K3} (h : Filled G inp I k L) : k ≤ 101 → (∀ j, j < k → I' j = I j) → Filled G inp I' k L := by
  induction h with
  | zero => exact fun _ _ => .zero
  | @step k L L' h1 h2 h3 ih =>
    intro hkk he
    have hI : ∀ j, j < k → ∀ y ∈ I j, ItOk G j y := fun j hj y hy => (h1.ok j hj).ok y hy
    have ek := he k (by omega)
    refine .step (ih (by omega) (fun j hj => he j (by omega))) ?_ (by rw [ek]; exact h3)
    rw [startL_congr (fun j hj => he j (by omega)), ek]
    exact h2.congr hk (by omega) hI (fun j hj => he j (by omega)) (start_VI hI)
/-- One place more. -/
theorem Filled.more (hk : GOk G) {k : Nat} {L l' L' : List K3} (hkk : k ≤ 100) (h : Filled G inp I k L) (hr : RunsTo G I k ((startL G inp I k).foldl stP ([], [])).1 ((startL G inp I k).foldl stP ([], [])).2 L l' L') (hv : VI G k (l', [])) : Filled G inp (fun j => if j = k then l' else I j) (k + 1) L' := by
  have he : ∀ j, j < k → (fun j => if j = k then l' else I j) j = I j := fun j hj => by simp only; rw [if_neg (by omega)]
  have hI : ∀ j, j < k → ∀ y ∈ I j, ItOk G j y := fun j hj y hy => (h.ok j hj).ok y hy
  refine .step (h.congr hk (by omega) he) ?_ (by simp only [if_true]; exact hv)
  rw [startL_congr he]
  simp only [if_true]
  exact hr.congr hk hkk hI he (start_VI hI)
end
/-- A world that keeps all blocks but those of S. -/
structure KbO (S : Nat → Prop) (w : World) where
  val : World
  kp : Kp S w val
instance (S : Nat → Prop) (w : World) : Nonempty (KbO S w) := ⟨⟨w, Kp.refl _ _⟩⟩
def noneV : Value := .slice none 0 0
/-- The cells of a chart. -/
def chC (G : Gr) (Ap Al As : Option Addr) (np cp nl cl ns cs : Nat) (Ai : Option Addr) (ni ci : Nat) (bv iv : Value) (m1 m2 m3 : Nat) : List Value :=
  [.int .i64 G.terms, .int .i64 G.names, .int .i64 G.start, .slice Ap np cp, .slice Al nl cl, .slice As ns cs, .slice Ai ni ci, bv, iv, .map (some m1), .map (some m2), .map (some m3), .bool false]
/-- A chart whose sets are being filled: what stays. -/
structure NcT (W : World) (B c bn bi base1 base2 m1 m2 m3 nN cb : Nat) (vs : List Value) (ss : List (Nat × Nat)) (G : Gr) (Ap Al As : Option Addr) (np cp nl cl ns cs : Nat) (Ai : Option Addr) (ni ci : Nat) (inp : List Int) : Prop where
  bB : BnS W base1 bn nN vs (byN G)
  cC : Blk W c 59 (chC G Ap Al As np cp nl cl ns cs Ai ni ci (.slice (some ⟨bn, 0, none⟩) nN nN) (.slice (some ⟨bi, 0, none⟩) (ni + 1) cb) m1 m2 m3)
  rS : W.ownsRow base2 68 1 (.slice (some ⟨bi, 0, none⟩) (ni + 1) cb) (ni + 1) (ss.map fun p => .pointer (some ⟨p.1, 0, none⟩))
  gi : GrIn W B G Ap Al As np cp nl cl ns cs
  ri : RdI W B Ai inp
  k2 : KMap 46 noneV W m2 0 (fun _ => none)
  k3 : KMap 46 zeroV W m3 0 (fun _ => none)
section
variable {W W' : World} {B c bn bi base1 base2 m1 m2 m3 nN cb : Nat} {vs : List Value} {ss : List (Nat × Nat)} {G : Gr} {Ap Al As : Option Addr} {np cp nl cl ns cs : Nat} {Ai : Option Addr} {ni ci : Nat} {inp : List Int}
theorem NcT.kp (h : NcT W B c bn bi base1 base2 m1 m2 m3 nN cb vs ss G Ap Al As np cp nl cl ns cs Ai ni ci inp) {s mk nz : Nat} {L : List K3} (k : Kp (fun b => b = s ∨ b = mk ∨ b = m1) W W') (hE : SetE W (s, mk)) (hm : SpM W m1 nz L) (h2 : m2 ≠ m1 ∧ m2 ≠ mk) (h3 : m3 ≠ m1 ∧ m3 ≠ mk) (hB : B ≤ W.heap.size) (hb : B ≤ s ∧ B ≤ mk ∧ B ≤ m1) : NcT W' B c bn bi base1 base2 m1 m2 m3 nN cb vs ss G Ap Al As np cp nl cl ns cs Ai ni ci inp := by
  have far : ∀ (g : Nat) (t : TypeId) (us : List Value), Blk W g t us → t ≠ 72 → ¬ (g = s ∨ g = mk ∨ g = m1) := fun g t us hg ht e => by
    rcases e with e | e | e
    · exact blk_ne hg hE.1 ht e
    · exact KMap.ne hE.2 hg e.symm
    · exact KMap.ne hm hg e.symm
  have hbel : Below B W W' := k.bel hB (fun q hq e => by omega)
  refine ⟨h.bB.kp k (far _ _ _ h.bB.mm (by decide)) (fun b us hu => far _ _ _ hu (by decide)), blk_kp h.cC k (far _ _ _ h.cC (by decide)), own_kp h.rS k (fun g e => ?_), h.gi.below hbel, h.ri.below hbel, h.k2.keep k (fun e => ?_), h.k3.keep k (fun e => ?_)⟩
  · obtain ⟨us, hu⟩ := own_blk h.rS e
    exact far _ _ _ hu (by decide)
  · rcases e with e | e | e
    · exact KMap.ne h.k2 hE.1 e
    · exact h2.2 e
    · exact h2.1 e
  · rcases e with e | e | e
    · exact KMap.ne h.k3 hE.1 e
    · exact h3.2 e
    · exact h3.1 e
/-- The pointers to the sets. -/
theorem NcT.ptr (h : NcT W B c bn bi base1 base2 m1 m2 m3 nN cb vs ss G Ap Al As np cp nl cl ns cs Ai ni ci inp) {k : Nat} {p : Nat × Nat} (hp : ss[k]? = some p) : W.cell? ⟨bi, k, none⟩ = some (.pointer (some ⟨p.1, 0, none⟩)) := by
  have h2 : (ss.map fun p => Value.pointer (some ⟨p.1, 0, none⟩))[k]? = some (.pointer (some ⟨p.1, 0, none⟩)) := by rw [List.getElem?_map, hp]; rfl
  have := h.rS.cells (g := bi) rfl k _ h2
  have hadd : (⟨bi, 0, none⟩ : Addr).add k = ⟨bi, k, none⟩ := by unfold Addr.add; split <;> simp_all
  rwa [hadd] at this
theorem NcT.ln (h : NcT W B c bn bi base1 base2 m1 m2 m3 nN cb vs ss G Ap Al As np cp nl cl ns cs Ai ni ci inp) : ss.length = ni + 1 := by
  have := h.rS.1
  simpa using this
theorem NcT.bic (h : NcT W B c bn bi base1 base2 m1 m2 m3 nN cb vs ss G Ap Al As np cp nl cl ns cs Ai ni ci inp) : ni + 1 ≤ cb ∧ cb ≤ maxLen ∧ ∃ us, Blk W bi 68 us := by
  obtain ⟨us, hu⟩ := own_blk h.rS (g := bi) rfl
  rcases h.rS.2 with ⟨e, _⟩ | ⟨g, cap, cur, e, _, hg, h1, h2, _, _⟩
  · cases e
  · simp only [Value.slice.injEq] at e
    obtain ⟨_, _, rfl⟩ := e
    exact ⟨h1, h2, us, hu⟩
/-- As fill reads it. -/
theorem NcT.chD (h : NcT W B c bn bi base1 base2 m1 m2 m3 nN cb vs ss G Ap Al As np cp nl cl ns cs Ai ni ci inp) (hnN : G.names = (nN : Int)) (hN2 : nN ≤ 300) (hm : ni ≤ ci ∧ ci ≤ maxLen) (hli : inp.length = ni) {s mk nz : Nat} {L : List K3} (hE : SetE W (s, mk)) (hs : SpM W m1 nz L) (hB : B ≤ W.heap.size) (hb : B ≤ s ∧ B ≤ mk ∧ B ≤ m1) :
    ChD W (fun b => b < W.heap.size ∧ b ≠ s ∧ b ≠ mk ∧ b ≠ m1) B c bi m1 (fun k => (ss.getD k (0, 0)).1) G Ap Al As np cp nl cl ns cs Ai ni ci inp := by
  have far : ∀ (g : Nat) (t : TypeId) (us : List Value), Blk W g t us → t ≠ 72 → g < W.heap.size ∧ g ≠ s ∧ g ≠ mk ∧ g ≠ m1 := fun g t us hg ht => ⟨hg.lt, blk_ne hg hE.1 ht, fun e => KMap.ne hE.2 hg e.symm, fun e => KMap.ne hs hg e.symm⟩
  obtain ⟨c1, c2, us, hu⟩ := h.bic
  refine ⟨fun k hk => ⟨by omega, by omega, by omega, by omega⟩, far _ _ _ h.cC (by decide), h.cC.cell (i := 0) rfl, h.cC.cell (i := 1) rfl, h.cC.cell (i := 2) rfl, h.cC.cell (i := 3) rfl, h.gi, h.cC.cell (i := 6) rfl, hli, hm, h.ri, ⟨bn, nN, nN, h.cC.cell (i := 7) rfl, hnN.symm, Nat.le_refl _, by unfold maxLen; omega, far _ _ _ h.bB.mm (by decide), fun a ha => h.bB.rd (fun b us hb => far _ _ _ hb (by decide)) ha⟩, ⟨cb, h.cC.cell (i := 8) rfl, c1, c2⟩, far _ _ _ hu (by decide), fun k hk => ?_, h.cC.cell (i := 9) rfl⟩
  have hl := h.ln
  have hp : ss[k]? = some (ss.getD k (0, 0)) := by
    rw [List.getD_eq_getElem?_getD, List.getElem?_eq_getElem (by omega)]
    rfl
  exact h.ptr hp
/-- As the trees' functions read it. -/
theorem NcT.chIn (h : NcT W B c bn bi base1 base2 m1 m2 m3 nN cb vs ss G Ap Al As np cp nl cl ns cs Ai ni ci inp) (hnN : G.names = (nN : Int)) (hN2 : nN ≤ 300) (hm : ni ≤ ci ∧ ci ≤ maxLen) (hli : inp.length = ni) {nz : Nat} {L : List K3} {I : Nat → List K3} (hs : SpM W m1 nz L) (hB : B ≤ W.heap.size) (hb : B ≤ m3) (hne : m1 ≠ m3)
    {b3 : Nat} (hF : ∀ (j : Nat) (p : Nat × Nat), ss[j]? = some p → SetF W b3 p (I j) ∧ p.2 ≠ m3) : ChIn W (fun b => b < W.heap.size ∧ b ≠ m3) B c m3 G Ap Al As np cp nl cl ns cs Ai ni ci inp ⟨I, L⟩ := by
  have far : ∀ (g : Nat) (t : TypeId) (us : List Value), Blk W g t us → g < W.heap.size ∧ g ≠ m3 := fun g t us hg => ⟨hg.lt, fun e => KMap.ne h.k3 hg e.symm⟩
  obtain ⟨c1, c2, us, hu⟩ := h.bic
  refine ⟨fun k hk => ⟨by omega, by omega⟩, far _ _ _ h.cC, h.cC.cell (i := 0) rfl, h.cC.cell (i := 1) rfl, h.cC.cell (i := 2) rfl, h.cC.cell (i := 3) rfl, h.gi, h.cC.cell (i := 6) rfl, hli, hm, h.ri, ⟨bn, nN, nN, h.cC.cell (i := 7) rfl, hnN.symm, Nat.le_refl _, by unfold maxLen; omega, far _ _ _ h.bB.mm, fun a ha => h.bB.rd (fun b us hb => far _ _ _ hb) ha⟩, ⟨bi, cb, h.cC.cell (i := 8) rfl, c1, c2, far _ _ _ hu, fun k hk => ?_⟩, ⟨m1, nz, h.cC.cell (i := 9) rfl, ⟨KMap.lt hs, hne⟩, hs⟩, h.cC.cell (i := 11) rfl⟩
  have hl := h.ln
  have hp : ss[k]? = some (ss.getD k (0, 0)) := by
    rw [List.getD_eq_getElem?_getD, List.getElem?_eq_getElem (by omega)]
    rfl
  obtain ⟨⟨lv, a, b, f, d, e⟩, hne2⟩ := hF k _ hp
  exact ⟨_, _, h.ptr hp, far _ _ _ a, a.cell (i := 1) rfl, ⟨KMap.lt d, hne2⟩, ⟨_, f, d, e⟩⟩
end

theorem own_low {W : World} {a b e n sz : Nat} {v : Value} {xs : List Value} (h : W.ownsRow a e sz v n xs) (hb : b ≤ a) : W.ownsRow b e sz v n xs :=
  ⟨h.1, h.2.imp (fun q => q) (fun ⟨g, cap, cur, q1, q2, q3⟩ => ⟨g, cap, cur, q1, Nat.le_trans hb q2, q3⟩)⟩
/-- The sets of the first i places are filled, the others empty. -/
structure FilT (W : World) (b3 m1 : Nat) (ss : List (Nat × Nat)) (i nz : Nat) (I : Nat → List K3) (L : List K3) : Prop where
  fl : ∀ (j : Nat) (p : Nat × Nat), j < i → ss[j]? = some p → SetF W b3 p (I j)
  em : ∀ (j : Nat) (p : Nat × Nat), i ≤ j → ss[j]? = some p → SetE W p
  nd : ∀ (i j : Nat) (p q : Nat × Nat), ss[i]? = some p → ss[j]? = some q → i ≠ j → p.1 ≠ q.1 ∧ p.2 ≠ q.2
  hi : ∀ p ∈ ss, p.1 < b3 ∧ p.2 < b3 ∧ m1 < p.2
  m3 : m1 < b3
  sp : SpM W m1 nz L
section
variable {W W' : World} {b3 m1 i nz nz' : Nat} {ss : List (Nat × Nat)} {I : Nat → List K3} {L L' l' : List K3}
theorem FilT.step (h : FilT W b3 m1 ss i nz I L) {s mk : Nat} (hp : ss[i]? = some (s, mk)) (k : Kp (fun b => b = s ∨ b = mk ∨ b = m1) W W') (hF : SetF W' b3 (s, mk) l') (hs : SpM W' m1 nz' L') : FilT W' b3 m1 ss (i + 1) nz' (fun j => if j = i then l' else I j) L' := by
  have hE := h.em i (s, mk) (Nat.le_refl _) hp
  have h0 := h.hi _ (List.mem_of_getElem? hp)
  have hm3 := h.m3
  have ne1 : ∀ (j : Nat) (p : Nat × Nat), j ≠ i → ss[j]? = some p → (∃ us, Blk W p.1 72 us) → (∃ n f, KMap 92 zeroV W p.2 n f) → ¬ (p.1 = s ∨ p.1 = mk ∨ p.1 = m1) ∧ ¬ (p.2 = s ∨ p.2 = mk ∨ p.2 = m1) := fun j p hj hpj ⟨us, hu⟩ ⟨n, f, hf⟩ => by
    have h1 := h.nd j i p (s, mk) hpj hp hj
    have h2 := h.hi _ (List.mem_of_getElem? hpj)
    have h3 := KMap.ne hE.2 hu
    have h4 := KMap.ne hf hE.1
    have h5 := KMap.ne h.sp hu
    simp only at h1 h3 h4
    exact ⟨fun e => by rcases e with e | e | e; exact h1.1 e; exact h3 e.symm; exact h5 e.symm, fun e => by rcases e with e | e | e; exact h4 e; exact h1.2 e; omega⟩
  refine ⟨fun j p hj hpj => ?_, fun j p hj hpj => ?_, h.nd, h.hi, h.m3, hs⟩
  · by_cases e : j = i
    · subst e
      rw [hp] at hpj
      cases hpj
      simp only [if_true]
      exact hF
    · simp only [if_neg e]
      have hj2 := h.fl j p (by omega) hpj
      obtain ⟨lv, a, b, f, c, d⟩ := hj2
      obtain ⟨n1, n2⟩ := ne1 j p e hpj ⟨_, a⟩ ⟨_, _, c⟩
      exact SetF.kp ⟨lv, a, b, f, c, d⟩ k n1 n2 (fun b hb e => by rcases e with e | e | e <;> omega)
  · have hj2 := h.em j p (by omega) hpj
    obtain ⟨n1, n2⟩ := ne1 j p (by omega) hpj ⟨_, hj2.1⟩ ⟨_, _, hj2.2⟩
    exact hj2.kp k n1 n2
/-- As fill reads the places behind. -/
theorem FilT.rd (h : FilT W b3 m1 ss i nz I L) {s mk : Nat} (hp : ss[i]? = some (s, mk)) (j : Nat) (hj : j < i) : SetR W (fun b => b < W.heap.size ∧ b ≠ s ∧ b ≠ mk ∧ b ≠ m1) (ss.getD j (0, 0)).1 (I j) := by
  have hil : i < ss.length := (List.getElem?_eq_some_iff.1 hp).1
  have hE := h.em i (s, mk) (Nat.le_refl _) hp
  have hq : ss[j]? = some (ss.getD j (0, 0)) := by
    rw [List.getD_eq_getElem?_getD, List.getElem?_eq_getElem (by omega)]
    rfl
  have hF := h.fl j _ hj hq
  have h1 := h.nd j i _ (s, mk) hq hp (by omega)
  have h0 := h.hi _ (List.mem_of_getElem? hp)
  have hm3 := h.m3
  obtain ⟨lv, a, b⟩ := hF
  have h3 := KMap.ne hE.2 a
  have h5 := KMap.ne h.sp a
  exact SetF.rd ⟨lv, a, b⟩ ⟨a.lt, h1.1, fun e => h3 e.symm, fun e => h5 e.symm⟩ (fun b hb hb2 => ⟨hb2, by simp only at h0; omega, by simp only at h0; omega, by omega⟩)
end
end Go.Proofs.YtiklbannoinioaaDoor
namespace Go.Proofs.YtiklbannoinioaaDoor
set_option linter.unusedVariables false
set_option linter.unusedSimpArgs false

/-- Symbols that stand one behind the other. -/
def Rw (st : Int → Nat → Nat → Prop) : List Int → Nat → Nat → Prop
  | [], i, j => i = j
  | s :: r, i, j => ∃ m, i ≤ m ∧ m ≤ j ∧ st s i m ∧ Rw st r m j
section
variable {st st' : Int → Nat → Nat → Prop}
theorem Rw.le : ∀ {r : List Int} {i j : Nat}, Rw st r i j → i ≤ j
  | [], i, j, h => Nat.le_of_eq h
  | s :: r, i, j, ⟨m, h1, h2, _⟩ => Nat.le_trans h1 h2
theorem Rw.mono (hs : ∀ s i j, st s i j → st' s i j) : ∀ {r : List Int} {i j : Nat}, Rw st r i j → Rw st' r i j
  | [], i, j, h => h
  | s :: r, i, j, ⟨m, h1, h2, h3, h4⟩ => ⟨m, h1, h2, hs _ _ _ h3, h4.mono hs⟩
theorem Rw.app : ∀ {r r' : List Int} {i m j : Nat}, Rw st r i m → Rw st r' m j → Rw st (r ++ r') i j
  | [], r', i, m, j, h, h' => by cases h; exact h'
  | s :: r, r', i, m, j, ⟨m1, h1, h2, h3, h4⟩, h' => ⟨m1, h1, Nat.le_trans h2 h'.le, h3, h4.app h'⟩
theorem Rw.snoc {r : List Int} {s : Int} {i m j : Nat} (h : Rw st r i m) (hm : m ≤ j) (hs : st s m j) : Rw st (r ++ [s]) i j := h.app ⟨j, hm, Nat.le_refl _, hs, rfl⟩
theorem Rw.unapp : ∀ {r r' : List Int} {i j : Nat}, Rw st (r ++ r') i j → ∃ m, Rw st r i m ∧ Rw st r' m j
  | [], r', i, j, h => ⟨i, rfl, h⟩
  | s :: r, r', i, j, ⟨m1, h1, h2, h3, h4⟩ => by
    obtain ⟨m, h5, h6⟩ := Rw.unapp h4
    exact ⟨m, ⟨m1, h1, h5.le, h3, h5⟩, h6⟩
end
/-- A symbol stands, by the spans of L. -/
def ST (L : List K3) (inp : List Int) (s : Int) (i j : Nat) : Prop := stB ⟨fun _ => [], L⟩ inp s i j = true
theorem ST.mono {L L' : List K3} (h : ∀ x ∈ L, x ∈ L') {inp : List Int} {s : Int} {i j : Nat} (k : ST L inp s i j) : ST L' inp s i j := by
  unfold ST stB at k ⊢
  by_cases q : 0 ≤ s
  · rw [if_pos q] at k ⊢; exact k
  · rw [if_neg q] at k ⊢
    exact decide_eq_true (h _ (of_decide_eq_true k))
theorem ST.le {L : List K3} (h : ∀ x ∈ L, x.2.1 ≤ x.2.2) {inp : List Int} {s : Int} {i j : Nat} (k : ST L inp s i j) : i ≤ j := by
  unfold ST stB at k
  by_cases q : 0 ≤ s
  · rw [if_pos q] at k; have := (of_decide_eq_true k).1; omega
  · rw [if_neg q] at k; exact h _ (of_decide_eq_true k)
theorem ST_name {L : List K3} {inp : List Int} {a i j : Nat} : ST L inp (-1 - (a : Int)) i j ↔ (a, i, j) ∈ L := by
  unfold ST stB
  rw [if_neg (by omega), show (-1 - (-1 - (a : Int))).toNat = a by omega]
  exact decide_eq_true_iff
theorem ST_term {L : List K3} {inp : List Int} {s : Int} (hs : 0 ≤ s) {i j : Nat} : ST L inp s i j ↔ j = i + 1 ∧ nth inp i = s := by
  unfold ST stB
  rw [if_pos hs]
  exact decide_eq_true_iff
/-- Each span came of spans that came before it; F: the items of a place. -/
def Gnd (G : Gr) (inp : List Int) (F : K3 → Nat → Prop) (L : List K3) : Prop :=
  ∀ L1 x L2, L = L1 ++ x :: L2 → ∃ p, p ∈ byN G x.1 ∧ F (p, (rtN G p).length, x.2.1) x.2.2 ∧ Rw (ST L1 inp) (rtN G p) x.2.1 x.2.2
theorem Gnd.mono {G : Gr} {inp : List Int} {F F' : K3 → Nat → Prop} {L : List K3} (h : Gnd G inp F L) (hF : ∀ y j, F y j → F' y j) : Gnd G inp F' L := fun L1 x L2 e => by
  obtain ⟨p, h1, h2, h3⟩ := h L1 x L2 e
  exact ⟨p, h1, hF _ _ h2, h3⟩
theorem Gnd.snoc {G : Gr} {inp : List Int} {F : K3 → Nat → Prop} {L : List K3} (h : Gnd G inp F L) {x : K3} {p : Nat} (h1 : p ∈ byN G x.1) (h2 : F (p, (rtN G p).length, x.2.1) x.2.2) (h3 : Rw (ST L inp) (rtN G p) x.2.1 x.2.2) : Gnd G inp F (L ++ [x]) := fun L1 y L2 e => by
  rcases List.eq_nil_or_concat L2 with e2 | ⟨L3, z, e2⟩
  · subst e2
    have := List.append_inj' e rfl
    obtain ⟨e3, e4⟩ := this
    cases e4
    subst e3
    exact ⟨p, h1, h2, h3⟩
  · rw [List.concat_eq_append] at e2
    subst e2
    have e3 : L ++ [x] = (L1 ++ y :: L3) ++ [z] := by rw [e]; simp
    exact h L1 y L3 (List.append_inj' e3 rfl).1
section
variable {G : Gr}
theorem ahead_none {y : K3} : aheadO G y = none ↔ y.2.1 = (rtN G y.1).length := by unfold aheadO; split <;> simp_all
theorem ahead_some {y : K3} {s : Int} (h : aheadO G y = some s) (ho : y.2.1 ≤ (rtN G y.1).length) : (rtN G y.1).take (y.2.1 + 1) = (rtN G y.1).take y.2.1 ++ [s] := by
  unfold aheadO at h
  split at h
  · cases h
  · rename_i q
    cases h
    have hl : y.2.1 < (rtN G y.1).length := by omega
    rw [List.take_add_one, List.getElem?_eq_getElem hl, nth_get hl]
    rfl
end
theorem mem_fold (xs : List K3) : ∀ (q : List K3 × List K3) (y : K3), y ∈ (xs.foldl stP q).1 ↔ y ∈ q.1 ∨ y ∈ xs := by
  induction xs with
  | nil => intro q y; simp
  | cons x xs ih =>
    intro q y
    rw [List.foldl_cons, ih]
    unfold stP
    by_cases h : x ∈ q.1
    · rw [if_pos h]
      constructor
      · rintro (h2 | h2)
        · exact .inl h2
        · exact .inr (List.mem_cons_of_mem _ h2)
      · rintro (h2 | h2)
        · exact .inl h2
        · rcases List.mem_cons.1 h2 with rfl | h2
          · exact .inl h
          · exact .inr h2
    · rw [if_neg h]
      simp only [List.mem_append, List.mem_cons, List.not_mem_nil, or_false]
      constructor
      · rintro ((h2 | h2) | h2)
        · exact .inl h2
        · exact .inr (.inl h2)
        · exact .inr (.inr h2)
      · rintro (h2 | h2 | h2)
        · exact .inl (.inl h2)
        · exact .inl (.inr h2)
        · exact .inr h2
/-- What comes anew is still to do; what was to do stays so. -/
theorem fold_todo (xs : List K3) : ∀ (q : List K3 × List K3), (∀ y ∈ q.2, y ∈ (xs.foldl stP q).2) ∧ ∀ y ∈ (xs.foldl stP q).1, y ∉ q.1 → y ∈ (xs.foldl stP q).2 := by
  induction xs with
  | nil => intro q; exact ⟨fun y h => h, fun y h h2 => absurd h h2⟩
  | cons x xs ih =>
    intro q
    rw [List.foldl_cons]
    obtain ⟨h1, h2⟩ := ih (stP q x)
    have e1 : ∀ y ∈ q.2, y ∈ (stP q x).2 := fun y hy => by
      unfold stP
      split
      · exact hy
      · exact List.mem_append_left _ hy
    refine ⟨fun y hy => h1 y (e1 y hy), fun y hy hn => ?_⟩
    by_cases e : y ∈ (stP q x).1
    · refine h1 y ?_
      unfold stP at e ⊢
      split at e
      · exact absurd e hn
      · rename_i hx
        rw [if_neg hx]
        rcases List.mem_append.1 e with e | e
        · exact absurd e hn
        · exact List.mem_append_right _ e
    · exact h2 y hy e
end Go.Proofs.YtiklbannoinioaaDoor
namespace Go.Proofs.YtiklbannoinioaaDoor
set_option linter.unusedVariables false
set_option linter.unusedSimpArgs false

/-- The items of a place, the place k being filled (l so far). -/
def FitS (I : Nat → List K3) (k : Nat) (l : List K3) (y : K3) (j : Nat) : Prop := if j = k then y ∈ l else y ∈ I j
/-- What stays true while the place k is filled: items l, to do t, spans L (L0 of them from places before). -/
structure FInv (G : Gr) (inp : List Int) (I : Nat → List K3) (k : Nat) (L0 l t L : List K3) : Prop where
  snd : ∀ y ∈ l, Rw (ST L inp) ((rtN G y.1).take y.2.1) y.2.2 k
  gnd : Gnd G inp (FitS I k l) L
  lt : ∀ x ∈ L, x.2.1 ≤ x.2.2 ∧ x.2.2 ≤ k ∧ (x.1 : Int) < G.names
  nd : L.Nodup
  new : ∀ x ∈ L, x.2.2 = k ∨ x ∈ L0
  old : ∀ x ∈ L0, x ∈ L
  beg : ∀ y ∈ l, y ∉ t → ∀ a : Nat, aheadO G y = some (-1 - (a : Int)) → ∀ q ∈ byN G a, (q, 0, k) ∈ l
  dn : ∀ y ∈ l, y ∉ t → aheadO G y = none → ((lfN G y.1).toNat, y.2.2, k) ∈ L
  c1 : ∀ a i : Nat, (a, i, k) ∈ L → i < k → ∀ z ∈ I i, aheadO G z = some (-1 - (a : Int)) → advI z ∈ l
  c2 : ∀ a : Nat, (a, k, k) ∈ L → ∀ z ∈ l, z ∉ t → aheadO G z = some (-1 - (a : Int)) → advI z ∈ l
section
variable {G : Gr} {inp : List Int} {I : Nat → List K3} {k : Nat} {L0 l t L l2 t2 L2 : List K3} {x : K3}
theorem mem_insL {L : List K3} {x y : K3} : y ∈ insL L x ↔ y ∈ L ∨ y = x := by
  unfold insL
  by_cases h : x ∈ L
  · rw [if_pos h]
    exact ⟨.inl, fun e => e.elim (fun q => q) (fun q => q ▸ h)⟩
  · rw [if_neg h]; simp
theorem adv_rw {L : List K3} {y : K3} {s : Int} {m : Nat} (h : aheadO G y = some s) (ho : y.2.1 ≤ (rtN G y.1).length) (hr : Rw (ST L inp) ((rtN G y.1).take y.2.1) y.2.2 m) {j : Nat} (hm : m ≤ j) (hs : ST L inp s m j) :
    Rw (ST L inp) ((rtN G (advI y).1).take (advI y).2.1) (advI y).2.2 j := by
  show Rw (ST L inp) ((rtN G y.1).take (y.2.1 + 1)) y.2.2 j
  rw [ahead_some h ho]
  exact hr.snoc hm hs
/-- One item done: what must be seen of it. -/
theorem FInv.step (hk : GOk G) (h : FInv G inp I k L0 l (t ++ [x]) L) (hv : VI G k (l, t ++ [x])) (hIs : ∀ j, j < k → ∀ y ∈ I j, ItOk G j y ∧ Rw (ST L inp) ((rtN G y.1).take y.2.1) y.2.2 j)
    (e : popS G I k l t L x = (l2, t2, L2)) : FInv G inp I k L0 l2 t2 L2 ∧ (∀ y ∈ l, y ∈ l2) ∧ ∀ y ∈ L, y ∈ L2 := by
  have hxl : x ∈ l := hv.sb x (by simp)
  have hxo := hv.ok x hxl
  have hxt : x ∉ t := fun q => by
    have := (List.nodup_append.1 hv.td).2.2 x q x (by simp)
    exact this rfl
  -- the steps of all three kinds
  have core : ∀ (xs : List K3), l2 = (xs.foldl stP (l, t)).1 → t2 = (xs.foldl stP (l, t)).2 → (∀ y ∈ L, y ∈ L2) →
      (∀ y ∈ xs, Rw (ST L2 inp) ((rtN G y.1).take y.2.1) y.2.2 k) → Gnd G inp (FitS I k l2) L2 → (∀ y ∈ L2, y ∈ L ∨ y.2.1 ≤ y.2.2 ∧ y.2.2 = k ∧ (y.1 : Int) < G.names) → L2.Nodup →
      (∀ a : Nat, aheadO G x = some (-1 - (a : Int)) → (∀ q ∈ byN G a, (q, 0, k) ∈ l2) ∧ ((a, k, k) ∈ L2 → advI x ∈ l2)) → (aheadO G x = none → ((lfN G x.1).toNat, x.2.2, k) ∈ L2) →
      (∀ a i : Nat, (a, i, k) ∈ L2 → (a, i, k) ∉ L → (i < k → ∀ z ∈ I i, aheadO G z = some (-1 - (a : Int)) → advI z ∈ l2) ∧ (i = k → ∀ z ∈ l, aheadO G z = some (-1 - (a : Int)) → advI z ∈ l2)) →
      FInv G inp I k L0 l2 t2 L2 ∧ (∀ y ∈ l, y ∈ l2) ∧ ∀ y ∈ L, y ∈ L2 := fun xs e1 e2 hL g1 g2 g3 g4 g5 g6 g7 => by
    have hl : ∀ y ∈ l, y ∈ l2 := fun y hy => by rw [e1]; exact (mem_fold xs (l, t) y).2 (.inl hy)
    have hp : ∀ y ∈ l2, y ∉ t2 → y ∈ l ∧ (y = x ∨ y ∉ t ++ [x]) := fun y hy hn => by
      obtain ⟨f1, f2⟩ := fold_todo xs (l, t)
      rw [← e2] at f1 f2
      rw [← e1] at f2
      refine ⟨Classical.byContradiction fun q => hn (f2 y hy q), ?_⟩
      by_cases q : y = x
      · exact .inl q
      · refine .inr fun q2 => ?_
        rcases List.mem_append.1 q2 with q2 | q2
        · exact hn (f1 y q2)
        · exact q (by simpa using q2)
    refine ⟨⟨fun y hy => ?_, g2, fun y hy => ?_, g4, fun y hy => ?_, fun y hy => hL y (h.old y hy), fun y hy hn a ha q hq => ?_, fun y hy hn ha => ?_, fun a i hm hi z hz ha => ?_, fun a hm z hz hn ha => ?_⟩, hl, hL⟩
    · rw [e1] at hy
      rcases (mem_fold xs (l, t) y).1 hy with hy | hy
      · exact (h.snd y hy).mono (fun _ _ _ => ST.mono hL)
      · exact g1 y hy
    · rcases g3 y hy with q | q
      · exact h.lt y q
      · exact ⟨q.1, Nat.le_of_eq q.2.1, q.2.2⟩
    · rcases g3 y hy with q | q
      · exact h.new y q
      · exact .inl q.2.1
    · obtain ⟨h1, rfl | h2⟩ := hp y hy hn
      · exact (g5 a ha).1 q hq
      · exact hl _ (h.beg y h1 h2 a ha q hq)
    · obtain ⟨h1, rfl | h2⟩ := hp y hy hn
      · exact g6 ha
      · exact hL _ (h.dn y h1 h2 ha)
    · by_cases q : (a, i, k) ∈ L
      · exact hl _ (h.c1 a i q hi z hz ha)
      · exact (g7 a i hm q).1 hi z hz ha
    · obtain ⟨h1, rfl | h2⟩ := hp z hz hn
      · exact (g5 a ha).2 hm
      · by_cases q : (a, k, k) ∈ L
        · exact hl _ (h.c2 a q z h1 h2 ha)
        · exact (g7 a k hm q).2 rfl z h1 ha
  have hsnd : ∀ y ∈ l, Rw (ST L inp) ((rtN G y.1).take y.2.1) y.2.2 k := h.snd
  unfold popS at e
  split at e
  · rename_i ha
    simp only [Prod.mk.injEq] at e
    obtain ⟨e1, e2, e3⟩ := e
    have hlen := ahead_none.1 ha
    have hrow : Rw (ST L inp) (rtN G x.1) x.2.2 k := by
      have := hsnd x hxl
      rwa [hlen, List.take_length] at this
    have hl0 := (mem_rtN hk hxo.1).l0
    have hl1 := (mem_rtN hk hxo.1).l1
    obtain ⟨a, hA⟩ : ∃ a : Nat, lfN G x.1 = (a : Int) := ⟨(lfN G x.1).toNat, by unfold lfN; omega⟩
    have hA2 : (prodAt G (x.1 : Int)).1 = (a : Int) := hA
    rw [hA] at e1 e2
    rw [hA, Int.toNat_natCast] at e3
    have hL : ∀ y ∈ L, y ∈ L2 := fun y hy => by rw [← e3]; exact mem_insL.2 (.inl hy)
    have hin : (a, x.2.2, k) ∈ L2 := by rw [← e3]; exact mem_insL.2 (.inr rfl)
    have hst : ST L2 inp (-1 - (a : Int)) x.2.2 k := ST_name.2 hin
    have hys : ∀ z ∈ (if x.2.2 = k then l else I x.2.2), ItOk G x.2.2 z ∧ Rw (ST L inp) ((rtN G z.1).take z.2.1) z.2.2 x.2.2 := fun z hz => by
      by_cases q : x.2.2 = k
      · rw [if_pos q] at hz
        rw [q]
        exact ⟨hv.ok z hz, hsnd z hz⟩
      · rw [if_neg q] at hz
        exact hIs _ (by have := hxo.2.2; omega) z hz
    refine core _ e1.symm e2.symm hL (fun y hy => ?_) ?_ (fun y hy => ?_) ?_ (fun b hb => by rw [ha] at hb; cases hb) (fun _ => by rw [hA, Int.toNat_natCast]; exact hin) (fun b i hm hn => ?_)
    · unfold compL at hy
      rw [List.mem_filterMap] at hy
      obtain ⟨z, hz, ez⟩ := hy
      split at ez
      · rename_i hz2
        cases ez
        obtain ⟨h1, h2⟩ := hys z hz
        exact adv_rw hz2 h1.2.1 (h2.mono (fun _ _ _ => ST.mono hL)) hxo.2.2 hst
      · cases ez
    · have hmono : ∀ y j, FitS I k l y j → FitS I k l2 y j := fun y j q => by
        unfold FitS at q ⊢
        by_cases q2 : j = k
        · rw [if_pos q2] at q ⊢
          rw [← e1]
          exact (mem_fold _ (l, t) y).2 (.inl q)
        · rw [if_neg q2] at q ⊢; exact q
      have hg := h.gnd.mono hmono
      rw [← e3]
      unfold insL
      split
      · exact hg
      · refine hg.snoc (p := x.1) (mem_byN.2 ⟨hxo.1, hA⟩) (hmono _ _ ?_) hrow
        unfold FitS
        rw [if_pos rfl, ← hlen]
        exact hxl
    · rw [← e3] at hy
      rcases mem_insL.1 hy with q | q
      · exact .inl q
      · subst q
        exact .inr ⟨hxo.2.2, rfl, by show (a : Int) < _; omega⟩
    · rw [← e3]
      unfold insL
      split
      · exact h.nd
      · rename_i hn
        exact List.nodup_append.2 ⟨h.nd, by simp, fun p hp q hq => by rw [List.mem_singleton] at hq; subst hq; exact fun e => hn (e ▸ hp)⟩
    · rw [← e3] at hm
      rcases mem_insL.1 hm with q | q
      · exact absurd q hn
      · simp only [Prod.mk.injEq] at q
        obtain ⟨rfl, rfl, _⟩ := q
        refine ⟨fun hi z hz hz2 => ?_, fun hi z hz hz2 => ?_⟩
        · rw [← e1]
          refine (mem_fold _ (l, t) _).2 (.inr ?_)
          unfold compL
          rw [if_neg (by omega), List.mem_filterMap]
          exact ⟨z, hz, if_pos hz2⟩
        · rw [← e1]
          refine (mem_fold _ (l, t) _).2 (.inr ?_)
          unfold compL
          rw [if_pos hi, List.mem_filterMap]
          exact ⟨z, hz, if_pos hz2⟩
  · rename_i s ha
    have hgm : ∀ l3 : List K3, (∀ y ∈ l, y ∈ l3) → Gnd G inp (FitS I k l3) L := fun l3 h3 => h.gnd.mono (fun y j q => by
      unfold FitS at q ⊢
      by_cases q2 : j = k
      · rw [if_pos q2] at q ⊢; exact h3 y q
      · rw [if_neg q2] at q ⊢; exact q)
    split at e
    · rename_i hs
      obtain ⟨a, hA⟩ : ∃ a : Nat, s = -1 - (a : Int) := ⟨(-1 - s).toNat, by omega⟩
      subst hA
      rw [show (-1 - (-1 - (a : Int))).toNat = a by omega] at e
      have hbeg : ∀ y ∈ begL G a k, Rw (ST L inp) ((rtN G y.1).take y.2.1) y.2.2 k := fun y hy => by
        unfold begL at hy
        rw [List.mem_map] at hy
        obtain ⟨p, _, rfl⟩ := hy
        exact rfl
      have hbm : ∀ q ∈ byN G a, (q, 0, k) ∈ begL G a k := fun q hq => by unfold begL; rw [List.mem_map]; exact ⟨q, hq, rfl⟩
      by_cases q : (a, k, k) ∈ L
      · simp only [if_pos q, Prod.mk.injEq] at e
        obtain ⟨e1, e2, e3⟩ := e
        subst e3
        have e1' : l2 = ((begL G a k ++ [advI x]).foldl stP (l, t)).1 := by rw [List.foldl_append]; exact e1.symm
        have e2' : t2 = ((begL G a k ++ [advI x]).foldl stP (l, t)).2 := by rw [List.foldl_append]; exact e2.symm
        refine core _ e1' e2' (fun y hy => hy) (fun y hy => ?_) (hgm _ (fun y hy => by rw [e1']; exact (mem_fold _ (l, t) y).2 (.inl hy))) (fun y hy => .inl hy) h.nd (fun b hb => ?_) (fun hb => by rw [ha] at hb; cases hb) (fun b i hm hn => absurd hm hn)
        · rcases List.mem_append.1 hy with hy | hy
          · exact hbeg y hy
          · rw [List.mem_singleton] at hy
            subst hy
            exact adv_rw ha hxo.2.1 (hsnd x hxl) (Nat.le_refl _) (ST_name.2 q)
        · rw [ha] at hb
          simp only [Option.some.injEq] at hb
          obtain rfl : a = b := by omega
          exact ⟨fun p hp => by rw [e1']; exact (mem_fold _ (l, t) _).2 (.inr (List.mem_append_left _ (hbm p hp))), fun _ => by rw [e1']; exact (mem_fold _ (l, t) _).2 (.inr (List.mem_append_right _ (by simp)))⟩
      · simp only [if_neg q, Prod.mk.injEq] at e
        obtain ⟨e1, e2, e3⟩ := e
        subst e3
        refine core _ e1.symm e2.symm (fun y hy => hy) hbeg (hgm _ (fun y hy => by rw [← e1]; exact (mem_fold _ (l, t) y).2 (.inl hy))) (fun y hy => .inl hy) h.nd (fun b hb => ?_) (fun hb => by rw [ha] at hb; cases hb) (fun b i hm hn => absurd hm hn)
        rw [ha] at hb
        simp only [Option.some.injEq] at hb
        obtain rfl : a = b := by omega
        exact ⟨fun p hp => by rw [← e1]; exact (mem_fold _ (l, t) _).2 (.inr (hbm p hp)), fun hm => absurd hm q⟩
    · rename_i hs
      simp only [Prod.mk.injEq] at e
      obtain ⟨rfl, rfl, rfl⟩ := e
      exact core [] rfl rfl (fun y hy => hy) (fun y hy => by cases hy) h.gnd (fun y hy => .inl hy) h.nd (fun b hb => by rw [ha] at hb; simp only [Option.some.injEq] at hb; omega) (fun hb => by rw [ha] at hb; cases hb) (fun b i hm hn => absurd hm hn)
end
end Go.Proofs.YtiklbannoinioaaDoor
