/- Plain: how many nodes the trees of a stack have. · Shapes that bear the form's own reach: what came in, and how many bytes each slice takes. -/
import Derived.Test.YtinejiodnnjpgaaDoorQ8
import Derived.Test.YtinejiodnnjpgaaDoorQ1
import Derived.SizedLaws
namespace Go.Proofs.YtinejiodnnjpgaaDoor
open Go.RowKit BigFrame
set_option linter.unusedVariables false
set_option linter.unusedSimpArgs false

theorem red_sz {G : Gr} {T : Tb} {st st' : St} {p : Int} (e : redP G T st p = some st') : szL st'.2 = szL st.2 + 1 := by
  unfold redP at e
  split at e
  · simp only at e
    split at e
    · cases e
    · cases e
      have h := szL_append (st.2.take (st.2.length - (prodAt G p).2.1.length)) (st.2.drop (st.2.length - (prodAt G p).2.1.length))
      rw [List.take_append_drop] at h
      simp only [szL_append, szL, szT]
      omega
  · cases e
theorem settle_sz {G : Gr} {T : Tb} {term : Int} : ∀ (f : Nat) (st st' : St) (to : Int), settleP G T term f st = .ok (st', to) → szL st'.2 ≤ szL st.2 + f := by
  intro f
  induction f with
  | zero =>
    intro st st' to e
    unfold settleP at e
    split at e
    · cases e
    · split at e
      · cases e; omega
      · split at e
        · split at e
          · cases e; omega
          · cases e
        · cases e
  | succ f ih =>
    intro st st' to e
    unfold settleP at e
    split at e
    · cases e
    · split at e
      · cases e; omega
      · split at e
        · split at e
          · cases e; omega
          · cases e
        · simp only at e
          split at e
          · cases e
          · rename_i st2 hr
            have := ih st2 st' to e
            have := red_sz hr
            omega
theorem take_sz {G : Gr} {T : Tb} {term : Int} {i : Nat} {st st' : St} (e : takeP G T term i st = .ok st') : szL st'.2 ≤ szL st.2 + 10001 := by
  unfold takeP at e
  split at e
  · cases e
  · split at e
    · cases e
    · rename_i st2 to hs
      cases e
      have := settle_sz 10000 st st2 to hs
      simp only [szL_append, szL, szT]
      omega
end Go.Proofs.YtinejiodnnjpgaaDoor
namespace Go.Proofs.YtinejiodnnjpgaaDoor
open Go.RowKit
set_option linter.unusedVariables false
set_option linter.unusedSimpArgs false
set_option maxRecDepth 100000

/-- A shape, and a plain condition besides. -/
def shZ {α : Type} (S : Sh α) (p : α → Prop) : Sh α where
  n := S.n
  rd := fun w F a cs => S.rd w F a cs ∧ p a
  len := fun h => S.len h.1
  keep := fun h k => ⟨S.keep h.1 k, h.2⟩
  more := fun h k => ⟨S.more h.1 k, h.2⟩
  one := fun h => S.one h.1
theorem weightsAll_mem {H : Type} {P : Program} {e : TypeId} {d : DataW H} : ∀ {ds : List (DataW H)}, d ∈ ds → ∀ n ∈ d.weights P e, n ∈ DataW.weightsAll P e ds
  | [], h, _, _ => by cases h
  | d0 :: ds, h, n, hn => by
    simp only [DataW.weightsAll, List.mem_append]
    rcases List.mem_cons.1 h with rfl | h
    · exact Or.inl hn
    · exact Or.inr (weightsAll_mem h n hn)
def OpensW (P : Program) (t : TypeId) {α : Type} (S : Sh α) : Prop :=
  P.cellsOf t = S.n ∧ ∀ (H : Type) (enc : TypeId × Value → H) (w : World) (base : Nat) (held : Bool) (fuel : Nat) (cs : List Value) (x : DataW H × List MemPlace),
    DataW.trod enc P w base (fun _ => true) held fuel t cs = some x → (∀ n ∈ x.1.weights P t, n ≤ reachBytes) → ∃ a, S.rd w (Lo w.heap.size) a cs
theorem Opens.w {P : Program} {t : TypeId} {α : Type} {S : Sh α} (h : Opens P t S) : OpensW P t S := ⟨h.1, fun H enc w base held fuel cs x hx _ => h.2 H enc w base held fuel cs x hx⟩
theorem opensW_slice {P : Program} {t e : TypeId} {α : Type} {S : Sh α} {bytes : Nat} (ht : P.underlying t = some (.slice e)) (hc : P.cellsOf t = 1) (hS : 0 < S.n) (hby : P.bytesOf e = bytes) (he : OpensW P e S) : OpensW P t (shZ (shL S) fun l => l.length * bytes ≤ reachBytes) :=
  ⟨hc, fun H enc w base held fuel cs x h hwt => by
    rcases Deep.open_slice ht h with ⟨rfl, _⟩ | ⟨a, len, cap, m, n, D, Pl, rfl, _, hl, hm, hmm, hxe, hx⟩
    · exact ⟨[], ⟨none, 0, [], rfl, Nat.le_refl _, Nat.zero_le _, rfl, fun i a d h => by simp at h, fun h => absurd rfl h⟩, by simp [reachBytes]⟩
    · rw [if_pos rfl] at hmm
      subst hmm
      subst hxe
      simp only [DataW.weights, ht, List.mem_cons, List.mem_append] at hwt
      have hlen47 : len * bytes ≤ reachBytes := by
        have := hwt _ (Or.inl rfl)
        rw [hby] at this
        simp only [List.length_map, List.length_range] at this
        exact Nat.le_trans (Nat.mul_le_mul_right _ (Nat.le_add_right _ _)) this
      have hwD : ∀ i, i < len → ∀ q ∈ (D i).weights P e, q ≤ reachBytes := fun i hi q hq =>
        hwt q (Or.inr (Or.inl (weightsAll_mem (List.mem_map.2 ⟨i, List.mem_range.2 hi, rfl⟩) q hq)))
      obtain ⟨css, hcss⟩ := Deep.choose_lt (α := List Value) (p := fun i d => w.cells? base (a.add (i * P.cellsOf e)) (P.cellsOf e) = some d ∧ ∃ a, S.rd w (Lo w.heap.size) a d) (n := len) (fun i hi => by
        obtain ⟨d, h1, h2⟩ := hx i (by omega)
        exact ⟨d, h1, he.2 H enc w base held n d _ h2 (hwD i hi)⟩)
      obtain ⟨l, hl'⟩ : ∃ l : List α, l.length = len ∧ ∀ (i : Nat) (a : α), l[i]? = some a → S.rd w (Lo w.heap.size) a (css i) := by
        have : ∀ k, k ≤ len → ∃ l : List α, l.length = k ∧ ∀ (i : Nat) (a : α), l[i]? = some a → S.rd w (Lo w.heap.size) a (css i) := by
          intro k
          induction k with
          | zero => intro _; exact ⟨[], rfl, fun i a h => by simp at h⟩
          | succ k ih =>
            intro hk
            obtain ⟨l, h1, h2⟩ := ih (by omega)
            obtain ⟨a, ha⟩ := (hcss k (by omega)).2
            refine ⟨l ++ [a], by simp [h1], fun i b hb => ?_⟩
            by_cases hi : i < l.length
            · rw [List.getElem?_append_left hi] at hb; exact h2 i b hb
            · rw [List.getElem?_append_right (by omega)] at hb
              have : i = l.length := by
                rcases Nat.lt_or_ge l.length i with h | h
                · rw [List.getElem?_eq_none (by simp; omega)] at hb; cases hb
                · omega
              subst this
              simp at hb
              subst hb
              rw [h1]; exact ha
        exact this len (Nat.le_refl _)
      obtain ⟨hlen, hrd⟩ := hl'
      refine ⟨l, ⟨some a, m, (List.range len).map css, by rw [hlen], by omega, hm, by simp [hlen], fun i b d hb hd => ?_, fun hne => ?_⟩, by show l.length * bytes ≤ reachBytes; rw [hlen]; exact hlen47⟩
      · have hi : i < len := by rw [← hlen]; exact (List.getElem?_eq_some_iff.1 hb).1
        rw [List.getElem?_map, List.getElem?_range hi] at hd
        simp at hd
        subst hd
        exact hrd i b hb
      · have h0 : 0 < len := by
          rcases Nat.eq_zero_or_pos len with h0 | h0
          · subst h0; simp at hne
          · exact h0
        have hcs : ∀ i, i < len → (css i).length = S.n ∧ ∀ j, j < S.n → w.cell? (a.add (i * S.n + j)) = (css i)[j]? := by
          intro i hi
          obtain ⟨_, h2, h3⟩ := World.cells?_some (hcss i hi).1
          rw [he.1] at h2 h3
          exact ⟨h2, fun j hj => by rw [← Deep.add_add]; exact h3 j hj⟩
        obtain ⟨b, off, spot⟩ := a
        have hc0 : w.cell? (⟨b, off, spot⟩ : Addr) = some ((css 0)[0]'(by rw [(hcs 0 h0).1]; exact hS)) := by
          have := (hcs 0 h0).2 0 hS
          rw [List.getElem?_eq_getElem (by rw [(hcs 0 h0).1]; exact hS)] at this
          simpa [Addr.add] using this
        have hspot : spot = none := by simpa [Addr.add] using World.cell?_spot hc0
        subst hspot
        refine ⟨b, off, rfl, World.block_lt_of_cell? w _ hc0, fun j u hu => ?_⟩
        have hflat : ∀ (m : Nat), m ≤ len → ((List.range m).map css).flatten.length = m * S.n ∧ ∀ (j : Nat) (u : Value), ((List.range m).map css).flatten[j]? = some u → w.cell? ⟨b, off + j, none⟩ = some u := by
          intro m
          induction m with
          | zero => intro _; simp
          | succ m ih =>
            intro hm'
            obtain ⟨i1, i2⟩ := ih (by omega)
            have hsp : ((List.range (m + 1)).map css).flatten = ((List.range m).map css).flatten ++ css m := by
              rw [List.range_succ, List.map_append, List.flatten_append]; simp
            refine ⟨by rw [hsp, List.length_append, i1, (hcs m (by omega)).1, Nat.add_mul, Nat.one_mul], fun j u hu => ?_⟩
            rw [hsp] at hu
            by_cases hj : j < ((List.range m).map css).flatten.length
            · rw [List.getElem?_append_left hj] at hu; exact i2 j u hu
            · rw [List.getElem?_append_right (by omega), i1] at hu
              have hjm : j - m * S.n < S.n := by have := (List.getElem?_eq_some_iff.1 hu).1; rw [(hcs m (by omega)).1] at this; exact this
              have := (hcs m (by omega)).2 (j - m * S.n) hjm
              rw [hu] at this
              have hadd : (⟨b, off, none⟩ : Addr).add (m * S.n + (j - m * S.n)) = ⟨b, off + j, none⟩ := by
                rw [i1] at hj
                rw [show m * S.n + (j - m * S.n) = j from by omega]
                unfold Addr.add; split <;> simp_all
              rwa [hadd] at this
        exact (hflat len (Nat.le_refl _)).2 j u hu⟩

def OpFW (P : Program) (fs : List Field) (off : Nat) {α : Type} (S : Sh α) : Prop :=
  ∀ (H : Type) (enc : TypeId × Value → H) (w : World) (base : Nat) (held : Bool) (fuel : Nat) (cs : List Value) (xs : List (DataW H × List MemPlace)), cs.length = off + S.n →
    (∀ (i : Nat) (f : Field), fs[i]? = some f → ∃ x, xs[i]? = some x ∧ DataW.trod enc P w base (fun _ => true) held fuel f.type ((cs.drop f.offset).take (P.cellsOf f.type)) = some x ∧ ∀ n ∈ x.1.weights P f.type, n ≤ reachBytes) → ∃ a, S.rd w (Lo w.heap.size) a (cs.drop off)
theorem opFW_one {P : Program} {f : Field} {off : Nat} {α : Type} {S : Sh α} (ho : f.offset = off) (h : OpensW P f.type S) : OpFW P [f] off S := by
  intro H enc w base held fuel cs xs hl hf
  obtain ⟨x, _, hx, hw⟩ := hf 0 f rfl
  rw [ho, h.1, List.take_of_length_le (by rw [List.length_drop, hl]; omega)] at hx
  exact h.2 H enc w base held fuel _ x hx hw
theorem opFW_cons {P : Program} {f : Field} {fs : List Field} {off : Nat} {α β : Type} {S : Sh α} {T : Sh β} (ho : f.offset = off) (h : OpensW P f.type S) (hr : OpFW P fs (off + S.n) T) : OpFW P (f :: fs) off (shP S T) := by
  intro H enc w base held fuel cs xs hl hf
  have hl' : cs.length = off + (S.n + T.n) := hl
  obtain ⟨x, _, hx, hw⟩ := hf 0 f rfl
  rw [ho, h.1] at hx
  obtain ⟨a, ha⟩ := h.2 H enc w base held fuel _ x hx hw
  obtain ⟨b, hb⟩ := hr H enc w base held fuel cs (xs.drop 1) (by omega) (fun i g hg => by
    obtain ⟨y, h1, h2⟩ := hf (i + 1) g (by simpa using hg)
    exact ⟨y, by rw [List.getElem?_drop, Nat.add_comm]; exact h1, h2⟩)
  refine ⟨(a, b), (cs.drop off).take S.n, cs.drop (off + S.n), ?_, ha, hb⟩
  rw [← List.drop_drop, List.take_append_drop]
theorem weightsEach_mem {H : Type} {P : Program} : ∀ {fs : List Field} {ds : List (DataW H)} {i : Nat} {f : Field} {d : DataW H}, fs[i]? = some f → ds[i]? = some d → ∀ n ∈ d.weights P f.type, n ∈ DataW.weightsEach P (fs.map (·.type)) ds := fun {fs ds i f d} hf hd n hn =>
  DataW.weights_mem_each (j := i) (t := f.type) (by rw [List.getElem?_map, hf]; rfl) hd n hn
theorem opensW_struct {P : Program} {t : TypeId} {fs : Array Field} {α : Type} {S : Sh α} (ht : P.underlying t = some (.struct fs)) (hc : P.cellsOf t = S.n) (h : OpFW P fs.toList 0 S) : OpensW P t S :=
  ⟨hc, fun H enc w base held fuel cs x hx hw => by
    obtain ⟨xs, n, _, rfl, hl, hxl, hg⟩ := DataW.trod_struct ht hx
    simp only [DataW.weights, ht] at hw
    have := h H enc w base held n cs xs (by rw [hl, hc]; omega) (fun i f hf => by
      have hf' : fs[i]? = some f := by simpa using hf
      have hi : i < xs.length := by rw [hxl]; exact (Array.getElem?_eq_some_iff.1 hf').1
      refine ⟨xs[i], List.getElem?_eq_getElem hi, by rw [hg i f hf', List.getElem?_eq_getElem hi], fun q hq => hw q ?_⟩
      exact weightsEach_mem hf (by rw [List.getElem?_map, List.getElem?_eq_getElem hi]; rfl) q hq)
    simpa using this⟩
theorem isIn_ofW {P : Program} {t : TypeId} {α : Type} {S : Sh α} (ho : OpensW P t S) {H : Type} {enc : TypeId × Value → H} {W : World} {base : Nat} {v : Value} {d : DataW H} {p : List MemPlace} {held : Bool}
    (h : DataW.Trod enc P W base (fun _ => true) held t v d p) (hw : ∀ n ∈ d.weights P t, n ≤ reachBytes) : IsIn S W v := by
  obtain ⟨fuel, hf⟩ := h
  exact ho.2 H enc W base held fuel _ _ hf hw
end Go.Proofs.YtinejiodnnjpgaaDoor
