/- A chart filled, plain: all that holds of it. · Shapes that bear the form's own reach: what came in, and how many bytes each slice takes. · The document's leaves and Sound. -/
import Derived.Test.YtiklbannoinioaaDoorQ12
import Derived.Test.YtiklbannoinioaaDoorQ2
import Derived.SizedLaws
import Derived.Test.YtiklbannoinioaaDoorQ4
import Derived.Test.YtiklbannoinioaaDoorQ8
import Derived.StillTail
namespace Go.Proofs.YtiklbannoinioaaDoor
set_option linter.unusedVariables false
set_option linter.unusedSimpArgs false

/-- The places below k are filled. -/
structure Chart (G : Gr) (inp : List Int) (k : Nat) (I : Nat → List K3) (L : List K3) : Prop where
  ok : ∀ j, j < k → VI G j (I j, [])
  start : 0 < k → ∀ p ∈ byN G G.start.toNat, (p, 0, 0) ∈ I 0
  snd : ∀ j, j < k → ∀ y ∈ I j, Rw (ST L inp) ((rtN G y.1).take y.2.1) y.2.2 j
  gnd : Gnd G inp (fun y j => y ∈ I j) L
  scan : ∀ j, j + 1 < k → ∀ y ∈ I j, ∀ s, 0 ≤ s → aheadO G y = some s → nth inp j = s → advI y ∈ I (j + 1)
  beg : ∀ j, j < k → ∀ y ∈ I j, ∀ a : Nat, aheadO G y = some (-1 - (a : Int)) → ∀ q ∈ byN G a, (q, 0, j) ∈ I j
  dn : ∀ j, j < k → ∀ y ∈ I j, aheadO G y = none → ((lfN G y.1).toNat, y.2.2, j) ∈ L
  comp : ∀ a i j : Nat, (a, i, j) ∈ L → ∀ z ∈ I i, aheadO G z = some (-1 - (a : Int)) → advI z ∈ I j
  lt : ∀ x ∈ L, x.2.1 ≤ x.2.2 ∧ x.2.2 < k ∧ (x.1 : Int) < G.names
  nd : L.Nodup
section
variable {G : Gr} {inp : List Int} {I : Nat → List K3} {k : Nat} {L0 l t L l' L' : List K3}
theorem RunsTo.inv (hk : GOk G) (hkk : k ≤ 100) (hI : ∀ j, j < k → ∀ y ∈ I j, ItOk G j y ∧ Rw (ST L0 inp) ((rtN G y.1).take y.2.1) y.2.2 j) (h : RunsTo G I k l t L l' L') (hv : VI G k (l, t)) (hi : FInv G inp I k L0 l t L) : FInv G inp I k L0 l' [] L' ∧ (∀ y ∈ l, y ∈ l') ∧ ∀ y ∈ L, y ∈ L' := by
  induction h with
  | done l L => exact ⟨hi, fun y h => h, fun y h => h⟩
  | @step l t L l' L' x h ih =>
    have hst := hi.step hk hv (fun j hj y hy => ⟨(hI j hj y hy).1, (hI j hj y hy).2.mono (fun _ _ _ => ST.mono hi.old)⟩) (l2 := (popS G I k l t L x).1) (t2 := (popS G I k l t L x).2.1) (L2 := (popS G I k l t L x).2.2) rfl
    have hv2 := (pop_ok hk hkk (fun j hj y hy => (hI j hj y hy).1) (L := L) hv).1
    obtain ⟨h1, h2, h3⟩ := ih hv2 hst.1
    exact ⟨h1, fun y hy => h2 y (hst.2.1 y hy), fun y hy => h3 y (hst.2.2 y hy)⟩
theorem Filled.chart (hk : GOk G) (h : Filled G inp I k L) : k ≤ 101 → Chart G inp k I L := by
  induction h with
  | zero => exact fun _ => ⟨fun j h => absurd h (Nat.not_lt_zero _), fun h => absurd h (Nat.not_lt_zero _), fun j h => absurd h (Nat.not_lt_zero _), fun L1 x L2 e => (by simp at e), fun j h => absurd h (Nat.not_lt_zero _), fun j h => absurd h (Nat.not_lt_zero _), fun j h => absurd h (Nat.not_lt_zero _), fun a i j h => (by cases h), fun x h => (by cases h), List.nodup_nil⟩
  | @step k L L' h1 h2 h3 ih =>
    intro hkk
    have hc := ih (by omega)
    have hI : ∀ j, j < k → ∀ y ∈ I j, ItOk G j y ∧ Rw (ST L inp) ((rtN G y.1).take y.2.1) y.2.2 j := fun j hj y hy => ⟨(hc.ok j hj).ok y hy, hc.snd j hj y hy⟩
    have hv0 : VI G k ((startL G inp I k).foldl stP ([], [])) := start_VI (fun j hj y hy => (hI j hj y hy).1)
    have hsame : ∀ y, y ∈ ((startL G inp I k).foldl stP ([], [])).1 → y ∈ ((startL G inp I k).foldl stP ([], [])).2 := fun y hy => (fold_todo (startL G inp I k) ([], [])).2 y hy (by simp)
    have hst : ∀ y ∈ ((startL G inp I k).foldl stP ([], [])).1, Rw (ST L inp) ((rtN G y.1).take y.2.1) y.2.2 k := fun y hy => by
      have hy2 : y ∈ startL G inp I k := by simpa using (mem_fold (startL G inp I k) ([], []) y).1 hy
      unfold startL at hy2
      split at hy2
      · unfold begL at hy2
        rw [List.mem_map] at hy2
        obtain ⟨p, _, rfl⟩ := hy2
        exact rfl
      · rename_i hk0
        unfold scanL at hy2
        rw [List.mem_filterMap] at hy2
        obtain ⟨z, hz, ez⟩ := hy2
        split at ez
        · rename_i s hs
          split at ez
          · rename_i hq
            cases ez
            obtain ⟨g1, g2⟩ := hI (k - 1) (by omega) z hz
            exact adv_rw hs g1.2.1 g2 (by omega) ((ST_term hq.1).2 ⟨by omega, hq.2.symm⟩)
          · cases ez
        · cases ez
    have hF0 : FInv G inp I k L ((startL G inp I k).foldl stP ([], [])).1 ((startL G inp I k).foldl stP ([], [])).2 L := by
      refine ⟨hst, ?_, fun x hx => ⟨(hc.lt x hx).1, Nat.le_of_lt (hc.lt x hx).2.1, (hc.lt x hx).2.2⟩, hc.nd, fun x hx => .inr hx, fun x hx => hx, fun y hy hn => absurd (hsame y hy) hn, fun y hy hn => absurd (hsame y hy) hn, fun a i hm => ?_, fun a hm => ?_⟩
      · intro L1 x L2 e
        obtain ⟨p, q1, q2, q3⟩ := hc.gnd L1 x L2 e
        refine ⟨p, q1, ?_, q3⟩
        have := (hc.lt x (by rw [e]; simp)).2.1
        unfold FitS
        rw [if_neg (by omega)]
        exact q2
      · have := (hc.lt _ hm).2.1
        exact absurd this (by simp)
      · have := (hc.lt _ hm).2.1
        exact absurd this (by simp)
    obtain ⟨hf, hsub, hLL⟩ := h2.inv hk (by omega) hI hv0 hF0
    have hmem : ∀ y ∈ startL G inp I k, y ∈ I k := fun y hy => hsub y ((mem_fold (startL G inp I k) ([], []) y).2 (.inr hy))
    refine ⟨fun j hj => ?_, fun h0 p hp => ?_, fun j hj y hy => ?_, ?_, fun j hj y hy s h0 ha hs => ?_, fun j hj y hy a ha q hq => ?_, fun j hj y hy ha => ?_, fun a i j hm z hz ha => ?_, fun x hx => ?_, hf.nd⟩
    · by_cases e : j = k
      · subst e; exact h3
      · exact hc.ok j (by omega)
    · by_cases e : k = 0
      · subst e
        refine hmem _ ?_
        unfold startL begL
        rw [if_pos rfl, List.mem_map]
        exact ⟨p, hp, rfl⟩
      · exact hc.start (by omega) p hp
    · by_cases e : j = k
      · subst e; exact hf.snd y hy
      · exact (hc.snd j (by omega) y hy).mono (fun _ _ _ => ST.mono hLL)
    · refine hf.gnd.mono (fun y j q => ?_)
      unfold FitS at q
      split at q
      · rename_i e; subst e; exact q
      · exact q
    · by_cases e : j + 1 = k
      · subst e
        refine hmem _ ?_
        unfold startL scanL
        rw [if_neg (by omega), List.mem_filterMap]
        refine ⟨y, hy, ?_⟩
        rw [ha]
        exact if_pos ⟨h0, hs.symm⟩
      · exact hc.scan j (by omega) y hy s h0 ha hs
    · by_cases e : j = k
      · subst e; exact hf.beg y hy (by simp) a ha q hq
      · exact hc.beg j (by omega) y hy a ha q hq
    · by_cases e : j = k
      · subst e; exact hf.dn y hy (by simp) ha
      · exact hLL _ (hc.dn j (by omega) y hy ha)
    · rcases hf.new _ hm with e | e
      · simp only at e
        subst e
        have hle := (hf.lt _ hm).1
        simp only at hle
        by_cases q : i = j
        · subst q; exact hf.c2 a hm z hz (by simp) ha
        · exact hf.c1 a i hm (by omega) z hz ha
      · exact hc.comp a i j e z hz ha
    · have := hf.lt x hx
      exact ⟨this.1, by omega, this.2.2⟩
end
end Go.Proofs.YtiklbannoinioaaDoor
namespace Go.Proofs.YtiklbannoinioaaDoor
open Go.RowKit
set_option linter.unusedVariables false
set_option linter.unusedSimpArgs false
set_option maxRecDepth 100000

/-- A shape, and a plain condition besides. -/
def shZ {α : Type} (S : Sh α) (p : α → Prop) : Sh α where
  n := S.n
  rd := fun w F a cs => S.rd w F a cs ∧ p a
  len := fun h => S.len h.1
  keep := fun h k => ⟨S.keep h.1 k, h.2⟩
  more := fun h k => ⟨S.more h.1 k, h.2⟩
  one := fun h => S.one h.1
theorem weightsAll_mem {H : Type} {P : Program} {e : TypeId} {d : DataW H} : ∀ {ds : List (DataW H)}, d ∈ ds → ∀ n ∈ d.weights P e, n ∈ DataW.weightsAll P e ds
  | [], h, _, _ => by cases h
  | d0 :: ds, h, n, hn => by
    simp only [DataW.weightsAll, List.mem_append]
    rcases List.mem_cons.1 h with rfl | h
    · exact Or.inl hn
    · exact Or.inr (weightsAll_mem h n hn)
def OpensW (P : Program) (t : TypeId) {α : Type} (S : Sh α) : Prop :=
  P.cellsOf t = S.n ∧ ∀ (H : Type) (enc : TypeId × Value → H) (w : World) (base : Nat) (held : Bool) (fuel : Nat) (cs : List Value) (x : DataW H × List MemPlace),
    DataW.trod enc P w base (fun _ => true) held fuel t cs = some x → (∀ n ∈ x.1.weights P t, n ≤ reachBytes) → ∃ a, S.rd w (Lo w.heap.size) a cs
theorem Opens.w {P : Program} {t : TypeId} {α : Type} {S : Sh α} (h : Opens P t S) : OpensW P t S := ⟨h.1, fun H enc w base held fuel cs x hx _ => h.2 H enc w base held fuel cs x hx⟩
theorem opensW_slice {P : Program} {t e : TypeId} {α : Type} {S : Sh α} {bytes : Nat} (ht : P.underlying t = some (.slice e)) (hc : P.cellsOf t = 1) (hS : 0 < S.n) (hby : P.bytesOf e = bytes) (he : OpensW P e S) : OpensW P t (shZ (shL S) fun l => l.length * bytes ≤ reachBytes) :=
  ⟨hc, fun H enc w base held fuel cs x h hwt => by
    rcases Deep.open_slice ht h with ⟨rfl, _⟩ | ⟨a, len, cap, m, n, D, Pl, rfl, _, hl, hm, hmm, hxe, hx⟩
    · exact ⟨[], ⟨none, 0, [], rfl, Nat.le_refl _, Nat.zero_le _, rfl, fun i a d h => by simp at h, fun h => absurd rfl h⟩, by simp [reachBytes]⟩
    · rw [if_pos rfl] at hmm
      subst hmm
      subst hxe
      simp only [DataW.weights, ht, List.mem_cons, List.mem_append] at hwt
      have hlen47 : len * bytes ≤ reachBytes := by
        have := hwt _ (Or.inl rfl)
        rw [hby] at this
        simp only [List.length_map, List.length_range] at this
        exact Nat.le_trans (Nat.mul_le_mul_right _ (Nat.le_add_right _ _)) this
      have hwD : ∀ i, i < len → ∀ q ∈ (D i).weights P e, q ≤ reachBytes := fun i hi q hq =>
        hwt q (Or.inr (Or.inl (weightsAll_mem (List.mem_map.2 ⟨i, List.mem_range.2 hi, rfl⟩) q hq)))
      obtain ⟨css, hcss⟩ := Deep.choose_lt (α := List Value) (p := fun i d => w.cells? base (a.add (i * P.cellsOf e)) (P.cellsOf e) = some d ∧ ∃ a, S.rd w (Lo w.heap.size) a d) (n := len) (fun i hi => by
        obtain ⟨d, h1, h2⟩ := hx i (by omega)
        exact ⟨d, h1, he.2 H enc w base held n d _ h2 (hwD i hi)⟩)
      obtain ⟨l, hl'⟩ : ∃ l : List α, l.length = len ∧ ∀ (i : Nat) (a : α), l[i]? = some a → S.rd w (Lo w.heap.size) a (css i) := by
        have : ∀ k, k ≤ len → ∃ l : List α, l.length = k ∧ ∀ (i : Nat) (a : α), l[i]? = some a → S.rd w (Lo w.heap.size) a (css i) := by
          intro k
          induction k with
          | zero => intro _; exact ⟨[], rfl, fun i a h => by simp at h⟩
          | succ k ih =>
            intro hk
            obtain ⟨l, h1, h2⟩ := ih (by omega)
            obtain ⟨a, ha⟩ := (hcss k (by omega)).2
            refine ⟨l ++ [a], by simp [h1], fun i b hb => ?_⟩
            by_cases hi : i < l.length
            · rw [List.getElem?_append_left hi] at hb; exact h2 i b hb
            · rw [List.getElem?_append_right (by omega)] at hb
              have : i = l.length := by
                rcases Nat.lt_or_ge l.length i with h | h
                · rw [List.getElem?_eq_none (by simp; omega)] at hb; cases hb
                · omega
              subst this
              simp at hb
              subst hb
              rw [h1]; exact ha
        exact this len (Nat.le_refl _)
      obtain ⟨hlen, hrd⟩ := hl'
      refine ⟨l, ⟨some a, m, (List.range len).map css, by rw [hlen], by omega, hm, by simp [hlen], fun i b d hb hd => ?_, fun hne => ?_⟩, by show l.length * bytes ≤ reachBytes; rw [hlen]; exact hlen47⟩
      · have hi : i < len := by rw [← hlen]; exact (List.getElem?_eq_some_iff.1 hb).1
        rw [List.getElem?_map, List.getElem?_range hi] at hd
        simp at hd
        subst hd
        exact hrd i b hb
      · have h0 : 0 < len := by
          rcases Nat.eq_zero_or_pos len with h0 | h0
          · subst h0; simp at hne
          · exact h0
        have hcs : ∀ i, i < len → (css i).length = S.n ∧ ∀ j, j < S.n → w.cell? (a.add (i * S.n + j)) = (css i)[j]? := by
          intro i hi
          obtain ⟨_, h2, h3⟩ := World.cells?_some (hcss i hi).1
          rw [he.1] at h2 h3
          exact ⟨h2, fun j hj => by rw [← Deep.add_add]; exact h3 j hj⟩
        obtain ⟨b, off, spot⟩ := a
        have hc0 : w.cell? (⟨b, off, spot⟩ : Addr) = some ((css 0)[0]'(by rw [(hcs 0 h0).1]; exact hS)) := by
          have := (hcs 0 h0).2 0 hS
          rw [List.getElem?_eq_getElem (by rw [(hcs 0 h0).1]; exact hS)] at this
          simpa [Addr.add] using this
        have hspot : spot = none := by simpa [Addr.add] using World.cell?_spot hc0
        subst hspot
        refine ⟨b, off, rfl, World.block_lt_of_cell? w _ hc0, fun j u hu => ?_⟩
        have hflat : ∀ (m : Nat), m ≤ len → ((List.range m).map css).flatten.length = m * S.n ∧ ∀ (j : Nat) (u : Value), ((List.range m).map css).flatten[j]? = some u → w.cell? ⟨b, off + j, none⟩ = some u := by
          intro m
          induction m with
          | zero => intro _; simp
          | succ m ih =>
            intro hm'
            obtain ⟨i1, i2⟩ := ih (by omega)
            have hsp : ((List.range (m + 1)).map css).flatten = ((List.range m).map css).flatten ++ css m := by
              rw [List.range_succ, List.map_append, List.flatten_append]; simp
            refine ⟨by rw [hsp, List.length_append, i1, (hcs m (by omega)).1, Nat.add_mul, Nat.one_mul], fun j u hu => ?_⟩
            rw [hsp] at hu
            by_cases hj : j < ((List.range m).map css).flatten.length
            · rw [List.getElem?_append_left hj] at hu; exact i2 j u hu
            · rw [List.getElem?_append_right (by omega), i1] at hu
              have hjm : j - m * S.n < S.n := by have := (List.getElem?_eq_some_iff.1 hu).1; rw [(hcs m (by omega)).1] at this; exact this
              have := (hcs m (by omega)).2 (j - m * S.n) hjm
              rw [hu] at this
              have hadd : (⟨b, off, none⟩ : Addr).add (m * S.n + (j - m * S.n)) = ⟨b, off + j, none⟩ := by
                rw [i1] at hj
                rw [show m * S.n + (j - m * S.n) = j from by omega]
                unfold Addr.add; split <;> simp_all
              rwa [hadd] at this
        exact (hflat len (Nat.le_refl _)).2 j u hu⟩

def OpFW (P : Program) (fs : List Field) (off : Nat) {α : Type} (S : Sh α) : Prop :=
  ∀ (H : Type) (enc : TypeId × Value → H) (w : World) (base : Nat) (held : Bool) (fuel : Nat) (cs : List Value) (xs : List (DataW H × List MemPlace)), cs.length = off + S.n →
    (∀ (i : Nat) (f : Field), fs[i]? = some f → ∃ x, xs[i]? = some x ∧ DataW.trod enc P w base (fun _ => true) held fuel f.type ((cs.drop f.offset).take (P.cellsOf f.type)) = some x ∧ ∀ n ∈ x.1.weights P f.type, n ≤ reachBytes) → ∃ a, S.rd w (Lo w.heap.size) a (cs.drop off)
theorem opFW_one {P : Program} {f : Field} {off : Nat} {α : Type} {S : Sh α} (ho : f.offset = off) (h : OpensW P f.type S) : OpFW P [f] off S := by
  intro H enc w base held fuel cs xs hl hf
  obtain ⟨x, _, hx, hw⟩ := hf 0 f rfl
  rw [ho, h.1, List.take_of_length_le (by rw [List.length_drop, hl]; omega)] at hx
  exact h.2 H enc w base held fuel _ x hx hw
theorem opFW_cons {P : Program} {f : Field} {fs : List Field} {off : Nat} {α β : Type} {S : Sh α} {T : Sh β} (ho : f.offset = off) (h : OpensW P f.type S) (hr : OpFW P fs (off + S.n) T) : OpFW P (f :: fs) off (shP S T) := by
  intro H enc w base held fuel cs xs hl hf
  have hl' : cs.length = off + (S.n + T.n) := hl
  obtain ⟨x, _, hx, hw⟩ := hf 0 f rfl
  rw [ho, h.1] at hx
  obtain ⟨a, ha⟩ := h.2 H enc w base held fuel _ x hx hw
  obtain ⟨b, hb⟩ := hr H enc w base held fuel cs (xs.drop 1) (by omega) (fun i g hg => by
    obtain ⟨y, h1, h2⟩ := hf (i + 1) g (by simpa using hg)
    exact ⟨y, by rw [List.getElem?_drop, Nat.add_comm]; exact h1, h2⟩)
  refine ⟨(a, b), (cs.drop off).take S.n, cs.drop (off + S.n), ?_, ha, hb⟩
  rw [← List.drop_drop, List.take_append_drop]
theorem weightsEach_mem {H : Type} {P : Program} : ∀ {fs : List Field} {ds : List (DataW H)} {i : Nat} {f : Field} {d : DataW H}, fs[i]? = some f → ds[i]? = some d → ∀ n ∈ d.weights P f.type, n ∈ DataW.weightsEach P (fs.map (·.type)) ds := fun {fs ds i f d} hf hd n hn =>
  DataW.weights_mem_each (j := i) (t := f.type) (by rw [List.getElem?_map, hf]; rfl) hd n hn
theorem opensW_struct {P : Program} {t : TypeId} {fs : Array Field} {α : Type} {S : Sh α} (ht : P.underlying t = some (.struct fs)) (hc : P.cellsOf t = S.n) (h : OpFW P fs.toList 0 S) : OpensW P t S :=
  ⟨hc, fun H enc w base held fuel cs x hx hw => by
    obtain ⟨xs, n, _, rfl, hl, hxl, hg⟩ := DataW.trod_struct ht hx
    simp only [DataW.weights, ht] at hw
    have := h H enc w base held n cs xs (by rw [hl, hc]; omega) (fun i f hf => by
      have hf' : fs[i]? = some f := by simpa using hf
      have hi : i < xs.length := by rw [hxl]; exact (Array.getElem?_eq_some_iff.1 hf').1
      refine ⟨xs[i], List.getElem?_eq_getElem hi, by rw [hg i f hf', List.getElem?_eq_getElem hi], fun q hq => hw q ?_⟩
      exact weightsEach_mem hf (by rw [List.getElem?_map, List.getElem?_eq_getElem hi]; rfl) q hq)
    simpa using this⟩
theorem isIn_ofW {P : Program} {t : TypeId} {α : Type} {S : Sh α} (ho : OpensW P t S) {H : Type} {enc : TypeId × Value → H} {W : World} {base : Nat} {v : Value} {d : DataW H} {p : List MemPlace} {held : Bool}
    (h : DataW.Trod enc P W base (fun _ => true) held t v d p) (hw : ∀ n ∈ d.weights P t, n ≤ reachBytes) : IsIn S W v := by
  obtain ⟨fuel, hf⟩ := h
  exact ho.2 H enc W base held fuel _ _ hf hw
end Go.Proofs.YtiklbannoinioaaDoor
namespace Go.Proofs.YtiklbannoinioaaDoor
open Go.RowKit BigFrame
set_option linter.unusedVariables false
set_option linter.unusedSimpArgs false
set_option maxRecDepth 100000

theorem prodAt_of {G : Gr} {k : Nat} {q : Prd} (h : G.prods[k]? = some q) : prodAt G (k : Int) = q := by
  unfold prodAt
  rw [Int.toNat_natCast, List.getD_eq_getElem?_getD, h]; rfl
theorem bel_dn (w : World) (q B : Nat) : Below B w (w.drewN q) := ⟨rfl, rfl, rfl, Nat.le_refl _, fun _ _ => rfl⟩
end Go.Proofs.YtiklbannoinioaaDoor
