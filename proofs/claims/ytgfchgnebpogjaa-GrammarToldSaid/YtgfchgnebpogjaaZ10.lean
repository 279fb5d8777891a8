/- Plain: what each better sentence lowers. No program here. · grammar.sentence: what is had of each name, joined. · newSets; lists of the numbers in each row. · The document's whole and table. -/
import Derived.Test.YtgfchgnebpogjaaZ9
import Derived.Test.YtgfchgnebpogjaaZ2
import Derived.Test.YtgfchgnebpogjaaZ6
import Derived.Test.YtgfchgnebpogjaaZ5
import Derived.Deep.Lists
import Derived.Test.YtgfchgnebpogjaaZ8
namespace Go.Proofs.Ytgfchgnebpogjaa
set_option linter.unusedVariables false
set_option linter.unusedSimpArgs false

def vl (T : Nat) : List Int → Nat
  | [] => 0
  | s :: r => (s.toNat + 1) * (T + 1) ^ r.length + vl T r
def Dig (T : Nat) (b : List Int) : Prop := ∀ s ∈ b, 0 ≤ s ∧ s < T
theorem vl_lt {T : Nat} : ∀ {b : List Int}, Dig T b → vl T b < (T + 1) ^ b.length
  | [], _ => by simp [vl]
  | s :: r, h => by
    have ih := vl_lt (T := T) (b := r) (fun t ht => h t (List.mem_cons_of_mem _ ht))
    have hs := h s (by simp)
    have h1 : (s.toNat + 1) * (T + 1) ^ r.length ≤ T * (T + 1) ^ r.length := Nat.mul_le_mul_right _ (by omega)
    have h2 : (T + 1) ^ (r.length + 1) = T * (T + 1) ^ r.length + (T + 1) ^ r.length := by rw [Nat.pow_succ, Nat.mul_comm, Nat.add_mul, Nat.one_mul]
    simp only [vl, List.length_cons]
    omega
theorem vl_lex {T : Nat} : ∀ {a b : List Int}, Dig T a → Dig T b → a.length = b.length → lexlt a b = true → vl T a < vl T b
  | [], [], _, _, _, h => by simp [lexlt] at h
  | [], _ :: _, _, _, h, _ => by simp at h
  | _ :: _, [], _, _, h, _ => by simp at h
  | a :: x, b :: y, h1, h2, hl, h => by
    have hl' : x.length = y.length := by simpa using hl
    have hx : Dig T x := fun t ht => h1 t (List.mem_cons_of_mem _ ht)
    have hy : Dig T y := fun t ht => h2 t (List.mem_cons_of_mem _ ht)
    have ha := h1 a (by simp)
    have hb := h2 b (by simp)
    simp only [lexlt, Bool.or_eq_true, Bool.and_eq_true, decide_eq_true_eq] at h
    simp only [vl]
    rw [hl']
    rcases h with h | ⟨h, hh⟩
    · have v := vl_lt hx
      rw [hl'] at v
      have h1 : (a.toNat + 1 + 1) * (T + 1) ^ y.length ≤ (b.toNat + 1) * (T + 1) ^ y.length := Nat.mul_le_mul_right _ (by omega)
      rw [Nat.add_mul (a.toNat + 1), Nat.one_mul] at h1
      omega
    · subst h
      have := vl_lex hx hy hl' hh
      omega
theorem vl_short {T : Nat} {a b : List Int} (h1 : Dig T a) (h : a.length < b.length) : vl T a < vl T b := by
  have v := vl_lt h1
  cases b with
  | nil => simp at h
  | cons s r =>
    simp only [vl]
    have h2 : (T + 1) ^ a.length ≤ (T + 1) ^ r.length := Nat.pow_le_pow_right (by omega) (by simp at h; omega)
    have h3 : 1 * (T + 1) ^ r.length ≤ (s.toNat + 1) * (T + 1) ^ r.length := Nat.mul_le_mul_right _ (by omega)
    omega
def top : Nat := 1001
def wt (T : Nat) : Option (List Int) → Nat
  | none => (T + 1) ^ top
  | some b => vl T b
def muS (T : Nat) (st : Sn) : Nat := (st.map (wt T)).sum
theorem sum_set' {α : Type} {f : α → Nat} : ∀ (x : List α) (k : Nat) (v : α) (h : k < x.length), f v < f x[k] → ((x.set k v).map f).sum < (x.map f).sum
  | [], k, v, h, _ => by simp at h
  | a :: x, 0, v, _, hv => by
    simp only [List.getElem_cons_zero] at hv
    rw [List.set_cons_zero, List.map_cons, List.map_cons, List.sum_cons, List.sum_cons]
    omega
  | a :: x, k + 1, v, h, hv => by
    simp only [List.getElem_cons_succ] at hv
    have := sum_set' x k v (by simpa using h) hv
    rw [List.set_cons_succ, List.map_cons, List.map_cons, List.sum_cons, List.sum_cons]
    omega
theorem mu_set {T : Nat} {st : Sn} {k : Nat} {l : List Int} (hk : k < st.length) (h : wt T (some l) < wt T (sn st k)) : muS T (st.set k (some l)) < muS T st := by
  refine sum_set' st k _ hk ?_
  have : sn st k = st[k] := by unfold sn; simp [List.getD, hk]
  rw [← this]; exact h

def DigS (T : Nat) (st : Sn) : Prop := ∀ X b, sn st X = some b → Dig T b
theorem sentF_dig {T : Nat} {st : Sn} (hd : DigS T st) : ∀ (r l : List Int), (∀ s ∈ r, s < T) → sentF st r = some l → Dig T l
  | [], l, _, h => by
    simp [sentF] at h
    subst h
    intro s hs; cases hs
  | s :: r, l, hr, h => by
    simp only [sentF] at h
    split at h
    · rename_i a b h1 h2
      simp at h
      subst h
      have ih := sentF_dig hd r b (fun t ht => hr t (List.mem_cons_of_mem _ ht)) h2
      intro t ht
      rcases List.mem_append.1 ht with ht | ht
      · split at h1
        · exact hd _ _ h1 t ht
        · simp at h1
          subst h1
          simp at ht
          subst ht
          have := hr t (by simp)
          omega
      · exact ih t ht
    · cases h
theorem digS_set {T : Nat} {st : Sn} {k : Nat} {l : List Int} (hd : DigS T st) (hk : k < st.length) (hl : Dig T l) : DigS T (st.set k (some l)) := by
  intro X b hb
  rw [sn_set hk] at hb
  split at hb
  · simp at hb; subst hb; exact hl
  · exact hd X b hb

section
variable {ps : List Pr} {N : Nat}
theorem stepN_len {x : List Int} {s : Int} {i : Nat} {p : Pr} {st : Sn} : (stepN x s i p st).1.length = st.length := by
  unfold stepN; repeat' split
  all_goals simp
theorem stepD_len {i : Nat} {p : Pr} {st : Sn} : (stepD i p st).1.length = st.length := by
  unfold stepD; repeat' split
  all_goals simp
theorem stepN_dig {T : Nat} {x : List Int} {s : Int} {i : Nat} {p : Pr} {st : Sn} (hd : DigS T st) (hk : p.1.toNat < st.length) (hr : ∀ s ∈ p.2.1, s < T) : DigS T (stepN x s i p st).1 := by
  unfold stepN
  split
  · exact hd
  · split
    · exact hd
    · rename_i l hl
      split
      · exact digS_set hd hk (sentF_dig hd _ _ hr hl)
      · split
        · exact digS_set hd hk (sentF_dig hd _ _ hr hl)
        · exact hd
theorem stepD_dig {T : Nat} {i : Nat} {p : Pr} {st : Sn} (hd : DigS T st) (hk : p.1.toNat < st.length) (hr : ∀ s ∈ p.2.1, s < T) : DigS T (stepD i p st).1 := by
  unfold stepD
  split
  · exact hd
  · rename_i l hl
    split
    · exact hd
    · split
      · exact digS_set hd hk (sentF_dig hd _ _ hr hl)
      · split
        · exact digS_set hd hk (sentF_dig hd _ _ hr hl)
        · exact hd
theorem wt_none {T : Nat} {l : List Int} (hl : Dig T l) (h : l.length ≤ 1000) : wt T (some l) < wt T none := by
  have v := vl_lt hl
  have : (T + 1) ^ l.length ≤ (T + 1) ^ top := Nat.pow_le_pow_right (by omega) (by unfold top; omega)
  exact Nat.lt_of_lt_of_le v this
theorem stepD_new {i : Nat} {p : Pr} {st : Sn} (h : (stepD i p st).2 = true) : ∃ l, sentF st p.2.1 = some l ∧ l.length ≤ 1000 ∧ (stepD i p st).1 = st.set p.1.toNat (some l) ∧ (sn st p.1.toNat = none ∨ ∃ b, sn st p.1.toNat = some b ∧ earl l b = true) := by
  unfold stepD at h ⊢
  cases hl : sentF st p.2.1 with
  | none => simp [hl] at h
  | some l =>
    rw [hl] at h
    simp only at h ⊢
    by_cases hc : 1000 < l.length
    · rw [if_pos hc] at h; cases h
    · rw [if_neg hc] at h ⊢
      cases hs : sn st p.1.toNat with
      | none => exact ⟨l, rfl, by omega, rfl, .inl rfl⟩
      | some b =>
        rw [hs] at h
        simp only at h ⊢
        by_cases he : earl l b = true
        · rw [if_pos he]; exact ⟨l, rfl, by omega, rfl, .inr ⟨b, rfl, he⟩⟩
        · rw [if_neg he] at h; cases h
theorem stepN_new {x : List Int} {s : Int} {i : Nat} {p : Pr} {st : Sn} (h : (stepN x s i p st).2 = true) : ∃ l, sentF st p.2.1 = some l ∧ (stepN x s i p st).1 = st.set p.1.toNat (some l) ∧ (sn st p.1.toNat = none ∨ ∃ b, sn st p.1.toNat = some b ∧ lexlt l b = true) := by
  unfold stepN at h ⊢
  by_cases hc : nth x p.1.toNat ≠ s ∨ lenF x 0 p.2.1 ≠ s
  · rw [if_pos hc] at h; cases h
  · rw [if_neg hc] at h ⊢
    cases hl : sentF st p.2.1 with
    | none => simp [hl] at h
    | some l =>
      rw [hl] at h
      simp only at h ⊢
      cases hs : sn st p.1.toNat with
      | none => exact ⟨l, rfl, rfl, .inl rfl⟩
      | some b =>
        rw [hs] at h
        simp only at h ⊢
        by_cases he : lexlt l b = true
        · rw [if_pos he]; exact ⟨l, rfl, rfl, .inr ⟨b, rfl, he⟩⟩
        · rw [if_neg he] at h; cases h
theorem stepD_mu {T : Nat} {i : Nat} {p : Pr} {st : Sn} (hd : DigS T st) (hk : p.1.toNat < st.length) (hr : ∀ s ∈ p.2.1, s < T) (h : (stepD i p st).2 = true) : muS T (stepD i p st).1 < muS T st := by
  obtain ⟨l, hl, hlen, e, hcase⟩ := stepD_new h
  have hdl := sentF_dig hd _ _ hr hl
  rw [e]
  refine mu_set hk ?_
  rcases hcase with hn | ⟨b, hb, he⟩
  · rw [hn]; exact wt_none hdl hlen
  · rw [hb]
    show vl T l < vl T b
    unfold earl at he
    split at he
    · rename_i el; exact vl_lex hdl (hd _ _ hb) el he
    · exact vl_short hdl (by simpa using he)
theorem stepN_mu {T : Nat} {x : List Int} {s : Int} {i : Nat} {p : Pr} {st : Sn} (hx : IsShort ps x) (hf : Fits N ps) (hl : st.length = N) (hh : HadN ps x st s) (hp : p ∈ ps) (hs : s ≤ 1000) (hd : DigS T st) (hr : ∀ s ∈ p.2.1, s < T) (h : (stepN x s i p st).2 = true) :
    muS T (stepN x s i p st).1 < muS T st := by
  have hk : p.1.toNat < st.length := by rw [hl]; exact (hf p hp).1
  have hh2 := stepN_had (i := i) hx hf hl hh hp (by omega)
  obtain ⟨l, hlq, e, hcase⟩ := stepN_new h
  have hdl := sentF_dig hd _ _ hr hlq
  rw [e] at hh2 ⊢
  have h1 := hh2 p.1.toNat l (by rw [sn_set hk, if_pos rfl])
  refine mu_set hk ?_
  rcases hcase with hn | ⟨b, hb, he⟩
  · rw [hn]; exact wt_none hdl (by omega)
  · have h2 := hh p.1.toNat b hb
    rw [hb]
    exact vl_lex hdl (hd _ _ hb) (by omega) he
end
end Go.Proofs.Ytgfchgnebpogjaa
namespace Go.Proofs.Ytgfchgnebpogjaa
open Go.RowKit
set_option linter.unusedVariables false
set_option linter.unusedSimpArgs false
set_option maxRecDepth 100000

theorem elIs : ElTy Try.prog 22 3 1 8 (.int .i64 0) := ⟨Try.underlying22, by kernel_rfl, rfl, by decide⟩

/-- A slice of integers in a block of F. -/
def RdF (w : World) (F : Nat → Prop) (A : Option Addr) (l : List Int) : Prop :=
  l ≠ [] → ∃ b off, A = some ⟨b, off, none⟩ ∧ F b ∧ b < w.heap.size ∧ ∀ j, j < l.length → w.cell? ⟨b, off + j, none⟩ = some (.int .i64 (nth l j))
theorem RdF.rdI {w : World} {F : Nat → Prop} {A : Option Addr} {l : List Int} (h : RdF w F A l) : RdI w w.heap.size A l := fun hn => by
  obtain ⟨b, off, e, hf, hb, hc⟩ := h (fun e => hn (by rw [e]; rfl))
  refine ⟨b, off, e, hb, fun j u hu => ?_⟩
  have hj : j < l.length := by have := (List.getElem?_eq_some_iff.1 hu).1; simpa using this
  rw [List.getElem?_map, nth_some hj] at hu
  simp at hu
  subst hu
  exact hc j hj
theorem RdF.keep {w w' : World} {F : Nat → Prop} {A : Option Addr} {l : List Int} (h : RdF w F A l) {S : Nat → Prop} (hk : Kp S w w') (hs : ∀ k, F k → ¬ S k) : RdF w' F A l := fun hn => by
  obtain ⟨b, off, e, hf, hb, hc⟩ := h hn
  exact ⟨b, off, e, hf, Nat.lt_of_lt_of_le hb hk.size, fun j hj => (hk.cell (p := ⟨b, off + j, none⟩) hb (hs b hf)).trans (hc j hj)⟩
theorem RdF.mono {w : World} {F F' : Nat → Prop} {A : Option Addr} {l : List Int} (h : RdF w F A l) (hf : ∀ k, F k → F' k) : RdF w F' A l := fun hn => by
  obtain ⟨b, off, e, h1, hb, hc⟩ := h hn
  exact ⟨b, off, e, hf b h1, hb, hc⟩

/-- A row of the call's own, as a slice in blocks of its own. -/
theorem own_RdF {w : World} {base n : Nat} {v : Value} {l : List Int} (h : w.ownsRow base 3 1 v n (iv l)) : l.length = n ∧ ∃ A c, v = .slice A n c ∧ n ≤ c ∧ c ≤ maxLen ∧ RdF w (fun k => base ≤ k) A l := by
  have hl : l.length = n := by have := h.1; rw [iv_len] at this; omega
  refine ⟨hl, ?_⟩
  rcases h.2 with ⟨rfl, hx⟩ | ⟨g, cap, cur, rfl, hb, hg, hn, hc, hs, ht⟩
  · have hx : l = [] := List.eq_nil_of_length_eq_zero (by omega)
    subst hx
    simp at hl
    subst hl
    exact ⟨none, 0, rfl, Nat.le_refl _, Nat.zero_le _, fun h => absurd rfl h⟩
  · refine ⟨some ⟨g, 0, none⟩, cap, rfl, hn, hc, fun _ => ⟨g, 0, rfl, hb, (Array.getElem?_eq_some_iff.1 hg).1, fun j hj => ?_⟩⟩
    have := h.cells (g := g) rfl j _ (iv_get hj)
    have hadd : (⟨g, 0, none⟩ : Addr).add j = ⟨g, 0 + j, none⟩ := by unfold Addr.add; split <;> simp_all
    rwa [hadd] at this

/-- What is had of each name: the sentences by the block D, whether there is one in the block H. -/
structure SnSt (w : World) (D H N : Nat) (st : Sn) : Prop where
  ne : D ≠ H
  len : st.length = N
  hb : Blk w H 4 (bv (st.map Option.isSome))
  short : ∀ X b, sn st X = some b → b.length ≤ 1000
  db : ∃ vs : List Value, vs.length = N ∧ Blk w D 22 vs ∧ (∀ k, k < N → sn st k = none → vs[k]? = some (.slice none 0 0)) ∧
    ∀ k l, sn st k = some l → ∃ A c, vs[k]? = some (.slice A l.length c) ∧ l.length ≤ c ∧ c ≤ maxLen ∧ RdF w (fun j => j ≠ D ∧ j ≠ H) A l
theorem SnSt.keep {w w' : World} {D H N : Nat} {st : Sn} (h : SnSt w D H N st) {S : Nat → Prop} (hk : Kp S w w') (hs : ∀ k, ¬ S k) : SnSt w' D H N st := by
  obtain ⟨vs, h1, h2, h3, h4⟩ := h.db
  refine ⟨h.ne, h.len, (hk.block H h.hb.lt (hs _)).trans h.hb, h.short, vs, h1, (hk.block D h2.lt (hs _)).trans h2, h3, fun k l hl => ?_⟩
  obtain ⟨A, c, e, q1, q2, q3⟩ := h4 k l hl
  exact ⟨A, c, e, q1, q2, q3.keep hk (fun k _ => hs k)⟩
theorem SnSt.below {w w' : World} {D H N : Nat} {st : Sn} (h : SnSt w D H N st) (hb : Below w.heap.size w w') : SnSt w' D H N st := h.keep (S := fun _ => False) (Kp.of hb) (fun _ e => e)
theorem SnSt.have_ {w : World} {D H N : Nat} {st : Sn} (h : SnSt w D H N st) {k : Nat} (hk : k < N) : w.cell? ⟨H, k, none⟩ = some (.bool (sn st k).isSome) := by
  have := h.hb.bcell (k := k) (by rw [List.length_map, h.len]; exact hk)
  rw [this]
  have hk' : k < st.length := by rw [h.len]; exact hk
  unfold bth sn
  simp [List.getD, hk']

/-- What sentence hands back. -/
def SentPost (base : Nat) (o : Option (List Int)) (e : Ending) (w' : World) : Prop :=
  match o with
  | none => e = .returned (.tuple #[.slice none 0 0, .bool false])
  | some l => ∃ A c, e = .returned (.tuple #[.slice A l.length c, .bool true]) ∧ l.length ≤ c ∧ c ≤ maxLen ∧ RdF w' (fun k => base ≤ k) A l

set_option maxHeartbeats 1000000 in
theorem sentence_any (Ar : Option Addr) (nr cr D H N : Nat) (r : List Int) (st : Sn) (w : World) (B : Nat) (hB : B ≤ w.heap.size) (hr : RdI w B Ar r) (hl : r.length = nr) (hnr : nr ≤ 20) (hN : N ≤ 300) (hst : SnSt w D H N st) (hfit : ∀ s ∈ r, s < 0 → (-1 - s).toNat < N) :
    Calls Try.prog 42 #[.slice Ar nr cr, .slice (some ⟨D, 0, none⟩) N N, .slice (some ⟨H, 0, none⟩) N N] w fun e w' => SentPost w.heap.size (sentF st r) e w' ∧ Below w.heap.size w w' := by
  have HR := Lib.hid hr; have HL := Lib.hid hl; have HST := Lib.hid hst; have HF := Lib.hid hfit
  have hDs : D < w.heap.size := by obtain ⟨vs, _, h2, _⟩ := hst.db; exact h2.lt
  have hHs : H < w.heap.size := hst.hb.lt
  clear hr hl hst hfit
  go_enter Try.func42, Try.ntmps42
  go_wp2_with fail
  go_loopw [8, 13] (fun v i wr => ∃ k : Nat, ∃ acc : List Int, k ≤ nr ∧ i = .int .i64 k ∧ acc.length ≤ 1000 * k ∧ Hid (wr.ownsRow w.heap.size 3 1 v acc.length (iv acc)) ∧ Below w.heap.size w wr ∧ Hid (sentF st r = (sentF st (r.drop k)).map (acc ++ ·))) (fun _ i _ => nr - (intOf i).toNat)
  case atStart => exact ⟨0, [], Nat.zero_le _, rfl, Nat.zero_le _, World.ownsRow_nil _ _ _ _, Below.refl _ _, by show sentF st r = _; simp⟩
  case round =>
    obtain ⟨k, acc, hk, rfl, hacc, HO, hbr, HE⟩ := hrel
    by_cases hlt : k < nr
    · obtain ⟨b, off, rfl, hb, hc⟩ := (HR.out.below (hbr.mono hB)).at_ (by rw [HL.out]; omega)
      have z := hc k (by rw [HL.out]; omega)
      have hd := drop_nth (l := r) (k := k) (by rw [HL.out]; omega)
      have hmem := HF.out _ (mem_nth (l := r) (k := k) (by rw [HL.out]; omega))
      generalize nth r k = s at z hd hmem
      have HD := Lib.hid hd; clear hd hc
      by_cases hs : s < 0
      · have d1 : decide (0 ≤ s) = false := decide_eq_false (by omega)
        have ht := hmem hs
        obtain ⟨t, ht1⟩ : ∃ t : Nat, t = (-1 - s).toNat := ⟨_, rfl⟩
        rw [← ht1] at ht
        have hts : -1 - s = (t : Int) := by omega
        have HS2 := Lib.hid (HST.out.below hbr)
        have zh := HS2.out.have_ ht
        cases hsn : sn st t with
        | none =>
          rw [hsn] at zh
          have HN : Hid (sentF st r = none) := Lib.hid (by
            rw [HE.out, HD.out]
            simp only [sentF]
            rw [if_pos hs, ← ht1, hsn]; rfl)
          clear hsn ht1 hmem
          have zh' : wr.cell? ⟨H, t, none⟩ = some (.bool false) := zh
          clear zh
          go_wp2
          go_ret2
          exact ⟨by unfold SentPost; rw [HN.out]; rfl, hbr⟩
        | some a =>
          rw [hsn] at zh
          have zh' : wr.cell? ⟨H, t, none⟩ = some (.bool true) := zh
          obtain ⟨vs, q1, q2, q3, q4⟩ := HS2.out.db
          obtain ⟨A, c, e1, e2, e3, e4⟩ := q4 t a hsn
          have zd := q2.cell e1
          have hal := HS2.out.short t a hsn
          have HSF : Hid (sentF st r = (sentF st (r.drop (k + 1))).map ((acc ++ a) ++ ·)) := Lib.hid (by
            rw [HE.out, HD.out]
            simp only [sentF]
            rw [if_pos hs, ← ht1, hsn]
            cases sentF st (r.drop (k + 1)) <;> simp)
          have HRA := Lib.hid e4.rdI
          have HA : Hid (a.length = a.length) := Lib.hid rfl
          clear hsn ht1 hmem zh q2 q3 q4 e4 e1
          unfold maxLen at e3
          obtain ⟨na, hna⟩ : ∃ na, na = a.length := ⟨_, rfl⟩
          rw [← hna] at hal e2 zd
          have HNA := Lib.hid hna; clear hna
          go_wp2_with (at_builtin; refine wpList_app_rd elIs rfl (.tmp 17) (.tmp 22) rfl w.heap.size _ acc.length na c wr.heap.size A (iv acc) (iv a) rfl HO.out rfl (by rw [iv_len, HNA.out]; omega) HRA.out (iv_one a) (by omega) (by omega) hbr.size ?_; intro v1 w1 hown1 hg1 hat1)
          have hb1 : Below w.heap.size w w1 := hbr.grown hg1 hbr.size (fun k hk => own_base HO.out k hk)
          have HO1 : Hid (w1.ownsRow w.heap.size 3 1 v1 (acc ++ a).length (iv (acc ++ a))) := Lib.hid (by
            rw [List.length_append, ← HNA.out, show iv (acc ++ a) = iv acc ++ iv a from List.map_append]; exact hown1)
          clear hown1 hg1 hat1
          go_wp2
          go_roundw
          case rel => exact ⟨k + 1, acc ++ a, by omega, by go_num, by rw [List.length_append, ← HNA.out]; omega, HO1, hb1, HSF⟩
          case measure => simp [intOf]; omega
      · have d1 : decide (0 ≤ s) = true := decide_eq_true (by omega)
        have HSF : Hid (sentF st r = (sentF st (r.drop (k + 1))).map ((acc ++ [s]) ++ ·)) := Lib.hid (by
          rw [HE.out, HD.out]
          simp only [sentF]
          rw [if_neg hs]
          cases sentF st (r.drop (k + 1)) <;> simp)
        clear hmem
        have hbs := hbr.size
        go_wp2_with (at_builtin; refine wpList_app elIs rfl (.tmp 27) (.tmp 29) rfl w.heap.size _ acc.length 1 (iv acc) [.int .i64 s] rfl HO.out rfl rfl (by simp [Value.oneCell']) (by omega) (by omega) hbs ?_; intro v1 w1 hown1 hg1 hat1)
        have hb1 : Below w.heap.size w w1 := hbr.grown hg1 hbr.size (fun k hk => own_base HO.out k hk)
        have HO1 : Hid (w1.ownsRow w.heap.size 3 1 v1 (acc ++ [s]).length (iv (acc ++ [s]))) := Lib.hid (by
          rw [List.length_append, show iv (acc ++ [s]) = iv acc ++ iv [s] from List.map_append]; exact hown1)
        clear hown1 hg1 hat1
        go_wp2
        go_roundw
        case rel => exact ⟨k + 1, acc ++ [s], by omega, by go_num, by rw [List.length_append]; simp; omega, HO1, hb1, HSF⟩
        case measure => simp [intOf]; omega
    · have HN : Hid (sentF st r = some acc) := Lib.hid (by
        rw [HE.out, List.drop_eq_nil_of_le (by rw [HL.out]; omega)]; simp [sentF])
      obtain ⟨hla, A, c, e, q1, q2, q3⟩ := own_RdF HO.out
      subst e
      clear HO
      go_wp2
      go_ret2
      refine ⟨?_, hbr⟩
      unfold SentPost
      rw [HN.out]
      exact ⟨A, c, rfl, q1, q2, q3⟩
end Go.Proofs.Ytgfchgnebpogjaa
namespace Go.Proofs.Ytgfchgnebpogjaa
open Go.RowKit BigFrame
set_option linter.unusedVariables false
set_option linter.unusedSimpArgs false
set_option maxRecDepth 100000

theorem nthN_snoc {l : List Nat} {b k : Nat} : nthN (l ++ [b]) k = if k < l.length then nthN l k else if k = l.length then b else 0 := by
  unfold nthN
  rw [List.getD_eq_getElem?_getD]
  by_cases h : k < l.length
  · rw [if_pos h, List.getElem?_append_left h]; simp [List.getD]
  · rw [if_neg h, List.getElem?_append_right (by omega)]
    by_cases e : k = l.length
    · rw [if_pos e, e]; simp
    · rw [if_neg e, List.getElem?_eq_none (by simp; omega)]; rfl
/-- n rows of T times false. -/
def m0 (N T : Nat) : List (List Bool) := List.replicate N (List.replicate T false)
theorem rowB_m0 {N T k : Nat} (hk : k < N) : rowB (m0 N T) k = List.replicate T false := by
  unfold rowB m0
  rw [List.getD_eq_getElem?_getD, List.getElem?_replicate, if_pos hk]; rfl

set_option maxHeartbeats 1000000 in
theorem newSets_any (N T : Nat) (w : World) (hN : N ≤ 300) (hT : T ≤ 301) :
    Calls Try.prog 58 #[.int .i64 (N : Int), .int .i64 (T : Int)] w fun e w' => ∃ D ρ, e = .returned (.slice (some ⟨D, 0, none⟩) N N) ∧ w.heap.size ≤ D ∧ (∀ k, k < N → w.heap.size ≤ nthN ρ k) ∧ MtSt w' D N T ρ (m0 N T) ∧ Below w.heap.size w w' := by
  have hmk : ∀ w : World, (Instr.makeSlice 61 (.int .i64 (N : Int)) (.int .i64 (N : Int))).run Try.prog w = .ok (.slice (some ⟨w.heap.size, 0, none⟩) N N) (w.alloc (.cells (zs (.slice none 0 0) N) 38)) := fun w =>
    mk_row elSet rfl .i64 .i64 N _ (by omega) (by omega) (by omega) w
  have hmk2 : ∀ w : World, (Instr.makeSlice 38 (.int .i64 (T : Int)) (.int .i64 (T : Int))).run Try.prog w = .ok (.slice (some ⟨w.heap.size, 0, none⟩) T T) (w.alloc (.cells (zs (.bool false) T) 4)) := fun w =>
    mk_row elBg rfl .i64 .i64 T _ (by omega) (by omega) (by omega) w
  go_enter Try.func58, Try.ntmps58
  go_wp2_with fail
  obtain ⟨D, hD⟩ : ∃ D, D = w.heap.size := ⟨_, rfl⟩
  have hblk : Blk (w.alloc (.cells (zs (.slice none 0 0) N) 38)) w.heap.size 38 (List.replicate N (.slice none 0 0)) := Blk.made _ _ _ _
  have hb : Below w.heap.size w (w.alloc (.cells (zs (.slice none 0 0) N) 38)) := (Below.refl _ _).alloc (Nat.le_refl _) _
  rw [← hD] at hblk hb ⊢
  generalize w.alloc (.cells (zs (.slice none 0 0) N) 38) = W1 at *
  have hDs := hblk.lt
  have HBL := Lib.hid hblk; have HB := Lib.hid hb
  have hDw : w.heap.size ≤ D := by omega
  clear hblk hb hD
  go_loopw [11] (fun i wr => ∃ k : Nat, k ≤ N ∧ i = .int .i64 k ∧ Below D W1 wr ∧ ∃ (ρ : List Nat) (vs : List Value), Hid (ρ.length = k ∧ vs.length = N ∧ Blk wr D 38 vs ∧ (∀ i, i < k → D < nthN ρ i ∧ vs[i]? = some (.slice (some ⟨nthN ρ i, 0, none⟩) T T) ∧ Blk wr (nthN ρ i) 4 (bv (List.replicate T false))) ∧ (∀ i j, i < k → j < k → nthN ρ i = nthN ρ j → i = j))) (fun i _ => N - (intOf i).toNat)
  case atStart => exact ⟨0, Nat.zero_le _, rfl, Below.refl _ _, [], _, rfl, List.length_replicate, HBL.out, fun i h => absurd h (by omega), fun i j h => absurd h (by omega)⟩
  case round =>
    obtain ⟨k, hk, rfl, hbr, ρ, vs, HR⟩ := hrel
    by_cases hlt : k < N
    · obtain ⟨r1, r2, r3, r4, r5⟩ := HR.out
      have hDr := r3.lt
      have zd := (r3.alloc (.cells (zs (.bool false) T) 4)).cell (i := k) (List.getElem?_eq_getElem (by omega))
      have zf := (r3.alloc (.cells (zs (.bool false) T) 4)).frozen k
      generalize vs[k]'(by omega) = vk at zd
      clear r1 r2 r3 r4 r5
      go_wp2_with fail
      go_roundw
      case rel =>
        obtain ⟨r1, r2, r3, r4, r5⟩ := HR.out
        have hne : ∀ i, i < k → nthN ρ i < wr.heap.size := fun i hi => (r4 i hi).2.2.lt
        refine ⟨k + 1, by omega, by go_num, (hbr.setCell (by simp) _).alloc (by rw [setCell_size]; omega) _, ρ ++ [wr.heap.size], vs.set k (.slice (some ⟨wr.heap.size, 0, none⟩) T T), by rw [List.length_append, r1]; rfl, by rw [List.length_set]; exact r2, (r3.set_ k _).alloc _, fun i hi => ?_, fun i j hi hj => ?_⟩
        · rw [nthN_snoc, r1]
          by_cases e : i < k
          · rw [if_pos e]
            obtain ⟨q1, q2, q3⟩ := r4 i e
            exact ⟨q1, by rw [List.getElem?_set_ne (by omega)]; exact q2, (q3.far (p := ⟨D, k, none⟩) (by simp; omega) _).alloc _⟩
          · have e2 : i = k := by omega
            subst e2
            rw [if_neg (by omega), if_pos rfl]
            refine ⟨hDr, by rw [List.getElem?_set_self (by omega)], ?_⟩
            have := Blk.made (wr.setCell ⟨D, i, none⟩ (.slice (some ⟨wr.heap.size, 0, none⟩) T T)) 4 (.bool false) T
            rw [setCell_size] at this
            rw [← bv_rep]; exact this
        · rw [nthN_snoc, nthN_snoc, r1]
          intro h
          by_cases e1 : i < k
          · by_cases e2 : j < k
            · rw [if_pos e1, if_pos e2] at h; exact r5 i j e1 e2 h
            · rw [if_pos e1, if_neg e2, if_pos (by omega)] at h
              have := hne i e1; omega
          · by_cases e2 : j < k
            · rw [if_neg e1, if_pos (by omega), if_pos e2] at h
              have := hne j e2; omega
            · omega
      case measure => simp [intOf]; omega
    · have hkN : k = N := by omega
      subst hkN
      go_wp2
      go_ret
      obtain ⟨r1, r2, r3, r4, r5⟩ := HR.out
      exact ⟨D, ρ, rfl, hDw, fun i hi => by have := (r4 i hi).1; omega, ⟨r3.lt, fun i hi => r3.cell (r4 i hi).2.1, r1, by simp [m0], r5, fun i hi => by have := (r4 i hi).1; omega, fun i hi => by rw [rowB_m0 hi]; exact ⟨(r4 i hi).2.2, List.length_replicate⟩⟩, (HB.out.trans hbr).mono hDw⟩

/-! ### lists -/
/-- The numbers of the first k places that hold. -/
def numsK (r : List Bool) (k : Nat) : List Int := ((List.range k).filter (fun i => bth r i)).map (fun i : Nat => (i : Int))
def nums (r : List Bool) : List Int := numsK r r.length
theorem numsK_snoc {r : List Bool} {k : Nat} : numsK r (k + 1) = if bth r k = true then numsK r k ++ [(k : Int)] else numsK r k := by
  unfold numsK
  rw [List.range_succ, List.filter_append, List.map_append]
  split
  · rename_i h; simp [h]
  · rename_i h; simp [h]
theorem numsK_len (r : List Bool) (k : Nat) : (numsK r k).length ≤ k := by
  unfold numsK
  rw [List.length_map]
  exact Nat.le_trans (List.length_filter_le _ _) (by rw [List.length_range]; exact Nat.le_refl _)

/-- Lists of integers: their slices in the block D. -/
structure LsSt (w : World) (D N : Nat) (L : Nat → List Int) : Prop where
  b : ∃ vs : List Value, vs.length = N ∧ Blk w D 22 vs ∧ ∀ k, k < N → ∃ A c, vs[k]? = some (.slice A (L k).length c) ∧ (L k).length ≤ c ∧ c ≤ maxLen ∧ RdF w (fun j => j ≠ D) A (L k)

theorem elLm : ElTy Try.prog 40 22 1 24 (.slice none 0 0) := ⟨Try.underlying40, by kernel_rfl, rfl, by decide⟩

set_option maxHeartbeats 2000000 in
theorem lists_any (E N T cE : Nat) (ρ : List Nat) (M : List (List Bool)) (w : World) (hN : N ≤ 300) (hT : T ≤ 301) (hE : E < w.heap.size) (hM : MtSt w E N T ρ M) :
    Calls Try.prog 51 #[.slice (some ⟨E, 0, none⟩) N cE] w fun e w' => ∃ D, e = .returned (.slice (some ⟨D, 0, none⟩) N N) ∧ w.heap.size ≤ D ∧ LsSt w' D N (fun k => nums (rowB M k)) ∧ Below w.heap.size w w' := by
  have hmk : ∀ w : World, (Instr.makeSlice 40 (.int .i64 (N : Int)) (.int .i64 (N : Int))).run Try.prog w = .ok (.slice (some ⟨w.heap.size, 0, none⟩) N N) (w.alloc (.cells (zs (.slice none 0 0) N) 22)) := fun w =>
    mk_row elLm rfl .i64 .i64 N _ (by omega) (by omega) (by omega) w
  have HM := Lib.hid hM
  clear hM
  go_enter Try.func51, Try.ntmps51
  go_wp2_with fail
  obtain ⟨D, hD⟩ : ∃ D, D = w.heap.size := ⟨_, rfl⟩
  have hblk : Blk (w.alloc (.cells (zs (.slice none 0 0) N) 22)) w.heap.size 22 (List.replicate N (.slice none 0 0)) := Blk.made _ _ _ _
  have hb : Below w.heap.size w (w.alloc (.cells (zs (.slice none 0 0) N) 22)) := (Below.refl _ _).alloc (Nat.le_refl _) _
  have HM1 := Lib.hid (HM.out.below hb)
  rw [← hD] at hblk hb ⊢
  generalize w.alloc (.cells (zs (.slice none 0 0) N) 22) = W1 at *
  have hDs := hblk.lt
  have HBL := Lib.hid hblk; have HB := Lib.hid hb
  have hDw : w.heap.size ≤ D := by omega
  have hED : E < D := by omega
  have hrD : ∀ k, k < N → nthN ρ k < D := fun k hk => by have := (HM.out.rows k hk).1.lt; omega
  have HRD := Lib.hid hrD
  have hmt : ∀ wr, Kp (fun j => j = D) W1 wr → MtSt wr E N T ρ M := fun wr h => HM1.out.keep h (fun e => by omega) (fun k hk e => by have := hrD k hk; omega)
  have HMT := Lib.hid hmt
  clear hblk hb hD hrD hmt hmk
  go_loopw [13] (fun i wr => ∃ k : Nat, k ≤ N ∧ i = .int .i64 k ∧ Kp (fun j => j = D) W1 wr ∧ ∃ vs : List Value, Hid (vs.length = N ∧ Blk wr D 22 vs ∧ (∀ j, j < k → ∃ A c, vs[j]? = some (.slice A (nums (rowB M j)).length c) ∧ (nums (rowB M j)).length ≤ c ∧ c ≤ maxLen ∧ RdF wr (fun j => j ≠ D) A (nums (rowB M j))) ∧ ∀ j, k ≤ j → j < N → vs[j]? = some (.slice none 0 0))) (fun i _ => N - (intOf i).toNat)
  case atStart => exact ⟨0, Nat.zero_le _, rfl, Kp.refl _ _, _, List.length_replicate, HBL.out, fun j h => absurd h (by omega), fun j _ hj => by rw [List.getElem?_replicate, if_pos hj]⟩
  case round =>
    as_aux_lemma =>
      obtain ⟨k, hk, rfl, hkr, vs, HV⟩ := hrel
      obtain ⟨wo, rfl⟩ : ∃ wo : World, wo = wr := ⟨_, rfl⟩
      have hDo : D < wo.heap.size := HV.out.2.1.lt
      by_cases hlt : k < N
      · as_aux_lemma =>
          have zE := (HMT.out _ hkr).cell hlt
          have hrow := (HMT.out _ hkr).rows k hlt
          have hrk := HRD.out k hlt
          have hnil := HV.out.2.2.2 k (Nat.le_refl _) hlt
          have HRW := Lib.hid hrow; have HNIL := Lib.hid hnil
          clear hrow hnil
          go_wp2_with fail
          go_loopw [20] (fun i wr => ∃ j : Nat, j ≤ T ∧ i = .int .i64 j ∧ Kp (fun j => j = D) wo wr ∧ ∃ v : Value, Hid (Blk wr D 22 (vs.set k v) ∧ wr.ownsRow wo.heap.size 3 1 v (numsK (rowB M k) j).length (iv (numsK (rowB M k) j)))) (fun i _ => T - (intOf i).toNat)
          case atStart => exact ⟨0, Nat.zero_le _, rfl, Kp.refl _ _, .slice none 0 0, by
            have e : vs.set k (.slice none 0 0) = vs := by
              apply List.ext_getElem?
              intro j
              by_cases h : k = j
              · subst h; rw [List.getElem?_set_self (by rw [HV.out.1]; exact hlt), HNIL.out]
              · rw [List.getElem?_set_ne h]
            rw [e]; exact HV.out.2.1, World.ownsRow_nil _ _ _ _⟩
          case round =>
            as_aux_lemma =>
              obtain ⟨j, hj, rfl, hkj, v, HVV⟩ := hrel
              have hsz := hkj.size
              by_cases hjt : j < T
              · as_aux_lemma =>
                  have zr := (hkj.cell (p := ⟨nthN ρ k, j, none⟩) HRW.out.1.lt (by simp; omega)).trans (HRW.out.1.bcell (k := j) (by rw [HRW.out.2]; exact hjt))
                  have zv := HVV.out.1.cell (i := k) (by rw [List.getElem?_set_self (by rw [HV.out.1]; exact hlt)])
                  have hsn := numsK_snoc (r := rowB M k) (k := j)
                  cases hbj : bth (rowB M k) j
                  · rw [hbj] at zr hsn
                    have HSN : Hid (numsK (rowB M k) (j + 1) = numsK (rowB M k) j) := Lib.hid (by rw [hsn]; simp)
                    clear hsn hbj
                    go_wp2
                    go_roundw
                    case rel => exact ⟨j + 1, by omega, by go_num, hkj, v, by show _ ∧ _; rw [HSN.out]; exact HVV.out⟩
                    case measure => simp [intOf]; omega
                  · rw [hbj] at zr hsn
                    have HSN : Hid (numsK (rowB M k) (j + 1) = numsK (rowB M k) j ++ [(j : Int)]) := Lib.hid (by rw [hsn]; simp)
                    clear hsn hbj
                    have hlen := numsK_len (rowB M k) j
                    have hown := HVV.out.2
                    obtain ⟨na, hna⟩ : ∃ na, na = (numsK (rowB M k) j).length := ⟨_, rfl⟩
                    rw [← hna] at hown hlen
                    have HO := Lib.hid hown; have HNA := Lib.hid hna
                    clear hown hna
                    have zf0 : ∀ wq : World, Blk wq D 22 (vs.set k v) → wq.frozen? ⟨D, k, none⟩ = false := fun wq h => h.frozen k
                    have ZF0 := Lib.hid zf0; clear zf0
                    have hnD : v.ownBlock ≠ some D := fun e => by have := (HO.out.lt D e).1; omega
                    have HND := Lib.hid hnD; clear hnD
                    go_wp2_with (at_builtin; refine wpList_app elIs rfl (.tmp 31) (.tmp 33) rfl wo.heap.size _ na 1 _ [.int .i64 (j : Int)] rfl HO.out rfl rfl (by simp [Value.oneCell']) (by omega) (by omega) hsz ?_; intro v1 w1 hown1 hg1 hat1; have HB1 : Hid (Blk w1 D 22 (vs.set k v)) := Lib.hid (HVV.out.1.grown hg1 (fun e => HND.out e.symm)); have zv1 := HB1.out.cell (i := k) (by rw [List.getElem?_set_self (by rw [HV.out.1]; exact hlt)]); have zf1 := ZF0.out w1 HB1.out; have HG1 := Lib.hid hg1; have HO1 : Hid (w1.ownsRow wo.heap.size 3 1 v1 (na + 1) (iv (numsK (rowB M k) j ++ [(j : Int)]))) := Lib.hid (by rw [show iv (numsK (rowB M k) j ++ [(j : Int)]) = iv (numsK (rowB M k) j) ++ iv [(j : Int)] from List.map_append]; exact hown1); obtain ⟨_, A1, c1, e1, q1, q2, _⟩ := own_RdF HO1.out; subst e1; clear hown1 hg1 hat1; unfold maxLen at q2)
                    go_roundw
                    case rel =>
                      have hk1 : Kp (fun j => j = D) wo w1 := hkj.grown HG1.out (fun b hb => .inl (HO.out.lt b hb).1)
                      refine ⟨j + 1, by omega, by go_num, hk1.set_ (.inr rfl) _, .slice A1 (na + 1) c1, ?_, ?_⟩
                      · have := HB1.out.set_ k (.slice A1 (na + 1) c1)
                        rw [List.set_set] at this; exact this
                      · rw [HSN.out]
                        have hne1 : (Value.slice A1 (na + 1) c1).ownBlock ≠ some D := fun e => by have := (HO1.out.lt D e).1; omega
                        have := HO1.out.kept (w' := w1.setCell ⟨D, k, none⟩ (.slice A1 (na + 1) c1)) (row := some D) ⟨rfl, rfl, rfl, by rw [setCell_size]; exact Nat.le_refl _, fun b hb hne => Below.heap_setCell w1 ⟨D, k, none⟩ (.slice A1 (na + 1) c1) b (fun e => hne (by rw [e]))⟩ (.inr hne1)
                        rw [List.length_append, ← HNA.out]
                        exact this
                    case measure => simp [intOf]; omega
              · as_aux_lemma =>
                  have hjT : j = T := by omega
                  have hnm : numsK (rowB M k) j = nums (rowB M k) := by unfold nums; rw [HRW.out.2, hjT]
                  have hvv := HVV.out
                  rw [hnm] at hvv
                  obtain ⟨hl, A, c, e1, e2, e3, e4⟩ := own_RdF hvv.2
                  have HV2 := Lib.hid hvv.1; have E1 := Lib.hid e1; have E2 := Lib.hid e2; have E3 := Lib.hid e3; have E4 := Lib.hid e4
                  clear hjT hnm hvv hl e1 e2 e3 e4
                  go_wp2
                  go_roundw
                  case rel =>
                    refine ⟨k + 1, by omega, by go_num, hkr.trans hkj, vs.set k v, by rw [List.length_set]; exact HV.out.1, HV2.out, fun i hi => ?_, fun i hi hiN => ?_⟩
                    · by_cases e : i = k
                      · subst e
                        exact ⟨A, c, by rw [List.getElem?_set_self (by rw [HV.out.1]; exact hlt), E1.out], E2.out, E3.out, E4.out.mono (fun b hb => by omega)⟩
                      · obtain ⟨A', c', q1, q2, q3, q4⟩ := HV.out.2.2.1 i (by omega)
                        exact ⟨A', c', by rw [List.getElem?_set_ne (by omega)]; exact q1, q2, q3, q4.keep hkj (fun b hb e => hb e)⟩
                    · rw [List.getElem?_set_ne (by omega)]; exact HV.out.2.2.2 i (by omega) hiN
                  case measure => simp [intOf]; omega
      · as_aux_lemma =>
          have hkN : k = N := by omega
          subst hkN
          go_wp2
          go_ret
          exact ⟨D, rfl, hDw, ⟨vs, HV.out.1, HV.out.2.1, HV.out.2.2.1⟩, HB.out.trans (hkr.bel (B := D) (by omega) (fun j hj e => by omega)) |>.mono hDw⟩
end Go.Proofs.Ytgfchgnebpogjaa
namespace Go.Proofs.Ytgfchgnebpogjaa
open Go.RowKit BigFrame
set_option linter.unusedVariables false
set_option linter.unusedSimpArgs false
set_option maxRecDepth 100000

set_option maxHeartbeats 2000000 in
theorem rWhole_any (G : Gr) (Ap Al As : Option Addr) (np cp nl cl ns cs : Nat) (w : World) (B N m g : Nat) (l : List Bool) (hB : B ≤ w.heap.size) (hG : GrIn w B G Ap Al As np cp nl cl ns cs) (hk : GOk G) (hN : G.names = N) (p : Prd) (hp : G.prods[m]? = some p) (hb : Blk w g 4 (bv l)) (hl : l.length = N) :
    Calls Try.prog 63 #[.agg #[.int .i64 G.terms, .int .i64 G.names, .int .i64 G.start, .slice Ap np cp, .slice Al nl cl, .slice As ns cs], .int .i64 m, .slice (some ⟨g, 0, none⟩) N N] w fun e w' => e = .returned (.bool (p.2.1.all (livS l))) ∧ Below w.heap.size w w' := by
  obtain ⟨px, r, py⟩ := p
  obtain ⟨hb0, hs0, gb⟩ := gbox w G Ap Al As np cp nl cl ns cs
  obtain ⟨hp1, hp2⟩ := hG.p.len
  have hl3 := hG.lm; have hl4 := hG.sm
  have hmn : m < np := by rw [← hp1]; exact (List.getElem?_eq_some_iff.1 hp).1
  have hn2 := hk.n1
  have hNN : N ≤ 300 := by omega
  have hf2 := (prFitg hk (mem_of_get hp) hN).2.2
  have hgl := hb.lt
  have hb1 := hb.below hb0 hgl
  have gr3 := (gb).c3
  have hGP := (hG.below (hb0.mono hB)).p
  unfold maxLen at hp2 hl3 hl4
  have HBL := Lib.hid hb1; have HF2 := Lib.hid hf2; have HL := Lib.hid hl; have HB0 := Lib.hid hb0; have HP := Lib.hid hp
  clear hb hb1 hf2 hp gb hG hk hp1 hN hl hgl hb0 hs0
  go_enter Try.func63, Try.ntmps63
  go_wp2_with fail
  generalize w.alloc (.cells #[.int .i64 G.terms, .int .i64 G.names, .int .i64 G.start, .slice Ap np cp, .slice Al nl cl, .slice As ns cs] 30) = W0 at *
  obtain ⟨b, off, rfl, hb', hc⟩ := hGP.at_ (by omega)
  obtain ⟨px', r', py', A', n', c', hq, z0, z1, z2, g1, g2, g3, g4⟩ := hc m hmn
  rw [HP.out] at hq
  simp only [Option.some.injEq, Prod.mk.injEq] at hq
  obtain ⟨rfl, rfl, rfl⟩ := hq
  unfold maxLen at g3
  have HR := Lib.hid g1; have HRd := Lib.hid g4
  clear g1 g4 hc hGP
  go_loop [7] (fun i => ∃ k : Nat, k ≤ n' ∧ i = .int .i64 k ∧ Hid ((r.take k).all (livS l) = true)) (fun i => n' - (intOf i).toNat)
  case atStart => exact ⟨0, Nat.zero_le _, rfl, Lib.hid rfl⟩
  case round =>
    as_aux_lemma =>
      obtain ⟨j, hj, rfl, HE⟩ := hrel
      by_cases hjn : j < n'
      · as_aux_lemma =>
          obtain ⟨b', off', rfl, hb', hc'⟩ := HRd.out.at_ (by rw [HR.out]; omega)
          have zs1 := hc' j (by rw [HR.out]; omega)
          have hd := all_snoc (f := livS l) (r := r) (k := j) (by rw [HR.out]; omega)
          rw [HE.out, Bool.true_and] at hd
          have hall : livS l (nth r j) = false → r.all (livS l) = false := fun h => List.all_eq_false.2 ⟨_, mem_nth (l := r) (k := j) (by rw [HR.out]; omega), by rw [h]; simp⟩
          have hmem := HF2.out _ (mem_nth (l := r) (k := j) (by rw [HR.out]; omega))
          generalize nth r j = s at zs1 hd hmem hall
          clear hc'
          by_cases hs : s < 0
          · have d1 : decide (s < 0) = true := decide_eq_true hs
            have d2 : decide (0 ≤ s) = false := decide_eq_false (by omega)
            have ht := hmem hs
            obtain ⟨t2, ht1⟩ : ∃ t2 : Nat, t2 = (-1 - s).toNat := ⟨_, rfl⟩
            rw [← ht1] at ht
            have hts : -1 - s = (t2 : Int) := by omega
            have zy := HBL.out.bcell (k := t2) (by rw [HL.out]; exact ht)
            have hfs : livS l s = bth l t2 := by unfold livS; rw [← ht1]; simp [d2]
            rw [hfs] at hd hall
            generalize bth l t2 = v at zy hd hall
            have HD := Lib.hid hd; have HA := Lib.hid hall
            clear hd hmem hfs ht1 hall
            cases v
            · go_wp2
              go_ret
              exact ⟨by rw [HA.out (by simp)]; rfl, HB0.out⟩
            · go_wp2
              go_round
              case rel => exact ⟨j + 1, by omega, by go_num, HD.out⟩
              case measure => simp [intOf]; omega
          · have d1 : decide (s < 0) = false := decide_eq_false hs
            have hfs : livS l s = true := by unfold livS; simp; omega
            rw [hfs] at hd
            have HD := Lib.hid hd
            clear hd hmem hfs hall
            go_wp2
            go_round
            case rel => exact ⟨j + 1, by omega, by go_num, HD.out⟩
            case measure => simp [intOf]; omega
      · as_aux_lemma =>
          have hq : r.all (livS l) = true := by have := HE.out; rwa [List.take_of_length_le (by rw [HR.out]; omega)] at this
          have HQ := Lib.hid hq
          clear hq
          go_wp2
          go_ret
          exact ⟨by rw [HQ.out]; rfl, HB0.out⟩
end Go.Proofs.Ytgfchgnebpogjaa
