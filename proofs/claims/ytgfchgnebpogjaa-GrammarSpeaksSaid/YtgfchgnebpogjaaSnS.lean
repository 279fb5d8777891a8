/- grammar.sentence: what is had of each name, joined. -/
import Derived.Test.YtgfchgnebpogjaaGr
import Derived.Test.YtgfchgnebpogjaaApp
import Derived.Test.YtgfchgnebpogjaaCls
import Derived.Test.YtgfchgnebpogjaaSmP
import Derived.Test.YtgfchgnebpogjaaGrL
import Derived.Deep.Lists
namespace Go.Proofs.Ytgfchgnebpogjaa
open Go.RowKit
set_option linter.unusedVariables false
set_option linter.unusedSimpArgs false
set_option maxRecDepth 100000

theorem elIs : ElTy Try.prog 22 3 1 8 (.int .i64 0) := ⟨Try.underlying22, by kernel_rfl, rfl, by decide⟩

/-- A slice of integers in a block of F. -/
def RdF (w : World) (F : Nat → Prop) (A : Option Addr) (l : List Int) : Prop :=
  l ≠ [] → ∃ b off, A = some ⟨b, off, none⟩ ∧ F b ∧ b < w.heap.size ∧ ∀ j, j < l.length → w.cell? ⟨b, off + j, none⟩ = some (.int .i64 (nth l j))
theorem RdF.rdI {w : World} {F : Nat → Prop} {A : Option Addr} {l : List Int} (h : RdF w F A l) : RdI w w.heap.size A l := fun hn => by
  obtain ⟨b, off, e, hf, hb, hc⟩ := h (fun e => hn (by rw [e]; rfl))
  refine ⟨b, off, e, hb, fun j u hu => ?_⟩
  have hj : j < l.length := by have := (List.getElem?_eq_some_iff.1 hu).1; simpa using this
  rw [List.getElem?_map, nth_some hj] at hu
  simp at hu
  subst hu
  exact hc j hj
theorem RdF.keep {w w' : World} {F : Nat → Prop} {A : Option Addr} {l : List Int} (h : RdF w F A l) {S : Nat → Prop} (hk : Kp S w w') (hs : ∀ k, F k → ¬ S k) : RdF w' F A l := fun hn => by
  obtain ⟨b, off, e, hf, hb, hc⟩ := h hn
  exact ⟨b, off, e, hf, Nat.lt_of_lt_of_le hb hk.size, fun j hj => (hk.cell (p := ⟨b, off + j, none⟩) hb (hs b hf)).trans (hc j hj)⟩
theorem RdF.mono {w : World} {F F' : Nat → Prop} {A : Option Addr} {l : List Int} (h : RdF w F A l) (hf : ∀ k, F k → F' k) : RdF w F' A l := fun hn => by
  obtain ⟨b, off, e, h1, hb, hc⟩ := h hn
  exact ⟨b, off, e, hf b h1, hb, hc⟩

/-- A row of the call's own, as a slice in blocks of its own. -/
theorem own_RdF {w : World} {base n : Nat} {v : Value} {l : List Int} (h : w.ownsRow base 3 1 v n (iv l)) : l.length = n ∧ ∃ A c, v = .slice A n c ∧ n ≤ c ∧ c ≤ maxLen ∧ RdF w (fun k => base ≤ k) A l := by
  have hl : l.length = n := by have := h.1; rw [iv_len] at this; omega
  refine ⟨hl, ?_⟩
  rcases h.2 with ⟨rfl, hx⟩ | ⟨g, cap, cur, rfl, hb, hg, hn, hc, hs, ht⟩
  · have hx : l = [] := List.eq_nil_of_length_eq_zero (by omega)
    subst hx
    simp at hl
    subst hl
    exact ⟨none, 0, rfl, Nat.le_refl _, Nat.zero_le _, fun h => absurd rfl h⟩
  · refine ⟨some ⟨g, 0, none⟩, cap, rfl, hn, hc, fun _ => ⟨g, 0, rfl, hb, (Array.getElem?_eq_some_iff.1 hg).1, fun j hj => ?_⟩⟩
    have := h.cells (g := g) rfl j _ (iv_get hj)
    have hadd : (⟨g, 0, none⟩ : Addr).add j = ⟨g, 0 + j, none⟩ := by unfold Addr.add; split <;> simp_all
    rwa [hadd] at this

/-- What is had of each name: the sentences by the block D, whether there is one in the block H. -/
structure SnSt (w : World) (D H N : Nat) (st : Sn) : Prop where
  ne : D ≠ H
  len : st.length = N
  hb : Blk w H 4 (bv (st.map Option.isSome))
  short : ∀ X b, sn st X = some b → b.length ≤ 1000
  db : ∃ vs : List Value, vs.length = N ∧ Blk w D 22 vs ∧ (∀ k, k < N → sn st k = none → vs[k]? = some (.slice none 0 0)) ∧
    ∀ k l, sn st k = some l → ∃ A c, vs[k]? = some (.slice A l.length c) ∧ l.length ≤ c ∧ c ≤ maxLen ∧ RdF w (fun j => j ≠ D ∧ j ≠ H) A l
theorem SnSt.keep {w w' : World} {D H N : Nat} {st : Sn} (h : SnSt w D H N st) {S : Nat → Prop} (hk : Kp S w w') (hs : ∀ k, ¬ S k) : SnSt w' D H N st := by
  obtain ⟨vs, h1, h2, h3, h4⟩ := h.db
  refine ⟨h.ne, h.len, (hk.block H h.hb.lt (hs _)).trans h.hb, h.short, vs, h1, (hk.block D h2.lt (hs _)).trans h2, h3, fun k l hl => ?_⟩
  obtain ⟨A, c, e, q1, q2, q3⟩ := h4 k l hl
  exact ⟨A, c, e, q1, q2, q3.keep hk (fun k _ => hs k)⟩
theorem SnSt.below {w w' : World} {D H N : Nat} {st : Sn} (h : SnSt w D H N st) (hb : Below w.heap.size w w') : SnSt w' D H N st := h.keep (S := fun _ => False) (Kp.of hb) (fun _ e => e)
theorem SnSt.have_ {w : World} {D H N : Nat} {st : Sn} (h : SnSt w D H N st) {k : Nat} (hk : k < N) : w.cell? ⟨H, k, none⟩ = some (.bool (sn st k).isSome) := by
  have := h.hb.bcell (k := k) (by rw [List.length_map, h.len]; exact hk)
  rw [this]
  have hk' : k < st.length := by rw [h.len]; exact hk
  unfold bth sn
  simp [List.getD, hk']

/-- What sentence hands back. -/
def SentPost (base : Nat) (o : Option (List Int)) (e : Ending) (w' : World) : Prop :=
  match o with
  | none => e = .returned (.tuple #[.slice none 0 0, .bool false])
  | some l => ∃ A c, e = .returned (.tuple #[.slice A l.length c, .bool true]) ∧ l.length ≤ c ∧ c ≤ maxLen ∧ RdF w' (fun k => base ≤ k) A l

set_option maxHeartbeats 1000000 in
theorem sentence_any (Ar : Option Addr) (nr cr D H N : Nat) (r : List Int) (st : Sn) (w : World) (B : Nat) (hB : B ≤ w.heap.size) (hr : RdI w B Ar r) (hl : r.length = nr) (hnr : nr ≤ 20) (hN : N ≤ 300) (hst : SnSt w D H N st) (hfit : ∀ s ∈ r, s < 0 → (-1 - s).toNat < N) :
    Calls Try.prog 42 #[.slice Ar nr cr, .slice (some ⟨D, 0, none⟩) N N, .slice (some ⟨H, 0, none⟩) N N] w fun e w' => SentPost w.heap.size (sentF st r) e w' ∧ Below w.heap.size w w' := by
  have HR := Lib.hid hr; have HL := Lib.hid hl; have HST := Lib.hid hst; have HF := Lib.hid hfit
  have hDs : D < w.heap.size := by obtain ⟨vs, _, h2, _⟩ := hst.db; exact h2.lt
  have hHs : H < w.heap.size := hst.hb.lt
  clear hr hl hst hfit
  go_enter Try.func42, Try.ntmps42
  go_wp2_with fail
  go_loopw [8, 13] (fun v i wr => ∃ k : Nat, ∃ acc : List Int, k ≤ nr ∧ i = .int .i64 k ∧ acc.length ≤ 1000 * k ∧ Hid (wr.ownsRow w.heap.size 3 1 v acc.length (iv acc)) ∧ Below w.heap.size w wr ∧ Hid (sentF st r = (sentF st (r.drop k)).map (acc ++ ·))) (fun _ i _ => nr - (intOf i).toNat)
  case atStart => exact ⟨0, [], Nat.zero_le _, rfl, Nat.zero_le _, World.ownsRow_nil _ _ _ _, Below.refl _ _, by show sentF st r = _; simp⟩
  case round =>
    obtain ⟨k, acc, hk, rfl, hacc, HO, hbr, HE⟩ := hrel
    by_cases hlt : k < nr
    · obtain ⟨b, off, rfl, hb, hc⟩ := (HR.out.below (hbr.mono hB)).at_ (by rw [HL.out]; omega)
      have z := hc k (by rw [HL.out]; omega)
      have hd := drop_nth (l := r) (k := k) (by rw [HL.out]; omega)
      have hmem := HF.out _ (mem_nth (l := r) (k := k) (by rw [HL.out]; omega))
      generalize nth r k = s at z hd hmem
      have HD := Lib.hid hd; clear hd hc
      by_cases hs : s < 0
      · have d1 : decide (0 ≤ s) = false := decide_eq_false (by omega)
        have ht := hmem hs
        obtain ⟨t, ht1⟩ : ∃ t : Nat, t = (-1 - s).toNat := ⟨_, rfl⟩
        rw [← ht1] at ht
        have hts : -1 - s = (t : Int) := by omega
        have HS2 := Lib.hid (HST.out.below hbr)
        have zh := HS2.out.have_ ht
        cases hsn : sn st t with
        | none =>
          rw [hsn] at zh
          have HN : Hid (sentF st r = none) := Lib.hid (by
            rw [HE.out, HD.out]
            simp only [sentF]
            rw [if_pos hs, ← ht1, hsn]; rfl)
          clear hsn ht1 hmem
          have zh' : wr.cell? ⟨H, t, none⟩ = some (.bool false) := zh
          clear zh
          go_wp2
          go_ret2
          exact ⟨by unfold SentPost; rw [HN.out]; rfl, hbr⟩
        | some a =>
          rw [hsn] at zh
          have zh' : wr.cell? ⟨H, t, none⟩ = some (.bool true) := zh
          obtain ⟨vs, q1, q2, q3, q4⟩ := HS2.out.db
          obtain ⟨A, c, e1, e2, e3, e4⟩ := q4 t a hsn
          have zd := q2.cell e1
          have hal := HS2.out.short t a hsn
          have HSF : Hid (sentF st r = (sentF st (r.drop (k + 1))).map ((acc ++ a) ++ ·)) := Lib.hid (by
            rw [HE.out, HD.out]
            simp only [sentF]
            rw [if_pos hs, ← ht1, hsn]
            cases sentF st (r.drop (k + 1)) <;> simp)
          have HRA := Lib.hid e4.rdI
          have HA : Hid (a.length = a.length) := Lib.hid rfl
          clear hsn ht1 hmem zh q2 q3 q4 e4 e1
          unfold maxLen at e3
          obtain ⟨na, hna⟩ : ∃ na, na = a.length := ⟨_, rfl⟩
          rw [← hna] at hal e2 zd
          have HNA := Lib.hid hna; clear hna
          go_wp2_with (at_builtin; refine wpList_app_rd elIs rfl (.tmp 17) (.tmp 22) rfl w.heap.size _ acc.length na c wr.heap.size A (iv acc) (iv a) rfl HO.out rfl (by rw [iv_len, HNA.out]; omega) HRA.out (iv_one a) (by omega) (by omega) hbr.size ?_; intro v1 w1 hown1 hg1 hat1)
          have hb1 : Below w.heap.size w w1 := hbr.grown hg1 hbr.size (fun k hk => own_base HO.out k hk)
          have HO1 : Hid (w1.ownsRow w.heap.size 3 1 v1 (acc ++ a).length (iv (acc ++ a))) := Lib.hid (by
            rw [List.length_append, ← HNA.out, show iv (acc ++ a) = iv acc ++ iv a from List.map_append]; exact hown1)
          clear hown1 hg1 hat1
          go_wp2
          go_roundw
          case rel => exact ⟨k + 1, acc ++ a, by omega, by go_num, by rw [List.length_append, ← HNA.out]; omega, HO1, hb1, HSF⟩
          case measure => simp [intOf]; omega
      · have d1 : decide (0 ≤ s) = true := decide_eq_true (by omega)
        have HSF : Hid (sentF st r = (sentF st (r.drop (k + 1))).map ((acc ++ [s]) ++ ·)) := Lib.hid (by
          rw [HE.out, HD.out]
          simp only [sentF]
          rw [if_neg hs]
          cases sentF st (r.drop (k + 1)) <;> simp)
        clear hmem
        have hbs := hbr.size
        go_wp2_with (at_builtin; refine wpList_app elIs rfl (.tmp 27) (.tmp 29) rfl w.heap.size _ acc.length 1 (iv acc) [.int .i64 s] rfl HO.out rfl rfl (by simp [Value.oneCell']) (by omega) (by omega) hbs ?_; intro v1 w1 hown1 hg1 hat1)
        have hb1 : Below w.heap.size w w1 := hbr.grown hg1 hbr.size (fun k hk => own_base HO.out k hk)
        have HO1 : Hid (w1.ownsRow w.heap.size 3 1 v1 (acc ++ [s]).length (iv (acc ++ [s]))) := Lib.hid (by
          rw [List.length_append, show iv (acc ++ [s]) = iv acc ++ iv [s] from List.map_append]; exact hown1)
        clear hown1 hg1 hat1
        go_wp2
        go_roundw
        case rel => exact ⟨k + 1, acc ++ [s], by omega, by go_num, by rw [List.length_append]; simp; omega, HO1, hb1, HSF⟩
        case measure => simp [intOf]; omega
    · have HN : Hid (sentF st r = some acc) := Lib.hid (by
        rw [HE.out, List.drop_eq_nil_of_le (by rw [HL.out]; omega)]; simp [sentF])
      obtain ⟨hla, A, c, e, q1, q2, q3⟩ := own_RdF HO.out
      subst e
      clear HO
      go_wp2
      go_ret2
      refine ⟨?_, hbr⟩
      unfold SentPost
      rw [HN.out]
      exact ⟨A, c, rfl, q1, q2, q3⟩
end Go.Proofs.Ytgfchgnebpogjaa
