/- strings.Builder at this program: copyCheck, WriteString; strconv.Itoa; strings.Repeat of zeros. · Patterns in memory. · The document's sets: Has, wanted, SameSet, insert, edges, grow. -/
import Derived.Test.YtaachamblagbhaaGreatDoorQ8
import Derived.Test.YtaachamblagbhaaGreatDoorQ4
import Derived.Test.YtaachamblagbhaaGreatDoorQ2
import Derived.Shelf.Strings.Builder1
import Derived.WalkSpells
import Derived.WalkLawsBesides
import Derived.Handy
import Derived.Lib.Hide
import Derived.Test.YtaachamblagbhaaGreatDoorQ1
import Derived.Test.YtaachamblagbhaaGreatDoorQ3
namespace Go.Proofs.YtaachamblagbhaaGreatDoor
open Go.RowKit BigFrame
set_option linter.unusedVariables false
set_option linter.unusedSimpArgs false
set_option maxRecDepth 100000

def bs (l : List UInt8) : Value := .string ⟨l.toArray⟩
set_option maxHeartbeats 4000000 in
theorem copy_used (b : Nat) (w : World) (h0 : w.cell? ⟨b, 0, none⟩ = some (.pointer (some ⟨b, 0, none⟩))) :
    Calls Tryz.prog 62 #[.pointer (some ⟨b, 0, none⟩)] w fun e w' => e = .returned (.tuple #[]) ∧ w' = w := by
  obtain ⟨j, hj, _⟩ := Option.map_eq_some_iff.1 (show (Tryz.prog.info? 78).map (·.size) = some 2 by kernel_rfl)
  have hn := Lib.run_neq_ptr_same (P := Tryz.prog) (tp := 75) w ⟨b, 0, none⟩ Tryz.underlying75 hj
  go_enter Tryz.func62, Tryz.ntmps62
  go_wp2
  go_end0
  exact ⟨rfl, rfl⟩
set_option maxHeartbeats 4000000 in
theorem copy_fresh (b : Nat) (w : World) (h0 : w.cell? ⟨b, 0, none⟩ = some (.pointer none)) (hsh : w.shape? b = some (78, 2)) (hfz : w.frozen? ⟨b, 0, none⟩ = false) :
    Calls Tryz.prog 62 #[.pointer (some ⟨b, 0, none⟩)] w fun e w' => e = .returned (.tuple #[]) ∧ w' = w.setCell ⟨b, 0, none⟩ (.pointer (some ⟨b, 0, none⟩)) := by
  obtain ⟨j, hj, hjs⟩ := Option.map_eq_some_iff.1 (show (Tryz.prog.info? 78).map (·.size) = some 2 by kernel_rfl)
  have hu := Lib.run_to_unsafe (P := Tryz.prog) w ⟨b, 0, none⟩ Tryz.underlying75 Tryz.underlying83 hj (by rw [hjs]; decide) hsh (Nat.zero_lt_succ 1)
  have hv := Lib.run_from_unsafe (P := Tryz.prog) w ⟨b, 0, none⟩ Tryz.underlying83 Tryz.underlying75 hj hsh (by kernel_rfl)
  go_enter Tryz.func62, Tryz.ntmps62
  go_wp2_with fail
  rw [run_callFunc_extern Tryz.func81 (by kernel_rfl) (by kernel_rfl) (by kernel_rfl) (e := Extern.AbiNoEscape.same) (by kernel_rfl)]
  rw [Lib.run_noEscape]
  simp only [Result.andThen]
  rw [Oper.upon_value]
  go_wp2
  go_end0
  exact ⟨rfl, rfl⟩
/-- A builder of the program's. -/
abbrev Bld (B b : Nat) (l : List UInt8) (w : World) : Prop := Lib.IsBuilder 78 5 B b (Lib.byteCells l) w
theorem copy_any (B b : Nat) (bs : List Value) (w : World) (h : Lib.IsBuilder 78 5 B b bs w) :
    Calls Tryz.prog 62 #[.pointer (some ⟨b, 0, none⟩)] w fun e w' => e = .returned (.tuple #[]) ∧ (Lib.BuilderAt 78 5 B b (.pointer (some ⟨b, 0, none⟩)) bs w' ∧ Below B w w') := by
  rcases h with h | h
  · refine (copy_fresh b w h.cell0 h.shape h.frozen0).mono ?_
    rintro e w' ⟨rfl, rfl⟩
    exact ⟨rfl, h.used _, (Below.refl B w).setCell (p := ⟨b, 0, none⟩) h.1 _⟩
  · refine (copy_used b w h.cell0).mono ?_
    rintro e w' ⟨rfl, rfl⟩
    exact ⟨rfl, h, Below.refl B _⟩
theorem strCells_bytes (l : List UInt8) : Lib.strCells ⟨l.toArray⟩ = Lib.byteCells l := by
  simp [Lib.strCells, Lib.byteCells]
set_option maxHeartbeats 4000000 in
theorem write_any (B b : Nat) (l m : List UInt8) (w : World) (h : Bld B b l w) (hlen : l.length + m.length ≤ 140737488355328) (hBw : B ≤ w.heap.size) :
    Calls Tryz.prog 43 #[.pointer (some ⟨b, 0, none⟩), bs m] w fun e w' => e = .returned (.tuple #[.int .i64 m.length, .nilIface]) ∧ (Bld B b (l ++ m) w' ∧ Below B w w') := by
  obtain ⟨i0, hi, hz0, hz1, hz2⟩ := info_parts (show (Tryz.prog.info? 5).map (fun i => (i.zero, i.size, i.bytes)) = some (some (.int .u8 0), 1, 1) by kernel_rfl)
  have hll : (Lib.byteCells l).length = l.length := Lib.byteCells_length l
  go_enter Tryz.func43, Tryz.ntmps43
  go_wp2_with fail
  refine (copy_any B b _ _ h).mono ?_
  rintro e w1 ⟨rfl, h1, hb1⟩
  obtain ⟨hB, v, hbk, hown, hne⟩ := h1
  have c0 : w1.cell? ⟨b, 0, none⟩ = some (.pointer (some ⟨b, 0, none⟩)) := by rw [Lib.cell_of_heap hbk]; rfl
  have c1 : w1.cell? ⟨b, 1, none⟩ = some v := by rw [Lib.cell_of_heap hbk]; rfl
  rw [hll] at hown
  unfold bs
  clear hll
  go_wp2_with (at_builtin; refine Lib.wpList_append_own_string _ rfl _ _ 76 9 rfl B 5 i0 Tryz.underlying76 Tryz.underlying9 hi hz0 hz1 hz2 _ _ _ rfl hown ⟨m.toArray⟩ rfl ?c3 ?c4 ?c5 ?_)
  case c3 => show l.length + m.toArray.size ≤ _; unfold maxLen; simp; omega
  case c4 => show l.length + m.toArray.size ≤ _; simp; omega
  case c5 => have := hb1.size; omega
  intro v' w2 hown' hgrow _
  have hlt : b < w1.heap.size := by
    rcases Nat.lt_or_ge b w1.heap.size with h' | h'
    · exact h'
    · simp [Array.getElem?_eq_none h'] at hbk
  have hb2 : w2.heap[b]? = some (.cells #[.pointer (some ⟨b, 0, none⟩), v] 78 (0, 0)) := by
    rw [hgrow.block b hlt (fun e => hne e.symm)]
    exact hbk
  have d0 : w2.cell? ⟨b, 0, none⟩ = some (.pointer (some ⟨b, 0, none⟩)) := by rw [Lib.cell_of_heap hb2]; rfl
  have d1 : w2.cell? ⟨b, 1, none⟩ = some v := by rw [Lib.cell_of_heap hb2]; rfl
  have f1 : w2.frozen? ⟨b, 1, none⟩ = false := Lib.frozen_of_heap hb2 1
  obtain ⟨ao, n', cap, rfl⟩ : ∃ ao n' cap, v' = .slice ao n' cap := by
    rcases hown'.2 with ⟨hv, _⟩ | ⟨g, cap, cur, hv, _⟩
    · exact ⟨_, _, _, hv⟩
    · exact ⟨_, _, _, hv⟩
  go_wp2
  go_ret2
  refine ⟨rfl, .inr ?_, ?_⟩
  · refine Lib.BuilderAt.put (T := 78) (e := 5) hB hb2 (bs' := Lib.byteCells (l ++ m)) ?_ (by decide)
    have e1 : (Lib.byteCells (l ++ m)).length = l.length + m.toArray.size := by rw [Lib.byteCells_length]; simp
    have e2 : Lib.byteCells (l ++ m) = Lib.byteCells l ++ Lib.strCells ⟨m.toArray⟩ := by rw [strCells_bytes]; simp [Lib.byteCells]
    rw [e1, e2]
    exact hown'
  · exact (hb1.grown hgrow (by have := hb1.size; omega) (fun k hk => (hown.lt k hk).1)).setCell (p := ⟨b, 1, none⟩) hB _
abbrev Pow (w : World) : Prop := Lib.TabIs Tryz.prog w "internal/strconv.uint64pow10" .u64 Lib.pow10Tab
theorem Pow.below {B : Nat} {w w' : World} (h : Pow w) (hB : 9 < B) (hb : Below B w w') : Pow w' := by
  have hg : Tryz.prog.globalNamed "internal/strconv.uint64pow10" = some 9 := by kernel_rfl
  unfold Pow Lib.TabIs World.var? at h ⊢
  rw [hg] at h ⊢
  simp only [Option.bind_some] at h ⊢
  rw [hb.block _ hB]
  exact h
theorem bel_grow (w : World) (k : Nat) (os : Array Obj) : Below w.heap.size w (Sort.grow (w.drewN k) os) := by
  refine ⟨rfl, rfl, rfl, ?_, fun b hb => ?_⟩
  · show w.heap.size ≤ (w.heap ++ os).size
    simp
  · show (w.heap ++ os)[b]? = w.heap[b]?
    exact Array.getElem?_append_left hb
theorem own_bel {w w' : World} {base : Nat} {e : TypeId} {size : Nat} {v : Value} {n : Nat} {xs : List Value} (h : w.ownsRow base e size v n xs) (hb : Below w.heap.size w w') : w'.ownsRow base e size v n xs := by
  refine ⟨h.1, ?_⟩
  rcases h.2 with hn | ⟨g, cap, cur, rfl, hbg, hg, rest⟩
  · exact .inl hn
  · refine .inr ⟨g, cap, cur, rfl, hbg, ?_, rest⟩
    rw [hb.block g (Array.getElem?_eq_some_iff.1 hg).1]
    exact hg
theorem BldAt_bel {T e : TypeId} {B b : Nat} {p : Value} {l : List Value} {w w' : World} (h : Lib.BuilderAt T e B b p l w) (hb : Below w.heap.size w w') : Lib.BuilderAt T e B b p l w' := by
  have hlt := h.lt
  obtain ⟨h1, v, h2, h3, h4⟩ := h
  exact ⟨h1, v, by rw [hb.block b hlt]; exact h2, own_bel h3 hb, h4⟩
theorem Bld.bel {B b : Nat} {l : List UInt8} {w w' : World} (h : Bld B b l w) (hb : Below w.heap.size w w') : Bld B b l w' := by
  rcases h with h | h
  · exact .inl (BldAt_bel h hb)
  · exact .inr (BldAt_bel h hb)
theorem itoa_any (n : Int) (h0 : -9223372036854775808 ≤ n) (h1 : n ≤ 9223372036854775807) (w : World) (hp : Pow w) :
    Calls Tryz.prog 31 #[.int .i64 n] w fun e w' => e = .returned (bs (Lib.itoa n)) ∧ Below w.heap.size w w' := by
  refine (y_strconv_Itoa n h0 h1 w hp).mono ?_
  rintro e w' ⟨rfl, k, os, rfl⟩
  exact ⟨rfl, bel_grow w k os⟩

end Go.Proofs.YtaachamblagbhaaGreatDoor
namespace Go.Proofs.YtaachamblagbhaaGreatDoor
open Go.RowKit BigFrame
set_option linter.unusedVariables false
set_option linter.unusedSimpArgs false
set_option maxRecDepth 100000

/-- Values that lie in a block of S. -/
def RdB (w : World) (S : Nat → Prop) (A : Option Addr) (xs : List Value) : Prop :=
  xs ≠ [] → ∃ b off, A = some ⟨b, off, none⟩ ∧ S b ∧ ∀ (j : Nat) (u : Value), xs[j]? = some u → w.cell? ⟨b, off + j, none⟩ = some u
theorem RdB.rd {w : World} {S : Nat → Prop} {A : Option Addr} {xs : List Value} (h : RdB w S A xs) {B : Nat} (hs : ∀ b, S b → b < B) : Rd w B A xs := fun hn => by
  obtain ⟨b, off, e, hb, hc⟩ := h hn
  exact ⟨b, off, e, hs b hb, hc⟩
theorem RdB.of {w : World} {S : Nat → Prop} {A : Option Addr} {xs : List Value} {B : Nat} (h : Rd w B A xs) (hs : ∀ b, b < B → S b) : RdB w S A xs := fun hn => by
  obtain ⟨b, off, e, hb, hc⟩ := h hn
  exact ⟨b, off, e, hs b hb, hc⟩
theorem RdB.keep {w w' : World} {S S' : Nat → Prop} {A : Option Addr} {xs : List Value} (h : RdB w S A xs) (hk : ∀ b, S b → w'.heap[b]? = w.heap[b]?) (hs : ∀ b, S b → S' b) : RdB w' S' A xs := fun hn => by
  obtain ⟨b, off, e, hb, hc⟩ := h hn
  exact ⟨b, off, e, hs b hb, fun j u hu => (World.cell?_of_block (a := ⟨b, off + j, none⟩) (hk b hb)).trans (hc j u hu)⟩

mutual
/-- A pointer that reads as a pattern, all of it in blocks of S. -/
def RxIn (w : World) (S : Nat → Prop) : Value → Rx → Prop
  | v, .nil => v = .pointer none
  | v, .node k s mn mx ks => ∃ b A c A' c', v = .pointer (some ⟨b, 0, none⟩) ∧ S b ∧ w.cell? ⟨b, 0, none⟩ = some (.int .i64 k) ∧ w.cell? ⟨b, 1, none⟩ = some (.slice A s.length c) ∧ w.cell? ⟨b, 2, none⟩ = some (.int .i64 mn) ∧ w.cell? ⟨b, 3, none⟩ = some (.int .i64 mx) ∧
      w.cell? ⟨b, 4, none⟩ = some (.slice A' ks.length c') ∧ s.length ≤ c ∧ c ≤ maxLen ∧ ks.length ≤ c' ∧ c' ≤ maxLen ∧ RdB w S A (rv s) ∧ (0 < ks.length → ∃ kb off, A' = some ⟨kb, off, none⟩ ∧ S kb ∧ RxsIn w S kb off ks)
def RxsIn (w : World) (S : Nat → Prop) (kb : Nat) : Nat → List Rx → Prop
  | _, [] => True
  | off, k :: ks => (∃ v, w.cell? ⟨kb, off, none⟩ = some v ∧ RxIn w S v k) ∧ RxsIn w S kb (off + 1) ks
end
theorem RxsIn.at_ {w : World} {S : Nat → Prop} {kb : Nat} : ∀ {ks : List Rx} {off : Nat}, RxsIn w S kb off ks → ∀ (i : Nat) (k : Rx), ks[i]? = some k → ∃ v, w.cell? ⟨kb, off + i, none⟩ = some v ∧ RxIn w S v k
  | [], off, _, i, k, h => by simp at h
  | x :: ks, off, h, 0, k, hk => by
    rw [RxsIn] at h
    simp at hk
    subst hk
    exact h.1
  | x :: ks, off, h, i + 1, k, hk => by
    rw [RxsIn] at h
    obtain ⟨v, h1, h2⟩ := h.2.at_ i k (by simpa using hk)
    exact ⟨v, by rw [← h1]; congr 2; omega, h2⟩
theorem RxsIn.mk_ {w : World} {S : Nat → Prop} {kb : Nat} : ∀ {ks : List Rx} {off : Nat}, (∀ (i : Nat) (k : Rx), ks[i]? = some k → ∃ v, w.cell? ⟨kb, off + i, none⟩ = some v ∧ RxIn w S v k) → RxsIn w S kb off ks
  | [], off, _ => by rw [RxsIn]; trivial
  | x :: ks, off, h => by
    rw [RxsIn]
    refine ⟨h 0 x rfl, RxsIn.mk_ fun i k hk => ?_⟩
    obtain ⟨v, h1, h2⟩ := h (i + 1) k (by simpa using hk)
    exact ⟨v, by rw [← h1]; congr 2; omega, h2⟩
mutual
theorem RxIn.keep {w w' : World} {S S' : Nat → Prop} (hk : ∀ b, S b → w'.heap[b]? = w.heap[b]?) (hs : ∀ b, S b → S' b) : ∀ {t : Rx} {v : Value}, RxIn w S v t → RxIn w' S' v t
  | .nil, v, h => by rw [RxIn] at h ⊢; exact h
  | .node k s mn mx ks, v, h => by
    rw [RxIn] at h ⊢
    obtain ⟨b, A, c, A', c', e, hb, c0, c1, c2, c3, c4, h1, h2, h3, h4, h5, h6⟩ := h
    have kc : ∀ (a : Addr), S a.block → w'.cell? a = w.cell? a := fun a q => World.cell?_of_block (hk a.block q)
    refine ⟨b, A, c, A', c', e, hs b hb, (kc ⟨b, 0, none⟩ hb).trans c0, (kc ⟨b, 1, none⟩ hb).trans c1, (kc ⟨b, 2, none⟩ hb).trans c2, (kc ⟨b, 3, none⟩ hb).trans c3, (kc ⟨b, 4, none⟩ hb).trans c4, h1, h2, h3, h4, h5.keep hk hs, fun h0 => ?_⟩
    obtain ⟨kb, off, e2, hkb, h7⟩ := h6 h0
    exact ⟨kb, off, e2, hs kb hkb, RxsIn.keep hk hs hkb h7⟩
theorem RxsIn.keep {w w' : World} {S S' : Nat → Prop} (hk : ∀ b, S b → w'.heap[b]? = w.heap[b]?) (hs : ∀ b, S b → S' b) {kb : Nat} (hkb : S kb) : ∀ {ks : List Rx} {off : Nat}, RxsIn w S kb off ks → RxsIn w' S' kb off ks
  | [], off, _ => by rw [RxsIn]; trivial
  | k :: ks, off, h => by
    rw [RxsIn] at h ⊢
    obtain ⟨⟨v, h1, h2⟩, h3⟩ := h
    exact ⟨⟨v, (World.cell?_of_block (a := ⟨kb, off, none⟩) (hk kb hkb)).trans h1, RxIn.keep hk hs h2⟩, RxsIn.keep hk hs hkb h3⟩
end
theorem RxIn.nil_inv {w : World} {S : Nat → Prop} {v : Value} (h : RxIn w S v .nil) : v = .pointer none := by rw [RxIn] at h; exact h
theorem RxIn.node_inv {w : World} {S : Nat → Prop} {v : Value} {k : Int} {s : List Rg} {mn mx : Int} {ks : List Rx} (h : RxIn w S v (.node k s mn mx ks)) : ∃ b A c A' c', v = .pointer (some ⟨b, 0, none⟩) ∧ S b ∧ w.cell? ⟨b, 0, none⟩ = some (.int .i64 k) ∧ w.cell? ⟨b, 1, none⟩ = some (.slice A s.length c) ∧ w.cell? ⟨b, 2, none⟩ = some (.int .i64 mn) ∧ w.cell? ⟨b, 3, none⟩ = some (.int .i64 mx) ∧
      w.cell? ⟨b, 4, none⟩ = some (.slice A' ks.length c') ∧ s.length ≤ c ∧ c ≤ maxLen ∧ ks.length ≤ c' ∧ c' ≤ maxLen ∧ RdB w S A (rv s) ∧
    (0 < ks.length → ∃ kb off, A' = some ⟨kb, off, none⟩ ∧ S kb ∧ ∀ (i : Nat) (k : Rx), ks[i]? = some k → ∃ u, w.cell? ⟨kb, off + i, none⟩ = some u ∧ RxIn w S u k) := by
  rw [RxIn] at h
  obtain ⟨b, A, c, A', c', e, hb, c0, c1, c2, c3, c4, h1, h2, h3, h4, h5, h6⟩ := h
  refine ⟨b, A, c, A', c', e, hb, c0, c1, c2, c3, c4, h1, h2, h3, h4, h5, fun h0 => ?_⟩
  obtain ⟨kb, off, e2, hkb, h7⟩ := h6 h0
  exact ⟨kb, off, e2, hkb, h7.at_⟩
theorem RxIn.mk_node {w : World} {S : Nat → Prop} {b : Nat} {A : Option Addr} {c : Nat} {A' : Option Addr} {c' : Nat} {k : Int} {s : List Rg} {mn mx : Int} {ks : List Rx} (hb : S b)
    (c0 : w.cell? ⟨b, 0, none⟩ = some (.int .i64 k)) (c1 : w.cell? ⟨b, 1, none⟩ = some (.slice A s.length c)) (c2 : w.cell? ⟨b, 2, none⟩ = some (.int .i64 mn)) (c3 : w.cell? ⟨b, 3, none⟩ = some (.int .i64 mx)) (c4 : w.cell? ⟨b, 4, none⟩ = some (.slice A' ks.length c'))
    (h1 : s.length ≤ c) (h2 : c ≤ maxLen) (h3 : ks.length ≤ c') (h4 : c' ≤ maxLen) (h5 : RdB w S A (rv s)) (h6 : 0 < ks.length → ∃ kb off, A' = some ⟨kb, off, none⟩ ∧ S kb ∧ ∀ (i : Nat) (k : Rx), ks[i]? = some k → ∃ u, w.cell? ⟨kb, off + i, none⟩ = some u ∧ RxIn w S u k) :
    RxIn w S (.pointer (some ⟨b, 0, none⟩)) (.node k s mn mx ks) := by
  rw [RxIn]
  refine ⟨b, A, c, A', c', rfl, hb, c0, c1, c2, c3, c4, h1, h2, h3, h4, h5, fun h0 => ?_⟩
  obtain ⟨kb, off, e2, hkb, h7⟩ := h6 h0
  exact ⟨kb, off, e2, hkb, RxsIn.mk_ h7⟩
/-- All of it below a block. -/
abbrev RxB (w : World) (B : Nat) (v : Value) (t : Rx) : Prop := RxIn w (fun b => b < B) v t
theorem RxB.below {w w' : World} {B : Nat} {v : Value} {t : Rx} (h : RxB w B v t) (hb : Below B w w') : RxB w' B v t := RxIn.keep (fun b q => hb.block b q) (fun _ q => q) h
theorem RxB.more {w : World} {B B' : Nat} {v : Value} {t : Rx} (h : RxB w B v t) (hB : B ≤ B') : RxB w B' v t := RxIn.keep (fun _ _ => rfl) (fun _ q => Nat.lt_of_lt_of_le q hB) h
theorem RxIn.ptr {w : World} {S : Nat → Prop} : ∀ {t : Rx} {v : Value}, RxIn w S v t → ∃ p, v = .pointer p
  | .nil, v, h => by rw [RxIn] at h; exact ⟨_, h⟩
  | .node _ _ _ _ _, v, h => by rw [RxIn] at h; obtain ⟨b, A, c, A', c', rfl, _⟩ := h; exact ⟨_, rfl⟩
theorem RxIn.one {w : World} {S : Nat → Prop} : ∀ {t : Rx} {v : Value}, RxIn w S v t → v.oneCell' = true
  | .nil, v, h => by rw [RxIn] at h; subst h; rfl
  | .node _ _ _ _ _, v, h => by rw [RxIn] at h; obtain ⟨b, A, c, A', c', rfl, _⟩ := h; rfl
end Go.Proofs.YtaachamblagbhaaGreatDoor
namespace Go.Proofs.YtaachamblagbhaaGreatDoor
open Go.RowKit BigFrame
set_option linter.unusedVariables false
set_option linter.unusedSimpArgs false
set_option maxRecDepth 100000

theorem any_takeR {f : Rg → Bool} {l : List Rg} {k : Nat} (h : k < l.length) (ha : (l.take k).any f = false) (hf : f (nthR l k) = false) : (l.take (k + 1)).any f = false := by
  rw [List.take_succ_eq_append_getElem h, List.any_append, ha, ← nthR_get h]; simp [hf]
theorem mem_nthR {l : List Rg} {k : Nat} (h : k < l.length) : nthR l k ∈ l := by rw [nthR_get h]; exact List.getElem_mem h
theorem any_yesR {f : Rg → Bool} {l : List Rg} {k : Nat} (h : k < l.length) (hf : f (nthR l k) = true) : l.any f = true := by
  rw [List.any_eq_true]; exact ⟨nthR l k, mem_nthR h, hf⟩

set_option maxHeartbeats 1000000 in
theorem rHas_any (A : Option Addr) (n c : Nat) (l : List Rg) (p : Int) (w : World) (B : Nat) (hr : RdG w B A l) (hl : l.length = n) (hn : n ≤ 100000) :
    Calls Tryz.prog 70 #[.slice A n c, .int .i64 p] w fun e w' => e = .returned (.bool (inR l p)) ∧ w = w' := by
  have HR := Lib.hid hr; have HL := Lib.hid hl
  clear hr hl
  by_cases h0 : p < 0
  · have e : inR l p = false := by unfold inR isPt; simp; omega
    rw [e]
    have d0 : decide (p < 0) = true := decide_eq_true h0
    clear e
    go_enter Tryz.func70, Tryz.ntmps70
    go_wp2
    go_ret
    exact ⟨rfl, rfl⟩
  · have d0 : decide (p < 0) = false := decide_eq_false h0
    by_cases h1 : 1114111 < p
    · have e : inR l p = false := by unfold inR isPt MP; simp; omega
      rw [e]
      have d1 : decide (1114111 < p) = true := decide_eq_true h1
      clear e
      go_enter Tryz.func70, Tryz.ntmps70
      go_wp2
      go_ret
      exact ⟨rfl, rfl⟩
    · have d1 : decide (1114111 < p) = false := decide_eq_false h1
      have e : inR l p = l.any (fun r => decide (r.1 ≤ p) && decide (p ≤ r.2)) := by
        unfold inR isPt MP
        rw [decide_eq_true (by omega : 0 ≤ p), decide_eq_true (by omega : p ≤ 1114111)]
        rfl
      have HE := Lib.hid e
      clear e
      go_enter Tryz.func70, Tryz.ntmps70
      go_wp2
      go_loop [5] (fun i => ∃ k : Nat, k ≤ n ∧ i = .int .i64 k ∧ Hid ((l.take k).any (fun r => decide (r.1 ≤ p) && decide (p ≤ r.2)) = false)) (fun i => n - (intOf i).toNat)
      case atStart => exact ⟨0, Nat.zero_le _, rfl, rfl⟩
      case round =>
        obtain ⟨k, hk, rfl, HT⟩ := hrel
        by_cases hlt : k < n
        · obtain ⟨b, off, rfl, hb, hc⟩ := HR.out.at_ (by rw [HL.out]; omega)
          obtain ⟨c1, c2⟩ := hc k (by rw [HL.out]; exact hlt)
          have hy := any_yesR (f := fun r => decide (r.1 ≤ p) && decide (p ≤ r.2)) (l := l) (k := k) (by rw [HL.out]; exact hlt)
          have ht := any_takeR (f := fun r => decide (r.1 ≤ p) && decide (p ≤ r.2)) (l := l) (k := k) (by rw [HL.out]; exact hlt) HT.out
          clear hc
          generalize nthR l k = r at *
          obtain ⟨lo, hi⟩ := r
          simp only at c1 c2 hy ht
          by_cases h2 : lo ≤ p
          · have d2 : decide (lo ≤ p) = true := decide_eq_true h2
            by_cases h3 : p ≤ hi
            · have d3 : decide (p ≤ hi) = true := decide_eq_true h3
              have HY := Lib.hid (hy (by rw [d2, d3]; rfl))
              clear hy ht
              go_wp2
              go_ret
              exact ⟨ret_eq (by rw [HE.out, HY.out]; rfl), rfl⟩
            · have d3 : decide (p ≤ hi) = false := decide_eq_false h3
              have HT2 := Lib.hid (ht (by rw [d3]; simp))
              clear hy ht
              go_wp2
              go_round
              case rel => exact ⟨k + 1, by omega, by go_num, HT2⟩
              case measure => simp [intOf]; omega
          · have d2 : decide (lo ≤ p) = false := decide_eq_false h2
            have HT2 := Lib.hid (ht (by rw [d2]; rfl))
            clear hy ht
            go_wp2
            go_round
            case rel => exact ⟨k + 1, by omega, by go_num, HT2⟩
            case measure => simp [intOf]; omega
        · have hx := HT.out
          rw [List.take_of_length_le (by rw [HL.out]; omega)] at hx
          have HX := Lib.hid hx
          clear hx
          go_wp2
          go_ret
          exact ⟨ret_eq (by rw [HE.out, HX.out]; rfl), rfl⟩

theorem wanted_any (A A2 : Option Addr) (n c n2 c2 : Nat) (l l2 : List Rg) (how p : Int) (w : World) (B B2 : Nat) (hr : RdG w B A l) (hl : l.length = n) (hn : n ≤ 100000) (hr2 : RdG w B2 A2 l2) (hl2 : l2.length = n2) (hn2 : n2 ≤ 100000) :
    Calls Tryz.prog 57 #[.slice A n c, .slice A2 n2 c2, .int .i64 how, .int .i64 p] w fun e w' => e = .returned (.bool (wantB how (inR l p) (inR l2 p))) ∧ w = w' := by
  have h1 := rHas_any A n c l p w B hr hl hn
  have h2 := rHas_any A2 n2 c2 l2 p w B2 hr2 hl2 hn2
  unfold wantB
  generalize inR l p = x at *
  generalize inR l2 p = y at *
  have H1 := Lib.hid h1; have H2 := Lib.hid h2
  clear h1 h2 hr hr2 hl hl2
  by_cases e1 : how = 1
  · subst e1
    rw [if_pos rfl]
    cases x
    all_goals
      go_enter Tryz.func57, Tryz.ntmps57
      go_wp2_with fail
      refine H1.out.mono ?_
      rintro e w1 ⟨rfl, rfl⟩
      go_wp2_with fail
      refine H2.out.mono ?_
      rintro e w1 ⟨rfl, rfl⟩
      go_wp2
      go_ret
      exact ⟨rfl, rfl⟩
  · have d1 : (how == 1) = false := by simpa using e1
    rw [if_neg e1]
    by_cases e2 : how = 2
    · subst e2
      rw [if_pos rfl]
      cases x
      all_goals
        go_enter Tryz.func57, Tryz.ntmps57
        go_wp2_with fail
        refine H1.out.mono ?_
        rintro e w1 ⟨rfl, rfl⟩
        go_wp2_with fail
        refine H2.out.mono ?_
        rintro e w1 ⟨rfl, rfl⟩
        go_wp2
        go_ret
        exact ⟨rfl, rfl⟩
    · have d2 : (how == 2) = false := by simpa using e2
      rw [if_neg e2]
      cases x
      all_goals
        go_enter Tryz.func57, Tryz.ntmps57
        go_wp2_with fail
        refine H1.out.mono ?_
        rintro e w1 ⟨rfl, rfl⟩
        go_wp2_with fail
        refine H2.out.mono ?_
        rintro e w1 ⟨rfl, rfl⟩
        go_wp2
        go_ret
        exact ⟨rfl, rfl⟩
/-- A number put into a list of numbers. -/
theorem insert_any (b off n c : Nat) (l : List Int) (x : Int) (w : World) (hr : RdI w w.heap.size (some ⟨b, off, none⟩) l) (hl : l.length = n) (h0 : 0 < n) (hn : n ≤ 100000) (hc : n ≤ c) (hcm : c ≤ maxLen) :
    Calls Tryz.prog 69 #[.slice (some ⟨b, off, none⟩) n c, .int .i64 x] w fun e w' => ∃ b' off' c', e = .returned (.slice (some ⟨b', off', none⟩) (ins x l).length c') ∧ (ins x l).length ≤ c' ∧ c' ≤ maxLen ∧ RdI w' w'.heap.size (some ⟨b', off', none⟩) (ins x l) ∧ Below w.heap.size w w' := by
  obtain ⟨b2, off2, e2, hb, hcs⟩ := hr.at_ (by omega)
  cases e2
  have HR := Lib.hid hr; have HL := Lib.hid hl; have HCS := Lib.hid hcs
  clear hr hl hcs
  unfold maxLen at hcm
  go_enter Tryz.func69, Tryz.ntmps69
  go_wp2
  go_loop [5] (fun i => ∃ k : Nat, k ≤ n ∧ i = .int .i64 k ∧ Hid (∀ j, j < k → nth l j < x)) (fun i => n - (intOf i).toNat)
  case atStart => exact ⟨0, Nat.zero_le _, rfl, fun j hj => by omega⟩
  case round =>
    obtain ⟨k, hk, rfl, HT⟩ := hrel
    have hat := ins_at (n := x) (l := l) (k := k) (by rw [HL.out]; exact hk) (fun j hj h => by rw [← nth_get h]; exact HT.out j hj)
    have hstop : k = n ∨ (k < n ∧ ∃ y, y = nth l k ∧ ¬ y < x ∧ y ≠ x) → ins x l = l.take k ++ x :: l.drop k := fun q => by
      rcases q with q | ⟨q1, y, rfl, q2, q3⟩
      · have h1 := hat (fun h => by rw [HL.out] at h; omega)
        rw [List.getElem?_eq_none (by rw [HL.out]; omega)] at h1
        exact h1
      · have hk2 : k < l.length := by rw [HL.out]; exact q1
        have h1 := hat (fun h => by rw [← nth_get h]; exact q2)
        rw [List.getElem?_eq_getElem hk2, ← nth_get hk2, if_neg (fun q => q3 (by simpa using q))] at h1
        exact h1
    have hfound : k < n → nth l k = x → ins x l = l := fun q1 q2 => by
      have hk2 : k < l.length := by rw [HL.out]; exact q1
      have h1 := hat (fun h => by rw [← nth_get h]; omega)
      rw [List.getElem?_eq_getElem hk2, ← nth_get hk2, if_pos (by rw [q2])] at h1
      exact h1
    have HSTOP := Lib.hid hstop; have HFOUND := Lib.hid hfound
    clear hat hstop hfound
    have HTK := Lib.hid (show Rd w w.heap.size (some ⟨b, off, none⟩) (iv (l.take k)) from fun hne => ⟨b, off, rfl, hb, fun j u hu => by
      have hj : j < (l.take k).length := by have := (List.getElem?_eq_some_iff.1 hu).1; rwa [iv_len] at this
      rw [iv_get hj] at hu
      cases hu
      have hjl : j < l.length := by rw [List.length_take] at hj; omega
      have : nth (l.take k) j = nth l j := by rw [nth_get hj, nth_get hjl, List.getElem_take]
      rw [this]; exact HCS.out j hjl⟩)
    have HDR := Lib.hid (show ∀ o, (k < n → o = off + k) → Rd w w.heap.size (some ⟨b, o, none⟩) (iv (l.drop k)) from fun o ho hne => by
      have hkn : k < n := by
        apply Classical.byContradiction
        intro q
        rw [List.drop_eq_nil_of_le (by rw [HL.out]; omega)] at hne
        exact hne rfl
      obtain rfl := ho hkn
      refine ⟨b, off + k, rfl, hb, fun j u hu => ?_⟩
      have hj : j < (l.drop k).length := by have := (List.getElem?_eq_some_iff.1 hu).1; rwa [iv_len] at this
      rw [iv_get hj] at hu
      cases hu
      have hjl : k + j < l.length := by rw [List.length_drop] at hj; omega
      have : nth (l.drop k) j = nth l (k + j) := by rw [nth_get hj, nth_get hjl, List.getElem_drop]
      rw [this, Nat.add_assoc]; exact HCS.out (k + j) hjl)
    have HN1 := Lib.hid (show (iv (l.take k)).length = k * 1 by rw [iv_len, List.length_take, HL.out]; omega)
    have HN2 := Lib.hid (show (iv (l.drop k)).length = (n - k) * 1 by rw [iv_len, List.length_drop, HL.out]; omega)
    have HO1 := Lib.hid (iv_one (l.take k)); have HO2 := Lib.hid (iv_one (l.drop k))
    have hown0 := Lib.hid (World.ownsRow_nil w w.heap.size 3 1)
    have hap : ∀ (v : Value) (wq : World) (nn : Nat), wq.ownsRow w.heap.size 3 1 v nn (iv (l.take k) ++ [Value.int .i64 x] ++ iv (l.drop k)) → ins x l = l.take k ++ x :: l.drop k → Below w.heap.size w wq →
        ∃ b' off' c', v = .slice (some ⟨b', off', none⟩) (ins x l).length c' ∧ (ins x l).length ≤ c' ∧ c' ≤ maxLen ∧ RdI wq wq.heap.size (some ⟨b', off', none⟩) (ins x l) := fun v wq nn ho hi hbq => by
      have e1 : iv (l.take k) ++ [Value.int .i64 x] ++ iv (l.drop k) = iv (ins x l) := by rw [hi]; unfold iv; simp
      rw [e1] at ho
      have hlen : nn = (ins x l).length := by have := ho.1; rw [iv_len] at this; omega
      have hpos : 0 < (ins x l).length := by rw [hi]; simp; omega
      obtain ⟨A, cc, e2, q1, q2, q3⟩ := own_form ho
      rcases ho.2 with ⟨rfl, q⟩ | ⟨g, cap, cur, e3, _⟩
      · omega
      · rw [e3] at e2
        simp only [Value.slice.injEq] at e2
        obtain ⟨rfl, _, rfl⟩ := e2
        exact ⟨g, 0, cap, by rw [e3, hlen], by omega, q2, q3⟩
    have HAP := Lib.hid hap
    clear hap
    by_cases hlt : k < n
    · have c1 := HCS.out k (by rw [HL.out]; exact hlt)
      obtain ⟨y, hy⟩ : ∃ y, y = nth l k := ⟨_, rfl⟩
      rw [← hy] at c1
      have HY := Lib.hid hy
      clear hy
      by_cases hyx : y < x
      · have d1 : decide (y < x) = true := decide_eq_true hyx
        have HT2 : Hid (∀ j, j < k + 1 → nth l j < x) := Lib.hid (fun j hj => by
          by_cases e : j = k
          · subst e; rw [← HY.out]; exact hyx
          · exact HT.out j (by omega))
        go_wp2
        go_round
        case rel => exact ⟨k + 1, by omega, by go_num, HT2⟩
        case measure => simp [intOf]; omega
      · have d1 : decide (y < x) = false := decide_eq_false hyx
        by_cases he : y = x
        · have d2 : (y == x) = true := by simpa using he
          have HI := Lib.hid (HFOUND.out hlt (by rw [← HY.out]; exact he))
          clear he
          go_wp2
          go_ret
          refine ⟨b, off, c, ?_, by rw [HI.out, HL.out]; exact hc, by unfold maxLen; omega, by rw [HI.out]; exact HR.out, Below.refl _ _⟩
          rw [HI.out, HL.out]; rfl
        · have d2 : (y == x) = false := by simpa using he
          have HI := Lib.hid (HSTOP.out (.inr ⟨hlt, y, HY.out, hyx, he⟩))
          clear he
          have hrd1 : Rd w w.heap.size (some ⟨b, off, none⟩) (iv (l.take k)) := HTK.out
          have hrd3 := HDR.out (off + k) (fun _ => rfl)
          have HRD3 := Lib.hid hrd3
          clear hrd1 hrd3
          go_wp2_with (first
            | (at_builtin; refine wpList_app_rd elIn rfl (.tmp 34) (.tmp 37) rfl w.heap.size _ 0 k c w.heap.size (some ⟨b, off, none⟩) [] (iv (l.take k)) rfl hown0.out rfl HN1.out HTK.out HO1.out (by omega) (by omega) (Nat.le_refl _) ?_; intro v1 w1 hown1 hg1 hat1; have hb1 := (Below.refl w.heap.size w).grown hg1 (Nat.le_refl _) (fun k e => (by cases e)); simp only [Nat.zero_add, List.nil_append] at hown1; have HW1 := Lib.hid hown1; have HB1 := Lib.hid hb1; have HS1 := Lib.hid hb1.size; clear hown1 hg1 hat1 hb1)
            | (at_builtin; refine wpList_app elIn rfl (.tmp 39) (.tmp 41) rfl w.heap.size _ k 1 (iv (l.take k)) [.int .i64 x] rfl HW1.out rfl rfl (by simp [Value.oneCell']) (by omega) (by omega) HS1.out ?_; intro v2 w2 hown2 hg2 hat2; have hb2 := HB1.out.grown hg2 HS1.out (fun k e => own_base HW1.out k e); have HW2 := Lib.hid hown2; have HB2 := Lib.hid hb2; have HS2 := Lib.hid hb2.size; clear hown2 hg2 hat2 hb2)
            | (at_builtin; refine wpList_app_rd elIn rfl (.tmp 43) (.tmp 46) rfl w.heap.size _ (k + 1) (n - k) (c - k) w.heap.size (some ⟨b, off + k, none⟩) _ (iv (l.drop k)) rfl HW2.out rfl (by have := HN2.out; rw [this]; try omega) (Rd.below HRD3.out HB2.out) HO2.out (by omega) (by omega) HS2.out ?_; intro v3 w3 hown3 hg3 hat3; have hb3 := HB2.out.grown hg3 HS2.out (fun k e => own_base HW2.out k e); have HW3 := Lib.hid hown3; have HB3 := Lib.hid hb3; clear hown3 hg3 hat3 hb3))
          go_ret
          obtain ⟨b', off', c', e3, q1, q2, q3⟩ := HAP.out _ _ _ HW3.out HI.out HB3.out
          exact ⟨b', off', c', ret_eq e3, q1, q2, q3, HB3.out⟩
    · have hkn : k = n := by omega
      have HI := Lib.hid (HSTOP.out (.inl hkn))
      subst hkn
      by_cases hcap : c = k
      · subst hcap
        have hrd1 : Rd w w.heap.size (some ⟨b, off, none⟩) (iv (l.take c)) := HTK.out
        have hrd3 := HDR.out (off) (fun _ => by omega)
        have HRD3 := Lib.hid hrd3
        clear hrd1 hrd3
        go_wp2_with (first
          | (at_builtin; refine wpList_app_rd elIn rfl (.tmp 34) (.tmp 37) rfl w.heap.size _ 0 c c w.heap.size (some ⟨b, off, none⟩) [] (iv (l.take c)) rfl hown0.out rfl HN1.out HTK.out HO1.out (by omega) (by omega) (Nat.le_refl _) ?_; intro v1 w1 hown1 hg1 hat1; have hb1 := (Below.refl w.heap.size w).grown hg1 (Nat.le_refl _) (fun k e => (by cases e)); simp only [Nat.zero_add, List.nil_append] at hown1; have HW1 := Lib.hid hown1; have HB1 := Lib.hid hb1; have HS1 := Lib.hid hb1.size; clear hown1 hg1 hat1 hb1)
          | (at_builtin; refine wpList_app elIn rfl (.tmp 39) (.tmp 41) rfl w.heap.size _ c 1 (iv (l.take c)) [.int .i64 x] rfl HW1.out rfl rfl (by simp [Value.oneCell']) (by omega) (by omega) HS1.out ?_; intro v2 w2 hown2 hg2 hat2; have hb2 := HB1.out.grown hg2 HS1.out (fun k e => own_base HW1.out k e); have HW2 := Lib.hid hown2; have HB2 := Lib.hid hb2; have HS2 := Lib.hid hb2.size; clear hown2 hg2 hat2 hb2)
          | (at_builtin; refine wpList_app_rd elIn rfl (.tmp 43) (.tmp 46) rfl w.heap.size _ (c + 1) (0) (0) w.heap.size (some ⟨b, off, none⟩) _ (iv (l.drop c)) rfl HW2.out rfl (by have := HN2.out; rw [this]; try omega) (Rd.below HRD3.out HB2.out) HO2.out (by omega) (by omega) HS2.out ?_; intro v3 w3 hown3 hg3 hat3; have hb3 := HB2.out.grown hg3 HS2.out (fun k e => own_base HW2.out k e); have HW3 := Lib.hid hown3; have HB3 := Lib.hid hb3; clear hown3 hg3 hat3 hb3))
        go_ret
        obtain ⟨b', off', c', e3, q1, q2, q3⟩ := HAP.out _ _ _ HW3.out HI.out HB3.out
        exact ⟨b', off', c', ret_eq e3, q1, q2, q3, HB3.out⟩
      ·
        have hrd1 : Rd w w.heap.size (some ⟨b, off, none⟩) (iv (l.take k)) := HTK.out
        have hrd3 := HDR.out (off + k) (fun _ => rfl)
        have HRD3 := Lib.hid hrd3
        clear hrd1 hrd3
        go_wp2_with (first
          | (at_builtin; refine wpList_app_rd elIn rfl (.tmp 34) (.tmp 37) rfl w.heap.size _ 0 k c w.heap.size (some ⟨b, off, none⟩) [] (iv (l.take k)) rfl hown0.out rfl HN1.out HTK.out HO1.out (by omega) (by omega) (Nat.le_refl _) ?_; intro v1 w1 hown1 hg1 hat1; have hb1 := (Below.refl w.heap.size w).grown hg1 (Nat.le_refl _) (fun k e => (by cases e)); simp only [Nat.zero_add, List.nil_append] at hown1; have HW1 := Lib.hid hown1; have HB1 := Lib.hid hb1; have HS1 := Lib.hid hb1.size; clear hown1 hg1 hat1 hb1)
          | (at_builtin; refine wpList_app elIn rfl (.tmp 39) (.tmp 41) rfl w.heap.size _ k 1 (iv (l.take k)) [.int .i64 x] rfl HW1.out rfl rfl (by simp [Value.oneCell']) (by omega) (by omega) HS1.out ?_; intro v2 w2 hown2 hg2 hat2; have hb2 := HB1.out.grown hg2 HS1.out (fun k e => own_base HW1.out k e); have HW2 := Lib.hid hown2; have HB2 := Lib.hid hb2; have HS2 := Lib.hid hb2.size; clear hown2 hg2 hat2 hb2)
          | (at_builtin; refine wpList_app_rd elIn rfl (.tmp 43) (.tmp 46) rfl w.heap.size _ (k + 1) (0) (c - k) w.heap.size (some ⟨b, off + k, none⟩) _ (iv (l.drop k)) rfl HW2.out rfl (by have := HN2.out; rw [this]; try omega) (Rd.below HRD3.out HB2.out) HO2.out (by omega) (by omega) HS2.out ?_; intro v3 w3 hown3 hg3 hat3; have hb3 := HB2.out.grown hg3 HS2.out (fun k e => own_base HW2.out k e); have HW3 := Lib.hid hown3; have HB3 := Lib.hid hb3; clear hown3 hg3 hat3 hb3))
        go_ret
        obtain ⟨b', off', c', e3, q1, q2, q3⟩ := HAP.out _ _ _ HW3.out HI.out HB3.out
        exact ⟨b', off', c', ret_eq e3, q1, q2, q3, HB3.out⟩
end Go.Proofs.YtaachamblagbhaaGreatDoor
