/- Memory: the program's whole numbers as slices of parts; Of, Plus. · The program's sum of whole numbers. · The program's product of whole numbers. -/
import Derived.Test.YtkcpfpofimkkiaaGreatDoorQ31
import Derived.Test.YtkcpfpofimkkiaaGreatDoorQ13
namespace Go.Proofs.YtkcpfpofimkkiaaGreatDoor
open Go.RowKit BigFrame
set_option linter.unusedVariables false
set_option linter.unusedSimpArgs false
set_option maxRecDepth 100000

theorem elU : ElTy Tryz.prog 51 76 1 4 (.int .u32 0) := ⟨Tryz.underlying51, by kernel_rfl, rfl, by decide⟩
/-- Parts as cells. -/
def uv (l : List Nat) : List Value := l.map fun (x : Nat) => .int .u32 (x : Int)
theorem uv_len (l : List Nat) : (uv l).length = l.length := List.length_map _
theorem uv_append (l m : List Nat) : uv (l ++ m) = uv l ++ uv m := by unfold uv; rw [List.map_append]
theorem uv_get {l : List Nat} {k : Nat} (h : k < l.length) : (uv l)[k]? = some (.int .u32 ((l.getD k 0 : Nat) : Int)) := by
  unfold uv; rw [List.getElem?_map, List.getElem?_eq_getElem h, List.getD_eq_getElem?_getD, List.getElem?_eq_getElem h]; rfl
theorem uv_set (l : List Nat) (k x : Nat) : (uv l).set k (.int .u32 (x : Int)) = uv (l.set k x) := by unfold uv; rw [List.map_set]
theorem uv_rep (n x : Nat) : List.replicate n (Value.int .u32 (x : Int)) = uv (List.replicate n x) := by unfold uv; rw [List.map_replicate]
/-- A slice of parts. -/
def RdU (w : World) (B : Nat) (A : Option Addr) (l : List Nat) : Prop := Rd w B A (uv l)
theorem RdU.at_ {w : World} {B : Nat} {A : Option Addr} {l : List Nat} (h : RdU w B A l) (hn : 0 < l.length) :
    ∃ b off, A = some ⟨b, off, none⟩ ∧ b < B ∧ ∀ k, k < l.length → w.cell? ⟨b, off + k, none⟩ = some (.int .u32 ((l.getD k 0 : Nat) : Int)) := by
  obtain ⟨b, off, e, hb, hc⟩ := h (by intro e; have := uv_len l; rw [e] at this; simp at this; omega)
  exact ⟨b, off, e, hb, fun k hk => hc _ _ (uv_get hk)⟩
theorem RdU.below {w w' : World} {B : Nat} {A : Option Addr} {l : List Nat} (h : RdU w B A l) (hb : Below B w w') : RdU w' B A l := Rd.below h hb
theorem RdU.more {w : World} {B B' : Nat} {A : Option Addr} {l : List Nat} (h : RdU w B A l) (hB : B ≤ B') : RdU w B' A l := Rd.more h hB
/-- A row of the call's own: parts. -/
def OwU (w : World) (base : Nat) (v : Value) (l : List Nat) : Prop := w.ownsRow base 76 1 v l.length (uv l)
theorem OwU.nil (w : World) (base : Nat) : OwU w base (.slice none 0 0) [] := World.ownsRow_nil _ _ _ _
theorem OwU.form {w : World} {base : Nat} {v : Value} {l : List Nat} (h : OwU w base v l) : ∃ A c, v = .slice A l.length c ∧ l.length ≤ c ∧ c ≤ maxLen ∧ RdU w w.heap.size A l := own_form h
theorem OwU.ext {w w' : World} {base : Nat} {v : Value} {l : List Nat} (h : OwU w base v l) (hb : Below w.heap.size w w') : OwU w' base v l := own_ext h hb
theorem OwU.snoc {w : World} {base : Nat} {v : Value} {l : List Nat} {t : Int} {x : Nat} (h : w.ownsRow base 76 1 v (l.length + 1) (uv l ++ [.int .u32 t])) (e : t = (x : Int)) : OwU w base v (l ++ [x]) := by
  subst e
  unfold OwU
  rw [List.length_append, uv_append]; exact h
theorem mk_capU (w : World) (n : Nat) (hn : n ≤ 1000000) : (Instr.makeSlice 51 (.int .i64 0) (.int .i64 (n : Int))).run Tryz.prog w = .ok (.slice (some ⟨w.heap.size, 0, none⟩) 0 n) (w.alloc (.cells (zs (.int .u32 0) n) 76)) := by
  obtain ⟨i, hi, hz, hs, hb⟩ := info_parts elU.hi
  have h := run_make w 51 76 i (.int .u32 0) Tryz.underlying51 hi hz .i64 .i64 0 n (by omega) (by omega) (by rw [hb]; omega) (by omega)
  simp only [hs, Int.toNat_natCast, Nat.mul_one] at h
  rw [h, show (Value.int .u32 0).cells = #[Value.int .u32 0] from rfl, madeCells_one]
  rfl
theorem OwU.cap (w : World) (n : Nat) (hn : n ≤ 1000000) : OwU (w.alloc (.cells (zs (.int .u32 0) n) 76)) w.heap.size (.slice (some ⟨w.heap.size, 0, none⟩) 0 n) [] :=
  ⟨rfl, .inr ⟨w.heap.size, n, zs (.int .u32 0) n, rfl, Nat.le_refl _, heap_alloc_new w _, Nat.zero_le _, by unfold maxLen; omega, by simp [zs], by simp [uv]⟩⟩
/-- make([]uint32, n). -/
theorem mk_zerU (w : World) (n : Nat) (k : Int) (hk : k = n) (hn : n ≤ 1000000) : (Instr.makeSlice 51 (.int .i64 k) (.int .i64 k)).run Tryz.prog w = .ok (.slice (some ⟨w.heap.size, 0, none⟩) n n) (w.alloc (.cells (zs (.int .u32 0) n) 76)) :=
  mk_row elU rfl .i64 .i64 n k hk (by omega) (by omega) w

theorem of_any (n : Nat) (w : World) (h0 : 0 < n) (hn : n < 1000000000) :
    Calls Tryz.prog 19 #[.int .i64 (n : Int)] w fun e w' => ∃ v, e = .returned v ∧ OwU w' w.heap.size v (ofN n) ∧ Below w.heap.size w w' := by
  have HO := Lib.hid (ofN_one h0 hn)
  go_enter Tryz.func19, Tryz.ntmps19
  go_wp2_with fail
  go_loopw [0, 3] (fun x v wr => (x = .int .i64 (n : Int) ∧ v = .slice none 0 0 ∧ wr = w) ∨ (x = .int .i64 0 ∧ Hid (OwU wr w.heap.size v [n]) ∧ Hid (Below w.heap.size w wr))) (fun x _ _ => (intOf x).toNat)
  case atStart => exact .inl ⟨rfl, rfl, rfl⟩
  case round =>
    rcases hrel with ⟨rfl, rfl, rfl⟩ | ⟨rfl, HV, HB⟩
    · have d1 : decide ((n : Int) > 0) = true := decide_eq_true (by omega)
      have e1 : (n : Int) % 1000000000 = n := by omega
      have e2 : (n : Int) / 1000000000 = 0 := by omega
      go_wp2_with (at_builtin; refine wpList_app elU rfl (.tmp 8) (.tmp 12) rfl wr.heap.size (.slice none 0 0) 0 1 [] [.int .u32 (n : Int)] rfl (World.ownsRow_nil _ _ _ _) rfl rfl (by simp [Value.oneCell']) (by omega) (by omega) (Nat.le_refl _) ?_; intro v' w1 hown2 hg hat)
      go_roundw
      case rel => exact .inr ⟨rfl, OwU.snoc (l := []) hown2 rfl, (Below.refl _ _).grown hg (Nat.le_refl _) (fun k e => by simp [Value.ownBlock] at e)⟩
      case measure => simp [intOf]; omega
    · go_wp2_with fail
      go_ret
      exact ⟨_, rfl, by rw [HO.out]; exact HV.out, HB.out⟩
end Go.Proofs.YtkcpfpofimkkiaaGreatDoor
namespace Go.Proofs.YtkcpfpofimkkiaaGreatDoor
open Go.RowKit BigFrame
set_option linter.unusedVariables false
set_option linter.unusedSimpArgs false
set_option maxRecDepth 100000

theorem run_max2 (P : Program) (a b m : Int) (h : m = max a b) : ∀ (ts : Array TypeId) (t : TypeId) (w : World), (Builtin.max_ ts t #[.int .i64 a, .int .i64 b]).run P w = .ok (.int .i64 m) w := by
  intro ts t w
  rw [run_max_int2, show (if a < b then b else a) = m from by split <;> omega]
theorem plus_u (A A' : Option Addr) (n c n' c' : Nat) (a b : List Nat) (w : World) (B : Nat) (hB : B ≤ w.heap.size) (ha : RdU w B A a) (hla : a.length = n) (hb : RdU w B A' b) (hlb : b.length = n') (hn : n ≤ 100000) (hn' : n' ≤ 100000) (Ha : Nm a) (Hb : Nm b) :
    Calls Tryz.prog 20 #[.slice A n c, .slice A' n' c'] w fun e w' => ∃ v l, e = .returned v ∧ OwU w' w.heap.size v l ∧ Nm l ∧ vB 1000000000 l = vB 1000000000 a + vB 1000000000 b ∧ l.length ≤ max n n' + 1 ∧ Below w.heap.size w w' := by
  have HA := Lib.hid ha; have HLA := Lib.hid hla; have HB := Lib.hid hb; have HLB := Lib.hid hlb; have HNA := Lib.hid Ha; have HNB := Lib.hid Hb
  obtain ⟨M, hM⟩ : ∃ M : Nat, max n n' = M := ⟨_, rfl⟩
  have hM0 : max (n : Int) (n' : Int) = (M : Int) := by omega
  have hmax := run_max2 Tryz.prog (n : Int) (n' : Int) M hM0.symm
  have hM1 : M ≤ 100000 := by omega
  have hmk := mk_capU w (M + 1) (by omega)
  have HCP := Lib.hid (OwU.cap w (M + 1) (by omega))
  have HBC : Hid (Below w.heap.size w (w.alloc (.cells (zs (.int .u32 0) (M + 1)) 76))) := Lib.hid ((Below.refl _ _).alloc (Nat.le_refl _) _)
  have HM := Lib.hid hM
  rw [show ((M + 1 : Nat) : Int) = (M : Int) + 1 by omega] at hmk
  clear ha hla hb hlb Ha Hb hM hM0
  go_enter Tryz.func20, Tryz.ntmps20
  go_wp2_with fail
  go_loopw [5, 6, 20] (fun v cy i wr => ∃ (k c : Nat) (out : List Nat), k ≤ M ∧ i = .int .i64 (k : Int) ∧ cy = .int .u64 (c : Int) ∧ c ≤ 1 ∧ Hid (OwU wr w.heap.size v out) ∧ Hid (SmI a b k out c) ∧ Hid (Below w.heap.size w wr)) (fun _ _ i _ => M - (intOf i).toNat)
  case atStart => exact ⟨0, 0, [], Nat.zero_le _, rfl, rfl, by omega, HCP.out, SmI.start _ _, HBC.out⟩
  case round =>
    as_aux_lemma =>
      clear HCP HBC
      obtain ⟨k, cy, out, hk, rfl, rfl, hcy, HV, HS, HW⟩ := hrel
      have hz := HW.out.size
      have hol : out.length = k := HS.out.l
      have hol2 : out.length ≤ 100000 := by omega
      have HOL := Lib.hid hol; clear hol
      by_cases hlt : k < M
      · as_aux_lemma =>
          have d0 : decide ((k : Int) < (M : Int)) = true := decide_eq_true (by omega)
          have hx := getD_lt (b := 1000000000) (by decide) HNA.out.d k
          have hy := getD_lt (b := 1000000000) (by decide) HNB.out.d k
          have HST := Lib.hid (HS.out.step HNA.out.d HNB.out.d)
          by_cases h1 : k < n <;> by_cases h2 : k < n'
          all_goals
            obtain ⟨x, hxe⟩ : ∃ x, x = a.getD k 0 := ⟨_, rfl⟩
            obtain ⟨y, hye⟩ : ∃ y, y = b.getD k 0 := ⟨_, rfl⟩
            rw [← hxe, ← hye] at HST
            rw [← hxe] at hx
            rw [← hye] at hy
          · as_aux_lemma =>
              have d1 : decide ((k : Int) < (n : Int)) = true := decide_eq_true (by omega)
              have d2 : decide ((k : Int) < (n' : Int)) = true := decide_eq_true (by omega)
              obtain ⟨ba, oa, rfl, hba, hca⟩ := (HA.out.below (HW.out.mono hB)).at_ (by rw [HLA.out]; omega)
              have ca := hca k (by rw [HLA.out]; exact h1)
              rw [← hxe] at ca
              clear hca
              obtain ⟨bb, ob, rfl, hbb, hcb⟩ := (HB.out.below (HW.out.mono hB)).at_ (by rw [HLB.out]; omega)
              have cb := hcb k (by rw [HLB.out]; exact h2)
              rw [← hye] at cb
              clear hcb
              clear hxe hye HA HB
              go_wp2_with (at_builtin; refine wpList_app elU rfl (.tmp 45) (.tmp 49) rfl w.heap.size _ out.length 1 (uv out) [.int .u32 (((cy : Int) + (x : Int) + (y : Int)) % 1000000000)] rfl HV.out rfl rfl (by simp [Value.oneCell']) (by omega) (by omega) hz ?_; intro v' w1 hown2 hg hat)
              go_roundw
              case rel =>
                exact ⟨k + 1, (cy + x + y) / 1000000000, out ++ [(cy + x + y) % 1000000000], by omega, by go_num, by congr 1, by omega, OwU.snoc hown2 (by omega), HST.out, HW.out.grown hg hz (own_base HV.out)⟩
              case measure => simp [intOf]; omega
          · as_aux_lemma =>
              have d1 : decide ((k : Int) < (n : Int)) = true := decide_eq_true (by omega)
              have d2 : decide ((k : Int) < (n' : Int)) = false := decide_eq_false (by omega)
              obtain ⟨ba, oa, rfl, hba, hca⟩ := (HA.out.below (HW.out.mono hB)).at_ (by rw [HLA.out]; omega)
              have ca := hca k (by rw [HLA.out]; exact h1)
              rw [← hxe] at ca
              clear hca
              have hy0 : y = 0 := by rw [hye, List.getD_eq_getElem?_getD, List.getElem?_eq_none (by rw [HLB.out]; omega)]; rfl
              have HY0 := Lib.hid hy0; clear hy0
              clear hxe hye HA HB
              go_wp2_with (at_builtin; refine wpList_app elU rfl (.tmp 45) (.tmp 49) rfl w.heap.size _ out.length 1 (uv out) [.int .u32 (((cy : Int) + (x : Int)) % 1000000000)] rfl HV.out rfl rfl (by simp [Value.oneCell']) (by omega) (by omega) hz ?_; intro v' w1 hown2 hg hat)
              go_roundw
              case rel =>
                obtain rfl := HY0.out
                exact ⟨k + 1, (cy + x + 0) / 1000000000, out ++ [(cy + x + 0) % 1000000000], by omega, by go_num, by congr 1, by omega, OwU.snoc hown2 (by omega), HST.out, HW.out.grown hg hz (own_base HV.out)⟩
              case measure => simp [intOf]; omega
          · as_aux_lemma =>
              have d1 : decide ((k : Int) < (n : Int)) = false := decide_eq_false (by omega)
              have d2 : decide ((k : Int) < (n' : Int)) = true := decide_eq_true (by omega)
              have hx0 : x = 0 := by rw [hxe, List.getD_eq_getElem?_getD, List.getElem?_eq_none (by rw [HLA.out]; omega)]; rfl
              have HX0 := Lib.hid hx0; clear hx0
              obtain ⟨bb, ob, rfl, hbb, hcb⟩ := (HB.out.below (HW.out.mono hB)).at_ (by rw [HLB.out]; omega)
              have cb := hcb k (by rw [HLB.out]; exact h2)
              rw [← hye] at cb
              clear hcb
              clear hxe hye HA HB
              go_wp2_with (at_builtin; refine wpList_app elU rfl (.tmp 45) (.tmp 49) rfl w.heap.size _ out.length 1 (uv out) [.int .u32 (((cy : Int) + (y : Int)) % 1000000000)] rfl HV.out rfl rfl (by simp [Value.oneCell']) (by omega) (by omega) hz ?_; intro v' w1 hown2 hg hat)
              go_roundw
              case rel =>
                obtain rfl := HX0.out
                exact ⟨k + 1, (cy + 0 + y) / 1000000000, out ++ [(cy + 0 + y) % 1000000000], by omega, by go_num, by congr 1, by omega, OwU.snoc hown2 (by omega), HST.out, HW.out.grown hg hz (own_base HV.out)⟩
              case measure => simp [intOf]; omega
          · as_aux_lemma =>
              have d1 : decide ((k : Int) < (n : Int)) = false := decide_eq_false (by omega)
              have d2 : decide ((k : Int) < (n' : Int)) = false := decide_eq_false (by omega)
              have hx0 : x = 0 := by rw [hxe, List.getD_eq_getElem?_getD, List.getElem?_eq_none (by rw [HLA.out]; omega)]; rfl
              have HX0 := Lib.hid hx0; clear hx0
              have hy0 : y = 0 := by rw [hye, List.getD_eq_getElem?_getD, List.getElem?_eq_none (by rw [HLB.out]; omega)]; rfl
              have HY0 := Lib.hid hy0; clear hy0
              clear hxe hye HA HB
              go_wp2_with (at_builtin; refine wpList_app elU rfl (.tmp 45) (.tmp 49) rfl w.heap.size _ out.length 1 (uv out) [.int .u32 (((cy : Int)) % 1000000000)] rfl HV.out rfl rfl (by simp [Value.oneCell']) (by omega) (by omega) hz ?_; intro v' w1 hown2 hg hat)
              go_roundw
              case rel =>
                obtain rfl := HX0.out
                obtain rfl := HY0.out
                exact ⟨k + 1, (cy + 0 + 0) / 1000000000, out ++ [(cy + 0 + 0) % 1000000000], by omega, by go_num, by congr 1, by omega, OwU.snoc hown2 (by omega), HST.out, HW.out.grown hg hz (own_base HV.out)⟩
              case measure => simp [intOf]; omega
      · as_aux_lemma =>
          have d0 : decide ((k : Int) < (M : Int)) = false := decide_eq_false (by omega)
          obtain rfl : k = M := by omega
          have HDN := Lib.hid (SmI.done (a := a) (b := b) (out := out) (c := cy) (by rw [HLA.out, HLB.out, HM.out]; exact HS.out) HNA.out HNB.out)
          clear HA HB
          by_cases h0 : 0 < cy
          · have d1 : decide ((cy : Int) > 0) = true := decide_eq_true (by omega)
            go_wp2_with (at_builtin; refine wpList_app elU rfl (.tmp 56) (.tmp 59) rfl w.heap.size _ out.length 1 (uv out) [.int .u32 (cy : Int)] rfl HV.out rfl rfl (by simp [Value.oneCell']) (by omega) (by omega) hz ?_; intro v' w1 hown2 hg hat)
            go_ret
            exact ⟨_, _, rfl, OwU.snoc hown2 rfl, (HDN.out.2 h0).1, (HDN.out.2 h0).2, by rw [List.length_append, List.length_singleton, HM.out, HOL.out]; exact Nat.le_refl _, HW.out.grown hg hz (own_base HV.out)⟩
          · have d1 : decide ((cy : Int) > 0) = false := decide_eq_false (by omega)
            have hc0 : cy = 0 := by omega
            go_wp2_with fail
            go_ret
            exact ⟨_, _, rfl, HV.out, (HDN.out.1 hc0).1, (HDN.out.1 hc0).2, by rw [HM.out, HOL.out]; omega, HW.out⟩
end Go.Proofs.YtkcpfpofimkkiaaGreatDoor
namespace Go.Proofs.YtkcpfpofimkkiaaGreatDoor
open Go.RowKit BigFrame
set_option linter.unusedVariables false
set_option linter.unusedSimpArgs false
set_option maxRecDepth 100000

theorem Blk.ucell {w : World} {g : Nat} {e : TypeId} {l : List Nat} (h : Blk w g e (uv l)) {k : Nat} (hk : k < l.length) : w.cell? ⟨g, k, none⟩ = some (.int .u32 ((l.getD k 0 : Nat) : Int)) := h.cell (uv_get hk)
theorem Blk.uset {w : World} {g : Nat} {e : TypeId} {l : List Nat} (h : Blk w g e (uv l)) (k x : Nat) : Blk (w.setCell ⟨g, k, none⟩ (.int .u32 (x : Int))) g e (uv (l.set k x)) := by rw [← uv_set]; exact h.set_ k _
/-- A head of a whole block. -/
theorem Blk.ownU {w : World} {g base n c : Nat} {l o : List Nat} (h : Blk w g 76 (uv l)) (hb : base ≤ g) (hc : c = l.length) (hn : n ≤ c) (hm : c ≤ 1000000) (ho : o = l.take n) : OwU w base (.slice (some ⟨g, 0, none⟩) n c) o := by
  have hol : o.length = n := by rw [ho, List.length_take]; omega
  refine ⟨by rw [uv_len]; omega, .inr ⟨g, c, (uv l).toArray, by rw [hol], hb, h, by omega, by unfold maxLen; omega, by simp [uv_len, hc], ?_⟩⟩
  rw [ho]
  simp only [Nat.mul_one]
  rw [← ho, hol, ho]
  unfold uv
  simp [List.map_take]
set_option maxHeartbeats 4000000 in
theorem times_u (A A' : Option Addr) (n c n' c' : Nat) (a b : List Nat) (w : World) (B : Nat) (hB : B ≤ w.heap.size) (ha : RdU w B A a) (hla : a.length = n) (hb : RdU w B A' b) (hlb : b.length = n') (hn : n ≤ 100000) (hn' : n' ≤ 100000) (Ha : Nm a) (Hb : Nm b) :
    Calls Tryz.prog 21 #[.slice A n c, .slice A' n' c'] w fun e w' => ∃ v l, e = .returned v ∧ OwU w' w.heap.size v l ∧ Nm l ∧ vB 1000000000 l = vB 1000000000 a * vB 1000000000 b ∧ l.length ≤ n + n' ∧ Below w.heap.size w w' := by
  have HA := Lib.hid ha; have HLA := Lib.hid hla; have HB := Lib.hid hb; have HLB := Lib.hid hlb; have HNA := Lib.hid Ha; have HNB := Lib.hid Hb
  by_cases h0 : n = 0 ∨ n' = 0
  · have hv : vB 1000000000 a * vB 1000000000 b = 0 := by
      rcases h0 with q | q
      · rw [List.length_eq_zero_iff.1 (show a.length = 0 by rw [hla]; exact q)]; simp [vB]
      · rw [List.length_eq_zero_iff.1 (show b.length = 0 by rw [hlb]; exact q)]; simp [vB]
    have HV := Lib.hid hv
    clear ha hla hb hlb Ha Hb hv
    by_cases h1 : n = 0
    · have d1 : (((n : Nat) : Int) == 0) = true := by simp [h1]
      go_enter Tryz.func21, Tryz.ntmps21
      go_wp2_with fail
      go_ret
      exact ⟨_, [], rfl, OwU.nil _ _, Nm.nil, by rw [HV.out]; rfl, Nat.zero_le _, Below.refl _ _⟩
    · have d1 : (((n : Nat) : Int) == 0) = false := by simp; omega
      have d2 : (((n' : Nat) : Int) == 0) = true := by simp; omega
      go_enter Tryz.func21, Tryz.ntmps21
      go_wp2_with fail
      go_ret
      exact ⟨_, [], rfl, OwU.nil _ _, Nm.nil, by rw [HV.out]; rfl, Nat.zero_le _, Below.refl _ _⟩
  have d1 : (((n : Nat) : Int) == 0) = false := by simp; omega
  have d2 : (((n' : Nat) : Int) == 0) = false := by simp; omega
  obtain ⟨m, hm⟩ : ∃ m, n + n' = m := ⟨_, rfl⟩
  have hmk := mk_zerU w m ((n : Int) + (n' : Int)) (by omega) (by omega)
  obtain ⟨g, hg⟩ : ∃ g, w.heap.size = g := ⟨_, rfl⟩
  obtain ⟨W0, hW0⟩ : ∃ W0, W0 = w.alloc (.cells (zs (.int .u32 0) m) 76) := ⟨_, rfl⟩
  rw [← hW0, hg] at hmk
  have HB0 : Hid (Below g w W0) := Lib.hid (by rw [hW0, ← hg]; exact (Below.refl _ _).alloc (Nat.le_refl _) _)
  have HK0 : Hid (Blk W0 g 76 (uv (List.replicate m 0))) := Lib.hid (by rw [hW0, ← hg, ← uv_rep]; exact Blk.made w 76 (.int .u32 0) m)
  have hz0 : W0.heap.size = g + 1 := by rw [hW0, ← hg]; simp
  have hgB : B ≤ g := by omega
  have HG := Lib.hid hg; have HM := Lib.hid hm
  have hm1 : n < m ∧ n' < m ∧ m ≤ 200000 := by omega
  obtain ⟨hmn, hmn', hm2⟩ := hm1
  have hn0 : 0 < n := by omega
  have hn0' : 0 < n' := by omega
  clear ha hla hb hlb Ha Hb hW0 hg h0
  clear hm
  go_enter Tryz.func21, Tryz.ntmps21
  go_wp2_with fail
  go_loopw [27] (fun i wr => ∃ (k : Nat) (out : List Nat), k ≤ n ∧ i = .int .i64 (k : Int) ∧ Hid (Blk wr g 76 (uv out)) ∧ Hid (PrI a b k out) ∧ Hid (Kp (fun q => q = g) W0 wr)) (fun i _ => n - (intOf i).toNat)
  case atStart => exact ⟨0, List.replicate m 0, Nat.zero_le _, rfl, HK0.out, by rw [← HM.out, ← HLA.out, ← HLB.out]; exact PrI.start a b, Kp.refl _ _⟩
  case round =>
    as_aux_lemma =>
      clear HK0
      obtain ⟨k, out, hk, rfl, HK, HP, HW⟩ := hrel
      have hz := HW.out.size
      have hol : out.length = m := by rw [HP.out.l, HLA.out, HLB.out, HM.out]
      have HBW : Hid (Below B w wr) := Lib.hid ((HB0.out.mono hgB).trans (HW.out.bel (by omega) (fun q hq e => by have e2 : q = g := e; omega)))
      by_cases hlt : k < n
      · as_aux_lemma =>
          have d0 : decide ((k : Int) < (n : Int)) = true := decide_eq_true (by omega)
          have hkm : k + n' < m := by have := HM.out; omega
          have hx := getD_lt (b := 1000000000) (by decide) HNA.out.d k
          have HRW := Lib.hid (RwI.start (b := b) (x := a.getD k 0) (i := k) HP.out.d)
          obtain ⟨ba, oa, rfl, hba, hca⟩ := (HA.out.below HBW.out).at_ (by rw [HLA.out]; omega)
          have ca := hca k (by rw [HLA.out]; exact hlt)
          obtain ⟨x, hxe⟩ : ∃ x, x = a.getD k 0 := ⟨_, rfl⟩
          rw [← hxe] at ca hx HRW
          have HX := Lib.hid hxe
          clear hca hxe
          obtain ⟨wo, rfl⟩ : ∃ wo : World, wo = wr := ⟨_, rfl⟩
          go_wp2_with fail
          go_loopw [8, 34] (fun cy i wr => ∃ (j c : Nat) (o2 : List Nat), j ≤ n' ∧ i = .int .i64 (j : Int) ∧ cy = .int .u64 (c : Int) ∧ Hid (Blk wr g 76 (uv o2)) ∧ Hid (RwI out b x k j o2 c) ∧ Hid (Kp (fun q => q = g) wo wr)) (fun _ i _ => n' - (intOf i).toNat)
          case atStart => exact ⟨0, 0, out, Nat.zero_le _, rfl, rfl, HK.out, HRW.out, Kp.refl _ _⟩
          case round =>
            as_aux_lemma =>
              clear HRW ca
              obtain ⟨j, cy, o2, hj, rfl, rfl, HK2, HR, HW2⟩ := hrel
              have hz2 := HW2.out.size
              have hcy := HR.out.cy
              have hol2 : o2.length = m := by rw [HR.out.l, hol]
              by_cases hlj : j < n'
              · as_aux_lemma =>
                  have d1 : decide ((j : Int) < (n' : Int)) = true := decide_eq_true (by omega)
                  have hy := getD_lt (b := 1000000000) (by decide) HNB.out.d j
                  have ho := getD_lt (b := 1000000000) (by decide) HR.out.d (k + j)
                  have HST := Lib.hid (HR.out.step hx HNB.out.d (by rw [HLB.out]; exact hlj) (by rw [hol, HLB.out]; omega))
                  obtain ⟨bb, ob, rfl, hbb, hcb⟩ := (HB.out.below (HBW.out.trans (HW2.out.bel (by omega) (fun q hq e => by have e2 : q = g := e; omega)))).at_ (by rw [HLB.out]; omega)
                  have cb := hcb j (by rw [HLB.out]; exact hlj)
                  have co := HK2.out.ucell (k := k + j) (by omega)
                  obtain ⟨y, hye⟩ : ∃ y, y = b.getD j 0 := ⟨_, rfl⟩
                  obtain ⟨o, hoe⟩ : ∃ o, o = o2.getD (k + j) 0 := ⟨_, rfl⟩
                  rw [← hye] at cb hy HST
                  rw [← hoe] at co ho HST
                  have hmp := mul_part (c := cy) ho hx hy hcy
                  obtain ⟨p, hp⟩ : ∃ p : Nat, x * y = p := ⟨_, rfl⟩
                  have hpi : (x : Int) * (y : Int) = (p : Int) := by rw [← hp]; simp
                  rw [hp] at hmp HST
                  obtain ⟨hmp1, hmp2⟩ := hmp
                  have HSET := Lib.hid (HK2.out.uset (k + j) ((cy + (o + p)) % 1000000000))
                  have HSK := Lib.hid (HW2.out.set_ (p := ⟨g, k + j, none⟩) (.inr rfl) (.int .u32 (((cy + (o + p)) % 1000000000 : Nat) : Int)))
                  rw [show ((((cy + (o + p)) % 1000000000 : Nat)) : Int) = ((cy : Int) + ((o : Int) + (p : Int))) % 1000000000 by omega] at HSET HSK
                  have hfz := HK2.out.frozen (k + j)
                  obtain ⟨kj, hkj⟩ : ∃ kj, k + j = kj := ⟨_, rfl⟩
                  rw [hkj] at co HST HSET HSK hfz
                  have hkji : (k : Int) + (j : Int) = (kj : Int) := by omega
                  have hkjm : kj < m := by omega
                  clear hcb hye hoe hp hkj HA HB
                  go_wp2_with fail
                  go_roundw
                  case rel => exact ⟨j + 1, (cy + (o + p)) / 1000000000, _, by omega, by go_num, by congr 1, HSET.out, HST.out, HSK.out⟩
                  case measure => simp [intOf]; omega
              · as_aux_lemma =>
                  have d1 : decide ((j : Int) < (n' : Int)) = false := decide_eq_false (by omega)
                  obtain rfl : j = n' := by omega
                  obtain ⟨q, hq⟩ : ∃ q, k + j = q := ⟨_, rfl⟩
                  have hqi : (k : Int) + (j : Int) = (q : Int) := by omega
                  have hqm : q < m := by omega
                  have co := HK2.out.ucell (k := q) (by omega)
                  have hfz := HK2.out.frozen q
                  have HSET := Lib.hid (HK2.out.uset q cy)
                  have HSK := Lib.hid ((HW.out.trans HW2.out).set_ (p := ⟨g, q, none⟩) (.inr rfl) (.int .u32 (cy : Int)))
                  have HPR := Lib.hid (HP.out.row (out := o2) (c := cy) (by rw [HLA.out]; exact hlt) (by rw [HLB.out, ← HX.out]; exact HR.out))
                  rw [HLB.out, hq] at HPR
                  clear hq HA HB
                  go_wp2_with fail
                  go_roundw
                  case rel => exact ⟨k + 1, _, by omega, by go_num, HSET.out, HPR.out, HSK.out⟩
                  case measure => simp [intOf]; omega
      · as_aux_lemma =>
          have d0 : decide ((k : Int) < (n : Int)) = false := decide_eq_false (by omega)
          obtain rfl : k = n := by omega
          have HDN := Lib.hid (PrI.done (a := a) (b := b) (out := out) (by rw [HLA.out]; exact HP.out) HNA.out HNB.out (fun e => by have := HLA.out; rw [e] at this; simp at this; omega) (fun e => by have := HLB.out; rw [e] at this; simp at this; omega))
          obtain ⟨⟨o, x, rfl, hox, h1, h2⟩, h3⟩ := HDN.out
          have H1 := Lib.hid h1; have H2 := Lib.hid h2; have H3 := Lib.hid h3
          obtain ⟨q, hq⟩ : ∃ q, o.length = q := ⟨_, rfl⟩
          have hqm : m = q + 1 := by rw [← hol, ← hq]; simp
          have HQ := Lib.hid hq
          have HM2 := Lib.hid hqm
          have co := HK.out.ucell (k := q) (by rw [hol]; omega)
          have hx0 : (o ++ [x]).getD q 0 = x := by rw [← hq]; simp
          rw [hx0] at co
          have hqi : (m : Int) - 1 = (q : Int) := by omega
          have hql : q < m := by omega
          have HOW : Hid (Below w.heap.size w wr) := Lib.hid (by rw [HG.out]; exact HB0.out.trans (HW.out.bel (by omega) (fun q hq e => by have e2 : q = g := e; omega)))
          have hgw := HG.out
          have HLE : Hid (q + 1 = k + n') := Lib.hid (by rw [HM.out]; exact hqm.symm)
          clear HDN h1 h2 h3 hq hx0 hox hqm HA HB HP
          by_cases hx : x = 0
          · have d1 : ((x : Int) == 0) = true := by simp [hx]
            have HO : Hid (OwU wr w.heap.size (.slice (some ⟨g, 0, none⟩) q m) o) := Lib.hid (HK.out.ownU (by omega) hol.symm (by omega) (by omega) (by rw [← HQ.out]; simp))
            clear hol
            go_wp2_with fail
            go_ret
            exact ⟨_, o, rfl, HO.out, (H2.out hx).1, (H2.out hx).2, by rw [HQ.out]; have := HLE.out; omega, HOW.out⟩
          · have d1 : ((x : Int) == 0) = false := by simp; omega
            have HO : Hid (OwU wr w.heap.size (.slice (some ⟨g, 0, none⟩) m m) (o ++ [x])) := Lib.hid (HK.out.ownU (by omega) hol.symm (by omega) (by omega) (by rw [← hol, List.take_length]))
            clear hol
            go_wp2_with fail
            go_ret
            exact ⟨_, o ++ [x], rfl, HO.out, H1.out hx, H3.out, by rw [List.length_append, List.length_singleton, HQ.out]; have := HLE.out; omega, HOW.out⟩
end Go.Proofs.YtkcpfpofimkkiaaGreatDoor
