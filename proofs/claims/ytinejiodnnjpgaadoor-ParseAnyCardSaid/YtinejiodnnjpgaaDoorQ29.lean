/- The law's told: no error on both sides. · strings.Builder's String and strconv.Itoa laid at this program: written by the kit's laying tool (lay-plain) for this seat, names turned. -/
import Derived.Test.YtinejiodnnjpgaaDoorQ14
import Derived.Shelf.Strings.Builder1
import Derived.Shelf.Strings.BuilderF
import Derived.Shelf.Strings.BuilderK
import Derived.Shelf.Strconv.Itoa0
import Derived.Shelf.Strconv.Itoa1
import Derived.Shelf.LaysM
import Derived.Shelf.Strconv.Itoa2
import Derived.Shelf.Strconv.Itoa3
import Derived.Ground.Names2Prog
import Derived.Test.YtinejiodnnjpgaaDoorProg
namespace Go.Proofs.YtinejiodnnjpgaaDoor
open Go.RowKit BigFrame
set_option linter.unusedVariables false
set_option linter.unusedSimpArgs false
set_option maxRecDepth 100000

theorem told_nil (at_ : Int) (w : World) : Calls Tryd.prog 21 #[.nilIface, .nilIface, .int .i64 at_] w fun e w' => e = .returned (.bool true) ∧ w' = w := by
  have HC := Lib.hid (code_nil w)
  go_enter Tryd.func21, Tryd.ntmps21
  go_wp2_with fail
  refine HC.out.mono ?_
  rintro e w5 ⟨rfl, rfl⟩
  go_wp2_with fail
  refine HC.out.mono ?_
  rintro e w5 ⟨rfl, rfl⟩
  go_wp2_with fail
  go_ret
  exact ⟨rfl, rfl⟩
theorem told_fault (i : Nat) (hi : i < 7) (w : World) (B : Nat) (hB : B ≤ w.heap.size) (E : Nat → Addr) (hE : ErW w B E) (pb po : Nat) (at_ : Int) (hpb : pb < w.heap.size) (hc0 : w.cell? ⟨pb, po, none⟩ = some (ew (E i))) (hc1 : w.cell? ⟨pb, po + 1, none⟩ = some (.int .i64 at_)) :
    Calls Tryd.prog 21 #[.iface 27 (.pointer (some ⟨pb, po, none⟩)), ew (E i), .int .i64 at_] w fun e w' => e = .returned (.bool true) ∧ Below w.heap.size w w' := by
  have HC := Lib.hid (code_fault i hi w B hB E hE pb po at_ hpb hc0 hc1)
  have HE := Lib.hid hE
  clear hE hc0 hc1
  go_enter Tryd.func21, Tryd.ntmps21
  go_wp2_with fail
  refine HC.out.mono ?_
  rintro e w5 ⟨rfl, hb5⟩
  have HD := Lib.hid (code_err i hi w5 B (Nat.le_trans hB hb5.size) E (HE.out.below (hb5.mono hB)))
  have HB := Lib.hid hb5
  clear hb5
  go_wp2_with fail
  refine HD.out.mono ?_
  rintro e w6 ⟨rfl, hb6⟩
  have HF := Lib.hid (HB.out.trans (hb6.mono HB.out.size))
  clear hb6
  go_wp2_with fail
  go_ret
  exact ⟨ret_eq (by simp), HF.out⟩
end Go.Proofs.YtinejiodnnjpgaaDoor
namespace Go.Proofs.YtinejiodnnjpgaaDoor
open Go.Shelf
def y_lays169_ren : Go.Shelf.Ren := ⟨fun | 169 => 31 | n => n, fun | 70 => 72 | 9 => 9 | 0 => 0 | 72 => 75 | 37 => 73 | 127 => 119 | 3 => 3 | 5 => 5 | n => n, fun | n => n⟩
theorem y_lays169 : Go.Proofs.Lays.n169 Tryd.prog y_lays169_ren := {
  mixed := by kernel_rfl
  f169 := Tryd.func31.trans (congrArg some (by kernel_rfl))
  t0 := Tryd.underlying0
  a0 := Tryd.isAgg0
  z0 := Tryd.sizeOf0
  v0 := Tryd.zeroValue0
  t3 := Tryd.underlying3
  a3 := Tryd.isAgg3
  z3 := Tryd.sizeOf3
  v3 := Tryd.zeroValue3
  t9 := Tryd.underlying9
  a9 := Tryd.isAgg9
  z9 := Tryd.sizeOf9
  v9 := Tryd.zeroValue9
  t37 := Tryd.underlying73
  a37 := Tryd.isAgg73
  z37 := Tryd.sizeOf73
  v37 := Tryd.zeroValue73
  t70 := Tryd.underlying72
  a70 := Tryd.isAgg72
  z70 := Tryd.sizeOf72
  v70 := Tryd.zeroValue72
  t72 := Tryd.underlying75
  a72 := Tryd.isAgg75
  z72 := Tryd.sizeOf75
  v72 := Tryd.zeroValue75
  t127 := Tryd.underlying119
  a127 := Tryd.isAgg119
  z127 := Tryd.sizeOf119
  v127 := Tryd.zeroValue119 }
theorem y_Builder_Extra_169 : Builder.Extra Tryd.prog y_lays169_ren := {
  sizeBuilder := by kernel_rfl
  liesBuilder := by kernel_rfl
  t5 := Tryd.underlying5
  a5 := Tryd.isAgg5
  z5 := Tryd.sizeOf5
  v5 := Tryd.zeroValue5
  infoByte := by kernel_rfl
  cellsByte := by kernel_rfl
  sizeByte := by kernel_rfl
  neB5 := by decide }
open Go.RowKit in
theorem y_Builder_String (B b : Nat) (l : List UInt8) (w : World) (h : Lib.IsBuilder 75 5 B b (Lib.byteCells l) w) (h0 : l ≠ []) :
    Calls Tryd.prog 31 #[.pointer (some ⟨b, 0, none⟩)] w fun e w' => e = .returned (.string ⟨l.toArray⟩) ∧ Below B w w' := Any.Builder_String y_lays169 y_Builder_Extra_169 B b l w h h0
open Go.RowKit in
theorem y_Builder_String_empty (B b : Nat) (w : World) (h : Lib.IsBuilder 75 5 B b [] w) (hBw : B ≤ w.heap.size) :
    Calls Tryd.prog 31 #[.pointer (some ⟨b, 0, none⟩)] w fun e w' => e = .returned (.string ⟨#[]⟩) ∧ Below B w w' := Any.Builder_String_empty y_lays169 y_Builder_Extra_169 B b w h hBw
open Go.RowKit in
theorem y_Builder_String_any (B b : Nat) (l : List UInt8) (w : World) (h : Lib.IsBuilder 75 5 B b (Lib.byteCells l) w) (hBw : B ≤ w.heap.size) :
    Calls Tryd.prog 31 #[.pointer (some ⟨b, 0, none⟩)] w fun e w' => e = .returned (.string ⟨l.toArray⟩) ∧ Below B w w' := Any.Builder_String_any y_lays169 y_Builder_Extra_169 B b l w h hBw
open Go.RowKit in
theorem y_Builder_String_f (B b : Nat) (l : List UInt8) (w : World) (h : Lib.IsBuilderF 75 5 B b (Lib.byteCells l) w) (h0 : l ≠ []) :
    Calls Tryd.prog 31 #[.pointer (some ⟨b, 0, none⟩)] w fun e w' => e = .returned (.string ⟨l.toArray⟩) ∧ (Lib.IsBuilderF 75 5 B b (Lib.byteCells l) w' ∧ Below B w w') := Any.Builder_String_f y_lays169 y_Builder_Extra_169 B b l w h h0
open Go.RowKit in
theorem y_Builder_String_empty_f (B b : Nat) (w : World) (h : Lib.IsBuilderF 75 5 B b [] w) (hBw : B ≤ w.heap.size) :
    Calls Tryd.prog 31 #[.pointer (some ⟨b, 0, none⟩)] w fun e w' => e = .returned (.string ⟨#[]⟩) ∧ (Lib.IsBuilderF 75 5 B b [] w' ∧ Below B w w') := Any.Builder_String_empty_f y_lays169 y_Builder_Extra_169 B b w h hBw
open Go.RowKit in
theorem y_Builder_String_any_f (B b : Nat) (l : List UInt8) (w : World) (h : Lib.IsBuilderF 75 5 B b (Lib.byteCells l) w) (hBw : B ≤ w.heap.size) :
    Calls Tryd.prog 31 #[.pointer (some ⟨b, 0, none⟩)] w fun e w' => e = .returned (.string ⟨l.toArray⟩) ∧ (Lib.IsBuilderF 75 5 B b (Lib.byteCells l) w' ∧ Below B w w') := Any.Builder_String_any_f y_lays169 y_Builder_Extra_169 B b l w h hBw
open Go.RowKit in
theorem y_Builder_String_k (B b : Nat) (l : List UInt8) (w : World) (h : Lib.IsBuilderF 75 5 B b (Lib.byteCells l) w) (h0 : l ≠ []) :
    Calls Tryd.prog 31 #[.pointer (some ⟨b, 0, none⟩)] w fun e w' => e = .returned (.string ⟨l.toArray⟩) ∧ (Lib.IsBuilderF 75 5 B b (Lib.byteCells l) w' ∧ Below B w w' ∧ Lib.OthersKept 5 (some b) w w') := Any.Builder_String_k y_lays169 y_Builder_Extra_169 B b l w h h0
open Go.RowKit in
theorem y_Builder_String_empty_k (B b : Nat) (w : World) (h : Lib.IsBuilderF 75 5 B b [] w) (hBw : B ≤ w.heap.size) :
    Calls Tryd.prog 31 #[.pointer (some ⟨b, 0, none⟩)] w fun e w' => e = .returned (.string ⟨#[]⟩) ∧ (Lib.IsBuilderF 75 5 B b [] w' ∧ Below B w w' ∧ Lib.OthersKept 5 (some b) w w') := Any.Builder_String_empty_k y_lays169 y_Builder_Extra_169 B b w h hBw
open Go.RowKit in
theorem y_Builder_String_any_k (B b : Nat) (l : List UInt8) (w : World) (h : Lib.IsBuilderF 75 5 B b (Lib.byteCells l) w) (hBw : B ≤ w.heap.size) :
    Calls Tryd.prog 31 #[.pointer (some ⟨b, 0, none⟩)] w fun e w' => e = .returned (.string ⟨l.toArray⟩) ∧ (Lib.IsBuilderF 75 5 B b (Lib.byteCells l) w' ∧ Below B w w' ∧ Lib.OthersKept 5 (some b) w w') := Any.Builder_String_any_k y_lays169 y_Builder_Extra_169 B b l w h hBw
def y_lays129_ren : Go.Shelf.Ren := ⟨fun | 129 => 70 | n => n, fun | 53 => 143 | 3 => 3 | 4 => 4 | 46 => 153 | 5 => 5 | 9 => 9 | n => n, fun | n => n⟩
theorem y_lays129 : Go.Proofs.Lays.n129 Tryd.prog y_lays129_ren := {
  mixed := by kernel_rfl
  f129 := Tryd.func70.trans (congrArg some (by kernel_rfl))
  t3 := Tryd.underlying3
  a3 := Tryd.isAgg3
  z3 := Tryd.sizeOf3
  v3 := Tryd.zeroValue3
  t4 := Tryd.underlying4
  a4 := Tryd.isAgg4
  z4 := Tryd.sizeOf4
  v4 := Tryd.zeroValue4
  t5 := Tryd.underlying5
  a5 := Tryd.isAgg5
  z5 := Tryd.sizeOf5
  v5 := Tryd.zeroValue5
  t9 := Tryd.underlying9
  a9 := Tryd.isAgg9
  z9 := Tryd.sizeOf9
  v9 := Tryd.zeroValue9
  t46 := Tryd.underlying153
  a46 := Tryd.isAgg153
  z46 := Tryd.sizeOf153
  v46 := Tryd.zeroValue153
  t53 := Tryd.underlying143
  a53 := Tryd.isAgg143
  z53 := Tryd.sizeOf143
  v53 := Tryd.zeroValue143 }
theorem y_bits_Len64 (x : Int) (w : World) (h0 : 0 ≤ x) (h1 : x ≤ 18446744073709551615) :
    Calls Tryd.prog 70 #[.int .u64 x] w fun e w' => e = .returned (.int .i64 (Lib.bitLen x.toNat)) ∧ w' = w := Any.bits_Len64 y_lays129 x w h0 h1
def y_lays317_ren : Go.Shelf.Ren := ⟨fun | 317 => 69 | n => n, fun | 3 => 3 | 46 => 153 | n => n, fun | n => n⟩
theorem y_lays317 : Go.Proofs.Lays.n317 Tryd.prog y_lays317_ren := {
  mixed := by kernel_rfl
  f317 := Tryd.func69.trans (congrArg some (by kernel_rfl))
  t3 := Tryd.underlying3
  a3 := Tryd.isAgg3
  z3 := Tryd.sizeOf3
  v3 := Tryd.zeroValue3
  t46 := Tryd.underlying153
  a46 := Tryd.isAgg153
  z46 := Tryd.sizeOf153
  v46 := Tryd.zeroValue153 }
open Go.Lib in
theorem y_internal_strconv_log10Pow2 (x : Nat) (h : x ≤ 64) (w : World) :
    Calls Tryd.prog 69 #[.int .i64 x] w fun e w' => e = .returned (.int .i64 (Lib.l10 x)) ∧ w' = w := Any.internal_strconv_log10Pow2 y_lays317 x h w
def y_lays318_ren : Go.Shelf.Ren := ⟨fun | 318 => 71 | n => n, fun | 3 => 3 | 4 => 4 | n => n, fun | n => n⟩
theorem y_lays318 : Go.Proofs.Lays.n318 Tryd.prog y_lays318_ren := {
  mixed := by kernel_rfl
  f318 := Tryd.func71.trans (congrArg some (by kernel_rfl))
  t3 := Tryd.underlying3
  a3 := Tryd.isAgg3
  z3 := Tryd.sizeOf3
  v3 := Tryd.zeroValue3
  t4 := Tryd.underlying4
  a4 := Tryd.isAgg4
  z4 := Tryd.sizeOf4
  v4 := Tryd.zeroValue4 }
open Go.Lib in
theorem y_internal_strconv_bool2_int (b : Bool) (w : World) :
    Calls Tryd.prog 71 #[.bool b] w fun e w' => e = .returned (.int .i64 (if b then 1 else 0)) ∧ w' = w := Any.internal_strconv_bool2_int y_lays318 b w
def y_lays283_ren : Go.Shelf.Ren := ⟨fun | 283 => 65 | n => n, fun | 3 => 3 | 9 => 9 | 4 => 4 | n => n, fun | n => n⟩
theorem y_lays283 : Go.Proofs.Lays.n283 Tryd.prog y_lays283_ren := {
  mixed := by kernel_rfl
  f283 := Tryd.func65.trans (congrArg some (by kernel_rfl))
  t3 := Tryd.underlying3
  a3 := Tryd.isAgg3
  z3 := Tryd.sizeOf3
  v3 := Tryd.zeroValue3
  t4 := Tryd.underlying4
  a4 := Tryd.isAgg4
  z4 := Tryd.sizeOf4
  v4 := Tryd.zeroValue4
  t9 := Tryd.underlying9
  a9 := Tryd.isAgg9
  z9 := Tryd.sizeOf9
  v9 := Tryd.zeroValue9 }
open Go.Lib in
theorem y_internal_strconv_small (i : Nat) (h : i < 100) (w : World) :
    Calls Tryd.prog 65 #[.int .i64 i] w fun e w' => e = .returned (.string ⟨(Lib.decDigits i).toArray⟩) ∧ w' = w := Any.internal_strconv_small y_lays283 i h w
def y_laysM284_ren : Go.Shelf.Ren := ⟨fun | 284 => 66 | 129 => 70 | 317 => 69 | 318 => 71 | n => n, fun | 53 => 143 | 3 => 3 | 212 => 150 | 0 => 0 | 4 => 4 | 46 => 153 | 5 => 5 | 9 => 9 | n => n, fun | 17 => 8 | n => n⟩
theorem y_laysM284 : Go.Proofs.LaysM.n284 Tryd.prog y_laysM284_ren := {
  mixed := by kernel_rfl
  f129 := Tryd.func70.trans (congrArg some (by kernel_rfl))
  f284 := Tryd.func66.trans (congrArg some (by kernel_rfl))
  f317 := Tryd.func69.trans (congrArg some (by kernel_rfl))
  f318 := Tryd.func71.trans (congrArg some (by kernel_rfl))
  t0 := Tryd.underlying0
  a0 := Tryd.isAgg0
  z0 := Tryd.sizeOf0
  v0 := Tryd.zeroValue0
  t3 := Tryd.underlying3
  a3 := Tryd.isAgg3
  z3 := Tryd.sizeOf3
  v3 := Tryd.zeroValue3
  t4 := Tryd.underlying4
  a4 := Tryd.isAgg4
  z4 := Tryd.sizeOf4
  v4 := Tryd.zeroValue4
  t5 := Tryd.underlying5
  a5 := Tryd.isAgg5
  z5 := Tryd.sizeOf5
  v5 := Tryd.zeroValue5
  t9 := Tryd.underlying9
  a9 := Tryd.isAgg9
  z9 := Tryd.sizeOf9
  v9 := Tryd.zeroValue9
  t46 := Tryd.underlying153
  a46 := Tryd.isAgg153
  z46 := Tryd.sizeOf153
  v46 := Tryd.zeroValue153
  t53 := Tryd.underlying143
  a53 := Tryd.isAgg143
  z53 := Tryd.sizeOf143
  v53 := Tryd.zeroValue143
  t212 := Tryd.underlying150
  a212 := Tryd.isAgg150
  z212 := Tryd.sizeOf150
  v212 := Tryd.zeroValue150
  g17 := by kernel_rfl
  i0 := by kernel_rfl
  i3 := by kernel_rfl
  i4 := by kernel_rfl
  i5 := by kernel_rfl
  i9 := by kernel_rfl
  i46 := by kernel_rfl
  i53 := by kernel_rfl
  i212 := by kernel_rfl
  m17 := by kernel_rfl }
open Go.Lib in
theorem y_internal_strconv_numDigits (u : Nat) (h1 : 1 ≤ u) (h2 : u < 18446744073709551616) (w : World) (htab : Lib.TabIs Tryd.prog w "internal/strconv.uint64pow10" .u64 Lib.pow10Tab) :
    Calls Tryd.prog 66 #[.int .u64 u] w fun e w' => e = .returned (.int .i64 (Lib.nDigits u)) ∧ w' = w := Any.internal_strconv_numDigits y_laysM284 u h1 h2 w htab
def y_lays285_ren : Go.Shelf.Ren := ⟨fun | 285 => 67 | n => n, fun | 37 => 73 | 53 => 143 | 3 => 3 | 4 => 4 | 51 => 151 | 9 => 9 | 5 => 5 | 0 => 0 | n => n, fun | n => n⟩
theorem y_lays285 : Go.Proofs.Lays.n285 Tryd.prog y_lays285_ren := {
  mixed := by kernel_rfl
  f285 := Tryd.func67.trans (congrArg some (by kernel_rfl))
  t0 := Tryd.underlying0
  a0 := Tryd.isAgg0
  z0 := Tryd.sizeOf0
  v0 := Tryd.zeroValue0
  t3 := Tryd.underlying3
  a3 := Tryd.isAgg3
  z3 := Tryd.sizeOf3
  v3 := Tryd.zeroValue3
  t4 := Tryd.underlying4
  a4 := Tryd.isAgg4
  z4 := Tryd.sizeOf4
  v4 := Tryd.zeroValue4
  t5 := Tryd.underlying5
  a5 := Tryd.isAgg5
  z5 := Tryd.sizeOf5
  v5 := Tryd.zeroValue5
  t9 := Tryd.underlying9
  a9 := Tryd.isAgg9
  z9 := Tryd.sizeOf9
  v9 := Tryd.zeroValue9
  t37 := Tryd.underlying73
  a37 := Tryd.isAgg73
  z37 := Tryd.sizeOf73
  v37 := Tryd.zeroValue73
  t51 := Tryd.underlying151
  a51 := Tryd.isAgg151
  z51 := Tryd.sizeOf151
  v51 := Tryd.zeroValue151
  t53 := Tryd.underlying143
  a53 := Tryd.isAgg143
  z53 := Tryd.sizeOf143
  v53 := Tryd.zeroValue143 }
open Go.RowKit Go.Sort Go.Lib in
theorem y_internal_strconv_formatBase10 (blk off cap : Nat) (u : Nat) (d : Array UInt8) (w : World) (hH : Holds (fun (b : UInt8) => Value.int .u8 (b.toNat : Int)) w blk off d) (hu : u < 10 ^ d.size) (hu64 : u < 18446744073709551616) (hsz : d.size < 4611686018427387904) :
    Calls Tryd.prog 67 #[.slice (some ⟨blk, off, none⟩) d.size cap, .int .u64 u] w fun e w' =>
      e = .returned (.tuple #[]) ∧ ∃ (n v' : Nat) (dk : Array UInt8), w' = (putRow (fun (b : UInt8) => Value.int .u8 (b.toNat : Int)) w blk off dk).drewN n ∧ FmtInv d.size u 0 v' dk := Any.internal_strconv_formatBase10 y_lays285 blk off cap u d w hH hu hu64 hsz
def y_laysM246_ren : Go.Shelf.Ren := ⟨fun | 246 => 64 | 283 => 65 | 284 => 66 | 285 => 67 | 286 => 68 | 129 => 70 | 317 => 69 | 318 => 71 | 319 => 72 | 320 => 73 | 337 => 74 | 338 => 75 | n => n, fun | 2 => 2 | 3 => 3 | 9 => 9 | 4 => 4 | 171 => 142 | 0 => 0 | 53 => 143 | 37 => 73 | 5 => 5 | 173 => 146 | 212 => 150 | 51 => 151 | 20 => 20 | 213 => 152 | 46 => 153 | 232 => 156 | 233 => 157 | n => n, fun | 17 => 8 | 18 => 9 | 19 => 10 | n => n⟩
theorem y_laysM246 : Go.Proofs.LaysM.n246 Tryd.prog y_laysM246_ren := {
  mixed := by kernel_rfl
  f129 := Tryd.func70.trans (congrArg some (by kernel_rfl))
  f246 := Tryd.func64.trans (congrArg some (by kernel_rfl))
  f283 := Tryd.func65.trans (congrArg some (by kernel_rfl))
  f284 := Tryd.func66.trans (congrArg some (by kernel_rfl))
  f285 := Tryd.func67.trans (congrArg some (by kernel_rfl))
  f286 := Tryd.func68.trans (congrArg some (by kernel_rfl))
  f317 := Tryd.func69.trans (congrArg some (by kernel_rfl))
  f318 := Tryd.func71.trans (congrArg some (by kernel_rfl))
  f319 := Tryd.func72.trans (congrArg some (by kernel_rfl))
  f320 := Tryd.func73.trans (congrArg some (by kernel_rfl))
  f337 := Tryd.func74.trans (congrArg some (by kernel_rfl))
  f338 := Tryd.func75.trans (congrArg some (by kernel_rfl))
  t0 := Tryd.underlying0
  a0 := Tryd.isAgg0
  z0 := Tryd.sizeOf0
  v0 := Tryd.zeroValue0
  t2 := Tryd.underlying2
  a2 := Tryd.isAgg2
  z2 := Tryd.sizeOf2
  v2 := Tryd.zeroValue2
  t3 := Tryd.underlying3
  a3 := Tryd.isAgg3
  z3 := Tryd.sizeOf3
  v3 := Tryd.zeroValue3
  t4 := Tryd.underlying4
  a4 := Tryd.isAgg4
  z4 := Tryd.sizeOf4
  v4 := Tryd.zeroValue4
  t5 := Tryd.underlying5
  a5 := Tryd.isAgg5
  z5 := Tryd.sizeOf5
  v5 := Tryd.zeroValue5
  t9 := Tryd.underlying9
  a9 := Tryd.isAgg9
  z9 := Tryd.sizeOf9
  v9 := Tryd.zeroValue9
  t20 := Tryd.underlying20
  a20 := Tryd.isAgg20
  z20 := Tryd.sizeOf20
  v20 := Tryd.zeroValue20
  t37 := Tryd.underlying73
  a37 := Tryd.isAgg73
  z37 := Tryd.sizeOf73
  v37 := Tryd.zeroValue73
  t46 := Tryd.underlying153
  a46 := Tryd.isAgg153
  z46 := Tryd.sizeOf153
  v46 := Tryd.zeroValue153
  t51 := Tryd.underlying151
  a51 := Tryd.isAgg151
  z51 := Tryd.sizeOf151
  v51 := Tryd.zeroValue151
  t53 := Tryd.underlying143
  a53 := Tryd.isAgg143
  z53 := Tryd.sizeOf143
  v53 := Tryd.zeroValue143
  t171 := Tryd.underlying142
  a171 := Tryd.isAgg142
  z171 := Tryd.sizeOf142
  v171 := Tryd.zeroValue142
  t173 := Tryd.underlying146
  a173 := Tryd.isAgg146
  z173 := Tryd.sizeOf146
  v173 := Tryd.zeroValue146
  t212 := Tryd.underlying150
  a212 := Tryd.isAgg150
  z212 := Tryd.sizeOf150
  v212 := Tryd.zeroValue150
  t213 := Tryd.underlying152
  a213 := Tryd.isAgg152
  z213 := Tryd.sizeOf152
  t232 := Tryd.underlying156
  a232 := Tryd.isAgg156
  z232 := Tryd.sizeOf156
  v232 := Tryd.zeroValue156
  t233 := Tryd.underlying157
  a233 := Tryd.isAgg157
  z233 := Tryd.sizeOf157
  v233 := Tryd.zeroValue157
  g17 := by kernel_rfl
  g18 := by kernel_rfl
  g19 := by kernel_rfl
  i0 := by kernel_rfl
  i2 := by kernel_rfl
  i3 := by kernel_rfl
  i4 := by kernel_rfl
  i5 := by kernel_rfl
  i9 := by kernel_rfl
  i20 := by kernel_rfl
  i37 := by kernel_rfl
  i46 := by kernel_rfl
  i51 := by kernel_rfl
  i53 := by kernel_rfl
  i171 := by kernel_rfl
  i173 := by kernel_rfl
  i212 := by kernel_rfl
  i232 := by kernel_rfl
  i233 := by kernel_rfl
  m17 := by kernel_rfl
  m18 := by kernel_rfl
  m19 := by kernel_rfl }
open Go.RowKit Go.Sort Go.Lib in
theorem y_internal_strconv_FormatInt_10 (n : Int) (h0 : -9223372036854775808 ≤ n) (h1 : n ≤ 9223372036854775807) (w : World) (htab : Lib.TabIs Tryd.prog w "internal/strconv.uint64pow10" .u64 Lib.pow10Tab) :
    Calls Tryd.prog 64 #[.int .i64 n, .int .i64 10] w fun e w' => e = .returned (.string ⟨(Lib.itoa n).toArray⟩) ∧ ∃ k os, w' = grow (w.drewN k) os := Any.internal_strconv_FormatInt_10 y_laysM246 n h0 h1 w htab
def y_lays246_ren : Go.Shelf.Ren := ⟨fun | 246 => 64 | 283 => 65 | 284 => 66 | 285 => 67 | 286 => 68 | 129 => 70 | 317 => 69 | 318 => 71 | 319 => 72 | 320 => 73 | 337 => 74 | 338 => 75 | n => n, fun | 2 => 2 | 3 => 3 | 9 => 9 | 4 => 4 | 171 => 142 | 0 => 0 | 53 => 143 | 37 => 73 | 5 => 5 | 173 => 146 | 212 => 150 | 51 => 151 | 20 => 20 | 213 => 152 | 46 => 153 | 232 => 156 | 233 => 157 | n => n, fun | 17 => 8 | 18 => 9 | 19 => 10 | n => n⟩
theorem y_lays246 : Go.Proofs.Lays.n246 Tryd.prog y_lays246_ren := {
  mixed := by kernel_rfl
  f129 := Tryd.func70.trans (congrArg some (by kernel_rfl))
  f246 := Tryd.func64.trans (congrArg some (by kernel_rfl))
  f283 := Tryd.func65.trans (congrArg some (by kernel_rfl))
  f284 := Tryd.func66.trans (congrArg some (by kernel_rfl))
  f285 := Tryd.func67.trans (congrArg some (by kernel_rfl))
  f286 := Tryd.func68.trans (congrArg some (by kernel_rfl))
  f317 := Tryd.func69.trans (congrArg some (by kernel_rfl))
  f318 := Tryd.func71.trans (congrArg some (by kernel_rfl))
  f319 := Tryd.func72.trans (congrArg some (by kernel_rfl))
  f320 := Tryd.func73.trans (congrArg some (by kernel_rfl))
  f337 := Tryd.func74.trans (congrArg some (by kernel_rfl))
  f338 := Tryd.func75.trans (congrArg some (by kernel_rfl))
  t0 := Tryd.underlying0
  a0 := Tryd.isAgg0
  z0 := Tryd.sizeOf0
  v0 := Tryd.zeroValue0
  t2 := Tryd.underlying2
  a2 := Tryd.isAgg2
  z2 := Tryd.sizeOf2
  v2 := Tryd.zeroValue2
  t3 := Tryd.underlying3
  a3 := Tryd.isAgg3
  z3 := Tryd.sizeOf3
  v3 := Tryd.zeroValue3
  t4 := Tryd.underlying4
  a4 := Tryd.isAgg4
  z4 := Tryd.sizeOf4
  v4 := Tryd.zeroValue4
  t5 := Tryd.underlying5
  a5 := Tryd.isAgg5
  z5 := Tryd.sizeOf5
  v5 := Tryd.zeroValue5
  t9 := Tryd.underlying9
  a9 := Tryd.isAgg9
  z9 := Tryd.sizeOf9
  v9 := Tryd.zeroValue9
  t20 := Tryd.underlying20
  a20 := Tryd.isAgg20
  z20 := Tryd.sizeOf20
  v20 := Tryd.zeroValue20
  t37 := Tryd.underlying73
  a37 := Tryd.isAgg73
  z37 := Tryd.sizeOf73
  v37 := Tryd.zeroValue73
  t46 := Tryd.underlying153
  a46 := Tryd.isAgg153
  z46 := Tryd.sizeOf153
  v46 := Tryd.zeroValue153
  t51 := Tryd.underlying151
  a51 := Tryd.isAgg151
  z51 := Tryd.sizeOf151
  v51 := Tryd.zeroValue151
  t53 := Tryd.underlying143
  a53 := Tryd.isAgg143
  z53 := Tryd.sizeOf143
  v53 := Tryd.zeroValue143
  t171 := Tryd.underlying142
  a171 := Tryd.isAgg142
  z171 := Tryd.sizeOf142
  v171 := Tryd.zeroValue142
  t173 := Tryd.underlying146
  a173 := Tryd.isAgg146
  z173 := Tryd.sizeOf146
  v173 := Tryd.zeroValue146
  t212 := Tryd.underlying150
  a212 := Tryd.isAgg150
  z212 := Tryd.sizeOf150
  v212 := Tryd.zeroValue150
  t213 := Tryd.underlying152
  a213 := Tryd.isAgg152
  z213 := Tryd.sizeOf152
  t232 := Tryd.underlying156
  a232 := Tryd.isAgg156
  z232 := Tryd.sizeOf156
  v232 := Tryd.zeroValue156
  t233 := Tryd.underlying157
  a233 := Tryd.isAgg157
  z233 := Tryd.sizeOf157
  v233 := Tryd.zeroValue157
  g17 := by kernel_rfl
  g18 := by kernel_rfl
  g19 := by kernel_rfl }
open Go.RowKit Go.Sort Go.Lib in
theorem y_internal_strconv_FormatInt_10_small (i : Nat) (hi : i < 100) (w : World) :
    Calls Tryd.prog 64 #[.int .i64 i, .int .i64 10] w fun e w' => e = .returned (.string ⟨(Lib.decDigits i).toArray⟩) ∧ w' = w := Any.internal_strconv_FormatInt_10_small y_lays246 i hi w
def y_laysM243_ren : Go.Shelf.Ren := ⟨fun | 243 => 62 | 246 => 64 | 283 => 65 | 284 => 66 | 285 => 67 | 286 => 68 | 129 => 70 | 317 => 69 | 318 => 71 | 319 => 72 | 320 => 73 | 337 => 74 | 338 => 75 | n => n, fun | 3 => 3 | 9 => 9 | 2 => 2 | 4 => 4 | 171 => 142 | 0 => 0 | 53 => 143 | 37 => 73 | 5 => 5 | 173 => 146 | 212 => 150 | 51 => 151 | 20 => 20 | 213 => 152 | 46 => 153 | 232 => 156 | 233 => 157 | n => n, fun | 17 => 8 | 18 => 9 | 19 => 10 | n => n⟩
theorem y_laysM243 : Go.Proofs.LaysM.n243 Tryd.prog y_laysM243_ren := {
  mixed := by kernel_rfl
  f129 := Tryd.func70.trans (congrArg some (by kernel_rfl))
  f243 := Tryd.func62.trans (congrArg some (by kernel_rfl))
  f246 := Tryd.func64.trans (congrArg some (by kernel_rfl))
  f283 := Tryd.func65.trans (congrArg some (by kernel_rfl))
  f284 := Tryd.func66.trans (congrArg some (by kernel_rfl))
  f285 := Tryd.func67.trans (congrArg some (by kernel_rfl))
  f286 := Tryd.func68.trans (congrArg some (by kernel_rfl))
  f317 := Tryd.func69.trans (congrArg some (by kernel_rfl))
  f318 := Tryd.func71.trans (congrArg some (by kernel_rfl))
  f319 := Tryd.func72.trans (congrArg some (by kernel_rfl))
  f320 := Tryd.func73.trans (congrArg some (by kernel_rfl))
  f337 := Tryd.func74.trans (congrArg some (by kernel_rfl))
  f338 := Tryd.func75.trans (congrArg some (by kernel_rfl))
  t0 := Tryd.underlying0
  a0 := Tryd.isAgg0
  z0 := Tryd.sizeOf0
  v0 := Tryd.zeroValue0
  t2 := Tryd.underlying2
  a2 := Tryd.isAgg2
  z2 := Tryd.sizeOf2
  v2 := Tryd.zeroValue2
  t3 := Tryd.underlying3
  a3 := Tryd.isAgg3
  z3 := Tryd.sizeOf3
  v3 := Tryd.zeroValue3
  t4 := Tryd.underlying4
  a4 := Tryd.isAgg4
  z4 := Tryd.sizeOf4
  v4 := Tryd.zeroValue4
  t5 := Tryd.underlying5
  a5 := Tryd.isAgg5
  z5 := Tryd.sizeOf5
  v5 := Tryd.zeroValue5
  t9 := Tryd.underlying9
  a9 := Tryd.isAgg9
  z9 := Tryd.sizeOf9
  v9 := Tryd.zeroValue9
  t20 := Tryd.underlying20
  a20 := Tryd.isAgg20
  z20 := Tryd.sizeOf20
  v20 := Tryd.zeroValue20
  t37 := Tryd.underlying73
  a37 := Tryd.isAgg73
  z37 := Tryd.sizeOf73
  v37 := Tryd.zeroValue73
  t46 := Tryd.underlying153
  a46 := Tryd.isAgg153
  z46 := Tryd.sizeOf153
  v46 := Tryd.zeroValue153
  t51 := Tryd.underlying151
  a51 := Tryd.isAgg151
  z51 := Tryd.sizeOf151
  v51 := Tryd.zeroValue151
  t53 := Tryd.underlying143
  a53 := Tryd.isAgg143
  z53 := Tryd.sizeOf143
  v53 := Tryd.zeroValue143
  t171 := Tryd.underlying142
  a171 := Tryd.isAgg142
  z171 := Tryd.sizeOf142
  v171 := Tryd.zeroValue142
  t173 := Tryd.underlying146
  a173 := Tryd.isAgg146
  z173 := Tryd.sizeOf146
  v173 := Tryd.zeroValue146
  t212 := Tryd.underlying150
  a212 := Tryd.isAgg150
  z212 := Tryd.sizeOf150
  v212 := Tryd.zeroValue150
  t213 := Tryd.underlying152
  a213 := Tryd.isAgg152
  z213 := Tryd.sizeOf152
  t232 := Tryd.underlying156
  a232 := Tryd.isAgg156
  z232 := Tryd.sizeOf156
  v232 := Tryd.zeroValue156
  t233 := Tryd.underlying157
  a233 := Tryd.isAgg157
  z233 := Tryd.sizeOf157
  v233 := Tryd.zeroValue157
  g17 := by kernel_rfl
  g18 := by kernel_rfl
  g19 := by kernel_rfl
  i0 := by kernel_rfl
  i2 := by kernel_rfl
  i3 := by kernel_rfl
  i4 := by kernel_rfl
  i5 := by kernel_rfl
  i9 := by kernel_rfl
  i20 := by kernel_rfl
  i37 := by kernel_rfl
  i46 := by kernel_rfl
  i51 := by kernel_rfl
  i53 := by kernel_rfl
  i171 := by kernel_rfl
  i173 := by kernel_rfl
  i212 := by kernel_rfl
  i232 := by kernel_rfl
  i233 := by kernel_rfl
  m17 := by kernel_rfl
  m18 := by kernel_rfl
  m19 := by kernel_rfl }
open Go.RowKit Go.Sort Go.Lib in
theorem y_internal_strconv_Itoa (n : Int) (h0 : -9223372036854775808 ≤ n) (h1 : n ≤ 9223372036854775807) (w : World) (htab : Lib.TabIs Tryd.prog w "internal/strconv.uint64pow10" .u64 Lib.pow10Tab) :
    Calls Tryd.prog 62 #[.int .i64 n] w fun e w' => e = .returned (.string ⟨(Lib.itoa n).toArray⟩) ∧ ∃ k os, w' = grow (w.drewN k) os := Any.internal_strconv_Itoa y_laysM243 n h0 h1 w htab
def y_lays243_ren : Go.Shelf.Ren := ⟨fun | 243 => 62 | 246 => 64 | 283 => 65 | 284 => 66 | 285 => 67 | 286 => 68 | 129 => 70 | 317 => 69 | 318 => 71 | 319 => 72 | 320 => 73 | 337 => 74 | 338 => 75 | n => n, fun | 3 => 3 | 9 => 9 | 2 => 2 | 4 => 4 | 171 => 142 | 0 => 0 | 53 => 143 | 37 => 73 | 5 => 5 | 173 => 146 | 212 => 150 | 51 => 151 | 20 => 20 | 213 => 152 | 46 => 153 | 232 => 156 | 233 => 157 | n => n, fun | 17 => 8 | 18 => 9 | 19 => 10 | n => n⟩
theorem y_lays243 : Go.Proofs.Lays.n243 Tryd.prog y_lays243_ren := {
  mixed := by kernel_rfl
  f129 := Tryd.func70.trans (congrArg some (by kernel_rfl))
  f243 := Tryd.func62.trans (congrArg some (by kernel_rfl))
  f246 := Tryd.func64.trans (congrArg some (by kernel_rfl))
  f283 := Tryd.func65.trans (congrArg some (by kernel_rfl))
  f284 := Tryd.func66.trans (congrArg some (by kernel_rfl))
  f285 := Tryd.func67.trans (congrArg some (by kernel_rfl))
  f286 := Tryd.func68.trans (congrArg some (by kernel_rfl))
  f317 := Tryd.func69.trans (congrArg some (by kernel_rfl))
  f318 := Tryd.func71.trans (congrArg some (by kernel_rfl))
  f319 := Tryd.func72.trans (congrArg some (by kernel_rfl))
  f320 := Tryd.func73.trans (congrArg some (by kernel_rfl))
  f337 := Tryd.func74.trans (congrArg some (by kernel_rfl))
  f338 := Tryd.func75.trans (congrArg some (by kernel_rfl))
  t0 := Tryd.underlying0
  a0 := Tryd.isAgg0
  z0 := Tryd.sizeOf0
  v0 := Tryd.zeroValue0
  t2 := Tryd.underlying2
  a2 := Tryd.isAgg2
  z2 := Tryd.sizeOf2
  v2 := Tryd.zeroValue2
  t3 := Tryd.underlying3
  a3 := Tryd.isAgg3
  z3 := Tryd.sizeOf3
  v3 := Tryd.zeroValue3
  t4 := Tryd.underlying4
  a4 := Tryd.isAgg4
  z4 := Tryd.sizeOf4
  v4 := Tryd.zeroValue4
  t5 := Tryd.underlying5
  a5 := Tryd.isAgg5
  z5 := Tryd.sizeOf5
  v5 := Tryd.zeroValue5
  t9 := Tryd.underlying9
  a9 := Tryd.isAgg9
  z9 := Tryd.sizeOf9
  v9 := Tryd.zeroValue9
  t20 := Tryd.underlying20
  a20 := Tryd.isAgg20
  z20 := Tryd.sizeOf20
  v20 := Tryd.zeroValue20
  t37 := Tryd.underlying73
  a37 := Tryd.isAgg73
  z37 := Tryd.sizeOf73
  v37 := Tryd.zeroValue73
  t46 := Tryd.underlying153
  a46 := Tryd.isAgg153
  z46 := Tryd.sizeOf153
  v46 := Tryd.zeroValue153
  t51 := Tryd.underlying151
  a51 := Tryd.isAgg151
  z51 := Tryd.sizeOf151
  v51 := Tryd.zeroValue151
  t53 := Tryd.underlying143
  a53 := Tryd.isAgg143
  z53 := Tryd.sizeOf143
  v53 := Tryd.zeroValue143
  t171 := Tryd.underlying142
  a171 := Tryd.isAgg142
  z171 := Tryd.sizeOf142
  v171 := Tryd.zeroValue142
  t173 := Tryd.underlying146
  a173 := Tryd.isAgg146
  z173 := Tryd.sizeOf146
  v173 := Tryd.zeroValue146
  t212 := Tryd.underlying150
  a212 := Tryd.isAgg150
  z212 := Tryd.sizeOf150
  v212 := Tryd.zeroValue150
  t213 := Tryd.underlying152
  a213 := Tryd.isAgg152
  z213 := Tryd.sizeOf152
  t232 := Tryd.underlying156
  a232 := Tryd.isAgg156
  z232 := Tryd.sizeOf156
  v232 := Tryd.zeroValue156
  t233 := Tryd.underlying157
  a233 := Tryd.isAgg157
  z233 := Tryd.sizeOf157
  v233 := Tryd.zeroValue157
  g17 := by kernel_rfl
  g18 := by kernel_rfl
  g19 := by kernel_rfl }
open Go.RowKit Go.Sort Go.Lib in
theorem y_internal_strconv_Itoa_small (i : Nat) (hi : i < 100) (w : World) :
    Calls Tryd.prog 62 #[.int .i64 i] w fun e w' => e = .returned (.string ⟨(Lib.decDigits i).toArray⟩) ∧ w' = w := Any.internal_strconv_Itoa_small y_lays243 i hi w
def y_laysM171_ren : Go.Shelf.Ren := ⟨fun | 171 => 51 | 243 => 62 | 246 => 64 | 283 => 65 | 284 => 66 | 285 => 67 | 286 => 68 | 129 => 70 | 317 => 69 | 318 => 71 | 319 => 72 | 320 => 73 | 337 => 74 | 338 => 75 | n => n, fun | 3 => 3 | 9 => 9 | 2 => 2 | 4 => 4 | 171 => 142 | 0 => 0 | 53 => 143 | 37 => 73 | 5 => 5 | 173 => 146 | 212 => 150 | 51 => 151 | 20 => 20 | 213 => 152 | 46 => 153 | 232 => 156 | 233 => 157 | n => n, fun | 17 => 8 | 18 => 9 | 19 => 10 | n => n⟩
theorem y_laysM171 : Go.Proofs.LaysM.n171 Tryd.prog y_laysM171_ren := {
  mixed := by kernel_rfl
  f129 := Tryd.func70.trans (congrArg some (by kernel_rfl))
  f171 := Tryd.func51.trans (congrArg some (by kernel_rfl))
  f243 := Tryd.func62.trans (congrArg some (by kernel_rfl))
  f246 := Tryd.func64.trans (congrArg some (by kernel_rfl))
  f283 := Tryd.func65.trans (congrArg some (by kernel_rfl))
  f284 := Tryd.func66.trans (congrArg some (by kernel_rfl))
  f285 := Tryd.func67.trans (congrArg some (by kernel_rfl))
  f286 := Tryd.func68.trans (congrArg some (by kernel_rfl))
  f317 := Tryd.func69.trans (congrArg some (by kernel_rfl))
  f318 := Tryd.func71.trans (congrArg some (by kernel_rfl))
  f319 := Tryd.func72.trans (congrArg some (by kernel_rfl))
  f320 := Tryd.func73.trans (congrArg some (by kernel_rfl))
  f337 := Tryd.func74.trans (congrArg some (by kernel_rfl))
  f338 := Tryd.func75.trans (congrArg some (by kernel_rfl))
  t0 := Tryd.underlying0
  a0 := Tryd.isAgg0
  z0 := Tryd.sizeOf0
  v0 := Tryd.zeroValue0
  t2 := Tryd.underlying2
  a2 := Tryd.isAgg2
  z2 := Tryd.sizeOf2
  v2 := Tryd.zeroValue2
  t3 := Tryd.underlying3
  a3 := Tryd.isAgg3
  z3 := Tryd.sizeOf3
  v3 := Tryd.zeroValue3
  t4 := Tryd.underlying4
  a4 := Tryd.isAgg4
  z4 := Tryd.sizeOf4
  v4 := Tryd.zeroValue4
  t5 := Tryd.underlying5
  a5 := Tryd.isAgg5
  z5 := Tryd.sizeOf5
  v5 := Tryd.zeroValue5
  t9 := Tryd.underlying9
  a9 := Tryd.isAgg9
  z9 := Tryd.sizeOf9
  v9 := Tryd.zeroValue9
  t20 := Tryd.underlying20
  a20 := Tryd.isAgg20
  z20 := Tryd.sizeOf20
  v20 := Tryd.zeroValue20
  t37 := Tryd.underlying73
  a37 := Tryd.isAgg73
  z37 := Tryd.sizeOf73
  v37 := Tryd.zeroValue73
  t46 := Tryd.underlying153
  a46 := Tryd.isAgg153
  z46 := Tryd.sizeOf153
  v46 := Tryd.zeroValue153
  t51 := Tryd.underlying151
  a51 := Tryd.isAgg151
  z51 := Tryd.sizeOf151
  v51 := Tryd.zeroValue151
  t53 := Tryd.underlying143
  a53 := Tryd.isAgg143
  z53 := Tryd.sizeOf143
  v53 := Tryd.zeroValue143
  t171 := Tryd.underlying142
  a171 := Tryd.isAgg142
  z171 := Tryd.sizeOf142
  v171 := Tryd.zeroValue142
  t173 := Tryd.underlying146
  a173 := Tryd.isAgg146
  z173 := Tryd.sizeOf146
  v173 := Tryd.zeroValue146
  t212 := Tryd.underlying150
  a212 := Tryd.isAgg150
  z212 := Tryd.sizeOf150
  v212 := Tryd.zeroValue150
  t213 := Tryd.underlying152
  a213 := Tryd.isAgg152
  z213 := Tryd.sizeOf152
  t232 := Tryd.underlying156
  a232 := Tryd.isAgg156
  z232 := Tryd.sizeOf156
  v232 := Tryd.zeroValue156
  t233 := Tryd.underlying157
  a233 := Tryd.isAgg157
  z233 := Tryd.sizeOf157
  v233 := Tryd.zeroValue157
  g17 := by kernel_rfl
  g18 := by kernel_rfl
  g19 := by kernel_rfl
  i0 := by kernel_rfl
  i2 := by kernel_rfl
  i3 := by kernel_rfl
  i4 := by kernel_rfl
  i5 := by kernel_rfl
  i9 := by kernel_rfl
  i20 := by kernel_rfl
  i37 := by kernel_rfl
  i46 := by kernel_rfl
  i51 := by kernel_rfl
  i53 := by kernel_rfl
  i171 := by kernel_rfl
  i173 := by kernel_rfl
  i212 := by kernel_rfl
  i232 := by kernel_rfl
  i233 := by kernel_rfl
  m17 := by kernel_rfl
  m18 := by kernel_rfl
  m19 := by kernel_rfl }
open Go.RowKit Go.Sort Go.Lib in
theorem y_strconv_Itoa (n : Int) (h0 : -9223372036854775808 ≤ n) (h1 : n ≤ 9223372036854775807) (w : World) (htab : Lib.TabIs Tryd.prog w "internal/strconv.uint64pow10" .u64 Lib.pow10Tab) :
    Calls Tryd.prog 51 #[.int .i64 n] w fun e w' => e = .returned (.string ⟨(Lib.itoa n).toArray⟩) ∧ ∃ k os, w' = grow (w.drewN k) os := Any.strconv_Itoa y_laysM171 n h0 h1 w htab
def y_lays171_ren : Go.Shelf.Ren := ⟨fun | 171 => 51 | 243 => 62 | 246 => 64 | 283 => 65 | 284 => 66 | 285 => 67 | 286 => 68 | 129 => 70 | 317 => 69 | 318 => 71 | 319 => 72 | 320 => 73 | 337 => 74 | 338 => 75 | n => n, fun | 3 => 3 | 9 => 9 | 2 => 2 | 4 => 4 | 171 => 142 | 0 => 0 | 53 => 143 | 37 => 73 | 5 => 5 | 173 => 146 | 212 => 150 | 51 => 151 | 20 => 20 | 213 => 152 | 46 => 153 | 232 => 156 | 233 => 157 | n => n, fun | 17 => 8 | 18 => 9 | 19 => 10 | n => n⟩
theorem y_lays171 : Go.Proofs.Lays.n171 Tryd.prog y_lays171_ren := {
  mixed := by kernel_rfl
  f129 := Tryd.func70.trans (congrArg some (by kernel_rfl))
  f171 := Tryd.func51.trans (congrArg some (by kernel_rfl))
  f243 := Tryd.func62.trans (congrArg some (by kernel_rfl))
  f246 := Tryd.func64.trans (congrArg some (by kernel_rfl))
  f283 := Tryd.func65.trans (congrArg some (by kernel_rfl))
  f284 := Tryd.func66.trans (congrArg some (by kernel_rfl))
  f285 := Tryd.func67.trans (congrArg some (by kernel_rfl))
  f286 := Tryd.func68.trans (congrArg some (by kernel_rfl))
  f317 := Tryd.func69.trans (congrArg some (by kernel_rfl))
  f318 := Tryd.func71.trans (congrArg some (by kernel_rfl))
  f319 := Tryd.func72.trans (congrArg some (by kernel_rfl))
  f320 := Tryd.func73.trans (congrArg some (by kernel_rfl))
  f337 := Tryd.func74.trans (congrArg some (by kernel_rfl))
  f338 := Tryd.func75.trans (congrArg some (by kernel_rfl))
  t0 := Tryd.underlying0
  a0 := Tryd.isAgg0
  z0 := Tryd.sizeOf0
  v0 := Tryd.zeroValue0
  t2 := Tryd.underlying2
  a2 := Tryd.isAgg2
  z2 := Tryd.sizeOf2
  v2 := Tryd.zeroValue2
  t3 := Tryd.underlying3
  a3 := Tryd.isAgg3
  z3 := Tryd.sizeOf3
  v3 := Tryd.zeroValue3
  t4 := Tryd.underlying4
  a4 := Tryd.isAgg4
  z4 := Tryd.sizeOf4
  v4 := Tryd.zeroValue4
  t5 := Tryd.underlying5
  a5 := Tryd.isAgg5
  z5 := Tryd.sizeOf5
  v5 := Tryd.zeroValue5
  t9 := Tryd.underlying9
  a9 := Tryd.isAgg9
  z9 := Tryd.sizeOf9
  v9 := Tryd.zeroValue9
  t20 := Tryd.underlying20
  a20 := Tryd.isAgg20
  z20 := Tryd.sizeOf20
  v20 := Tryd.zeroValue20
  t37 := Tryd.underlying73
  a37 := Tryd.isAgg73
  z37 := Tryd.sizeOf73
  v37 := Tryd.zeroValue73
  t46 := Tryd.underlying153
  a46 := Tryd.isAgg153
  z46 := Tryd.sizeOf153
  v46 := Tryd.zeroValue153
  t51 := Tryd.underlying151
  a51 := Tryd.isAgg151
  z51 := Tryd.sizeOf151
  v51 := Tryd.zeroValue151
  t53 := Tryd.underlying143
  a53 := Tryd.isAgg143
  z53 := Tryd.sizeOf143
  v53 := Tryd.zeroValue143
  t171 := Tryd.underlying142
  a171 := Tryd.isAgg142
  z171 := Tryd.sizeOf142
  v171 := Tryd.zeroValue142
  t173 := Tryd.underlying146
  a173 := Tryd.isAgg146
  z173 := Tryd.sizeOf146
  v173 := Tryd.zeroValue146
  t212 := Tryd.underlying150
  a212 := Tryd.isAgg150
  z212 := Tryd.sizeOf150
  v212 := Tryd.zeroValue150
  t213 := Tryd.underlying152
  a213 := Tryd.isAgg152
  z213 := Tryd.sizeOf152
  t232 := Tryd.underlying156
  a232 := Tryd.isAgg156
  z232 := Tryd.sizeOf156
  v232 := Tryd.zeroValue156
  t233 := Tryd.underlying157
  a233 := Tryd.isAgg157
  z233 := Tryd.sizeOf157
  v233 := Tryd.zeroValue157
  g17 := by kernel_rfl
  g18 := by kernel_rfl
  g19 := by kernel_rfl }
open Go.RowKit Go.Sort Go.Lib in
theorem y_strconv_Itoa_small (i : Nat) (hi : i < 100) (w : World) :
    Calls Tryd.prog 51 #[.int .i64 i] w fun e w' => e = .returned (.string ⟨(Lib.decDigits i).toArray⟩) ∧ w' = w := Any.strconv_Itoa_small y_lays171 i hi w
end Go.Proofs.YtinejiodnnjpgaaDoor
