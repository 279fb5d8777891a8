/- strconv.Itoa laid at this program: written by the kit's laying tool (lay-plain) for this seat, names turned. · A region that draws its order: quiet operations (calls too) ahead of one store: the cheap steps. · Words for memory: a slice that reads as a list of cells; lists of integers. -/
import Derived.Shelf.Strings.Builder1
import Derived.Shelf.Small.Bits
import Derived.Shelf.Strings.BuilderF
import Derived.Shelf.Strings.BuilderK
import Derived.Shelf.Strconv.Itoa0
import Derived.Shelf.Strconv.Itoa1
import Derived.Shelf.LaysM
import Derived.Shelf.Strconv.Itoa2
import Derived.Shelf.Strconv.Itoa3
import Derived.Shelf.Strings.Prefix
import Derived.Shelf.Bits.Mul64
import Derived.Shelf.Slices.Reverse
import Derived.Test.YtkcpfpofimkkiaaGreatDoorProg
import Derived.StillTailTactics
import Derived.BigQuiet
import Derived.WalkKit
import Derived.Lib.Hide
import Derived.Deep.Draws
import Derived.Deep.AppendLies
import Derived.Maps.AppendAt
namespace Go.Proofs.YtkcpfpofimkkiaaGreatDoor
open Go.Shelf
def y_lays170_ren : Go.Shelf.Ren := ⟨fun | 170 => 60 | n => n, fun | 70 => 78 | 3 => 3 | 0 => 0 | 72 => 81 | 37 => 79 | 5 => 5 | n => n, fun | n => n⟩
theorem y_lays170 : Go.Proofs.Lays.n170 Tryz.prog y_lays170_ren := {
  mixed := by kernel_rfl
  f170 := Tryz.func60.trans (congrArg some (by kernel_rfl))
  t0 := Tryz.underlying0
  a0 := Tryz.isAgg0
  z0 := Tryz.sizeOf0
  v0 := Tryz.zeroValue0
  t3 := Tryz.underlying3
  a3 := Tryz.isAgg3
  z3 := Tryz.sizeOf3
  v3 := Tryz.zeroValue3
  t37 := Tryz.underlying79
  a37 := Tryz.isAgg79
  z37 := Tryz.sizeOf79
  v37 := Tryz.zeroValue79
  t70 := Tryz.underlying78
  a70 := Tryz.isAgg78
  z70 := Tryz.sizeOf78
  v70 := Tryz.zeroValue78
  t72 := Tryz.underlying81
  a72 := Tryz.isAgg81
  z72 := Tryz.sizeOf81
  v72 := Tryz.zeroValue81 }
open Go.RowKit in
/-- (*strings.Builder).Len: "Len returns the number of accumulated bytes; b.Len() == len(b.String()).": the world is as it was. (LAID: no walk: one application.) -/
theorem y_Builder_Len (B b : Nat) (bs : List Value) (w : World) (h : Lib.IsBuilder 81 5 B b bs w) :
    Calls Tryz.prog 60 #[.pointer (some ⟨b, 0, none⟩)] w fun e w' => e = .returned (.int .i64 bs.length) ∧ w' = w := Any.Builder_Len y_lays170 B b bs w h
def y_lays169_ren : Go.Shelf.Ren := ⟨fun | 169 => 37 | n => n, fun | 70 => 78 | 9 => 9 | 0 => 0 | 72 => 81 | 37 => 79 | 127 => 113 | 3 => 3 | 5 => 5 | n => n, fun | n => n⟩
theorem y_lays169 : Go.Proofs.Lays.n169 Tryz.prog y_lays169_ren := {
  mixed := by kernel_rfl
  f169 := Tryz.func37.trans (congrArg some (by kernel_rfl))
  t0 := Tryz.underlying0
  a0 := Tryz.isAgg0
  z0 := Tryz.sizeOf0
  v0 := Tryz.zeroValue0
  t3 := Tryz.underlying3
  a3 := Tryz.isAgg3
  z3 := Tryz.sizeOf3
  v3 := Tryz.zeroValue3
  t9 := Tryz.underlying9
  a9 := Tryz.isAgg9
  z9 := Tryz.sizeOf9
  v9 := Tryz.zeroValue9
  t37 := Tryz.underlying79
  a37 := Tryz.isAgg79
  z37 := Tryz.sizeOf79
  v37 := Tryz.zeroValue79
  t70 := Tryz.underlying78
  a70 := Tryz.isAgg78
  z70 := Tryz.sizeOf78
  v70 := Tryz.zeroValue78
  t72 := Tryz.underlying81
  a72 := Tryz.isAgg81
  z72 := Tryz.sizeOf81
  v72 := Tryz.zeroValue81
  t127 := Tryz.underlying113
  a127 := Tryz.isAgg113
  z127 := Tryz.sizeOf113
  v127 := Tryz.zeroValue113 }
theorem y_Builder_Extra_169 : Builder.Extra Tryz.prog y_lays169_ren := {
  sizeBuilder := by kernel_rfl
  liesBuilder := by kernel_rfl
  t5 := Tryz.underlying5
  a5 := Tryz.isAgg5
  z5 := Tryz.sizeOf5
  v5 := Tryz.zeroValue5
  infoByte := by kernel_rfl
  cellsByte := by kernel_rfl
  sizeByte := by kernel_rfl
  neB5 := by decide }
open Go.RowKit in
/-- (*strings.Builder).String: "String returns the accumulated string.": OF A BUILDER THAT HOLDS AT LEAST ONE BYTE. ✋ THE MODEL FREEZES THOSE BYTES IN THE BUFFER (unsafe.String): a later write INTO them ends the model's run without an answer; a later append BEHIND them goes on. The statement's order of evaluation is drawn: one draw. (LAID: no walk: one application.) -/
theorem y_Builder_String (B b : Nat) (l : List UInt8) (w : World) (h : Lib.IsBuilder 81 5 B b (Lib.byteCells l) w) (h0 : l ≠ []) :
    Calls Tryz.prog 37 #[.pointer (some ⟨b, 0, none⟩)] w fun e w' => e = .returned (.string ⟨l.toArray⟩) ∧ Below B w w' := Any.Builder_String y_lays169 y_Builder_Extra_169 B b l w h h0
open Go.RowKit in
/-- (*strings.Builder).String OF A BUILDER THAT HOLDS NO BYTE: the empty string. (Its buffer is nil, or a row of which it has taken nothing yet; where that row has NO capacity the model lays one new block for unsafe.SliceData's 'some address'.) One draw. (LAID: no walk: one application.) -/
theorem y_Builder_String_empty (B b : Nat) (w : World) (h : Lib.IsBuilder 81 5 B b [] w) (hBw : B ≤ w.heap.size) :
    Calls Tryz.prog 37 #[.pointer (some ⟨b, 0, none⟩)] w fun e w' => e = .returned (.string ⟨#[]⟩) ∧ Below B w w' := Any.Builder_String_empty y_lays169 y_Builder_Extra_169 B b w h hBw
open Go.RowKit in
/-- (*strings.Builder).String: "String returns the accumulated string.": WHATEVER THE BUILDER HOLDS. (LAID: no walk: one application.) -/
theorem y_Builder_String_any (B b : Nat) (l : List UInt8) (w : World) (h : Lib.IsBuilder 81 5 B b (Lib.byteCells l) w) (hBw : B ≤ w.heap.size) :
    Calls Tryz.prog 37 #[.pointer (some ⟨b, 0, none⟩)] w fun e w' => e = .returned (.string ⟨l.toArray⟩) ∧ Below B w w' := Any.Builder_String_any y_lays169 y_Builder_Extra_169 B b l w h hBw
def y_lays128_ren : Go.Shelf.Ren := ⟨fun | 128 => 78 | n => n, fun | 51 => 76 | 3 => 3 | 4 => 4 | 46 => 103 | 5 => 5 | 9 => 9 | n => n, fun | n => n⟩
theorem y_lays128 : Go.Proofs.Lays.n128 Tryz.prog y_lays128_ren := {
  mixed := by kernel_rfl
  f128 := Tryz.func78.trans (congrArg some (by kernel_rfl))
  t3 := Tryz.underlying3
  a3 := Tryz.isAgg3
  z3 := Tryz.sizeOf3
  v3 := Tryz.zeroValue3
  t4 := Tryz.underlying4
  a4 := Tryz.isAgg4
  z4 := Tryz.sizeOf4
  v4 := Tryz.zeroValue4
  t5 := Tryz.underlying5
  a5 := Tryz.isAgg5
  z5 := Tryz.sizeOf5
  v5 := Tryz.zeroValue5
  t9 := Tryz.underlying9
  a9 := Tryz.isAgg9
  z9 := Tryz.sizeOf9
  v9 := Tryz.zeroValue9
  t46 := Tryz.underlying103
  a46 := Tryz.isAgg103
  z46 := Tryz.sizeOf103
  v46 := Tryz.zeroValue103
  t51 := Tryz.underlying76
  a51 := Tryz.isAgg76
  z51 := Tryz.sizeOf76
  v51 := Tryz.zeroValue76 }
/-- bits.Len32: "Len32 returns the minimum number of bits required to represent x; the result is 0 for x == 0.": IT RETURNS 'Lib.bitLen x'; the world is as it was. ('h0', 'h1': x is a uint32.) (LAID: no walk: one application.) -/
theorem y_bits_Len32 (x : Int) (w : World) (h0 : 0 ≤ x) (h1 : x ≤ 4294967295) :
    Calls Tryz.prog 78 #[.int .u32 x] w fun e w' => e = .returned (.int .i64 (Lib.bitLen x.toNat)) ∧ w' = w := Any.bits_Len32 y_lays128 x w h0 h1
def y_lays125_ren : Go.Shelf.Ren := ⟨fun | 125 => 51 | 128 => 78 | 129 => 79 | n => n, fun | 46 => 103 | 3 => 3 | 51 => 76 | 53 => 77 | 4 => 4 | 5 => 5 | 9 => 9 | n => n, fun | n => n⟩
theorem y_lays125 : Go.Proofs.Lays.n125 Tryz.prog y_lays125_ren := {
  mixed := by kernel_rfl
  f125 := Tryz.func51.trans (congrArg some (by kernel_rfl))
  f128 := Tryz.func78.trans (congrArg some (by kernel_rfl))
  f129 := Tryz.func79.trans (congrArg some (by kernel_rfl))
  t3 := Tryz.underlying3
  a3 := Tryz.isAgg3
  z3 := Tryz.sizeOf3
  v3 := Tryz.zeroValue3
  t4 := Tryz.underlying4
  a4 := Tryz.isAgg4
  z4 := Tryz.sizeOf4
  v4 := Tryz.zeroValue4
  t5 := Tryz.underlying5
  a5 := Tryz.isAgg5
  z5 := Tryz.sizeOf5
  v5 := Tryz.zeroValue5
  t9 := Tryz.underlying9
  a9 := Tryz.isAgg9
  z9 := Tryz.sizeOf9
  v9 := Tryz.zeroValue9
  t46 := Tryz.underlying103
  a46 := Tryz.isAgg103
  z46 := Tryz.sizeOf103
  v46 := Tryz.zeroValue103
  t51 := Tryz.underlying76
  a51 := Tryz.isAgg76
  z51 := Tryz.sizeOf76
  v51 := Tryz.zeroValue76
  t53 := Tryz.underlying77
  a53 := Tryz.isAgg77
  z53 := Tryz.sizeOf77
  v53 := Tryz.zeroValue77 }
/-- bits.Len: "Len returns the minimum number of bits required to represent x; the result is 0 for x == 0.": IT RETURNS 'Lib.bitLen x'; the world is as it was. (A uint has 64 bits in the model.) ITS CALLEE bits.Len64 IS MET BY ITS OWN CONTRACT OFF THE SHELF (lay that first). (LAID: no walk: one application.) -/
theorem y_bits_Len (x : Int) (w : World) (h0 : 0 ≤ x) (h1 : x ≤ 18446744073709551615) :
    Calls Tryz.prog 51 #[.int .u64 x] w fun e w' => e = .returned (.int .i64 (Lib.bitLen x.toNat)) ∧ w' = w := Any.bits_Len y_lays125 x w h0 h1
open Go.RowKit in
/-- (*strings.Builder).Len: "Len returns the number of accumulated bytes; b.Len() == len(b.String()).": the world is as it was. (THE FORM '_f': 'Lib.IsBuilderF'.) (LAID: no walk: one application.) -/
theorem y_Builder_Len_f (B b : Nat) (bs : List Value) (w : World) (h : Lib.IsBuilderF 81 5 B b bs w) :
    Calls Tryz.prog 60 #[.pointer (some ⟨b, 0, none⟩)] w fun e w' => e = .returned (.int .i64 bs.length) ∧ w' = w := Any.Builder_Len_f y_lays170 B b bs w h
open Go.RowKit in
/-- (*strings.Builder).String: "String returns the accumulated string.": OF A BUILDER THAT HOLDS AT LEAST ONE BYTE. ✋ THE MODEL FREEZES THOSE BYTES IN THE BUFFER (unsafe.String): a later write INTO them ends the model's run without an answer; a later append BEHIND them goes on. The statement's order of evaluation is drawn: one draw. THE FORM '_f': IT SAYS BESIDES THAT THE BUILDER IS A BUILDER STILL ('Lib.IsBuilderF', the same bytes): SO IT CAN BE WRITTEN ON: 'b.WriteString(b.String()[:k])'. (LAID: no walk: one application.) -/
theorem y_Builder_String_f (B b : Nat) (l : List UInt8) (w : World) (h : Lib.IsBuilderF 81 5 B b (Lib.byteCells l) w) (h0 : l ≠ []) :
    Calls Tryz.prog 37 #[.pointer (some ⟨b, 0, none⟩)] w fun e w' => e = .returned (.string ⟨l.toArray⟩) ∧ (Lib.IsBuilderF 81 5 B b (Lib.byteCells l) w' ∧ Below B w w') := Any.Builder_String_f y_lays169 y_Builder_Extra_169 B b l w h h0
open Go.RowKit in
/-- (*strings.Builder).String OF A BUILDER THAT HOLDS NO BYTE: the empty string; THE FORM '_f': a builder still. (LAID: no walk: one application.) -/
theorem y_Builder_String_empty_f (B b : Nat) (w : World) (h : Lib.IsBuilderF 81 5 B b [] w) (hBw : B ≤ w.heap.size) :
    Calls Tryz.prog 37 #[.pointer (some ⟨b, 0, none⟩)] w fun e w' => e = .returned (.string ⟨#[]⟩) ∧ (Lib.IsBuilderF 81 5 B b [] w' ∧ Below B w w') := Any.Builder_String_empty_f y_lays169 y_Builder_Extra_169 B b w h hBw
open Go.RowKit in
/-- (*strings.Builder).String: "String returns the accumulated string.": WHATEVER THE BUILDER HOLDS; THE FORM '_f': OF A BUILDER THAT MAY HAVE BEEN READ BEFORE; AND IT IS A BUILDER STILL, holding the same bytes: it can be written on. (LAID: no walk: one application.) -/
theorem y_Builder_String_any_f (B b : Nat) (l : List UInt8) (w : World) (h : Lib.IsBuilderF 81 5 B b (Lib.byteCells l) w) (hBw : B ≤ w.heap.size) :
    Calls Tryz.prog 37 #[.pointer (some ⟨b, 0, none⟩)] w fun e w' => e = .returned (.string ⟨l.toArray⟩) ∧ (Lib.IsBuilderF 81 5 B b (Lib.byteCells l) w' ∧ Below B w w') := Any.Builder_String_any_f y_lays169 y_Builder_Extra_169 B b l w h hBw
open Go.RowKit in
/-- (*strings.Builder).String: "String returns the accumulated string.": OF A BUILDER THAT HOLDS AT LEAST ONE BYTE. ✋ THE MODEL FREEZES THOSE BYTES IN THE BUFFER (unsafe.String): a later write INTO them ends the model's run without an answer; a later append BEHIND them goes on. The statement's order of evaluation is drawn: one draw. THE FORM '_k': OVER 'Lib.IsBuilderF' (a builder that 'String()' may have read), AND WITH THE FRAME THAT REACHES ABOVE THE BUILDER: 'Lib.OthersKept': every block that is not b and is no row of uint8's stands as it stood: the iterator of a range among them. (LAID: no walk: one application.) -/
theorem y_Builder_String_k (B b : Nat) (l : List UInt8) (w : World) (h : Lib.IsBuilderF 81 5 B b (Lib.byteCells l) w) (h0 : l ≠ []) :
    Calls Tryz.prog 37 #[.pointer (some ⟨b, 0, none⟩)] w fun e w' => e = .returned (.string ⟨l.toArray⟩) ∧ (Lib.IsBuilderF 81 5 B b (Lib.byteCells l) w' ∧ Below B w w' ∧ Lib.OthersKept 5 (some b) w w') := Any.Builder_String_k y_lays169 y_Builder_Extra_169 B b l w h h0
open Go.RowKit in
/-- (*strings.Builder).String OF A BUILDER THAT HOLDS NO BYTE: the empty string; THE FORM '_k': OVER 'Lib.IsBuilderF' (a builder that 'String()' may have read), AND WITH THE FRAME THAT REACHES ABOVE THE BUILDER: 'Lib.OthersKept': every block that is not b and is no row of uint8's stands as it stood: the iterator of a range among them. (LAID: no walk: one application.) -/
theorem y_Builder_String_empty_k (B b : Nat) (w : World) (h : Lib.IsBuilderF 81 5 B b [] w) (hBw : B ≤ w.heap.size) :
    Calls Tryz.prog 37 #[.pointer (some ⟨b, 0, none⟩)] w fun e w' => e = .returned (.string ⟨#[]⟩) ∧ (Lib.IsBuilderF 81 5 B b [] w' ∧ Below B w w' ∧ Lib.OthersKept 5 (some b) w w') := Any.Builder_String_empty_k y_lays169 y_Builder_Extra_169 B b w h hBw
open Go.RowKit in
/-- (*strings.Builder).String: "String returns the accumulated string.": WHATEVER THE BUILDER HOLDS; THE FORM '_k': OVER 'Lib.IsBuilderF' (a builder that 'String()' may have read), AND WITH THE FRAME THAT REACHES ABOVE THE BUILDER: 'Lib.OthersKept': every block that is not b and is no row of uint8's stands as it stood: the iterator of a range among them. (LAID: no walk: one application.) -/
theorem y_Builder_String_any_k (B b : Nat) (l : List UInt8) (w : World) (h : Lib.IsBuilderF 81 5 B b (Lib.byteCells l) w) (hBw : B ≤ w.heap.size) :
    Calls Tryz.prog 37 #[.pointer (some ⟨b, 0, none⟩)] w fun e w' => e = .returned (.string ⟨l.toArray⟩) ∧ (Lib.IsBuilderF 81 5 B b (Lib.byteCells l) w' ∧ Below B w w' ∧ Lib.OthersKept 5 (some b) w w') := Any.Builder_String_any_k y_lays169 y_Builder_Extra_169 B b l w h hBw
def y_lays129_ren : Go.Shelf.Ren := ⟨fun | 129 => 79 | n => n, fun | 53 => 77 | 3 => 3 | 4 => 4 | 46 => 103 | 5 => 5 | 9 => 9 | n => n, fun | n => n⟩
theorem y_lays129 : Go.Proofs.Lays.n129 Tryz.prog y_lays129_ren := {
  mixed := by kernel_rfl
  f129 := Tryz.func79.trans (congrArg some (by kernel_rfl))
  t3 := Tryz.underlying3
  a3 := Tryz.isAgg3
  z3 := Tryz.sizeOf3
  v3 := Tryz.zeroValue3
  t4 := Tryz.underlying4
  a4 := Tryz.isAgg4
  z4 := Tryz.sizeOf4
  v4 := Tryz.zeroValue4
  t5 := Tryz.underlying5
  a5 := Tryz.isAgg5
  z5 := Tryz.sizeOf5
  v5 := Tryz.zeroValue5
  t9 := Tryz.underlying9
  a9 := Tryz.isAgg9
  z9 := Tryz.sizeOf9
  v9 := Tryz.zeroValue9
  t46 := Tryz.underlying103
  a46 := Tryz.isAgg103
  z46 := Tryz.sizeOf103
  v46 := Tryz.zeroValue103
  t53 := Tryz.underlying77
  a53 := Tryz.isAgg77
  z53 := Tryz.sizeOf77
  v53 := Tryz.zeroValue77 }
/-- bits.Len64: "Len64 returns the minimum number of bits required to represent x; the result is 0 for x == 0.": IT RETURNS 'Lib.bitLen x'; the world is as it was. ('h0', 'h1': x is a uint64.) (LAID: no walk: one application.) -/
theorem y_bits_Len64 (x : Int) (w : World) (h0 : 0 ≤ x) (h1 : x ≤ 18446744073709551615) :
    Calls Tryz.prog 79 #[.int .u64 x] w fun e w' => e = .returned (.int .i64 (Lib.bitLen x.toNat)) ∧ w' = w := Any.bits_Len64 y_lays129 x w h0 h1
def y_lays317_ren : Go.Shelf.Ren := ⟨fun | 317 => 113 | n => n, fun | 3 => 3 | 46 => 103 | n => n, fun | n => n⟩
theorem y_lays317 : Go.Proofs.Lays.n317 Tryz.prog y_lays317_ren := {
  mixed := by kernel_rfl
  f317 := Tryz.func113.trans (congrArg some (by kernel_rfl))
  t3 := Tryz.underlying3
  a3 := Tryz.isAgg3
  z3 := Tryz.sizeOf3
  v3 := Tryz.zeroValue3
  t46 := Tryz.underlying103
  a46 := Tryz.isAgg103
  z46 := Tryz.sizeOf103
  v46 := Tryz.zeroValue103 }
open Go.Lib in
/-- internal/strconv.log10Pow2: "log10Pow2(x) returns ⌊log₁₀ 2**x⌋ = ⌊x * log₁₀ 2⌋.": '(x * 78913) >> 18', at an x up to 64 (a length in bits). The world is as it was. (LAID: no walk: one application.) -/
theorem y_internal_strconv_log10Pow2 (x : Nat) (h : x ≤ 64) (w : World) :
    Calls Tryz.prog 113 #[.int .i64 x] w fun e w' => e = .returned (.int .i64 (Lib.l10 x)) ∧ w' = w := Any.internal_strconv_log10Pow2 y_lays317 x h w
def y_lays318_ren : Go.Shelf.Ren := ⟨fun | 318 => 114 | n => n, fun | 3 => 3 | 4 => 4 | n => n, fun | n => n⟩
theorem y_lays318 : Go.Proofs.Lays.n318 Tryz.prog y_lays318_ren := {
  mixed := by kernel_rfl
  f318 := Tryz.func114.trans (congrArg some (by kernel_rfl))
  t3 := Tryz.underlying3
  a3 := Tryz.isAgg3
  z3 := Tryz.sizeOf3
  v3 := Tryz.zeroValue3
  t4 := Tryz.underlying4
  a4 := Tryz.isAgg4
  z4 := Tryz.sizeOf4
  v4 := Tryz.zeroValue4 }
open Go.Lib in
/-- internal/strconv.bool2: "bool2 converts b to an integer: 1 for true, 0 for false." The world is as it was. (LAID: no walk: one application.) -/
theorem y_internal_strconv_bool2_int (b : Bool) (w : World) :
    Calls Tryz.prog 114 #[.bool b] w fun e w' => e = .returned (.int .i64 (if b then 1 else 0)) ∧ w' = w := Any.internal_strconv_bool2_int y_lays318 b w
def y_lays283_ren : Go.Shelf.Ren := ⟨fun | 283 => 103 | n => n, fun | 3 => 3 | 9 => 9 | 4 => 4 | n => n, fun | n => n⟩
theorem y_lays283 : Go.Proofs.Lays.n283 Tryz.prog y_lays283_ren := {
  mixed := by kernel_rfl
  f283 := Tryz.func103.trans (congrArg some (by kernel_rfl))
  t3 := Tryz.underlying3
  a3 := Tryz.isAgg3
  z3 := Tryz.sizeOf3
  v3 := Tryz.zeroValue3
  t4 := Tryz.underlying4
  a4 := Tryz.isAgg4
  z4 := Tryz.sizeOf4
  v4 := Tryz.zeroValue4
  t9 := Tryz.underlying9
  a9 := Tryz.isAgg9
  z9 := Tryz.sizeOf9
  v9 := Tryz.zeroValue9 }
open Go.Lib in
/-- internal/strconv.small: "small returns the string for an i with 0 <= i < nSmalls.": i's decimal numeral. The world is as it was. (LAID: no walk: one application.) -/
theorem y_internal_strconv_small (i : Nat) (h : i < 100) (w : World) :
    Calls Tryz.prog 103 #[.int .i64 i] w fun e w' => e = .returned (.string ⟨(Lib.decDigits i).toArray⟩) ∧ w' = w := Any.internal_strconv_small y_lays283 i h w
def y_laysM284_ren : Go.Shelf.Ren := ⟨fun | 284 => 104 | 129 => 79 | 317 => 113 | 318 => 114 | n => n, fun | 53 => 77 | 3 => 3 | 212 => 163 | 0 => 0 | 4 => 4 | 46 => 103 | 5 => 5 | 9 => 9 | n => n, fun | 17 => 0 | n => n⟩
theorem y_laysM284 : Go.Proofs.LaysM.n284 Tryz.prog y_laysM284_ren := {
  mixed := by kernel_rfl
  f129 := Tryz.func79.trans (congrArg some (by kernel_rfl))
  f284 := Tryz.func104.trans (congrArg some (by kernel_rfl))
  f317 := Tryz.func113.trans (congrArg some (by kernel_rfl))
  f318 := Tryz.func114.trans (congrArg some (by kernel_rfl))
  t0 := Tryz.underlying0
  a0 := Tryz.isAgg0
  z0 := Tryz.sizeOf0
  v0 := Tryz.zeroValue0
  t3 := Tryz.underlying3
  a3 := Tryz.isAgg3
  z3 := Tryz.sizeOf3
  v3 := Tryz.zeroValue3
  t4 := Tryz.underlying4
  a4 := Tryz.isAgg4
  z4 := Tryz.sizeOf4
  v4 := Tryz.zeroValue4
  t5 := Tryz.underlying5
  a5 := Tryz.isAgg5
  z5 := Tryz.sizeOf5
  v5 := Tryz.zeroValue5
  t9 := Tryz.underlying9
  a9 := Tryz.isAgg9
  z9 := Tryz.sizeOf9
  v9 := Tryz.zeroValue9
  t46 := Tryz.underlying103
  a46 := Tryz.isAgg103
  z46 := Tryz.sizeOf103
  v46 := Tryz.zeroValue103
  t53 := Tryz.underlying77
  a53 := Tryz.isAgg77
  z53 := Tryz.sizeOf77
  v53 := Tryz.zeroValue77
  t212 := Tryz.underlying163
  a212 := Tryz.isAgg163
  z212 := Tryz.sizeOf163
  v212 := Tryz.zeroValue163
  g17 := by kernel_rfl
  i0 := by kernel_rfl
  i3 := by kernel_rfl
  i4 := by kernel_rfl
  i5 := by kernel_rfl
  i9 := by kernel_rfl
  i46 := by kernel_rfl
  i53 := by kernel_rfl
  i212 := by kernel_rfl
  m17 := by kernel_rfl }
open Go.Lib in
/-- internal/strconv.numDigits, at a d that is not 0: THE NUMBER OF d's DECIMAL DIGITS. The world is as it was. (LAID: no walk: one application.) -/
theorem y_internal_strconv_numDigits (u : Nat) (h1 : 1 ≤ u) (h2 : u < 18446744073709551616) (w : World) (htab : Lib.TabIs Tryz.prog w "internal/strconv.uint64pow10" .u64 Lib.pow10Tab) :
    Calls Tryz.prog 104 #[.int .u64 u] w fun e w' => e = .returned (.int .i64 (Lib.nDigits u)) ∧ w' = w := Any.internal_strconv_numDigits y_laysM284 u h1 h2 w htab
def y_lays285_ren : Go.Shelf.Ren := ⟨fun | 285 => 105 | n => n, fun | 37 => 79 | 53 => 77 | 3 => 3 | 4 => 4 | 51 => 76 | 9 => 9 | 5 => 5 | 0 => 0 | n => n, fun | n => n⟩
theorem y_lays285 : Go.Proofs.Lays.n285 Tryz.prog y_lays285_ren := {
  mixed := by kernel_rfl
  f285 := Tryz.func105.trans (congrArg some (by kernel_rfl))
  t0 := Tryz.underlying0
  a0 := Tryz.isAgg0
  z0 := Tryz.sizeOf0
  v0 := Tryz.zeroValue0
  t3 := Tryz.underlying3
  a3 := Tryz.isAgg3
  z3 := Tryz.sizeOf3
  v3 := Tryz.zeroValue3
  t4 := Tryz.underlying4
  a4 := Tryz.isAgg4
  z4 := Tryz.sizeOf4
  v4 := Tryz.zeroValue4
  t5 := Tryz.underlying5
  a5 := Tryz.isAgg5
  z5 := Tryz.sizeOf5
  v5 := Tryz.zeroValue5
  t9 := Tryz.underlying9
  a9 := Tryz.isAgg9
  z9 := Tryz.sizeOf9
  v9 := Tryz.zeroValue9
  t37 := Tryz.underlying79
  a37 := Tryz.isAgg79
  z37 := Tryz.sizeOf79
  v37 := Tryz.zeroValue79
  t51 := Tryz.underlying76
  a51 := Tryz.isAgg76
  z51 := Tryz.sizeOf76
  v51 := Tryz.zeroValue76
  t53 := Tryz.underlying77
  a53 := Tryz.isAgg77
  z53 := Tryz.sizeOf77
  v53 := Tryz.zeroValue77 }
open Go.RowKit Go.Sort Go.Lib in
/-- internal/strconv.formatBase10: "formatBase10 formats the decimal representation of u into a. The caller is responsible for ensuring that a is big enough to hold u. If a is too big, leading zeros will be filled in as needed.": THE ROW HOLDS u's DIGITS ('FmtInv .. 0 ..': every place t holds 'dg u (len - 1 - t)'); all else is as it was but for the count of draws. (LAID: no walk: one application.) -/
theorem y_internal_strconv_formatBase10 (blk off cap : Nat) (u : Nat) (d : Array UInt8) (w : World) (hH : Holds (fun (b : UInt8) => Value.int .u8 (b.toNat : Int)) w blk off d) (hu : u < 10 ^ d.size) (hu64 : u < 18446744073709551616) (hsz : d.size < 4611686018427387904) :
    Calls Tryz.prog 105 #[.slice (some ⟨blk, off, none⟩) d.size cap, .int .u64 u] w fun e w' =>
      e = .returned (.tuple #[]) ∧ ∃ (n v' : Nat) (dk : Array UInt8), w' = (putRow (fun (b : UInt8) => Value.int .u8 (b.toNat : Int)) w blk off dk).drewN n ∧ FmtInv d.size u 0 v' dk := Any.internal_strconv_formatBase10 y_lays285 blk off cap u d w hH hu hu64 hsz
def y_laysM246_ren : Go.Shelf.Ren := ⟨fun | 246 => 82 | 283 => 103 | 284 => 104 | 285 => 105 | 286 => 106 | 129 => 79 | 317 => 113 | 318 => 114 | 319 => 115 | 320 => 116 | 337 => 126 | 338 => 127 | n => n, fun | 2 => 2 | 3 => 3 | 9 => 9 | 4 => 4 | 171 => 150 | 0 => 0 | 53 => 77 | 37 => 79 | 5 => 5 | 173 => 152 | 212 => 163 | 51 => 76 | 20 => 20 | 213 => 164 | 46 => 103 | 232 => 174 | 233 => 175 | n => n, fun | 17 => 0 | 18 => 2 | 19 => 3 | n => n⟩
theorem y_laysM246 : Go.Proofs.LaysM.n246 Tryz.prog y_laysM246_ren := {
  mixed := by kernel_rfl
  f129 := Tryz.func79.trans (congrArg some (by kernel_rfl))
  f246 := Tryz.func82.trans (congrArg some (by kernel_rfl))
  f283 := Tryz.func103.trans (congrArg some (by kernel_rfl))
  f284 := Tryz.func104.trans (congrArg some (by kernel_rfl))
  f285 := Tryz.func105.trans (congrArg some (by kernel_rfl))
  f286 := Tryz.func106.trans (congrArg some (by kernel_rfl))
  f317 := Tryz.func113.trans (congrArg some (by kernel_rfl))
  f318 := Tryz.func114.trans (congrArg some (by kernel_rfl))
  f319 := Tryz.func115.trans (congrArg some (by kernel_rfl))
  f320 := Tryz.func116.trans (congrArg some (by kernel_rfl))
  f337 := Tryz.func126.trans (congrArg some (by kernel_rfl))
  f338 := Tryz.func127.trans (congrArg some (by kernel_rfl))
  t0 := Tryz.underlying0
  a0 := Tryz.isAgg0
  z0 := Tryz.sizeOf0
  v0 := Tryz.zeroValue0
  t2 := Tryz.underlying2
  a2 := Tryz.isAgg2
  z2 := Tryz.sizeOf2
  v2 := Tryz.zeroValue2
  t3 := Tryz.underlying3
  a3 := Tryz.isAgg3
  z3 := Tryz.sizeOf3
  v3 := Tryz.zeroValue3
  t4 := Tryz.underlying4
  a4 := Tryz.isAgg4
  z4 := Tryz.sizeOf4
  v4 := Tryz.zeroValue4
  t5 := Tryz.underlying5
  a5 := Tryz.isAgg5
  z5 := Tryz.sizeOf5
  v5 := Tryz.zeroValue5
  t9 := Tryz.underlying9
  a9 := Tryz.isAgg9
  z9 := Tryz.sizeOf9
  v9 := Tryz.zeroValue9
  t20 := Tryz.underlying20
  a20 := Tryz.isAgg20
  z20 := Tryz.sizeOf20
  v20 := Tryz.zeroValue20
  t37 := Tryz.underlying79
  a37 := Tryz.isAgg79
  z37 := Tryz.sizeOf79
  v37 := Tryz.zeroValue79
  t46 := Tryz.underlying103
  a46 := Tryz.isAgg103
  z46 := Tryz.sizeOf103
  v46 := Tryz.zeroValue103
  t51 := Tryz.underlying76
  a51 := Tryz.isAgg76
  z51 := Tryz.sizeOf76
  v51 := Tryz.zeroValue76
  t53 := Tryz.underlying77
  a53 := Tryz.isAgg77
  z53 := Tryz.sizeOf77
  v53 := Tryz.zeroValue77
  t171 := Tryz.underlying150
  a171 := Tryz.isAgg150
  z171 := Tryz.sizeOf150
  v171 := Tryz.zeroValue150
  t173 := Tryz.underlying152
  a173 := Tryz.isAgg152
  z173 := Tryz.sizeOf152
  v173 := Tryz.zeroValue152
  t212 := Tryz.underlying163
  a212 := Tryz.isAgg163
  z212 := Tryz.sizeOf163
  v212 := Tryz.zeroValue163
  t213 := Tryz.underlying164
  a213 := Tryz.isAgg164
  z213 := Tryz.sizeOf164
  t232 := Tryz.underlying174
  a232 := Tryz.isAgg174
  z232 := Tryz.sizeOf174
  v232 := Tryz.zeroValue174
  t233 := Tryz.underlying175
  a233 := Tryz.isAgg175
  z233 := Tryz.sizeOf175
  v233 := Tryz.zeroValue175
  g17 := by kernel_rfl
  g18 := by kernel_rfl
  g19 := by kernel_rfl
  i0 := by kernel_rfl
  i2 := by kernel_rfl
  i3 := by kernel_rfl
  i4 := by kernel_rfl
  i5 := by kernel_rfl
  i9 := by kernel_rfl
  i20 := by kernel_rfl
  i37 := by kernel_rfl
  i46 := by kernel_rfl
  i51 := by kernel_rfl
  i53 := by kernel_rfl
  i171 := by kernel_rfl
  i173 := by kernel_rfl
  i212 := by kernel_rfl
  i232 := by kernel_rfl
  i233 := by kernel_rfl
  m17 := by kernel_rfl
  m18 := by kernel_rfl
  m19 := by kernel_rfl }
open Go.RowKit Go.Sort Go.Lib in
/-- internal/strconv.FormatInt: "FormatInt returns the string representation of i in the given base": AT BASE 10: i's decimal numeral, for every int64. The world behind the call: the world before it, new blocks behind the heap, draws. (LAID: no walk: one application.) -/
theorem y_internal_strconv_FormatInt_10 (n : Int) (h0 : -9223372036854775808 ≤ n) (h1 : n ≤ 9223372036854775807) (w : World) (htab : Lib.TabIs Tryz.prog w "internal/strconv.uint64pow10" .u64 Lib.pow10Tab) :
    Calls Tryz.prog 82 #[.int .i64 n, .int .i64 10] w fun e w' => e = .returned (.string ⟨(Lib.itoa n).toArray⟩) ∧ ∃ k os, w' = grow (w.drewN k) os := Any.internal_strconv_FormatInt_10 y_laysM246 n h0 h1 w htab
def y_lays246_ren : Go.Shelf.Ren := ⟨fun | 246 => 82 | 283 => 103 | 284 => 104 | 285 => 105 | 286 => 106 | 129 => 79 | 317 => 113 | 318 => 114 | 319 => 115 | 320 => 116 | 337 => 126 | 338 => 127 | n => n, fun | 2 => 2 | 3 => 3 | 9 => 9 | 4 => 4 | 171 => 150 | 0 => 0 | 53 => 77 | 37 => 79 | 5 => 5 | 173 => 152 | 212 => 163 | 51 => 76 | 20 => 20 | 213 => 164 | 46 => 103 | 232 => 174 | 233 => 175 | n => n, fun | 17 => 0 | 18 => 2 | 19 => 3 | n => n⟩
theorem y_lays246 : Go.Proofs.Lays.n246 Tryz.prog y_lays246_ren := {
  mixed := by kernel_rfl
  f129 := Tryz.func79.trans (congrArg some (by kernel_rfl))
  f246 := Tryz.func82.trans (congrArg some (by kernel_rfl))
  f283 := Tryz.func103.trans (congrArg some (by kernel_rfl))
  f284 := Tryz.func104.trans (congrArg some (by kernel_rfl))
  f285 := Tryz.func105.trans (congrArg some (by kernel_rfl))
  f286 := Tryz.func106.trans (congrArg some (by kernel_rfl))
  f317 := Tryz.func113.trans (congrArg some (by kernel_rfl))
  f318 := Tryz.func114.trans (congrArg some (by kernel_rfl))
  f319 := Tryz.func115.trans (congrArg some (by kernel_rfl))
  f320 := Tryz.func116.trans (congrArg some (by kernel_rfl))
  f337 := Tryz.func126.trans (congrArg some (by kernel_rfl))
  f338 := Tryz.func127.trans (congrArg some (by kernel_rfl))
  t0 := Tryz.underlying0
  a0 := Tryz.isAgg0
  z0 := Tryz.sizeOf0
  v0 := Tryz.zeroValue0
  t2 := Tryz.underlying2
  a2 := Tryz.isAgg2
  z2 := Tryz.sizeOf2
  v2 := Tryz.zeroValue2
  t3 := Tryz.underlying3
  a3 := Tryz.isAgg3
  z3 := Tryz.sizeOf3
  v3 := Tryz.zeroValue3
  t4 := Tryz.underlying4
  a4 := Tryz.isAgg4
  z4 := Tryz.sizeOf4
  v4 := Tryz.zeroValue4
  t5 := Tryz.underlying5
  a5 := Tryz.isAgg5
  z5 := Tryz.sizeOf5
  v5 := Tryz.zeroValue5
  t9 := Tryz.underlying9
  a9 := Tryz.isAgg9
  z9 := Tryz.sizeOf9
  v9 := Tryz.zeroValue9
  t20 := Tryz.underlying20
  a20 := Tryz.isAgg20
  z20 := Tryz.sizeOf20
  v20 := Tryz.zeroValue20
  t37 := Tryz.underlying79
  a37 := Tryz.isAgg79
  z37 := Tryz.sizeOf79
  v37 := Tryz.zeroValue79
  t46 := Tryz.underlying103
  a46 := Tryz.isAgg103
  z46 := Tryz.sizeOf103
  v46 := Tryz.zeroValue103
  t51 := Tryz.underlying76
  a51 := Tryz.isAgg76
  z51 := Tryz.sizeOf76
  v51 := Tryz.zeroValue76
  t53 := Tryz.underlying77
  a53 := Tryz.isAgg77
  z53 := Tryz.sizeOf77
  v53 := Tryz.zeroValue77
  t171 := Tryz.underlying150
  a171 := Tryz.isAgg150
  z171 := Tryz.sizeOf150
  v171 := Tryz.zeroValue150
  t173 := Tryz.underlying152
  a173 := Tryz.isAgg152
  z173 := Tryz.sizeOf152
  v173 := Tryz.zeroValue152
  t212 := Tryz.underlying163
  a212 := Tryz.isAgg163
  z212 := Tryz.sizeOf163
  v212 := Tryz.zeroValue163
  t213 := Tryz.underlying164
  a213 := Tryz.isAgg164
  z213 := Tryz.sizeOf164
  t232 := Tryz.underlying174
  a232 := Tryz.isAgg174
  z232 := Tryz.sizeOf174
  v232 := Tryz.zeroValue174
  t233 := Tryz.underlying175
  a233 := Tryz.isAgg175
  z233 := Tryz.sizeOf175
  v233 := Tryz.zeroValue175
  g17 := by kernel_rfl
  g18 := by kernel_rfl
  g19 := by kernel_rfl }
open Go.RowKit Go.Sort Go.Lib in
/-- THE ROAD WITHOUT THE TABLE: 0 <= i < 100: two constants are read, nothing is laid: no premise on the world, and the world is as it was. (LAID: no walk: one application.) -/
theorem y_internal_strconv_FormatInt_10_small (i : Nat) (hi : i < 100) (w : World) :
    Calls Tryz.prog 82 #[.int .i64 i, .int .i64 10] w fun e w' => e = .returned (.string ⟨(Lib.decDigits i).toArray⟩) ∧ w' = w := Any.internal_strconv_FormatInt_10_small y_lays246 i hi w
def y_laysM243_ren : Go.Shelf.Ren := ⟨fun | 243 => 56 | 246 => 82 | 283 => 103 | 284 => 104 | 285 => 105 | 286 => 106 | 129 => 79 | 317 => 113 | 318 => 114 | 319 => 115 | 320 => 116 | 337 => 126 | 338 => 127 | n => n, fun | 3 => 3 | 9 => 9 | 2 => 2 | 4 => 4 | 171 => 150 | 0 => 0 | 53 => 77 | 37 => 79 | 5 => 5 | 173 => 152 | 212 => 163 | 51 => 76 | 20 => 20 | 213 => 164 | 46 => 103 | 232 => 174 | 233 => 175 | n => n, fun | 17 => 0 | 18 => 2 | 19 => 3 | n => n⟩
theorem y_laysM243 : Go.Proofs.LaysM.n243 Tryz.prog y_laysM243_ren := {
  mixed := by kernel_rfl
  f129 := Tryz.func79.trans (congrArg some (by kernel_rfl))
  f243 := Tryz.func56.trans (congrArg some (by kernel_rfl))
  f246 := Tryz.func82.trans (congrArg some (by kernel_rfl))
  f283 := Tryz.func103.trans (congrArg some (by kernel_rfl))
  f284 := Tryz.func104.trans (congrArg some (by kernel_rfl))
  f285 := Tryz.func105.trans (congrArg some (by kernel_rfl))
  f286 := Tryz.func106.trans (congrArg some (by kernel_rfl))
  f317 := Tryz.func113.trans (congrArg some (by kernel_rfl))
  f318 := Tryz.func114.trans (congrArg some (by kernel_rfl))
  f319 := Tryz.func115.trans (congrArg some (by kernel_rfl))
  f320 := Tryz.func116.trans (congrArg some (by kernel_rfl))
  f337 := Tryz.func126.trans (congrArg some (by kernel_rfl))
  f338 := Tryz.func127.trans (congrArg some (by kernel_rfl))
  t0 := Tryz.underlying0
  a0 := Tryz.isAgg0
  z0 := Tryz.sizeOf0
  v0 := Tryz.zeroValue0
  t2 := Tryz.underlying2
  a2 := Tryz.isAgg2
  z2 := Tryz.sizeOf2
  v2 := Tryz.zeroValue2
  t3 := Tryz.underlying3
  a3 := Tryz.isAgg3
  z3 := Tryz.sizeOf3
  v3 := Tryz.zeroValue3
  t4 := Tryz.underlying4
  a4 := Tryz.isAgg4
  z4 := Tryz.sizeOf4
  v4 := Tryz.zeroValue4
  t5 := Tryz.underlying5
  a5 := Tryz.isAgg5
  z5 := Tryz.sizeOf5
  v5 := Tryz.zeroValue5
  t9 := Tryz.underlying9
  a9 := Tryz.isAgg9
  z9 := Tryz.sizeOf9
  v9 := Tryz.zeroValue9
  t20 := Tryz.underlying20
  a20 := Tryz.isAgg20
  z20 := Tryz.sizeOf20
  v20 := Tryz.zeroValue20
  t37 := Tryz.underlying79
  a37 := Tryz.isAgg79
  z37 := Tryz.sizeOf79
  v37 := Tryz.zeroValue79
  t46 := Tryz.underlying103
  a46 := Tryz.isAgg103
  z46 := Tryz.sizeOf103
  v46 := Tryz.zeroValue103
  t51 := Tryz.underlying76
  a51 := Tryz.isAgg76
  z51 := Tryz.sizeOf76
  v51 := Tryz.zeroValue76
  t53 := Tryz.underlying77
  a53 := Tryz.isAgg77
  z53 := Tryz.sizeOf77
  v53 := Tryz.zeroValue77
  t171 := Tryz.underlying150
  a171 := Tryz.isAgg150
  z171 := Tryz.sizeOf150
  v171 := Tryz.zeroValue150
  t173 := Tryz.underlying152
  a173 := Tryz.isAgg152
  z173 := Tryz.sizeOf152
  v173 := Tryz.zeroValue152
  t212 := Tryz.underlying163
  a212 := Tryz.isAgg163
  z212 := Tryz.sizeOf163
  v212 := Tryz.zeroValue163
  t213 := Tryz.underlying164
  a213 := Tryz.isAgg164
  z213 := Tryz.sizeOf164
  t232 := Tryz.underlying174
  a232 := Tryz.isAgg174
  z232 := Tryz.sizeOf174
  v232 := Tryz.zeroValue174
  t233 := Tryz.underlying175
  a233 := Tryz.isAgg175
  z233 := Tryz.sizeOf175
  v233 := Tryz.zeroValue175
  g17 := by kernel_rfl
  g18 := by kernel_rfl
  g19 := by kernel_rfl
  i0 := by kernel_rfl
  i2 := by kernel_rfl
  i3 := by kernel_rfl
  i4 := by kernel_rfl
  i5 := by kernel_rfl
  i9 := by kernel_rfl
  i20 := by kernel_rfl
  i37 := by kernel_rfl
  i46 := by kernel_rfl
  i51 := by kernel_rfl
  i53 := by kernel_rfl
  i171 := by kernel_rfl
  i173 := by kernel_rfl
  i212 := by kernel_rfl
  i232 := by kernel_rfl
  i233 := by kernel_rfl
  m17 := by kernel_rfl
  m18 := by kernel_rfl
  m19 := by kernel_rfl }
open Go.RowKit Go.Sort Go.Lib in
/-- internal/strconv.Itoa: "Itoa is equivalent to FormatInt(int64(i), 10).": i's decimal numeral, for every int. (LAID: no walk: one application.) -/
theorem y_internal_strconv_Itoa (n : Int) (h0 : -9223372036854775808 ≤ n) (h1 : n ≤ 9223372036854775807) (w : World) (htab : Lib.TabIs Tryz.prog w "internal/strconv.uint64pow10" .u64 Lib.pow10Tab) :
    Calls Tryz.prog 56 #[.int .i64 n] w fun e w' => e = .returned (.string ⟨(Lib.itoa n).toArray⟩) ∧ ∃ k os, w' = grow (w.drewN k) os := Any.internal_strconv_Itoa y_laysM243 n h0 h1 w htab
def y_lays243_ren : Go.Shelf.Ren := ⟨fun | 243 => 56 | 246 => 82 | 283 => 103 | 284 => 104 | 285 => 105 | 286 => 106 | 129 => 79 | 317 => 113 | 318 => 114 | 319 => 115 | 320 => 116 | 337 => 126 | 338 => 127 | n => n, fun | 3 => 3 | 9 => 9 | 2 => 2 | 4 => 4 | 171 => 150 | 0 => 0 | 53 => 77 | 37 => 79 | 5 => 5 | 173 => 152 | 212 => 163 | 51 => 76 | 20 => 20 | 213 => 164 | 46 => 103 | 232 => 174 | 233 => 175 | n => n, fun | 17 => 0 | 18 => 2 | 19 => 3 | n => n⟩
theorem y_lays243 : Go.Proofs.Lays.n243 Tryz.prog y_lays243_ren := {
  mixed := by kernel_rfl
  f129 := Tryz.func79.trans (congrArg some (by kernel_rfl))
  f243 := Tryz.func56.trans (congrArg some (by kernel_rfl))
  f246 := Tryz.func82.trans (congrArg some (by kernel_rfl))
  f283 := Tryz.func103.trans (congrArg some (by kernel_rfl))
  f284 := Tryz.func104.trans (congrArg some (by kernel_rfl))
  f285 := Tryz.func105.trans (congrArg some (by kernel_rfl))
  f286 := Tryz.func106.trans (congrArg some (by kernel_rfl))
  f317 := Tryz.func113.trans (congrArg some (by kernel_rfl))
  f318 := Tryz.func114.trans (congrArg some (by kernel_rfl))
  f319 := Tryz.func115.trans (congrArg some (by kernel_rfl))
  f320 := Tryz.func116.trans (congrArg some (by kernel_rfl))
  f337 := Tryz.func126.trans (congrArg some (by kernel_rfl))
  f338 := Tryz.func127.trans (congrArg some (by kernel_rfl))
  t0 := Tryz.underlying0
  a0 := Tryz.isAgg0
  z0 := Tryz.sizeOf0
  v0 := Tryz.zeroValue0
  t2 := Tryz.underlying2
  a2 := Tryz.isAgg2
  z2 := Tryz.sizeOf2
  v2 := Tryz.zeroValue2
  t3 := Tryz.underlying3
  a3 := Tryz.isAgg3
  z3 := Tryz.sizeOf3
  v3 := Tryz.zeroValue3
  t4 := Tryz.underlying4
  a4 := Tryz.isAgg4
  z4 := Tryz.sizeOf4
  v4 := Tryz.zeroValue4
  t5 := Tryz.underlying5
  a5 := Tryz.isAgg5
  z5 := Tryz.sizeOf5
  v5 := Tryz.zeroValue5
  t9 := Tryz.underlying9
  a9 := Tryz.isAgg9
  z9 := Tryz.sizeOf9
  v9 := Tryz.zeroValue9
  t20 := Tryz.underlying20
  a20 := Tryz.isAgg20
  z20 := Tryz.sizeOf20
  v20 := Tryz.zeroValue20
  t37 := Tryz.underlying79
  a37 := Tryz.isAgg79
  z37 := Tryz.sizeOf79
  v37 := Tryz.zeroValue79
  t46 := Tryz.underlying103
  a46 := Tryz.isAgg103
  z46 := Tryz.sizeOf103
  v46 := Tryz.zeroValue103
  t51 := Tryz.underlying76
  a51 := Tryz.isAgg76
  z51 := Tryz.sizeOf76
  v51 := Tryz.zeroValue76
  t53 := Tryz.underlying77
  a53 := Tryz.isAgg77
  z53 := Tryz.sizeOf77
  v53 := Tryz.zeroValue77
  t171 := Tryz.underlying150
  a171 := Tryz.isAgg150
  z171 := Tryz.sizeOf150
  v171 := Tryz.zeroValue150
  t173 := Tryz.underlying152
  a173 := Tryz.isAgg152
  z173 := Tryz.sizeOf152
  v173 := Tryz.zeroValue152
  t212 := Tryz.underlying163
  a212 := Tryz.isAgg163
  z212 := Tryz.sizeOf163
  v212 := Tryz.zeroValue163
  t213 := Tryz.underlying164
  a213 := Tryz.isAgg164
  z213 := Tryz.sizeOf164
  t232 := Tryz.underlying174
  a232 := Tryz.isAgg174
  z232 := Tryz.sizeOf174
  v232 := Tryz.zeroValue174
  t233 := Tryz.underlying175
  a233 := Tryz.isAgg175
  z233 := Tryz.sizeOf175
  v233 := Tryz.zeroValue175
  g17 := by kernel_rfl
  g18 := by kernel_rfl
  g19 := by kernel_rfl }
open Go.RowKit Go.Sort Go.Lib in
/-- THE ROAD WITHOUT THE TABLE: 0 <= i < 100. (LAID: no walk: one application.) -/
theorem y_internal_strconv_Itoa_small (i : Nat) (hi : i < 100) (w : World) :
    Calls Tryz.prog 56 #[.int .i64 i] w fun e w' => e = .returned (.string ⟨(Lib.decDigits i).toArray⟩) ∧ w' = w := Any.internal_strconv_Itoa_small y_lays243 i hi w
def y_laysM171_ren : Go.Shelf.Ren := ⟨fun | 171 => 35 | 243 => 56 | 246 => 82 | 283 => 103 | 284 => 104 | 285 => 105 | 286 => 106 | 129 => 79 | 317 => 113 | 318 => 114 | 319 => 115 | 320 => 116 | 337 => 126 | 338 => 127 | n => n, fun | 3 => 3 | 9 => 9 | 2 => 2 | 4 => 4 | 171 => 150 | 0 => 0 | 53 => 77 | 37 => 79 | 5 => 5 | 173 => 152 | 212 => 163 | 51 => 76 | 20 => 20 | 213 => 164 | 46 => 103 | 232 => 174 | 233 => 175 | n => n, fun | 17 => 0 | 18 => 2 | 19 => 3 | n => n⟩
theorem y_laysM171 : Go.Proofs.LaysM.n171 Tryz.prog y_laysM171_ren := {
  mixed := by kernel_rfl
  f129 := Tryz.func79.trans (congrArg some (by kernel_rfl))
  f171 := Tryz.func35.trans (congrArg some (by kernel_rfl))
  f243 := Tryz.func56.trans (congrArg some (by kernel_rfl))
  f246 := Tryz.func82.trans (congrArg some (by kernel_rfl))
  f283 := Tryz.func103.trans (congrArg some (by kernel_rfl))
  f284 := Tryz.func104.trans (congrArg some (by kernel_rfl))
  f285 := Tryz.func105.trans (congrArg some (by kernel_rfl))
  f286 := Tryz.func106.trans (congrArg some (by kernel_rfl))
  f317 := Tryz.func113.trans (congrArg some (by kernel_rfl))
  f318 := Tryz.func114.trans (congrArg some (by kernel_rfl))
  f319 := Tryz.func115.trans (congrArg some (by kernel_rfl))
  f320 := Tryz.func116.trans (congrArg some (by kernel_rfl))
  f337 := Tryz.func126.trans (congrArg some (by kernel_rfl))
  f338 := Tryz.func127.trans (congrArg some (by kernel_rfl))
  t0 := Tryz.underlying0
  a0 := Tryz.isAgg0
  z0 := Tryz.sizeOf0
  v0 := Tryz.zeroValue0
  t2 := Tryz.underlying2
  a2 := Tryz.isAgg2
  z2 := Tryz.sizeOf2
  v2 := Tryz.zeroValue2
  t3 := Tryz.underlying3
  a3 := Tryz.isAgg3
  z3 := Tryz.sizeOf3
  v3 := Tryz.zeroValue3
  t4 := Tryz.underlying4
  a4 := Tryz.isAgg4
  z4 := Tryz.sizeOf4
  v4 := Tryz.zeroValue4
  t5 := Tryz.underlying5
  a5 := Tryz.isAgg5
  z5 := Tryz.sizeOf5
  v5 := Tryz.zeroValue5
  t9 := Tryz.underlying9
  a9 := Tryz.isAgg9
  z9 := Tryz.sizeOf9
  v9 := Tryz.zeroValue9
  t20 := Tryz.underlying20
  a20 := Tryz.isAgg20
  z20 := Tryz.sizeOf20
  v20 := Tryz.zeroValue20
  t37 := Tryz.underlying79
  a37 := Tryz.isAgg79
  z37 := Tryz.sizeOf79
  v37 := Tryz.zeroValue79
  t46 := Tryz.underlying103
  a46 := Tryz.isAgg103
  z46 := Tryz.sizeOf103
  v46 := Tryz.zeroValue103
  t51 := Tryz.underlying76
  a51 := Tryz.isAgg76
  z51 := Tryz.sizeOf76
  v51 := Tryz.zeroValue76
  t53 := Tryz.underlying77
  a53 := Tryz.isAgg77
  z53 := Tryz.sizeOf77
  v53 := Tryz.zeroValue77
  t171 := Tryz.underlying150
  a171 := Tryz.isAgg150
  z171 := Tryz.sizeOf150
  v171 := Tryz.zeroValue150
  t173 := Tryz.underlying152
  a173 := Tryz.isAgg152
  z173 := Tryz.sizeOf152
  v173 := Tryz.zeroValue152
  t212 := Tryz.underlying163
  a212 := Tryz.isAgg163
  z212 := Tryz.sizeOf163
  v212 := Tryz.zeroValue163
  t213 := Tryz.underlying164
  a213 := Tryz.isAgg164
  z213 := Tryz.sizeOf164
  t232 := Tryz.underlying174
  a232 := Tryz.isAgg174
  z232 := Tryz.sizeOf174
  v232 := Tryz.zeroValue174
  t233 := Tryz.underlying175
  a233 := Tryz.isAgg175
  z233 := Tryz.sizeOf175
  v233 := Tryz.zeroValue175
  g17 := by kernel_rfl
  g18 := by kernel_rfl
  g19 := by kernel_rfl
  i0 := by kernel_rfl
  i2 := by kernel_rfl
  i3 := by kernel_rfl
  i4 := by kernel_rfl
  i5 := by kernel_rfl
  i9 := by kernel_rfl
  i20 := by kernel_rfl
  i37 := by kernel_rfl
  i46 := by kernel_rfl
  i51 := by kernel_rfl
  i53 := by kernel_rfl
  i171 := by kernel_rfl
  i173 := by kernel_rfl
  i212 := by kernel_rfl
  i232 := by kernel_rfl
  i233 := by kernel_rfl
  m17 := by kernel_rfl
  m18 := by kernel_rfl
  m19 := by kernel_rfl }
open Go.RowKit Go.Sort Go.Lib in
/-- strconv.Itoa: "Itoa is equivalent to FormatInt(int64(i), 10).": i's DECIMAL NUMERAL ('Lib.itoa': a '-' where i is negative, then the digits), FOR EVERY int. The world behind the call: the world before it, new blocks behind the heap (the library's 'var a [24]byte'), draws. (LAID: no walk: one application.) -/
theorem y_strconv_Itoa (n : Int) (h0 : -9223372036854775808 ≤ n) (h1 : n ≤ 9223372036854775807) (w : World) (htab : Lib.TabIs Tryz.prog w "internal/strconv.uint64pow10" .u64 Lib.pow10Tab) :
    Calls Tryz.prog 35 #[.int .i64 n] w fun e w' => e = .returned (.string ⟨(Lib.itoa n).toArray⟩) ∧ ∃ k os, w' = grow (w.drewN k) os := Any.strconv_Itoa y_laysM171 n h0 h1 w htab
def y_lays171_ren : Go.Shelf.Ren := ⟨fun | 171 => 35 | 243 => 56 | 246 => 82 | 283 => 103 | 284 => 104 | 285 => 105 | 286 => 106 | 129 => 79 | 317 => 113 | 318 => 114 | 319 => 115 | 320 => 116 | 337 => 126 | 338 => 127 | n => n, fun | 3 => 3 | 9 => 9 | 2 => 2 | 4 => 4 | 171 => 150 | 0 => 0 | 53 => 77 | 37 => 79 | 5 => 5 | 173 => 152 | 212 => 163 | 51 => 76 | 20 => 20 | 213 => 164 | 46 => 103 | 232 => 174 | 233 => 175 | n => n, fun | 17 => 0 | 18 => 2 | 19 => 3 | n => n⟩
theorem y_lays171 : Go.Proofs.Lays.n171 Tryz.prog y_lays171_ren := {
  mixed := by kernel_rfl
  f129 := Tryz.func79.trans (congrArg some (by kernel_rfl))
  f171 := Tryz.func35.trans (congrArg some (by kernel_rfl))
  f243 := Tryz.func56.trans (congrArg some (by kernel_rfl))
  f246 := Tryz.func82.trans (congrArg some (by kernel_rfl))
  f283 := Tryz.func103.trans (congrArg some (by kernel_rfl))
  f284 := Tryz.func104.trans (congrArg some (by kernel_rfl))
  f285 := Tryz.func105.trans (congrArg some (by kernel_rfl))
  f286 := Tryz.func106.trans (congrArg some (by kernel_rfl))
  f317 := Tryz.func113.trans (congrArg some (by kernel_rfl))
  f318 := Tryz.func114.trans (congrArg some (by kernel_rfl))
  f319 := Tryz.func115.trans (congrArg some (by kernel_rfl))
  f320 := Tryz.func116.trans (congrArg some (by kernel_rfl))
  f337 := Tryz.func126.trans (congrArg some (by kernel_rfl))
  f338 := Tryz.func127.trans (congrArg some (by kernel_rfl))
  t0 := Tryz.underlying0
  a0 := Tryz.isAgg0
  z0 := Tryz.sizeOf0
  v0 := Tryz.zeroValue0
  t2 := Tryz.underlying2
  a2 := Tryz.isAgg2
  z2 := Tryz.sizeOf2
  v2 := Tryz.zeroValue2
  t3 := Tryz.underlying3
  a3 := Tryz.isAgg3
  z3 := Tryz.sizeOf3
  v3 := Tryz.zeroValue3
  t4 := Tryz.underlying4
  a4 := Tryz.isAgg4
  z4 := Tryz.sizeOf4
  v4 := Tryz.zeroValue4
  t5 := Tryz.underlying5
  a5 := Tryz.isAgg5
  z5 := Tryz.sizeOf5
  v5 := Tryz.zeroValue5
  t9 := Tryz.underlying9
  a9 := Tryz.isAgg9
  z9 := Tryz.sizeOf9
  v9 := Tryz.zeroValue9
  t20 := Tryz.underlying20
  a20 := Tryz.isAgg20
  z20 := Tryz.sizeOf20
  v20 := Tryz.zeroValue20
  t37 := Tryz.underlying79
  a37 := Tryz.isAgg79
  z37 := Tryz.sizeOf79
  v37 := Tryz.zeroValue79
  t46 := Tryz.underlying103
  a46 := Tryz.isAgg103
  z46 := Tryz.sizeOf103
  v46 := Tryz.zeroValue103
  t51 := Tryz.underlying76
  a51 := Tryz.isAgg76
  z51 := Tryz.sizeOf76
  v51 := Tryz.zeroValue76
  t53 := Tryz.underlying77
  a53 := Tryz.isAgg77
  z53 := Tryz.sizeOf77
  v53 := Tryz.zeroValue77
  t171 := Tryz.underlying150
  a171 := Tryz.isAgg150
  z171 := Tryz.sizeOf150
  v171 := Tryz.zeroValue150
  t173 := Tryz.underlying152
  a173 := Tryz.isAgg152
  z173 := Tryz.sizeOf152
  v173 := Tryz.zeroValue152
  t212 := Tryz.underlying163
  a212 := Tryz.isAgg163
  z212 := Tryz.sizeOf163
  v212 := Tryz.zeroValue163
  t213 := Tryz.underlying164
  a213 := Tryz.isAgg164
  z213 := Tryz.sizeOf164
  t232 := Tryz.underlying174
  a232 := Tryz.isAgg174
  z232 := Tryz.sizeOf174
  v232 := Tryz.zeroValue174
  t233 := Tryz.underlying175
  a233 := Tryz.isAgg175
  z233 := Tryz.sizeOf175
  v233 := Tryz.zeroValue175
  g17 := by kernel_rfl
  g18 := by kernel_rfl
  g19 := by kernel_rfl }
open Go.RowKit Go.Sort Go.Lib in
/-- THE ROAD WITHOUT THE TABLE: 0 <= i < 100: NO PREMISE ON THE WORLD, AND THE WORLD IS AS IT WAS: a row that keeps its argument in that range need list no table ('laid = []'). (LAID: no walk: one application.) -/
theorem y_strconv_Itoa_small (i : Nat) (hi : i < 100) (w : World) :
    Calls Tryz.prog 35 #[.int .i64 i] w fun e w' => e = .returned (.string ⟨(Lib.decDigits i).toArray⟩) ∧ w' = w := Any.strconv_Itoa_small y_lays171 i hi w
def y_lays206_ren : Go.Shelf.Ren := ⟨fun | 206 => 85 | n => n, fun | 9 => 9 | 4 => 4 | 3 => 3 | n => n, fun | n => n⟩
theorem y_lays206 : Go.Proofs.Lays.n206 Tryz.prog y_lays206_ren := {
  mixed := by kernel_rfl
  f206 := Tryz.func85.trans (congrArg some (by kernel_rfl))
  t3 := Tryz.underlying3
  a3 := Tryz.isAgg3
  z3 := Tryz.sizeOf3
  v3 := Tryz.zeroValue3
  t4 := Tryz.underlying4
  a4 := Tryz.isAgg4
  z4 := Tryz.sizeOf4
  v4 := Tryz.zeroValue4
  t9 := Tryz.underlying9
  a9 := Tryz.isAgg9
  z9 := Tryz.sizeOf9
  v9 := Tryz.zeroValue9 }
open Go.RowKit Go.Lib in
/-- internal/stringslite.HasPrefix (what strings.HasPrefix calls). (LAID: no walk: one application.) -/
theorem y_stringslite_HasPrefix (s p : ByteArray) (w : World) :
    Calls Tryz.prog 85 #[.string s, .string p] w fun e w' => e = .returned (.bool (Lib.hasPrefix s.data.toList p.data.toList)) ∧ w' = w := Any.stringslite_HasPrefix y_lays206 s p w
def y_lays99_ren : Go.Shelf.Ren := ⟨fun | 99 => 58 | 206 => 85 | n => n, fun | 9 => 9 | 4 => 4 | 3 => 3 | n => n, fun | n => n⟩
theorem y_lays99 : Go.Proofs.Lays.n99 Tryz.prog y_lays99_ren := {
  mixed := by kernel_rfl
  f99 := Tryz.func58.trans (congrArg some (by kernel_rfl))
  f206 := Tryz.func85.trans (congrArg some (by kernel_rfl))
  t3 := Tryz.underlying3
  a3 := Tryz.isAgg3
  z3 := Tryz.sizeOf3
  v3 := Tryz.zeroValue3
  t4 := Tryz.underlying4
  a4 := Tryz.isAgg4
  z4 := Tryz.sizeOf4
  v4 := Tryz.zeroValue4
  t9 := Tryz.underlying9
  a9 := Tryz.isAgg9
  z9 := Tryz.sizeOf9
  v9 := Tryz.zeroValue9 }
open Go.RowKit Go.Lib in
/-- strings.HasPrefix: "HasPrefix reports whether the string s begins with prefix.": IT RETURNS 'Lib.hasPrefix s prefix'; the world is as it was. (LAID: no walk: one application.) -/
theorem y_strings_HasPrefix (s p : ByteArray) (w : World) :
    Calls Tryz.prog 58 #[.string s, .string p] w fun e w' => e = .returned (.bool (Lib.hasPrefix s.data.toList p.data.toList)) ∧ w' = w := Any.strings_HasPrefix y_lays99 s p w
def y_lays264_ren : Go.Shelf.Ren := ⟨fun | 264 => 84 | n => n, fun | 53 => 77 | 46 => 103 | n => n, fun | n => n⟩
theorem y_lays264 : Go.Proofs.Lays.n264 Tryz.prog y_lays264_ren := {
  mixed := by kernel_rfl
  f264 := Tryz.func84.trans (congrArg some (by kernel_rfl))
  t46 := Tryz.underlying103
  a46 := Tryz.isAgg103
  z46 := Tryz.sizeOf103
  v46 := Tryz.zeroValue103
  t53 := Tryz.underlying77
  a53 := Tryz.isAgg77
  z53 := Tryz.sizeOf77
  v53 := Tryz.zeroValue77 }
open Go.RowKit Go.Lib in
theorem y_bits_Mul64 (x y : Nat) (hx : x < 18446744073709551616) (hy : y < 18446744073709551616) (w : World) :
    Calls Tryz.prog 84 #[.int .u64 x, .int .u64 y] w fun e w' => e = .returned (.tuple #[.int .u64 ((x * y / 18446744073709551616 : Nat) : Int), .int .u64 ((x * y % 18446744073709551616 : Nat) : Int)]) ∧ w' = w := Any.bits_Mul64 y_lays264 x y hx hy w
def y_lays212_ren : Go.Shelf.Ren := ⟨fun | 212 => 57 | 263 => 83 | 264 => 84 | n => n, fun | 46 => 103 | 51 => 76 | 146 => 133 | 53 => 77 | 148 => 135 | n => n, fun | n => n⟩
theorem y_lays212 : Go.Proofs.Lays.n212 Tryz.prog y_lays212_ren := {
  mixed := by kernel_rfl
  f212 := Tryz.func57.trans (congrArg some (by kernel_rfl))
  f263 := Tryz.func83.trans (congrArg some (by kernel_rfl))
  f264 := Tryz.func84.trans (congrArg some (by kernel_rfl))
  t46 := Tryz.underlying103
  a46 := Tryz.isAgg103
  z46 := Tryz.sizeOf103
  v46 := Tryz.zeroValue103
  t51 := Tryz.underlying76
  a51 := Tryz.isAgg76
  z51 := Tryz.sizeOf76
  v51 := Tryz.zeroValue76
  t53 := Tryz.underlying77
  a53 := Tryz.isAgg77
  z53 := Tryz.sizeOf77
  v53 := Tryz.zeroValue77
  t146 := Tryz.underlying133
  a146 := Tryz.isAgg133
  z146 := Tryz.sizeOf133
  v146 := Tryz.zeroValue133
  t148 := Tryz.underlying135
  a148 := Tryz.isAgg135
  z148 := Tryz.sizeOf135
  v148 := Tryz.zeroValue135 }
open Go.RowKit Go.Lib in
/-- math/bits.Mul: "Mul returns the full-width product of x and y": on a machine of 64 bits: Mul64's. (LAID: no walk: one application.) -/
theorem y_bits_Mul (x y : Nat) (hx : x < 18446744073709551616) (hy : y < 18446744073709551616) (w : World) :
    Calls Tryz.prog 57 #[.int .u64 x, .int .u64 y] w fun e w' => e = .returned (.tuple #[.int .u64 ((x * y / 18446744073709551616 : Nat) : Int), .int .u64 ((x * y % 18446744073709551616 : Nat) : Int)]) ∧ w' = w := Any.bits_Mul y_lays212 x y hx hy w
def y_lays112_ren : Go.Shelf.Ren := ⟨fun | 112 => 31 | n => n, fun | 28 => 37 | 3 => 3 | 4 => 4 | 0 => 0 | n => n, fun | n => n⟩
theorem y_lays112 : Go.Proofs.Lays.n112 Tryz.prog y_lays112_ren := {
  mixed := by kernel_rfl
  f112 := Tryz.func31.trans (congrArg some (by kernel_rfl))
  t0 := Tryz.underlying0
  a0 := Tryz.isAgg0
  z0 := Tryz.sizeOf0
  v0 := Tryz.zeroValue0
  t3 := Tryz.underlying3
  a3 := Tryz.isAgg3
  z3 := Tryz.sizeOf3
  v3 := Tryz.zeroValue3
  t4 := Tryz.underlying4
  a4 := Tryz.isAgg4
  z4 := Tryz.sizeOf4
  v4 := Tryz.zeroValue4
  t28 := Tryz.underlying37
  a28 := Tryz.isAgg37
  z28 := Tryz.sizeOf37
  v28 := Tryz.zeroValue37 }
end Go.Proofs.YtkcpfpofimkkiaaGreatDoor
namespace Go.Proofs.YtkcpfpofimkkiaaGreatDoor
open Go
set_option linter.unusedVariables false

theorem wpStill_of_quiet {P : Program} {ops : Array Oper} {w : World} {Q : Act → Prop} : ∀ (l : List Oper) (a : Act), wpQuiet P ops (fun w' => w' = w) Q l a → wpStill P ops w Q l a
  | [], a, h => h
  | o :: rest, a, h => by
    unfold wpQuiet at h
    unfold wpStill
    split at h
    · rename_i hw
      rw [if_pos hw]
      obtain ⟨v, h1, h2⟩ := h
      have h3 := h1 w rfl
      unfold Oper.quietAt at h3
      unfold Oper.still
      generalize (execOp a.eval o).run P w = r at *
      cases r with
      | halt x w' => exact h3.elim
      | ok n w' =>
        cases n with
        | value u =>
          obtain ⟨rfl, rfl⟩ := h3
          exact ⟨rfl, wpStill_of_quiet rest _ h2⟩
        | skip =>
          obtain ⟨rfl, rfl⟩ := h3
          exact ⟨rfl, wpStill_of_quiet rest _ h2⟩
        | enter f args =>
          obtain ⟨rfl, hc⟩ := h3
          exact ⟨rfl, v, hc, wpStill_of_quiet rest _ h2⟩
        | _ => exact h3.elim
    · rename_i hw
      rw [if_neg hw]
      exact wpStill_of_quiet rest _ h

/-- N quiet operations, then the tail, in the world drawn once. -/
theorem wp_quiet_tail {P : Program} {ops : Array Oper} {w w2 : World} (hw : w2 = w.drew) {Q : Act → Prop} {l : List Oper} {a : Act} (h : wpQuiet P ops (fun w' => w' = w2) Q l a) : wpStill P ops w.drew Q l a := by
  subst hw
  exact wpStill_of_quiet l a h
end Go.Proofs.YtkcpfpofimkkiaaGreatDoor
namespace Go.Proofs.YtkcpfpofimkkiaaGreatDoor
open Go.RowKit
set_option linter.unusedVariables false
set_option linter.unusedSimpArgs false

theorem ret_eq {v v' : Value} (h : v = v') : Ending.returned v = Ending.returned v' := by rw [h]

/-- Number k of a list of integers. -/
def nth (l : List Int) (k : Nat) : Int := l.getD k 0
theorem nth_get {l : List Int} {k : Nat} (h : k < l.length) : nth l k = l[k] := by simp [nth, h]
theorem nth_some {l : List Int} {k : Nat} (h : k < l.length) : l[k]? = some (nth l k) := by rw [nth_get h, List.getElem?_eq_getElem h]

/-- The slice's address A leads to the cells xs, below block B. -/
def Rd (w : World) (B : Nat) (A : Option Addr) (xs : List Value) : Prop :=
  xs ≠ [] → ∃ b off, A = some ⟨b, off, none⟩ ∧ b < B ∧ ∀ (j : Nat) (u : Value), xs[j]? = some u → w.cell? ⟨b, off + j, none⟩ = some u

theorem Rd.keep {w w' : World} {B : Nat} {A : Option Addr} {xs : List Value} (h : Rd w B A xs) (hk : ∀ p : Addr, p.block < B → w'.cell? p = w.cell? p) : Rd w' B A xs := fun hn => by
  obtain ⟨b, off, e, hb, hc⟩ := h hn
  exact ⟨b, off, e, hb, fun j u hu => (hk _ hb).trans (hc j u hu)⟩
theorem Rd.more {w : World} {B B' : Nat} {A : Option Addr} {xs : List Value} (h : Rd w B A xs) (hB : B ≤ B') : Rd w B' A xs := fun hn => by
  obtain ⟨b, off, e, hb, hc⟩ := h hn
  exact ⟨b, off, e, by omega, hc⟩
theorem Rd.below {w w' : World} {B : Nat} {A : Option Addr} {xs : List Value} (h : Rd w B A xs) (hb : Below B w w') : Rd w' B A xs := h.keep fun _ hp => hb.cell hp
theorem Rd.nil (w : World) (B : Nat) (A : Option Addr) : Rd w B A [] := fun h => absurd rfl h

/-- A slice of integers. -/
def RdI (w : World) (B : Nat) (A : Option Addr) (l : List Int) : Prop := Rd w B A (l.map (Value.int .i64))
theorem RdI.at_ {w : World} {B : Nat} {A : Option Addr} {l : List Int} (h : RdI w B A l) (hn : 0 < l.length) :
    ∃ b off, A = some ⟨b, off, none⟩ ∧ b < B ∧ ∀ j, j < l.length → w.cell? ⟨b, off + j, none⟩ = some (.int .i64 (nth l j)) := by
  obtain ⟨b, off, e, hb, hc⟩ := h (by intro e; rw [List.map_eq_nil_iff] at e; subst e; simp at hn)
  exact ⟨b, off, e, hb, fun j hj => hc j _ (by rw [List.getElem?_map, nth_some hj]; rfl)⟩
theorem RdI.below {w w' : World} {B : Nat} {A : Option Addr} {l : List Int} (h : RdI w B A l) (hb : Below B w w') : RdI w' B A l := Rd.below h hb
theorem RdI.more {w : World} {B B' : Nat} {A : Option Addr} {l : List Int} (h : RdI w B A l) (hB : B ≤ B') : RdI w B' A l := Rd.more h hB

/-- What a row of the call's own reads as. -/
theorem own_form {w : World} {base : Nat} {e : TypeId} {size n : Nat} {v : Value} {xs : List Value} (h : w.ownsRow base e size v n xs) : ∃ A c, v = .slice A n c ∧ n ≤ c ∧ c ≤ maxLen ∧ Rd w w.heap.size A xs := by
  rcases h.2 with ⟨rfl, rfl⟩ | ⟨g, cap, cur, rfl, hb, hg, hn, hc, hs, ht⟩
  · have hx : xs = [] := List.eq_nil_of_length_eq_zero (by simpa using h.1)
    subst hx
    exact ⟨none, 0, rfl, Nat.le_refl _, Nat.zero_le _, Rd.nil _ _ _⟩
  · refine ⟨some ⟨g, 0, none⟩, cap, rfl, hn, hc, fun _ => ⟨g, 0, rfl, (Array.getElem?_eq_some_iff.1 hg).1, fun j u hu => ?_⟩⟩
    have := h.cells (g := g) rfl j u hu
    have hadd : (⟨g, 0, none⟩ : Addr).add j = ⟨g, 0 + j, none⟩ := by unfold Addr.add; split <;> simp_all
    rwa [hadd] at this

/-! ### append of elements that were just laid into a block of their own -/

/-- The slice type t has elements of type e, of so many cells and bytes, zero z. -/
structure ElTy (P : Program) (t e : TypeId) (size bytes : Nat) (z : Value) : Prop where
  ht : P.underlying t = some (.slice e)
  hi : (P.info? e).map (fun i => (i.zero, i.size, i.bytes)) = some (some z, size, bytes)
  hz : z.cells.size = size
  hs : 0 < size

theorem own_ext {w w' : World} {base : Nat} {e : TypeId} {size n : Nat} {v : Value} {xs : List Value} (h : w.ownsRow base e size v n xs) (hb : Below w.heap.size w w') : w'.ownsRow base e size v n xs :=
  h.kept (row := none) ⟨hb.os, hb.tape, hb.output, hb.size, fun k hk _ => hb.block k hk⟩ (by cases v.ownBlock <;> simp)

theorem own_base {w : World} {base : Nat} {e : TypeId} {size n : Nat} {v : Value} {xs : List Value} (h : w.ownsRow base e size v n xs) : ∀ k, v.ownBlock = some k → base ≤ k := fun k hk => (h.lt k hk).1

theorem grown_of_alloc {w w' : World} {o : Obj} {row : Option Nat} (h : (w.alloc o).grownBy w' row) : w.grownBy w' row :=
  ⟨h.os, h.tape, h.output, Nat.le_trans (by simp) h.size, fun k hk hne => (h.block k (by simp; omega) hne).trans (Below.heap_alloc w o k hk)⟩

section
variable {P : Program} {t e : TypeId} {size bytes : Nat} {z : Value}

theorem wpList_app (E : ElTy P t e size bytes z) {ops : Array Oper} {rest : List Oper} {o : Oper} {a : Act} {Q : Exit → Act → World → Prop} {w0 : World} (hgd : o.guard = none) (s x : Operand)
    (ho : o.op = .call { callee := .builtin .append, args := #[s, x], argTypes := #[t, t] })
    (base : Nat) (v : Value) (n m : Nat) (xs news : List Value) (hs : a.eval s = v) (hown : w0.ownsRow base e size v n xs)
    (hx : a.eval x = .slice (some ⟨w0.heap.size, 0, none⟩) m m) (hl : news.length = m * size) (h1 : ∀ u ∈ news, u.oneCell' = true)
    (h63 : n + m ≤ 140737488355328) (hbytes : (n + m) * bytes ≤ 140737488355328) (hbase : base ≤ w0.heap.size)
    (h : ∀ v' w', w'.ownsRow base e size v' (n + m) (xs ++ news) → w0.grownBy w' v.ownBlock → (v'.ownBlock = v.ownBlock ∨ v'.ownBlock = some (w0.heap.size + 1)) → wpList P ops Q rest (a.put o.dst v') w') :
    wpList P ops Q (o :: rest) a (w0.alloc (.cells news.toArray e)) := by
  obtain ⟨i, hi, hz, hsz, hby⟩ := info_parts E.hi
  refine wpList_append_own_at _ hgd s x t ho base e i z size bytes E.ht hi hz hsz hby E.hz E.hs v n xs hs (hown.alloc _) ⟨w0.heap.size, 0, none⟩ m m news hx hl (fun j u hu => ?_) h1 (by simp only [maxLen]; omega) hbytes (by simp; omega) ?_
  · have hadd : (⟨w0.heap.size, 0, none⟩ : Addr).add j = ⟨w0.heap.size, j, none⟩ := by unfold Addr.add; split <;> simp_all
    rw [hadd, cell_of_row _ w0.heap.size j news.toArray e (0, 0) (heap_alloc_new w0 _)]
    simpa using hu
  · intro v' w' h2 h3 _ h5
    exact h v' w' h2 (grown_of_alloc h3) (by simpa using h5)
end
end Go.Proofs.YtkcpfpofimkkiaaGreatDoor
