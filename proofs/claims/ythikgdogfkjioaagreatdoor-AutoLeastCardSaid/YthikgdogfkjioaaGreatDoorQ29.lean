/- slices.SortFunc laid at this program: written by the kit's laying tool (lay-plain) for this seat, names turned. · Ranges sorted by their first point: slices.SortFunc's contract at points.Canon's call. -/
import Derived.Shelf.SlSortCmp.WholeK
import Derived.Shelf.SlSortCmp.Whole1
import Derived.Shelf.SlGeneric
import Derived.Ground.SlsfProg
import Derived.Test.YthikgdogfkjioaaGreatDoorProg
import Derived.Test.YthikgdogfkjioaaGreatDoorQ9
import Derived.Shelf.SlSortCmp.NoneTotal
namespace Go.Proofs.YthikgdogfkjioaaGreatDoor
open Go.Shelf Go.RowKit
def sortRg_ren : Go.Shelf.Ren := ⟨fun | 6 => 59 | 15 => 39 | 14 => 78 | 28 => 56 | 29 => 57 | 20 => 87 | 21 => 88 | 22 => 89 | 23 => 90 | 24 => 91 | 25 => 92 | 26 => 93 | 27 => 94 | 46 => 98 | 47 => 70 | 48 => 71 | 49 => 99 | 50 => 100 | 57 => 101 | n => n, fun | 22 => 33 | 24 => 52 | 25 => 98 | 3 => 3 | 39 => 78 | 0 => 0 | 53 => 93 | 55 => 95 | 4 => 4 | 46 => 87 | 45 => 86 | 50 => 60 | 5 => 5 | 9 => 9 | 66 => 104 | 70 => 108 | 76 => 118 | 77 => 119 | n => n, fun | n => n⟩
theorem sortRg : Go.Proofs.SlLaysF0.n6 Tryz.prog sortRg_ren := {
  mixed := by kernel_rfl
  f6 := ⟨Tryz.f59.name, by decide, Tryz.func59.trans (congrArg some (by kernel_rfl))⟩
  f14 := ⟨Tryz.f78.name, by decide, Tryz.func78.trans (congrArg some (by kernel_rfl))⟩
  f15 := Tryz.func39.trans (congrArg some (by kernel_rfl))
  f20 := ⟨Tryz.f87.name, by decide, Tryz.func87.trans (congrArg some (by kernel_rfl))⟩
  f21 := ⟨Tryz.f88.name, by decide, Tryz.func88.trans (congrArg some (by kernel_rfl))⟩
  f22 := ⟨Tryz.f89.name, by decide, Tryz.func89.trans (congrArg some (by kernel_rfl))⟩
  f23 := ⟨Tryz.f90.name, by decide, Tryz.func90.trans (congrArg some (by kernel_rfl))⟩
  f24 := ⟨Tryz.f91.name, by decide, Tryz.func91.trans (congrArg some (by kernel_rfl))⟩
  f25 := ⟨Tryz.f92.name, by decide, Tryz.func92.trans (congrArg some (by kernel_rfl))⟩
  f26 := ⟨Tryz.f93.name, by decide, Tryz.func93.trans (congrArg some (by kernel_rfl))⟩
  f27 := ⟨Tryz.f94.name, by decide, Tryz.func94.trans (congrArg some (by kernel_rfl))⟩
  f28 := Tryz.func56.trans (congrArg some (by kernel_rfl))
  f29 := Tryz.func57.trans (congrArg some (by kernel_rfl))
  f46 := ⟨Tryz.f98.name, by decide, Tryz.func98.trans (congrArg some (by kernel_rfl))⟩
  f47 := Tryz.func70.trans (congrArg some (by kernel_rfl))
  f48 := Tryz.func71.trans (congrArg some (by kernel_rfl))
  f49 := ⟨Tryz.f99.name, by decide, Tryz.func99.trans (congrArg some (by kernel_rfl))⟩
  f50 := ⟨Tryz.f100.name, by decide, Tryz.func100.trans (congrArg some (by kernel_rfl))⟩
  f57 := ⟨Tryz.f101.name, by decide, Tryz.func101.trans (congrArg some (by kernel_rfl))⟩
  t0 := Tryz.underlying0
  a0 := Tryz.isAgg0
  z0 := Tryz.sizeOf0
  v0 := Tryz.zeroValue0
  t3 := Tryz.underlying3
  a3 := Tryz.isAgg3
  z3 := Tryz.sizeOf3
  v3 := Tryz.zeroValue3
  t4 := Tryz.underlying4
  a4 := Tryz.isAgg4
  z4 := Tryz.sizeOf4
  v4 := Tryz.zeroValue4
  t5 := Tryz.underlying5
  a5 := Tryz.isAgg5
  z5 := Tryz.sizeOf5
  v5 := Tryz.zeroValue5
  t9 := Tryz.underlying9
  a9 := Tryz.isAgg9
  z9 := Tryz.sizeOf9
  v9 := Tryz.zeroValue9
  t22 := Tryz.underlying33
  a22 := Tryz.isAgg33
  z22 := Tryz.sizeOf33
  v22 := Tryz.zeroValue33
  t25 := Tryz.underlying98
  a25 := Tryz.isAgg98
  z25 := Tryz.sizeOf98
  v25 := Tryz.zeroValue98
  t39 := Tryz.underlying78
  a39 := Tryz.isAgg78
  z39 := Tryz.sizeOf78
  v39 := Tryz.zeroValue78
  t45 := Tryz.underlying86
  a45 := Tryz.isAgg86
  z45 := Tryz.sizeOf86
  v45 := Tryz.zeroValue86
  t46 := Tryz.underlying87
  a46 := Tryz.isAgg87
  z46 := Tryz.sizeOf87
  v46 := Tryz.zeroValue87
  t50 := Tryz.underlying60
  a50 := Tryz.isAgg60
  z50 := Tryz.sizeOf60
  v50 := Tryz.zeroValue60
  t53 := Tryz.underlying93
  a53 := Tryz.isAgg93
  z53 := Tryz.sizeOf93
  v53 := Tryz.zeroValue93
  t55 := Tryz.underlying95
  a55 := Tryz.isAgg95
  z55 := Tryz.sizeOf95
  v55 := Tryz.zeroValue95
  t66 := Tryz.underlying104
  a66 := Tryz.isAgg104
  z66 := Tryz.sizeOf104
  v66 := Tryz.zeroValue104
  t70 := Tryz.underlying108
  a70 := Tryz.isAgg108
  z70 := Tryz.sizeOf108
  v70 := Tryz.zeroValue108
  t76 := Tryz.underlying118
  a76 := Tryz.isAgg118
  z76 := Tryz.sizeOf118
  v76 := Tryz.zeroValue118
  t77 := Tryz.underlying119
  a77 := Tryz.isAgg119
  z77 := Tryz.sizeOf119
  v77 := Tryz.zeroValue119 }
def sortRows_ren : Go.Shelf.Ren := ⟨fun | 6 => 36 | 15 => 39 | 14 => 47 | 28 => 56 | 29 => 57 | 20 => 61 | 21 => 62 | 22 => 63 | 23 => 64 | 24 => 65 | 25 => 66 | 26 => 67 | 27 => 68 | 46 => 79 | 47 => 70 | 48 => 71 | 49 => 80 | 50 => 81 | 57 => 95 | n => n, fun | 22 => 38 | 24 => 33 | 25 => 75 | 3 => 3 | 39 => 78 | 0 => 0 | 53 => 93 | 55 => 95 | 4 => 4 | 46 => 87 | 45 => 86 | 50 => 60 | 5 => 5 | 9 => 9 | 66 => 104 | 70 => 108 | 76 => 118 | 77 => 119 | n => n, fun | n => n⟩
theorem sortRows : Go.Proofs.SlLaysF0.n6 Tryz.prog sortRows_ren := {
  mixed := by kernel_rfl
  f6 := ⟨Tryz.f36.name, by decide, Tryz.func36.trans (congrArg some (by kernel_rfl))⟩
  f14 := ⟨Tryz.f47.name, by decide, Tryz.func47.trans (congrArg some (by kernel_rfl))⟩
  f15 := Tryz.func39.trans (congrArg some (by kernel_rfl))
  f20 := ⟨Tryz.f61.name, by decide, Tryz.func61.trans (congrArg some (by kernel_rfl))⟩
  f21 := ⟨Tryz.f62.name, by decide, Tryz.func62.trans (congrArg some (by kernel_rfl))⟩
  f22 := ⟨Tryz.f63.name, by decide, Tryz.func63.trans (congrArg some (by kernel_rfl))⟩
  f23 := ⟨Tryz.f64.name, by decide, Tryz.func64.trans (congrArg some (by kernel_rfl))⟩
  f24 := ⟨Tryz.f65.name, by decide, Tryz.func65.trans (congrArg some (by kernel_rfl))⟩
  f25 := ⟨Tryz.f66.name, by decide, Tryz.func66.trans (congrArg some (by kernel_rfl))⟩
  f26 := ⟨Tryz.f67.name, by decide, Tryz.func67.trans (congrArg some (by kernel_rfl))⟩
  f27 := ⟨Tryz.f68.name, by decide, Tryz.func68.trans (congrArg some (by kernel_rfl))⟩
  f28 := Tryz.func56.trans (congrArg some (by kernel_rfl))
  f29 := Tryz.func57.trans (congrArg some (by kernel_rfl))
  f46 := ⟨Tryz.f79.name, by decide, Tryz.func79.trans (congrArg some (by kernel_rfl))⟩
  f47 := Tryz.func70.trans (congrArg some (by kernel_rfl))
  f48 := Tryz.func71.trans (congrArg some (by kernel_rfl))
  f49 := ⟨Tryz.f80.name, by decide, Tryz.func80.trans (congrArg some (by kernel_rfl))⟩
  f50 := ⟨Tryz.f81.name, by decide, Tryz.func81.trans (congrArg some (by kernel_rfl))⟩
  f57 := ⟨Tryz.f95.name, by decide, Tryz.func95.trans (congrArg some (by kernel_rfl))⟩
  t0 := Tryz.underlying0
  a0 := Tryz.isAgg0
  z0 := Tryz.sizeOf0
  v0 := Tryz.zeroValue0
  t3 := Tryz.underlying3
  a3 := Tryz.isAgg3
  z3 := Tryz.sizeOf3
  v3 := Tryz.zeroValue3
  t4 := Tryz.underlying4
  a4 := Tryz.isAgg4
  z4 := Tryz.sizeOf4
  v4 := Tryz.zeroValue4
  t5 := Tryz.underlying5
  a5 := Tryz.isAgg5
  z5 := Tryz.sizeOf5
  v5 := Tryz.zeroValue5
  t9 := Tryz.underlying9
  a9 := Tryz.isAgg9
  z9 := Tryz.sizeOf9
  v9 := Tryz.zeroValue9
  t22 := Tryz.underlying38
  a22 := Tryz.isAgg38
  z22 := Tryz.sizeOf38
  v22 := Tryz.zeroValue38
  t25 := Tryz.underlying75
  a25 := Tryz.isAgg75
  z25 := Tryz.sizeOf75
  v25 := Tryz.zeroValue75
  t39 := Tryz.underlying78
  a39 := Tryz.isAgg78
  z39 := Tryz.sizeOf78
  v39 := Tryz.zeroValue78
  t45 := Tryz.underlying86
  a45 := Tryz.isAgg86
  z45 := Tryz.sizeOf86
  v45 := Tryz.zeroValue86
  t46 := Tryz.underlying87
  a46 := Tryz.isAgg87
  z46 := Tryz.sizeOf87
  v46 := Tryz.zeroValue87
  t50 := Tryz.underlying60
  a50 := Tryz.isAgg60
  z50 := Tryz.sizeOf60
  v50 := Tryz.zeroValue60
  t53 := Tryz.underlying93
  a53 := Tryz.isAgg93
  z53 := Tryz.sizeOf93
  v53 := Tryz.zeroValue93
  t55 := Tryz.underlying95
  a55 := Tryz.isAgg95
  z55 := Tryz.sizeOf95
  v55 := Tryz.zeroValue95
  t66 := Tryz.underlying104
  a66 := Tryz.isAgg104
  z66 := Tryz.sizeOf104
  v66 := Tryz.zeroValue104
  t70 := Tryz.underlying108
  a70 := Tryz.isAgg108
  z70 := Tryz.sizeOf108
  v70 := Tryz.zeroValue108
  t76 := Tryz.underlying118
  a76 := Tryz.isAgg118
  z76 := Tryz.sizeOf118
  v76 := Tryz.zeroValue118
  t77 := Tryz.underlying119
  a77 := Tryz.isAgg119
  z77 := Tryz.sizeOf119
  v77 := Tryz.zeroValue119 }
def sortInts_ren : Go.Shelf.Ren := ⟨fun | 6 => 20 | 15 => 39 | 14 => 38 | 28 => 56 | 29 => 57 | 20 => 48 | 21 => 49 | 22 => 50 | 23 => 51 | 24 => 52 | 25 => 53 | 26 => 54 | 27 => 55 | 46 => 69 | 47 => 70 | 48 => 71 | 49 => 72 | 50 => 73 | 57 => 82 | n => n, fun | 22 => 34 | 24 => 3 | 25 => 54 | 3 => 3 | 39 => 78 | 0 => 0 | 53 => 93 | 55 => 95 | 4 => 4 | 46 => 87 | 45 => 86 | 50 => 60 | 5 => 5 | 9 => 9 | 66 => 104 | 70 => 108 | 76 => 118 | 77 => 119 | n => n, fun | n => n⟩
theorem sortInts : Go.Proofs.SlLaysF0.n6 Tryz.prog sortInts_ren := {
  mixed := by kernel_rfl
  f6 := ⟨Tryz.f20.name, by decide, Tryz.func20.trans (congrArg some (by kernel_rfl))⟩
  f14 := ⟨Tryz.f38.name, by decide, Tryz.func38.trans (congrArg some (by kernel_rfl))⟩
  f15 := Tryz.func39.trans (congrArg some (by kernel_rfl))
  f20 := ⟨Tryz.f48.name, by decide, Tryz.func48.trans (congrArg some (by kernel_rfl))⟩
  f21 := ⟨Tryz.f49.name, by decide, Tryz.func49.trans (congrArg some (by kernel_rfl))⟩
  f22 := ⟨Tryz.f50.name, by decide, Tryz.func50.trans (congrArg some (by kernel_rfl))⟩
  f23 := ⟨Tryz.f51.name, by decide, Tryz.func51.trans (congrArg some (by kernel_rfl))⟩
  f24 := ⟨Tryz.f52.name, by decide, Tryz.func52.trans (congrArg some (by kernel_rfl))⟩
  f25 := ⟨Tryz.f53.name, by decide, Tryz.func53.trans (congrArg some (by kernel_rfl))⟩
  f26 := ⟨Tryz.f54.name, by decide, Tryz.func54.trans (congrArg some (by kernel_rfl))⟩
  f27 := ⟨Tryz.f55.name, by decide, Tryz.func55.trans (congrArg some (by kernel_rfl))⟩
  f28 := Tryz.func56.trans (congrArg some (by kernel_rfl))
  f29 := Tryz.func57.trans (congrArg some (by kernel_rfl))
  f46 := ⟨Tryz.f69.name, by decide, Tryz.func69.trans (congrArg some (by kernel_rfl))⟩
  f47 := Tryz.func70.trans (congrArg some (by kernel_rfl))
  f48 := Tryz.func71.trans (congrArg some (by kernel_rfl))
  f49 := ⟨Tryz.f72.name, by decide, Tryz.func72.trans (congrArg some (by kernel_rfl))⟩
  f50 := ⟨Tryz.f73.name, by decide, Tryz.func73.trans (congrArg some (by kernel_rfl))⟩
  f57 := ⟨Tryz.f82.name, by decide, Tryz.func82.trans (congrArg some (by kernel_rfl))⟩
  t0 := Tryz.underlying0
  a0 := Tryz.isAgg0
  z0 := Tryz.sizeOf0
  v0 := Tryz.zeroValue0
  t3 := Tryz.underlying3
  a3 := Tryz.isAgg3
  z3 := Tryz.sizeOf3
  v3 := Tryz.zeroValue3
  t4 := Tryz.underlying4
  a4 := Tryz.isAgg4
  z4 := Tryz.sizeOf4
  v4 := Tryz.zeroValue4
  t5 := Tryz.underlying5
  a5 := Tryz.isAgg5
  z5 := Tryz.sizeOf5
  v5 := Tryz.zeroValue5
  t9 := Tryz.underlying9
  a9 := Tryz.isAgg9
  z9 := Tryz.sizeOf9
  v9 := Tryz.zeroValue9
  t22 := Tryz.underlying34
  a22 := Tryz.isAgg34
  z22 := Tryz.sizeOf34
  v22 := Tryz.zeroValue34
  t25 := Tryz.underlying54
  a25 := Tryz.isAgg54
  z25 := Tryz.sizeOf54
  v25 := Tryz.zeroValue54
  t39 := Tryz.underlying78
  a39 := Tryz.isAgg78
  z39 := Tryz.sizeOf78
  v39 := Tryz.zeroValue78
  t45 := Tryz.underlying86
  a45 := Tryz.isAgg86
  z45 := Tryz.sizeOf86
  v45 := Tryz.zeroValue86
  t46 := Tryz.underlying87
  a46 := Tryz.isAgg87
  z46 := Tryz.sizeOf87
  v46 := Tryz.zeroValue87
  t50 := Tryz.underlying60
  a50 := Tryz.isAgg60
  z50 := Tryz.sizeOf60
  v50 := Tryz.zeroValue60
  t53 := Tryz.underlying93
  a53 := Tryz.isAgg93
  z53 := Tryz.sizeOf93
  v53 := Tryz.zeroValue93
  t55 := Tryz.underlying95
  a55 := Tryz.isAgg95
  z55 := Tryz.sizeOf95
  v55 := Tryz.zeroValue95
  t66 := Tryz.underlying104
  a66 := Tryz.isAgg104
  z66 := Tryz.sizeOf104
  v66 := Tryz.zeroValue104
  t70 := Tryz.underlying108
  a70 := Tryz.isAgg108
  z70 := Tryz.sizeOf108
  v70 := Tryz.zeroValue108
  t76 := Tryz.underlying118
  a76 := Tryz.isAgg118
  z76 := Tryz.sizeOf118
  v76 := Tryz.zeroValue118
  t77 := Tryz.underlying119
  a77 := Tryz.isAgg119
  z77 := Tryz.sizeOf119
  v77 := Tryz.zeroValue119 }
end Go.Proofs.YthikgdogfkjioaaGreatDoor
namespace Go.Proofs.YthikgdogfkjioaaGreatDoor
open Go.RowKit BigFrame Go.Sort Go.Shelf
set_option linter.unusedVariables false
set_option linter.unusedSimpArgs false
set_option maxRecDepth 100000

/-- A range whose first is a point. -/
abbrev PtR := {r : Rg // 0 ≤ r.1 ∧ r.1 ≤ 1114111}
instance : Inhabited PtR := ⟨⟨(0, 0), by decide⟩⟩
def encP (x : PtR) : List Value := [.int .i64 x.1.1, .int .i64 x.1.2]
def cfP (x y : PtR) : Int := x.1.1 - y.1.1
theorem ltP (x y : PtR) : ltOf cfP x y = decide (x.1.1 < y.1.1) := by
  unfold ltOf cfP
  rw [decide_eq_decide]; omega
theorem swoP : SWO (ltOf cfP) where
  irrefl x := by rw [ltP]; simp
  trans x y z h1 h2 := by rw [ltP] at *; simp at *; omega
  ntrans x y z h1 h2 := by rw [ltP] at *; simp at *; omega
theorem ptrs : ∀ l : List Rg, (∀ r ∈ l, 0 ≤ r.1 ∧ r.1 ≤ 1114111) → ∃ L : List PtR, L.map (·.1) = l
  | [], _ => ⟨[], rfl⟩
  | r :: l, h => by
    obtain ⟨L, hL⟩ := ptrs l fun q hq => h q (List.mem_cons_of_mem _ hq)
    exact ⟨⟨r, h r (List.mem_cons_self ..)⟩ :: L, by rw [List.map_cons, hL]⟩
theorem flatP (L : List PtR) : (flatK encP 2 L.toArray).toList = rv (L.map (·.1)) := by
  apply List.ext_getElem?
  intro t
  by_cases ht : t < L.length * 2
  · have hq : t / 2 < L.length := by omega
    rw [Array.getElem?_toList]
    have h1 := get_flatK encP 2 L.toArray t (by simpa using ht)
    have hsz : t < (flatK encP 2 L.toArray).size := by rw [size_flatK]; simpa using ht
    rw [Array.getElem?_eq_getElem hsz]
    rw [getElem!_pos _ t hsz] at h1
    rw [h1]
    obtain ⟨r1, r2⟩ := rv_get (l := L.map (·.1)) (k := t / 2) (by simpa using hq)
    have hnth : nthR (L.map (·.1)) (t / 2) = (L[t / 2]'hq).1 := by rw [nthR_get (by simpa using hq)]; simp
    have hd : L.toArray[t / 2]! = L[t / 2]'hq := by simp [hq]
    rw [hd]
    rw [hnth] at r1 r2
    rcases Nat.mod_two_eq_zero_or_one t with q | q
    · have e : t = t / 2 * 2 := by omega
      rw [q]
      conv => rhs; rw [e]
      rw [r1]; rfl
    · have e : t = t / 2 * 2 + 1 := by omega
      rw [q]
      conv => rhs; rw [e]
      rw [r2]; rfl
  · rw [List.getElem?_eq_none (by simp; omega), List.getElem?_eq_none (by rw [rv_len]; simp; omega)]

/-- The closure. -/
theorem canon1_any (x y : PtR) (W : World) : Calls Tryz.prog 60 #[.agg #[.int .i64 x.1.1, .int .i64 x.1.2], .agg #[.int .i64 y.1.1, .int .i64 y.1.2]] W fun e w' => e = .returned (.int .i64 (cfP x y)) ∧ ∃ q os', w' = grow (W.drewN q) os' := by
  obtain ⟨⟨a, b⟩, hx1, hx2⟩ := x
  obtain ⟨⟨c, d⟩, hy1, hy2⟩ := y
  simp only at hx1 hx2 hy1 hy2
  unfold cfP
  simp only
  go_enter Tryz.func60, Tryz.ntmps60
  go_wp2
  go_ret
  exact ⟨rfl, 0, _, by rw [alloc_eq_grow, alloc_eq_grow, grow_grow]; rfl⟩
theorem cmpP (blk off size : Nat) (w : World) : CmpLays Tryz.prog 60 #[] encP 2 cfP blk off size w :=
  fun _ _ _ _ x y => canon1_any x y _

theorem sortRg_any (base : Nat) (v : Value) (l : List Rg) (w : World) (ho : OwG w base v l) (hbd : ∀ r ∈ l, 0 ≤ r.1 ∧ r.1 ≤ 1114111) (hl4 : l.length ≤ 100000) :
    Calls Tryz.prog 59 #[v, .func (.func 60) #[] #[]] w fun e w' => e = .returned (.tuple #[]) ∧ ∃ l', l'.Perm l ∧ l'.Pairwise (fun a b => a.1 ≤ b.1) ∧ OwG w' base v l' ∧ Below base w w' := by
  rcases List.eq_nil_or_concat l with hl | ⟨l0, x0, hl⟩
  · obtain ⟨A, c, rfl, _, _, _⟩ := ho.form
    have hcon := AnyF.slices_SortFunc_none sortRg A c (.func (.func 60) #[] #[]) w
    change Calls Tryz.prog 59 _ _ _ at hcon
    have hz : l.length = 0 := by rw [hl]; rfl
    rw [hz]
    rw [hz] at ho
    refine hcon.mono ?_
    rintro e w' ⟨rfl, rfl⟩
    refine ⟨rfl, l, List.Perm.refl _, ?_, ?_, Below.refl _ _⟩
    · rw [hl]; exact List.Pairwise.nil
    · exact ho
  · obtain ⟨L, hL⟩ := ptrs l hbd
    have hlen : L.length = l.length := by rw [← hL, List.length_map]
    have h0 : 0 < l.length := by rw [hl]; simp
    rcases ho.2 with ⟨_, h0'⟩ | ⟨g, cap, cur, rfl, hb, hg, hn, hc, hs, ht⟩
    · omega
    · have hgs : g < w.heap.size := (Array.getElem?_eq_some_iff.1 hg).1
      have hH : HoldsK encP 2 w g 0 L.toArray := by
        intro j hj
        have hj2 : j < L.length * 2 := by rw [size_flatK] at hj; simpa using hj
        refine ⟨?_, by simp [World.frozen?, hg]⟩
        rw [getElem!_pos _ j hj]
        have h1 : (flatK encP 2 L.toArray).toList[j]? = some (flatK encP 2 L.toArray)[j] := by rw [Array.getElem?_toList]; exact Array.getElem?_eq_getElem hj
        rw [flatP, hL, ← ht, List.getElem?_take] at h1
        rw [if_pos (by omega)] at h1
        rw [cell_of_row w g (0 + j) cur 52 (0, 0) hg, Nat.zero_add, ← Array.getElem?_toList, h1]
        rfl
      have eg : ∀ args w, (callFunc 60 args).run Tryz.prog w = .ok (.enter 60 args) w := enters_of Tryz.func60 (by kernel_rfl) rfl
      have hcon := AnyQ.slices_SortFunc sortRg 2 Tryz.isAgg52 Tryz.sizeOf52 encP (fun _ => rfl) (fun x v hv => by simp [encP] at hv; rcases hv with rfl | rfl <;> rfl) cfP swoP 60 #[] g 0 cap L.toArray w eg (cmpP g 0 L.toArray.size w) hH hgs (by rw [List.size_toArray, hlen]; omega)
      change Calls Tryz.prog 59 _ _ _ at hcon
      rw [List.size_toArray, hlen] at hcon
      refine hcon.mono ?_
      rintro e w' ⟨rfl, d', n, os, ⟨hp1, _, hp2⟩, hsd, rfl⟩
      have hds : d'.size = l.length := by rw [hp1, List.size_toArray, hlen]
      have he1 : d'.extract 0 l.length = d' := by rw [← hds]; exact Array.extract_size
      have he2 : L.toArray.extract 0 l.length = L.toArray := by
        have e : L.toArray.size = l.length := by rw [List.size_toArray, hlen]
        rw [← e]; exact Array.extract_size
      rw [he1, he2] at hp2
      have hp3 : (d'.toList.map (·.1)).Perm l := by
        have := hp2.map (fun x : PtR => x.1)
        rwa [List.toList_toArray, hL] at this
      have hll : (d'.toList.map (·.1)).length = l.length := hp3.length_eq
      refine ⟨rfl, d'.toList.map (·.1), hp3, ?_, ⟨by rw [rv_len], .inr ⟨g, cap, putCells id 0 (flatK encP 2 d') cur, by rw [hll], hb, ?_, by rw [hll]; exact hn, hc, by simp [putCells, hs], ?_⟩⟩, ?_⟩
      · rw [List.pairwise_map, List.pairwise_iff_getElem]
        intro i j hi hj hij
        have hi' : i < d'.size := by simpa using hi
        have hj' : j < d'.size := by simpa using hj
        have := hsd i j (Nat.zero_le _) hij (by omega)
        rw [ltP, getElem!_pos d' i hi', getElem!_pos d' j hj'] at this
        simp only [decide_eq_false_iff_not] at this
        simp only [Array.getElem_toList]
        omega
      · unfold sortWorldK putRowK
        rw [heap_grow_old _ _ (by simp [putRow, mapBlock, Go.Sort.ahead]; exact hgs)]
        simp [putRow, mapBlock, Go.Sort.ahead, Array.getElem?_modify, hg, onCells]
      · rw [hll]
        have hfl := flatP d'.toList
        rw [Array.toArray_toList] at hfl
        rw [← hfl]
        apply List.ext_getElem?
        intro j
        by_cases hj : j < l.length * 2
        · have hjc : j < cur.size := by rw [hs]; omega
          have hjf : j < (flatK encP 2 d').size := by rw [size_flatK, hds]; exact hj
          rw [List.getElem?_take, if_pos (by omega), Array.getElem?_toList, Array.getElem?_toList]
          simp only [putCells, Array.getElem?_mapIdx, Array.getElem?_eq_getElem hjc, Option.map_some, Nat.zero_le, true_and, Nat.zero_add, Nat.sub_zero, id]
          rw [if_pos hjf, getElem!_pos _ j hjf, Array.getElem?_eq_getElem hjf]
        · rw [List.getElem?_take, if_neg (by omega), List.getElem?_eq_none (by rw [Array.length_toList, size_flatK, hds]; omega)]
      · refine ⟨rfl, rfl, rfl, ?_, fun k hk => ?_⟩
        · unfold sortWorldK putRowK; simp [putRow, mapBlock, Go.Sort.ahead]
        · unfold sortWorldK putRowK
          rw [heap_grow_old _ _ (by simp [putRow, mapBlock, Go.Sort.ahead]; omega)]
          have : g ≠ k := by omega
          simp [putRow, mapBlock, Go.Sort.ahead, Array.getElem?_modify, this]
end Go.Proofs.YthikgdogfkjioaaGreatDoor
