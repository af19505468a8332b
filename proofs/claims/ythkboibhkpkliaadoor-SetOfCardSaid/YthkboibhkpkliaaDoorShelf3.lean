/- Contracts of Go's library over this seat's dump: laid by the kit's shelf tools (plain mode), cut down to those that are used. -/
import Derived.Shelf.Strings.Builder1
import Derived.Shelf.Strings.Builder2
import Derived.Shelf.Strings.OnBuilder
import Derived.Shelf.Small.Bits
import Derived.Shelf.Strconv.Atoi
import Derived.Shelf.Strconv.Itoa0
import Derived.Shelf.Strconv.Itoa1
import Derived.Shelf.LaysM
import Derived.Shelf.Strconv.Itoa2
import Derived.Shelf.Strconv.Itoa3
import Derived.Shelf.Strconv.AtoiErrFast
import Derived.Shelf.Strconv.ParseIntEmpty
import Derived.Shelf.Strconv.AtoiFail
import Derived.Shelf.Strconv.Clone
import Derived.Shelf.Strconv.SyntaxError
import Derived.Shelf.LaysC
import Derived.Shelf.Strconv.ToError
import Derived.Shelf.Strconv.Lower
import Derived.Shelf.Strconv.ParseUint10
import Derived.Shelf.Strconv.ParseUint10Empty
import Derived.Shelf.Strconv.ParseUint10Any
import Derived.Shelf.Strconv.ParseInt10
import Derived.Shelf.Strconv.AtoiLong
import Derived.Shelf.Strconv.AtoiInnerAll
import Derived.Shelf.Strconv.RangeError
import Derived.Shelf.Strconv.ToErrorRange
import Derived.Shelf.Strconv.AtoiAll
import Derived.Shelf.Strconv.ErrVarAll
import Derived.Shelf.Sort.Plain
import Derived.Shelf.Strings.FieldsFuncAny
import Derived.Shelf.Slices.In.SortNone
import Derived.Test.YthkboibhkpkliaaDoorProg
import Derived.Test.YthkboibhkpkliaaDoorShelf
namespace Go.Proofs
open Go.Shelf

def Tryd.lays189_ren : Go.Shelf.Ren := ⟨fun | 189 => 59 | 125 => 71 | 257 => 70 | 128 => 89 | 129 => 90 | 294 => 80 | 295 => 81 | 296 => 82 | 297 => 83 | 298 => 84 | 299 => 85 | 216 => 86 | 300 => 87 | 301 => 88 | 328 => 100 | 329 => 101 | 330 => 102 | 331 => 103 | 332 => 104 | 215 => 61 | 343 => 111 | n => n, fun | 28 => 44 | 3 => 3 | 46 => 78 | 0 => 0 | 51 => 77 | 53 => 112 | 4 => 4 | 183 => 103 | 182 => 102 | 131 => 108 | 5 => 5 | 9 => 9 | 218 => 126 | 222 => 130 | 228 => 140 | 229 => 141 | n => n, fun | n => n⟩

theorem Tryd.lays189 : Go.Proofs.Lays.n189 Tryd.prog Tryd.lays189_ren := {
  mixed := by kernel_rfl
  f125 := Tryd.func71.trans (congrArg some (by kernel_rfl))
  f128 := Tryd.func89.trans (congrArg some (by kernel_rfl))
  f129 := Tryd.func90.trans (congrArg some (by kernel_rfl))
  f189 := Tryd.func59.trans (congrArg some (by kernel_rfl))
  f215 := Tryd.func61.trans (congrArg some (by kernel_rfl))
  f216 := Tryd.func86.trans (congrArg some (by kernel_rfl))
  f257 := Tryd.func70.trans (congrArg some (by kernel_rfl))
  f294 := Tryd.func80.trans (congrArg some (by kernel_rfl))
  f295 := Tryd.func81.trans (congrArg some (by kernel_rfl))
  f296 := Tryd.func82.trans (congrArg some (by kernel_rfl))
  f297 := Tryd.func83.trans (congrArg some (by kernel_rfl))
  f298 := Tryd.func84.trans (congrArg some (by kernel_rfl))
  f299 := Tryd.func85.trans (congrArg some (by kernel_rfl))
  f300 := Tryd.func87.trans (congrArg some (by kernel_rfl))
  f301 := Tryd.func88.trans (congrArg some (by kernel_rfl))
  f328 := Tryd.func100.trans (congrArg some (by kernel_rfl))
  f329 := Tryd.func101.trans (congrArg some (by kernel_rfl))
  f330 := Tryd.func102.trans (congrArg some (by kernel_rfl))
  f331 := Tryd.func103.trans (congrArg some (by kernel_rfl))
  f332 := Tryd.func104.trans (congrArg some (by kernel_rfl))
  f343 := Tryd.func111.trans (congrArg some (by kernel_rfl))
  t0 := Tryd.underlying0
  a0 := Tryd.isAgg0
  z0 := Tryd.sizeOf0
  v0 := Tryd.zeroValue0
  t3 := Tryd.underlying3
  a3 := Tryd.isAgg3
  z3 := Tryd.sizeOf3
  v3 := Tryd.zeroValue3
  t4 := Tryd.underlying4
  a4 := Tryd.isAgg4
  z4 := Tryd.sizeOf4
  v4 := Tryd.zeroValue4
  t5 := Tryd.underlying5
  a5 := Tryd.isAgg5
  z5 := Tryd.sizeOf5
  v5 := Tryd.zeroValue5
  t9 := Tryd.underlying9
  a9 := Tryd.isAgg9
  z9 := Tryd.sizeOf9
  v9 := Tryd.zeroValue9
  t28 := Tryd.underlying44
  a28 := Tryd.isAgg44
  z28 := Tryd.sizeOf44
  v28 := Tryd.zeroValue44
  t46 := Tryd.underlying78
  a46 := Tryd.isAgg78
  z46 := Tryd.sizeOf78
  v46 := Tryd.zeroValue78
  t51 := Tryd.underlying77
  a51 := Tryd.isAgg77
  z51 := Tryd.sizeOf77
  v51 := Tryd.zeroValue77
  t53 := Tryd.underlying112
  a53 := Tryd.isAgg112
  z53 := Tryd.sizeOf112
  v53 := Tryd.zeroValue112
  t131 := Tryd.underlying108
  a131 := Tryd.isAgg108
  z131 := Tryd.sizeOf108
  v131 := Tryd.zeroValue108
  t182 := Tryd.underlying102
  a182 := Tryd.isAgg102
  z182 := Tryd.sizeOf102
  v182 := Tryd.zeroValue102
  t183 := Tryd.underlying103
  a183 := Tryd.isAgg103
  z183 := Tryd.sizeOf103
  v183 := Tryd.zeroValue103
  t218 := Tryd.underlying126
  a218 := Tryd.isAgg126
  z218 := Tryd.sizeOf126
  v218 := Tryd.zeroValue126
  t222 := Tryd.underlying130
  a222 := Tryd.isAgg130
  z222 := Tryd.sizeOf130
  v222 := Tryd.zeroValue130
  t228 := Tryd.underlying140
  a228 := Tryd.isAgg140
  z228 := Tryd.sizeOf140
  v228 := Tryd.zeroValue140
  t229 := Tryd.underlying141
  a229 := Tryd.isAgg141
  z229 := Tryd.sizeOf141
  v229 := Tryd.zeroValue141 }

open Go.Sort Go.RowKit in
theorem Tryd.slices_Sort_int (blk off cap : Nat) (zs : List Int) (w : World) (hH : Holds (Value.int .i64) w blk off zs.toArray) (hblk : blk < w.heap.size) (hsz : zs.length < 4611686018427387904) :
    Calls Tryd.prog 59 #[.slice (some ⟨blk, off, none⟩) zs.length cap] w fun e w' =>
      e = .returned (.tuple #[]) ∧ ∃ n os, w' = grow (putRow (Value.int .i64) (Sort.ahead w n) blk off (zs.mergeSort fun x y => decide (x ≤ y)).toArray) os := Any.slices_Sort_int Tryd.lays189 blk off cap zs w hH hblk hsz

open Go.RowKit Go.Sort in
theorem Tryd.slices_Sort_int_none (p : Option Addr) (cap : Nat) (w : World) :
    Calls Tryd.prog 59 #[.slice p 0 cap] w fun e w' => e = .returned (.tuple #[]) ∧ w' = w := Any.slices_Sort_int_none Tryd.lays189 p cap w

end Go.Proofs
