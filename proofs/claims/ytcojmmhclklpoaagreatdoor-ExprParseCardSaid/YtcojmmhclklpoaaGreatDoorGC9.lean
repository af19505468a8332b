/- Texts laid together. Contracts of Go's library over this seat's dump: laid by the kit's shelf tools (plain mode), cut down to those that are used. show: the text of a node into a builder. expr.Format. The reader of expressions: skip, number. A reader's box with nodes under way: what the memory looks like. Plain lemmas over the model, no program. -/
import Derived.Test.YtcojmmhclklpoaaGreatDoorGC2
import Derived.Test.YtcojmmhclklpoaaGreatDoorGC3
import Derived.Test.YtcojmmhclklpoaaGreatDoorGC4
import Derived.Test.YtcojmmhclklpoaaGreatDoorGC8
import Derived.Test.YtcojmmhclklpoaaGreatDoorProg
import Derived.Shelf.Strings.Builder1
import Derived.Shelf.Small.Wraps
import Derived.Shelf.Strings.BuilderF
import Derived.Shelf.Strings.BuilderK
import Derived.Shelf.Strconv.Atoi
import Derived.Shelf.Strconv.Itoa0
import Derived.Shelf.Strconv.Itoa1
import Derived.Shelf.LaysM
import Derived.Shelf.Strconv.Itoa2
import Derived.Shelf.Strconv.Itoa3
import Derived.Shelf.Strconv.AtoiErrFast
import Derived.Shelf.Strconv.ParseIntEmpty
import Derived.Shelf.Strconv.AtoiFail
import Derived.Shelf.Strconv.Clone
import Derived.Shelf.Strconv.SyntaxError
import Derived.Shelf.LaysC
import Derived.Shelf.Strconv.ToError
import Derived.Shelf.Strconv.Lower
import Derived.Shelf.Strconv.ParseUint10
import Derived.Shelf.Strconv.ParseUint10Empty
import Derived.Shelf.Strconv.ParseUint10Any
import Derived.Shelf.Strconv.ParseInt10
import Derived.Shelf.Strconv.AtoiLong
import Derived.Shelf.Strconv.AtoiInnerAll
import Derived.Shelf.Strconv.RangeError
import Derived.Shelf.Strconv.ToErrorRange
import Derived.Shelf.Strconv.AtoiAll
import Derived.Shelf.Strings.Prefix
import Derived.Shelf.Strings.BuilderCap
import Derived.Shelf.Slices.Turned
import Derived.Lib.ItoaMem
import Derived.Lib.AppendIntMem
import Derived.Lib.AtoiAllCases
namespace Go.Proofs
open Go.Shelf

def Tryz.lays169_ren : Go.Shelf.Ren := ⟨fun | 169 => 68 | n => n, fun | 70 => 90 | 9 => 9 | 0 => 0 | 72 => 92 | 37 => 66 | 127 => 130 | 3 => 3 | 5 => 5 | n => n, fun | n => n⟩

theorem Tryz.lays169 : Go.Proofs.Lays.n169 Tryz.prog Tryz.lays169_ren := {
  mixed := by kernel_rfl
  f169 := Tryz.func68.trans (congrArg some (by kernel_rfl))
  t0 := Tryz.underlying0
  a0 := Tryz.isAgg0
  z0 := Tryz.sizeOf0
  v0 := Tryz.zeroValue0
  t3 := Tryz.underlying3
  a3 := Tryz.isAgg3
  z3 := Tryz.sizeOf3
  v3 := Tryz.zeroValue3
  t9 := Tryz.underlying9
  a9 := Tryz.isAgg9
  z9 := Tryz.sizeOf9
  v9 := Tryz.zeroValue9
  t37 := Tryz.underlying66
  a37 := Tryz.isAgg66
  z37 := Tryz.sizeOf66
  v37 := Tryz.zeroValue66
  t70 := Tryz.underlying90
  a70 := Tryz.isAgg90
  z70 := Tryz.sizeOf90
  v70 := Tryz.zeroValue90
  t72 := Tryz.underlying92
  a72 := Tryz.isAgg92
  z72 := Tryz.sizeOf92
  v72 := Tryz.zeroValue92
  t127 := Tryz.underlying130
  a127 := Tryz.isAgg130
  z127 := Tryz.sizeOf130
  v127 := Tryz.zeroValue130 }

theorem Tryz.Builder_Extra_169 : Builder.Extra Tryz.prog Tryz.lays169_ren := {
  sizeBuilder := by kernel_rfl
  liesBuilder := by kernel_rfl
  t5 := Tryz.underlying5
  a5 := Tryz.isAgg5
  z5 := Tryz.sizeOf5
  v5 := Tryz.zeroValue5
  infoByte := by kernel_rfl
  cellsByte := by kernel_rfl
  sizeByte := by kernel_rfl
  neB5 := by decide }

def Tryz.lays103_ren : Go.Shelf.Ren := ⟨fun | 103 => 121 | 210 => 130 | 206 => 137 | n => n, fun | 9 => 9 | 4 => 4 | 24 => 147 | 3 => 3 | n => n, fun | n => n⟩

theorem Tryz.lays103 : Go.Proofs.Lays.n103 Tryz.prog Tryz.lays103_ren := {
  mixed := by kernel_rfl
  f103 := Tryz.func121.trans (congrArg some (by kernel_rfl))
  f206 := Tryz.func137.trans (congrArg some (by kernel_rfl))
  f210 := Tryz.func130.trans (congrArg some (by kernel_rfl))
  t3 := Tryz.underlying3
  a3 := Tryz.isAgg3
  z3 := Tryz.sizeOf3
  v3 := Tryz.zeroValue3
  t4 := Tryz.underlying4
  a4 := Tryz.isAgg4
  z4 := Tryz.sizeOf4
  v4 := Tryz.zeroValue4
  t9 := Tryz.underlying9
  a9 := Tryz.isAgg9
  z9 := Tryz.sizeOf9
  v9 := Tryz.zeroValue9
  t24 := Tryz.underlying147
  a24 := Tryz.isAgg147
  z24 := Tryz.sizeOf147
  v24 := Tryz.zeroValue147 }

open Go.RowKit in
theorem Tryz.strings_CutPrefix (s p : ByteArray) (w : World) :
    Calls Tryz.prog 121 #[.string s, .string p] w fun e w' => e = .returned (.tuple #[.string ⟨(Lib.trimPrefix s.data.toList p.data.toList).toArray⟩, .bool (Lib.hasPrefix s.data.toList p.data.toList)]) ∧ w' = w := Any.strings_CutPrefix Tryz.lays103 s p w

open Go.RowKit in
theorem Tryz.Builder_String_any_k (B b : Nat) (l : List UInt8) (w : World) (h : Lib.IsBuilderF 92 5 B b (Lib.byteCells l) w) (hBw : B ≤ w.heap.size) :
    Calls Tryz.prog 68 #[.pointer (some ⟨b, 0, none⟩)] w fun e w' => e = .returned (.string ⟨l.toArray⟩) ∧ (Lib.IsBuilderF 92 5 B b (Lib.byteCells l) w' ∧ Below B w w' ∧ Lib.OthersKept 5 (some b) w w') := Any.Builder_String_any_k Tryz.lays169 Tryz.Builder_Extra_169 B b l w h hBw

def Tryz.laysM171_ren : Go.Shelf.Ren := ⟨fun | 171 => 94 | 243 => 120 | 246 => 129 | 283 => 133 | 284 => 134 | 285 => 135 | 286 => 136 | 129 => 144 | 317 => 143 | 318 => 145 | 319 => 146 | 320 => 147 | 337 => 151 | 338 => 152 | n => n, fun | 3 => 3 | 9 => 9 | 2 => 2 | 4 => 4 | 171 => 155 | 0 => 0 | 53 => 156 | 37 => 66 | 5 => 5 | 173 => 159 | 212 => 169 | 51 => 141 | 20 => 20 | 213 => 170 | 46 => 142 | 232 => 146 | 233 => 183 | n => n, fun | 17 => 1 | 18 => 0 | 19 => 4 | n => n⟩

theorem Tryz.laysM171 : Go.Proofs.LaysM.n171 Tryz.prog Tryz.laysM171_ren := {
  mixed := by kernel_rfl
  f129 := Tryz.func144.trans (congrArg some (by kernel_rfl))
  f171 := Tryz.func94.trans (congrArg some (by kernel_rfl))
  f243 := Tryz.func120.trans (congrArg some (by kernel_rfl))
  f246 := Tryz.func129.trans (congrArg some (by kernel_rfl))
  f283 := Tryz.func133.trans (congrArg some (by kernel_rfl))
  f284 := Tryz.func134.trans (congrArg some (by kernel_rfl))
  f285 := Tryz.func135.trans (congrArg some (by kernel_rfl))
  f286 := Tryz.func136.trans (congrArg some (by kernel_rfl))
  f317 := Tryz.func143.trans (congrArg some (by kernel_rfl))
  f318 := Tryz.func145.trans (congrArg some (by kernel_rfl))
  f319 := Tryz.func146.trans (congrArg some (by kernel_rfl))
  f320 := Tryz.func147.trans (congrArg some (by kernel_rfl))
  f337 := Tryz.func151.trans (congrArg some (by kernel_rfl))
  f338 := Tryz.func152.trans (congrArg some (by kernel_rfl))
  t0 := Tryz.underlying0
  a0 := Tryz.isAgg0
  z0 := Tryz.sizeOf0
  v0 := Tryz.zeroValue0
  t2 := Tryz.underlying2
  a2 := Tryz.isAgg2
  z2 := Tryz.sizeOf2
  v2 := Tryz.zeroValue2
  t3 := Tryz.underlying3
  a3 := Tryz.isAgg3
  z3 := Tryz.sizeOf3
  v3 := Tryz.zeroValue3
  t4 := Tryz.underlying4
  a4 := Tryz.isAgg4
  z4 := Tryz.sizeOf4
  v4 := Tryz.zeroValue4
  t5 := Tryz.underlying5
  a5 := Tryz.isAgg5
  z5 := Tryz.sizeOf5
  v5 := Tryz.zeroValue5
  t9 := Tryz.underlying9
  a9 := Tryz.isAgg9
  z9 := Tryz.sizeOf9
  v9 := Tryz.zeroValue9
  t20 := Tryz.underlying20
  a20 := Tryz.isAgg20
  z20 := Tryz.sizeOf20
  v20 := Tryz.zeroValue20
  t37 := Tryz.underlying66
  a37 := Tryz.isAgg66
  z37 := Tryz.sizeOf66
  v37 := Tryz.zeroValue66
  t46 := Tryz.underlying142
  a46 := Tryz.isAgg142
  z46 := Tryz.sizeOf142
  v46 := Tryz.zeroValue142
  t51 := Tryz.underlying141
  a51 := Tryz.isAgg141
  z51 := Tryz.sizeOf141
  v51 := Tryz.zeroValue141
  t53 := Tryz.underlying156
  a53 := Tryz.isAgg156
  z53 := Tryz.sizeOf156
  v53 := Tryz.zeroValue156
  t171 := Tryz.underlying155
  a171 := Tryz.isAgg155
  z171 := Tryz.sizeOf155
  v171 := Tryz.zeroValue155
  t173 := Tryz.underlying159
  a173 := Tryz.isAgg159
  z173 := Tryz.sizeOf159
  v173 := Tryz.zeroValue159
  t212 := Tryz.underlying169
  a212 := Tryz.isAgg169
  z212 := Tryz.sizeOf169
  v212 := Tryz.zeroValue169
  t213 := Tryz.underlying170
  a213 := Tryz.isAgg170
  z213 := Tryz.sizeOf170
  t232 := Tryz.underlying146
  a232 := Tryz.isAgg146
  z232 := Tryz.sizeOf146
  v232 := Tryz.zeroValue146
  t233 := Tryz.underlying183
  a233 := Tryz.isAgg183
  z233 := Tryz.sizeOf183
  v233 := Tryz.zeroValue183
  g17 := by kernel_rfl
  g18 := by kernel_rfl
  g19 := by kernel_rfl
  i0 := by kernel_rfl
  i2 := by kernel_rfl
  i3 := by kernel_rfl
  i4 := by kernel_rfl
  i5 := by kernel_rfl
  i9 := by kernel_rfl
  i20 := by kernel_rfl
  i37 := by kernel_rfl
  i46 := by kernel_rfl
  i51 := by kernel_rfl
  i53 := by kernel_rfl
  i171 := by kernel_rfl
  i173 := by kernel_rfl
  i212 := by kernel_rfl
  i232 := by kernel_rfl
  i233 := by kernel_rfl
  m17 := by kernel_rfl
  m18 := by kernel_rfl
  m19 := by kernel_rfl }

open Go.RowKit Go.Sort Go.Lib in
theorem Tryz.strconv_Itoa (n : Int) (h0 : -9223372036854775808 ≤ n) (h1 : n ≤ 9223372036854775807) (w : World) (htab : Lib.TabIs Tryz.prog w "internal/strconv.uint64pow10" .u64 Lib.pow10Tab) :
    Calls Tryz.prog 94 #[.int .i64 n] w fun e w' => e = .returned (.string ⟨(Lib.itoa n).toArray⟩) ∧ ∃ k os, w' = grow (w.drewN k) os := Any.strconv_Itoa Tryz.laysM171 n h0 h1 w htab

def Tryz.lays171_ren : Go.Shelf.Ren := ⟨fun | 171 => 94 | 243 => 120 | 246 => 129 | 283 => 133 | 284 => 134 | 285 => 135 | 286 => 136 | 129 => 144 | 317 => 143 | 318 => 145 | 319 => 146 | 320 => 147 | 337 => 151 | 338 => 152 | n => n, fun | 3 => 3 | 9 => 9 | 2 => 2 | 4 => 4 | 171 => 155 | 0 => 0 | 53 => 156 | 37 => 66 | 5 => 5 | 173 => 159 | 212 => 169 | 51 => 141 | 20 => 20 | 213 => 170 | 46 => 142 | 232 => 146 | 233 => 183 | n => n, fun | 17 => 1 | 18 => 0 | 19 => 4 | n => n⟩

theorem Tryz.lays171 : Go.Proofs.Lays.n171 Tryz.prog Tryz.lays171_ren := {
  mixed := by kernel_rfl
  f129 := Tryz.func144.trans (congrArg some (by kernel_rfl))
  f171 := Tryz.func94.trans (congrArg some (by kernel_rfl))
  f243 := Tryz.func120.trans (congrArg some (by kernel_rfl))
  f246 := Tryz.func129.trans (congrArg some (by kernel_rfl))
  f283 := Tryz.func133.trans (congrArg some (by kernel_rfl))
  f284 := Tryz.func134.trans (congrArg some (by kernel_rfl))
  f285 := Tryz.func135.trans (congrArg some (by kernel_rfl))
  f286 := Tryz.func136.trans (congrArg some (by kernel_rfl))
  f317 := Tryz.func143.trans (congrArg some (by kernel_rfl))
  f318 := Tryz.func145.trans (congrArg some (by kernel_rfl))
  f319 := Tryz.func146.trans (congrArg some (by kernel_rfl))
  f320 := Tryz.func147.trans (congrArg some (by kernel_rfl))
  f337 := Tryz.func151.trans (congrArg some (by kernel_rfl))
  f338 := Tryz.func152.trans (congrArg some (by kernel_rfl))
  t0 := Tryz.underlying0
  a0 := Tryz.isAgg0
  z0 := Tryz.sizeOf0
  v0 := Tryz.zeroValue0
  t2 := Tryz.underlying2
  a2 := Tryz.isAgg2
  z2 := Tryz.sizeOf2
  v2 := Tryz.zeroValue2
  t3 := Tryz.underlying3
  a3 := Tryz.isAgg3
  z3 := Tryz.sizeOf3
  v3 := Tryz.zeroValue3
  t4 := Tryz.underlying4
  a4 := Tryz.isAgg4
  z4 := Tryz.sizeOf4
  v4 := Tryz.zeroValue4
  t5 := Tryz.underlying5
  a5 := Tryz.isAgg5
  z5 := Tryz.sizeOf5
  v5 := Tryz.zeroValue5
  t9 := Tryz.underlying9
  a9 := Tryz.isAgg9
  z9 := Tryz.sizeOf9
  v9 := Tryz.zeroValue9
  t20 := Tryz.underlying20
  a20 := Tryz.isAgg20
  z20 := Tryz.sizeOf20
  v20 := Tryz.zeroValue20
  t37 := Tryz.underlying66
  a37 := Tryz.isAgg66
  z37 := Tryz.sizeOf66
  v37 := Tryz.zeroValue66
  t46 := Tryz.underlying142
  a46 := Tryz.isAgg142
  z46 := Tryz.sizeOf142
  v46 := Tryz.zeroValue142
  t51 := Tryz.underlying141
  a51 := Tryz.isAgg141
  z51 := Tryz.sizeOf141
  v51 := Tryz.zeroValue141
  t53 := Tryz.underlying156
  a53 := Tryz.isAgg156
  z53 := Tryz.sizeOf156
  v53 := Tryz.zeroValue156
  t171 := Tryz.underlying155
  a171 := Tryz.isAgg155
  z171 := Tryz.sizeOf155
  v171 := Tryz.zeroValue155
  t173 := Tryz.underlying159
  a173 := Tryz.isAgg159
  z173 := Tryz.sizeOf159
  v173 := Tryz.zeroValue159
  t212 := Tryz.underlying169
  a212 := Tryz.isAgg169
  z212 := Tryz.sizeOf169
  v212 := Tryz.zeroValue169
  t213 := Tryz.underlying170
  a213 := Tryz.isAgg170
  z213 := Tryz.sizeOf170
  t232 := Tryz.underlying146
  a232 := Tryz.isAgg146
  z232 := Tryz.sizeOf146
  v232 := Tryz.zeroValue146
  t233 := Tryz.underlying183
  a233 := Tryz.isAgg183
  z233 := Tryz.sizeOf183
  v233 := Tryz.zeroValue183
  g17 := by kernel_rfl
  g18 := by kernel_rfl
  g19 := by kernel_rfl }

open Go.RowKit Go.Sort Go.Lib in
theorem Tryz.strconv_Itoa_small (i : Nat) (hi : i < 100) (w : World) :
    Calls Tryz.prog 94 #[.int .i64 i] w fun e w' => e = .returned (.string ⟨(Lib.decDigits i).toArray⟩) ∧ w' = w := Any.strconv_Itoa_small Tryz.lays171 i hi w

def Tryz.laysC172_ren : Go.Shelf.Ren := ⟨fun | 172 => 122 | 244 => 131 | 245 => 132 | 247 => 138 | 279 => 139 | 280 => 140 | 281 => 141 | 282 => 142 | 287 => 148 | 316 => 149 | 171 => 94 | 205 => 150 | 321 => 153 | 322 => 154 | 243 => 120 | 246 => 129 | 283 => 133 | 284 => 134 | 285 => 135 | 286 => 136 | 129 => 144 | 317 => 143 | 318 => 145 | 319 => 146 | 320 => 147 | 337 => 151 | 338 => 152 | n => n, fun | 9 => 9 | 3 => 3 | 75 => 126 | 76 => 127 | 4 => 4 | 5 => 5 | 167 => 162 | 37 => 66 | 0 => 0 | 85 => 163 | 2 => 2 | 168 => 165 | 53 => 156 | 175 => 172 | 46 => 142 | 210 => 176 | 127 => 130 | 145 => 182 | 143 => 180 | 21 => 21 | 171 => 155 | 173 => 159 | 212 => 169 | 51 => 141 | 20 => 20 | 213 => 170 | 232 => 146 | 233 => 183 | 80 => 94 | n => n, fun | 15 => 2 | 16 => 3 | 17 => 1 | 18 => 0 | 19 => 4 | n => n⟩

theorem Tryz.laysC172 : Go.Proofs.LaysC.n172 Tryz.prog Tryz.laysC172_ren := {
  mixed := by kernel_rfl
  f129 := Tryz.func144.trans (congrArg some (by kernel_rfl))
  f171 := Tryz.func94.trans (congrArg some (by kernel_rfl))
  f172 := Tryz.func122.trans (congrArg some (by kernel_rfl))
  f205 := Tryz.func150.trans (congrArg some (by kernel_rfl))
  f243 := Tryz.func120.trans (congrArg some (by kernel_rfl))
  f244 := Tryz.func131.trans (congrArg some (by kernel_rfl))
  f245 := Tryz.func132.trans (congrArg some (by kernel_rfl))
  f246 := Tryz.func129.trans (congrArg some (by kernel_rfl))
  f247 := Tryz.func138.trans (congrArg some (by kernel_rfl))
  f279 := Tryz.func139.trans (congrArg some (by kernel_rfl))
  f280 := Tryz.func140.trans (congrArg some (by kernel_rfl))
  f281 := Tryz.func141.trans (congrArg some (by kernel_rfl))
  f282 := Tryz.func142.trans (congrArg some (by kernel_rfl))
  f283 := Tryz.func133.trans (congrArg some (by kernel_rfl))
  f284 := Tryz.func134.trans (congrArg some (by kernel_rfl))
  f285 := Tryz.func135.trans (congrArg some (by kernel_rfl))
  f286 := Tryz.func136.trans (congrArg some (by kernel_rfl))
  f287 := Tryz.func148.trans (congrArg some (by kernel_rfl))
  f316 := Tryz.func149.trans (congrArg some (by kernel_rfl))
  f317 := Tryz.func143.trans (congrArg some (by kernel_rfl))
  f318 := Tryz.func145.trans (congrArg some (by kernel_rfl))
  f319 := Tryz.func146.trans (congrArg some (by kernel_rfl))
  f320 := Tryz.func147.trans (congrArg some (by kernel_rfl))
  f321 := Tryz.func153.trans (congrArg some (by kernel_rfl))
  f322 := Tryz.func154.trans (congrArg some (by kernel_rfl))
  f337 := Tryz.func151.trans (congrArg some (by kernel_rfl))
  f338 := Tryz.func152.trans (congrArg some (by kernel_rfl))
  t0 := Tryz.underlying0
  a0 := Tryz.isAgg0
  z0 := Tryz.sizeOf0
  v0 := Tryz.zeroValue0
  t2 := Tryz.underlying2
  a2 := Tryz.isAgg2
  z2 := Tryz.sizeOf2
  v2 := Tryz.zeroValue2
  t3 := Tryz.underlying3
  a3 := Tryz.isAgg3
  z3 := Tryz.sizeOf3
  v3 := Tryz.zeroValue3
  t4 := Tryz.underlying4
  a4 := Tryz.isAgg4
  z4 := Tryz.sizeOf4
  v4 := Tryz.zeroValue4
  t5 := Tryz.underlying5
  a5 := Tryz.isAgg5
  z5 := Tryz.sizeOf5
  v5 := Tryz.zeroValue5
  t9 := Tryz.underlying9
  a9 := Tryz.isAgg9
  z9 := Tryz.sizeOf9
  v9 := Tryz.zeroValue9
  t20 := Tryz.underlying20
  a20 := Tryz.isAgg20
  z20 := Tryz.sizeOf20
  v20 := Tryz.zeroValue20
  t21 := Tryz.underlying21
  a21 := Tryz.isAgg21
  z21 := Tryz.sizeOf21
  v21 := Tryz.zeroValue21
  t37 := Tryz.underlying66
  a37 := Tryz.isAgg66
  z37 := Tryz.sizeOf66
  v37 := Tryz.zeroValue66
  t46 := Tryz.underlying142
  a46 := Tryz.isAgg142
  z46 := Tryz.sizeOf142
  v46 := Tryz.zeroValue142
  t51 := Tryz.underlying141
  a51 := Tryz.isAgg141
  z51 := Tryz.sizeOf141
  v51 := Tryz.zeroValue141
  t53 := Tryz.underlying156
  a53 := Tryz.isAgg156
  z53 := Tryz.sizeOf156
  v53 := Tryz.zeroValue156
  t75 := Tryz.underlying126
  a75 := Tryz.isAgg126
  z75 := Tryz.sizeOf126
  v75 := Tryz.zeroValue126
  t76 := Tryz.underlying127
  a76 := Tryz.isAgg127
  z76 := Tryz.sizeOf127
  v76 := Tryz.zeroValue127
  t85 := Tryz.underlying163
  a85 := Tryz.isAgg163
  z85 := Tryz.sizeOf163
  v85 := Tryz.zeroValue163
  t127 := Tryz.underlying130
  a127 := Tryz.isAgg130
  z127 := Tryz.sizeOf130
  v127 := Tryz.zeroValue130
  t143 := Tryz.underlying180
  a143 := Tryz.isAgg180
  z143 := Tryz.sizeOf180
  v143 := Tryz.zeroValue180
  t145 := Tryz.underlying182
  a145 := Tryz.isAgg182
  z145 := Tryz.sizeOf182
  v145 := Tryz.zeroValue182
  t167 := Tryz.underlying162
  a167 := Tryz.isAgg162
  z167 := Tryz.sizeOf162
  v167 := Tryz.zeroValue162
  t168 := Tryz.underlying165
  a168 := Tryz.isAgg165
  z168 := Tryz.sizeOf165
  v168 := Tryz.zeroValue165
  t171 := Tryz.underlying155
  a171 := Tryz.isAgg155
  z171 := Tryz.sizeOf155
  v171 := Tryz.zeroValue155
  t173 := Tryz.underlying159
  a173 := Tryz.isAgg159
  z173 := Tryz.sizeOf159
  v173 := Tryz.zeroValue159
  t175 := Tryz.underlying172
  a175 := Tryz.isAgg172
  z175 := Tryz.sizeOf172
  v175 := Tryz.zeroValue172
  t210 := Tryz.underlying176
  a210 := Tryz.isAgg176
  z210 := Tryz.sizeOf176
  v210 := Tryz.zeroValue176
  t212 := Tryz.underlying169
  a212 := Tryz.isAgg169
  z212 := Tryz.sizeOf169
  v212 := Tryz.zeroValue169
  t213 := Tryz.underlying170
  a213 := Tryz.isAgg170
  z213 := Tryz.sizeOf170
  t232 := Tryz.underlying146
  a232 := Tryz.isAgg146
  z232 := Tryz.sizeOf146
  v232 := Tryz.zeroValue146
  t233 := Tryz.underlying183
  a233 := Tryz.isAgg183
  z233 := Tryz.sizeOf183
  v233 := Tryz.zeroValue183
  g15 := by kernel_rfl
  g16 := by kernel_rfl
  g17 := by kernel_rfl
  g18 := by kernel_rfl
  g19 := by kernel_rfl
  t80 := Tryz.underlying94
  a80 := Tryz.isAgg94
  z80 := Tryz.sizeOf94
  v80 := Tryz.zeroValue94
  i0 := by kernel_rfl
  i2 := by kernel_rfl
  i3 := by kernel_rfl
  i4 := by kernel_rfl
  i5 := by kernel_rfl
  i9 := by kernel_rfl
  i20 := by kernel_rfl
  i21 := by kernel_rfl
  i37 := by kernel_rfl
  i46 := by kernel_rfl
  i51 := by kernel_rfl
  i53 := by kernel_rfl
  i75 := by kernel_rfl
  i76 := by kernel_rfl
  i80 := by kernel_rfl
  i85 := by kernel_rfl
  i127 := by kernel_rfl
  i143 := by kernel_rfl
  i145 := by kernel_rfl
  i167 := by kernel_rfl
  i168 := by kernel_rfl
  i171 := by kernel_rfl
  i173 := by kernel_rfl
  i175 := by kernel_rfl
  i210 := by kernel_rfl
  i212 := by kernel_rfl
  i232 := by kernel_rfl
  i233 := by kernel_rfl
  m15 := by kernel_rfl
  m16 := by kernel_rfl
  m17 := by kernel_rfl
  m18 := by kernel_rfl
  m19 := by kernel_rfl
  c0 := by kernel_rfl
  c2 := by kernel_rfl
  c3 := by kernel_rfl
  c4 := by kernel_rfl
  c5 := by kernel_rfl
  c9 := by kernel_rfl
  c20 := by kernel_rfl
  c21 := by kernel_rfl
  c37 := by kernel_rfl
  c46 := by kernel_rfl
  c51 := by kernel_rfl
  c53 := by kernel_rfl
  c75 := by kernel_rfl
  c76 := by kernel_rfl
  c80 := by kernel_rfl
  c85 := by kernel_rfl
  c127 := by kernel_rfl
  c143 := by kernel_rfl
  c145 := by kernel_rfl
  c167 := by kernel_rfl
  c168 := by kernel_rfl
  c171 := by kernel_rfl
  c173 := by kernel_rfl
  c175 := by kernel_rfl
  c210 := by kernel_rfl
  c212 := by kernel_rfl
  c213 := by kernel_rfl
  c232 := by kernel_rfl
  c233 := by kernel_rfl }

open Go.RowKit in
theorem Tryz.strconv_Atoi_ok (s : ByteArray) (hmax : s.size ≤ 9223372036854775806) (v : Int) (h : Lib.atoiAll s.data.toList = .ok v) (w : World) :
    Calls Tryz.prog 122 #[.string s] w fun e w' => e = .returned (.tuple #[.int .i64 v, .nilIface]) ∧ (w' = w ∨ ∃ t, w' = Lib.bytesWorld w 5 t) := Any.strconv_Atoi_ok Tryz.laysC172 s hmax v h w

open Go.RowKit in
theorem Tryz.strconv_Atoi_syntax (s : ByteArray) (hlim : s.size ≤ 281474976710656) (h : Lib.atoiAll s.data.toList = Lib.atoiAll []) (ev : Value) (w : World) (hv : w.cell? ⟨2, 0, none⟩ = some ev) (hev : ev = .nilIface ∨ ∃ te pe, ev = .iface te pe) :
    Calls Tryz.prog 122 #[.string s] w fun e w' => ∃ N, e = .returned (.tuple #[.int .i64 (0), .iface 165 (.pointer (some ⟨N, 0, none⟩))]) ∧ w.heap.size ≤ N ∧ w'.heap[N]? = some (.cells #[.string ⟨#[65, 116, 111, 105]⟩, .string s, ev] 176 (0, 0)) ∧ Below w.heap.size w w' := Any.strconv_Atoi_syntax Tryz.laysC172 s hlim h ev w hv hev

open Go.RowKit in
theorem Tryz.strconv_Atoi_range (s : ByteArray) (hlim : s.size ≤ 281474976710656) (h : Lib.atoiAll s.data.toList = .range) (ev : Value) (w : World) (hv : w.cell? ⟨3, 0, none⟩ = some ev) (hev : ev = .nilIface ∨ ∃ te pe, ev = .iface te pe) :
    Calls Tryz.prog 122 #[.string s] w fun e w' => ∃ N, e = .returned (.tuple #[.int .i64 (Lib.atoiSat s.data.toList), .iface 165 (.pointer (some ⟨N, 0, none⟩))]) ∧ w.heap.size ≤ N ∧ w'.heap[N]? = some (.cells #[.string ⟨#[65, 116, 111, 105]⟩, .string s, ev] 176 (0, 0)) ∧ Below w.heap.size w w' := Any.strconv_Atoi_range Tryz.laysC172 s hlim h ev w hv hev

end Go.Proofs
namespace Go.Proofs.YtcojmmhclklpoaaGreatDoor
open Go.RowKit Go.Shelf

theorem strCells_mkB (l : Byts) : Lib.strCells (mkB l) = Lib.byteCells l := rfl
theorem byteCells_app (l m : Byts) : Lib.byteCells (l ++ m) = Lib.byteCells l ++ Lib.byteCells m := by unfold Lib.byteCells; rw [List.map_append]
theorem mkB_app (l m : Byts) : mkB l ++ mkB m = mkB (l ++ m) := by
  apply ByteArray.ext
  rw [ByteArray.data_append]
  unfold mkB
  simp
/-- the table of the powers of ten -/
def HasPow (w : World) : Prop := Lib.TabIs Tryz.prog w "internal/strconv.uint64pow10" .u64 Lib.pow10Tab
theorem gPow : ∃ g, Tryz.prog.globalNamed "internal/strconv.uint64pow10" = some g := ⟨1, by kernel_rfl⟩
theorem HasPow.lt {w : World} (h : HasPow w) : ∃ g, Tryz.prog.globalNamed "internal/strconv.uint64pow10" = some g ∧ g < w.heap.size := by
  obtain ⟨g, hg⟩ := gPow
  refine ⟨g, hg, ?_⟩
  unfold HasPow Lib.TabIs World.var? at h
  rw [hg] at h
  simp only [Option.bind_some] at h
  rcases Nat.lt_or_ge g w.heap.size with h' | h'
  · exact h'
  · rw [Array.getElem?_eq_none h'] at h; cases h
theorem HasPow.belowB {w w' : World} {B : Nat} (h : HasPow w) (hs : w.heap.size ≤ B) (hb : Below B w w') : HasPow w' := by
  obtain ⟨g, hg, hlt⟩ := h.lt
  unfold HasPow Lib.TabIs World.var? at h ⊢
  rw [hg] at h ⊢
  simp only [Option.bind_some] at h ⊢
  rw [hb.block g (by omega)]
  exact h
theorem HasPow.below {w w' : World} (h : HasPow w) (hb : Below w.heap.size w w') : HasPow w' := h.belowB (Nat.le_refl _) hb
theorem itoa_c (n : Nat) (hn : n ≤ 1000000) (w : World) (h : HasPow w) :
    Calls Tryz.prog 94 #[.int .i64 n] w fun e w' => e = .returned (.string (mkB (Lib.decDigits n))) ∧ Below w.heap.size w w' := by
  refine (Tryz.strconv_Itoa (n : Int) (by omega) (by omega) w h).mono ?_
  rintro e w' ⟨rfl, k, os, rfl⟩
  exact ⟨by rw [Lib.itoa_nonneg]; rfl, Lib.below_grow _ w (Nat.le_refl _) k os⟩
theorem dec_len6 (n : Nat) (h : n ≤ 100000) : (Lib.decDigits n).length ≤ 6 := by
  rw [Lib.decDigits_eq, List.length_map, List.length_range]
  unfold Lib.nDigits
  split
  · omega
  · unfold Lib.nDigits
    split
    · omega
    · unfold Lib.nDigits
      split
      · omega
      · unfold Lib.nDigits
        split
        · omega
        · unfold Lib.nDigits
          split
          · omega
          · unfold Lib.nDigits
            split
            · omega
            · omega
theorem bat_below {B b : Nat} {p : Value} {bs : List Value} {W W' : World} (h : Lib.BuilderAtF bldT bytT B b p bs W) (hb : Below W.heap.size W W') : Lib.BuilderAtF bldT bytT B b p bs W' := by
  have hlt := h.lt
  obtain ⟨hB, v, hv, hown, hne⟩ := h
  exact ⟨hB, v, (hb.block b hlt).trans hv, hown.kept (row := none) ⟨hb.os, hb.tape, hb.output, hb.size, fun k hk _ => hb.block k hk⟩ (Classical.em _), hne⟩
/-- the world while writing -/
structure ShS (w0 : World) (B : Nat) (bs : Byts) (u : World) : Prop where
  bel : Below B w0 u
  bld : Lib.IsBuilderF bldT bytT B B (Lib.byteCells bs) u
theorem ShS.lt {w0 u : World} {B : Nat} {bs : Byts} (h : ShS w0 B bs u) : B < u.heap.size := by
  rcases h.bld with h | h
  · exact h.lt
  · exact h.lt
theorem ShS.below {w0 u u' : World} {B : Nat} {bs : Byts} (h : ShS w0 B bs u) (hb : Below u.heap.size u u') : ShS w0 B bs u' :=
  ⟨h.bel.trans (hb.mono (Nat.le_of_lt h.lt)), h.bld.elim (fun x => .inl (bat_below x hb)) (fun x => .inr (bat_below x hb))⟩
theorem kept_below {a w w' : World} {B : Nat} (h : Lib.OthersKept bytT (some B) a w) (hb : Below w.heap.size w w') : Lib.OthersKept bytT (some B) a w' := by
  intro k x hk hbk hx
  have h1 := h k x hk hbk hx
  rw [hb.block k (Array.getElem?_eq_some_iff.1 h1).1]
  exact h1
theorem write_h {w0 u : World} {B : Nat} {bs : Byts} (h : ShS w0 B bs u) (s : Byts) (hl : bs.length + s.length ≤ 10000000) :
    Calls Tryz.prog 93 #[.pointer (some ⟨B, 0, none⟩), .string (mkB s)] u fun e w' => e = .returned (.tuple #[.int .i64 s.length, .nilIface]) ∧ ShS w0 B (bs ++ s) w' ∧ Lib.OthersKept bytT (some B) u w' ∧ u.heap.size ≤ w'.heap.size := by
  refine (bwrite_k B B (Lib.byteCells bs) (mkB s) u h.bld (by rw [Lib.byteCells_length, mkB_size]; omega) (Nat.le_of_lt h.lt)).mono ?_
  rintro e w' ⟨rfl, h1, h2, h3⟩
  rw [strCells_mkB, ← byteCells_app] at h1
  exact ⟨by rw [mkB_size], ⟨h.bel.trans h2, .inr h1⟩, h3, h2.size⟩
theorem txt_snoc (ws : List Int) (t : ET) : ∀ (l : List ET) (a : Nat), ETs.txt (l ++ [t]) ws a = ETs.txt l ws a ++ ((if a + l.length = 0 then [] else [44, 32]) ++ (t.txt ++ (if ws = [] then [] else 42 :: Lib.decDigits (ws.getD (a + l.length) 0).toNat)))
  | [], a => by simp [ETs.txt]
  | s :: l, a => by
    rw [List.cons_append, ETs.txt, txt_snoc ws t l (a + 1), ETs.txt, List.length_cons, show a + 1 + l.length = a + (l.length + 1) by omega]
    simp only [List.append_assoc]
theorem txt_le (ws : List Int) (m : List ET) : ∀ (l : List ET) (a : Nat), (ETs.txt l ws a).length ≤ (ETs.txt (l ++ m) ws a).length
  | [], a => by simp [ETs.txt]
  | s :: l, a => by
    have := txt_le ws m l (a + 1)
    rw [List.cons_append, ETs.txt, ETs.txt]
    simp only [List.length_append]
    omega
theorem txt_take (ws : List Int) (l : List ET) (k : Nat) : (ETs.txt (l.take k) ws 0).length ≤ (ETs.txt l ws 0).length := by
  have := txt_le ws (l.drop k) (l.take k) 0
  rwa [List.take_append_drop] at this
theorem kept_at {u v : World} {B k : Nat} {cs : Array Value} {t : TypeId} (hk : Lib.OthersKept bytT (some B) u v) (h : u.heap[k]? = some (.cells cs t (0, 0))) (hB : k ≠ B) (ht : t ≠ bytT) : v.heap[k]? = some (.cells cs t (0, 0)) := by
  refine hk k _ h (fun e => by injection e with e; exact hB e) (fun c fz e => ?_)
  injection e with _ e2 _
  exact ht e2
def ShC (x : Xpr) (w0 : World) (B : Nat) (f : Nat) : Prop :=
  ∀ (a : Option Addr) (n c : Nat), XM w0 a n c x.nodes → ∀ (i : Nat), i < f → i < x.nodes.length → ∀ (bs : Byts) (u : World), ShS w0 B bs u → bs.length + (treF x.nodes noSub f i).txt.length ≤ 1000000 →
    Calls Tryz.prog 67 #[.pointer (some ⟨B, 0, none⟩), .agg #[.slice a n c, .int .i64 x.root], .int .i64 i] u fun e w' => e = .returned (.tuple #[]) ∧ ShS w0 B (bs ++ (treF x.nodes noSub f i).txt) w' ∧ Lib.OthersKept bytT (some B) u w' ∧ u.heap.size ≤ w'.heap.size

set_option maxRecDepth 100000 in
set_option maxHeartbeats 16000000 in
theorem show_step (x : Xpr) (hx : xprE x = 0) (w0 : World) (B : Nat) (hw0 : w0.heap.size = B) (hpow : HasPow w0) (f : Nat) (ih : ShC x w0 B f) : ShC x w0 B (f + 1) := by
  intro a n c h i hif hil bs u hs hl
  obtain ⟨nd, hnd⟩ : ∃ nd, x.nodes[i]? = some nd := ⟨_, List.getElem?_eq_getElem hil⟩
  have xok := xprE_ok hx
  have ok := xok.node i nd hnd
  have hthr := xprE_thr0 hx i nd hnd
  have hln := h.len
  have hb0 : Below w0.heap.size w0 u := by rw [hw0]; exact hs.bel
  obtain ⟨b, o, ha, hat⟩ := h.at' (by omega)
  have hM := hat i nd hnd
  obtain ⟨aw, nw, cw, m3, rw3⟩ := hM.ws
  obtain ⟨ak, nk, ck, m4, rk4⟩ := hM.ks
  have m00 := cell_keep hb0 hM.c0
  have m01 := cell_keep hb0 hM.c1
  have m02 := cell_keep hb0 hM.c2
  have m03 := cell_keep hb0 m3
  have m04 := cell_keep hb0 m4
  have hbl : b < u.heap.size := cell_lt m00
  have m0 : ∀ ob, (u.alloc ob).cell? ⟨b, o + i * 5, none⟩ = some (.int .i64 nd.kind) := fun ob => (World.cell?_alloc_lt _ _ _ hbl).trans m00
  have m1 : ∀ ob, (u.alloc ob).cell? ⟨b, o + i * 5 + 1, none⟩ = some (.int .i64 nd.server) := fun ob => (World.cell?_alloc_lt _ _ _ hbl).trans m01
  have m2 : ∀ ob, (u.alloc ob).cell? ⟨b, o + i * 5 + 2, none⟩ = some (.int .i64 nd.need) := fun ob => (World.cell?_alloc_lt _ _ _ hbl).trans m02
  have m3 : ∀ ob, (u.alloc ob).cell? ⟨b, o + i * 5 + 3, none⟩ = some (.slice aw nw cw) := fun ob => (World.cell?_alloc_lt _ _ _ hbl).trans m03
  have m4 : ∀ ob, (u.alloc ob).cell? ⟨b, o + i * 5 + 4, none⟩ = some (.slice ak nk ck) := fun ob => (World.cell?_alloc_lt _ _ _ hbl).trans m04
  have HH := Lib.hid h
  have HPOW := Lib.hid (fun (bs : Byts) (v : World) (hv : ShS w0 B bs v) => hpow.belowB (Nat.le_of_eq hw0) hv.bel)
  have HS := Lib.hid hs
  have hwl := rw3.len
  have hkl := rk4.len
  rw [List.length_map] at hwl hkl
  have hin : i < n := by omega
  have hbi : decide ((i : Int) < (n : Int)) = true := decide_eq_true (by omega)
  subst ha
  clear m00 m01 m02 m03 m04
  obtain ⟨kind, server, need, ws, ks⟩ := nd
  simp only at m0 m1 m2 rw3 rk4 hwl hkl hthr
  have hBu := hs.lt
  obtain ⟨U2, hU2⟩ : ∃ U2, U2 = (u.alloc (.cells #[.slice (some ⟨b, o, none⟩) n c, .int .i64 x.root] 32)).alloc (.cells #[.int .i64 kind, .int .i64 server, .int .i64 need, .slice aw nw cw, .slice ak nk ck] 71) := ⟨_, rfl⟩
  obtain ⟨gX, gN, hb2, hs2⟩ := box2 hU2.symm
  have HS2 := Lib.hid (hs.below hb2)
  have HB2 := Lib.hid hb2
  have GX := Lib.hid gX
  have GN := Lib.hid gN
  obtain ⟨n0, n1, n2, n3, n4⟩ := open5 gN
  have HK2 : Hid (Lib.OthersKept bytT (some B) u U2) := Lib.hid (kept_below (Lib.OthersKept.refl _ _ u) hb2)
  have hUs : u.heap.size + 2 ≤ U2.heap.size := by omega
  by_cases hk1 : kind = 1
  · subst hk1
    have hT : treF x.nodes noSub (f + 1) i = .srv server := by
      have e : x.nodes.getD i nod0 = ⟨1, server, need, ws, ks⟩ := by rw [List.getD_eq_getElem?_getD, hnd]; rfl
      rw [treF, e, if_pos rfl]; rfl
    rw [hT, ET.txt] at hl ⊢
    have hsr := ok.server
    simp only at hsr
    obtain ⟨sn, rfl⟩ := Int.eq_ofNat_of_zero_le hsr.1
    rw [Int.toNat_natCast] at hl ⊢
    have HIT := Lib.hid (itoa_c sn (by omega) U2 (HPOW.out _ _ HS2.out))
    have hDl := dec_len6 sn (by omega)
    obtain ⟨D, hD⟩ : ∃ D, Lib.decDigits sn = D := ⟨_, rfl⟩
    rw [hD] at hl hDl HIT ⊢
    have hDs : ({ data := D.toArray } : ByteArray).size ≤ 6 := by have := mkB_size D; unfold mkB at this; omega
    have HL := Lib.hid hl
    unfold mkB at HIT
    rw [hU2] at n0 n1
    clear hT hD hM hat hnd rw3 rk4 hwl hkl ok xok hthr h hs hl hb2 gX gN hs2 n2 n3 n4 ih
    go_enter Tryz.func67, Tryz.ntmps67
    go_wp2_with fail
    rw [← hU2]
    with_reducible refine HIT.out.mono ?_
    rintro e U3 ⟨rfl, hb3⟩
    have HS3 := Lib.hid (HS2.out.below hb3)
    have HK3 := Lib.hid (kept_below HK2.out hb3)
    have hs3 := hb3.size
    have HW := Lib.hid (write_h HS3.out ([115] ++ D) (by have := HL.out; simp at this ⊢; omega))
    rw [← mkB_app, show mkB [115] = ⟨#[115]⟩ from rfl, show mkB D = ⟨D.toArray⟩ from rfl] at HW
    clear hb3 n0 n1 HIT
    go_wp2_with fail
    with_reducible refine HW.out.mono ?_
    rintro e w4 ⟨rfl, h1, h2, h3⟩
    have H1 := Lib.hid h1
    have H2 := Lib.hid (HK3.out.trans h2)
    clear h1 h2
    go_wp2_with fail
    refine bodyPost_ret (results_none rfl _ _ _) rfl ?_
    exact ⟨rfl, H1.out, H2.out, by omega⟩
  · have hk2 : (kind == 1) = false := by simpa using hk1
    obtain rfl : server = 0 := hthr hk1
    have hT : treF x.nodes noSub (f + 1) i = .thr need ws (kidT x.nodes noSub f ks) := by
      have e : x.nodes.getD i nod0 = ⟨kind, 0, need, ws, ks⟩ := by rw [List.getD_eq_getElem?_getD, hnd]; rfl
      rw [treF, e, if_neg hk1]; rfl
    rw [hT, ET.txt] at hl ⊢
    have hneed := ok.need
    simp only at hneed
    obtain ⟨nd, rfl⟩ := Int.eq_ofNat_of_zero_le hneed.1
    rw [Int.toNat_natCast] at hl ⊢
    have HWW := Lib.hid ok.weights
    have HKR := Lib.hid ok.kids
    have HAR := Lib.hid ok.arity
    have HIT := Lib.hid (itoa_c nd (by omega) U2 (HPOW.out _ _ HS2.out))
    have hDl := dec_len6 nd (by omega)
    obtain ⟨D, hD⟩ : ∃ D, Lib.decDigits nd = D := ⟨_, rfl⟩
    obtain ⟨KT, hKT⟩ : ∃ KT, kidT x.nodes noSub f ks = KT := ⟨_, rfl⟩
    rw [hD] at hl hDl HIT ⊢
    rw [hKT] at hl ⊢
    have hKl : KT.length = nk := by rw [← hKT, kidT_len]; exact hkl.symm
    have HKT := Lib.hid hKT
    have HKL := Lib.hid hKl
    have hDs : ({ data := D.toArray } : ByteArray).size ≤ 6 := by have := mkB_size D; unfold mkB at this; omega
    have HL : Hid (bs.length + (D.length + 1 + (ETs.txt KT ws 0).length + 1) ≤ 1000000) := Lib.hid (by
      simp only [List.length_append, List.length_cons, List.length_nil] at hl; omega)
    have HWL := Lib.hid hwl
    have HKS := Lib.hid hkl
    have HLN := Lib.hid hln
    have HIH := Lib.hid (ih (some ⟨b, o, none⟩) n c h)
    have HRW := Lib.hid rw3
    have HRK := Lib.hid rk4
    have hnkm : nk ≤ 9223372036854775807 := by have h1 := rk4.le; have h2 := rk4.max; unfold maxLen at h2; omega
    unfold mkB at HIT
    rw [hU2] at n0 n2
    clear hT hD hKT hM hat hnd rw3 rk4 hwl hkl ok xok hthr h hs hl hb2 gX gN hs2 n1 n3 n4 ih hKl hln
    go_enter Tryz.func67, Tryz.ntmps67
    go_wp2_with fail
    rw [← hU2]
    with_reducible refine HIT.out.mono ?_
    rintro e U3 ⟨rfl, hb3⟩
    have HS3 := Lib.hid (HS2.out.below hb3)
    have HK3 := Lib.hid (kept_below (Lib.OthersKept.refl bytT (some B) U2) hb3)
    have hs3 := hb3.size
    have HW := Lib.hid (write_h HS3.out (D ++ [40]) (by have := HL.out; simp; omega))
    rw [← mkB_app, show mkB [40] = ⟨#[40]⟩ from rfl, show mkB D = ⟨D.toArray⟩ from rfl] at HW
    clear hb3 n0 n2 HIT
    go_wp2_with fail
    with_reducible refine HW.out.mono ?_
    rintro e w4 ⟨rfl, h1, h2, h3⟩
    have H4 := Lib.hid h1
    have HK4 := Lib.hid (HK3.out.trans h2)
    have gN4 := kept_at HK4.out GN.out (by omega) (by decide)
    have n4 := (open5 gN4).2.2.2.2
    have hs4 : u.heap.size + 2 ≤ w4.heap.size := by omega
    clear h1 h2 HW gN4 hs3 h3
    go_wp2_with fail
    clear n4
    go_loopw [32] (fun q wr => ∃ k, k ≤ nk ∧ q = .int .i64 ((k : Nat) : Int) ∧ ShS w0 B (bs ++ (D ++ [40]) ++ ETs.txt (KT.take k) ws 0) wr ∧ Lib.OthersKept bytT (some B) U2 wr ∧ u.heap.size + 2 ≤ wr.heap.size) (fun q _ => nk - (intOf q).toNat)
    case atStart => exact ⟨0, Nat.zero_le _, rfl, by rw [List.take_zero, ETs.txt, List.append_nil]; exact H4.out, HK4.out, hs4⟩
    case round =>
      obtain ⟨k, hk, rfl, hS, hK, hsz⟩ := hrel
      by_cases hlt : k < nk
      · obtain ⟨z, hz⟩ : ∃ z, ks[k]? = some z := ⟨_, List.getElem?_eq_getElem (by have := HKS.out; omega)⟩
        have hzr := HKR.out z (List.mem_of_getElem? hz)
        obtain ⟨zn, hzn⟩ := Int.eq_ofNat_of_zero_le hzr.1
        subst hzn
        have hTT := kidT_take x.nodes noSub f ks k zn hz
        rw [HKT.out, Int.toNat_natCast] at hTT
        obtain ⟨TK, hTK⟩ : ∃ TK, treF x.nodes noSub f zn = TK := ⟨_, rfl⟩
        rw [hTK] at hTT
        have hlk : (KT.take k).length = k := by rw [List.length_take]; have := HKL.out; omega
        have htx : ETs.txt (KT.take (k + 1)) ws 0 = ETs.txt (KT.take k) ws 0 ++ ((if k = 0 then [] else [44, 32]) ++ (TK.txt ++ (if ws = [] then [] else 42 :: Lib.decDigits (ws.getD k 0).toNat))) := by
          rw [hTT, txt_snoc, hlk, Nat.zero_add]
        obtain ⟨PZ, hPZ⟩ : ∃ PZ : Byts, (if k = 0 then [] else [44, 32]) = PZ := ⟨_, rfl⟩
        have htk := txt_take ws KT (k + 1)
        rw [htx] at htk
        rw [hPZ] at htx htk
        have HTXT := Lib.hid htx
        have HLT : Hid ((bs ++ (D ++ [40]) ++ ETs.txt (KT.take k) ws 0).length + PZ.length + TK.txt.length ≤ 1000000) := Lib.hid (by
          have h1 := HL.out
          simp only [List.length_append, List.length_cons, List.length_nil] at htk ⊢
          omega)
        have HTK := Lib.hid hTK
        obtain ⟨bk, ok', hak, hck⟩ := HRK.out.at' (by omega)
        have hc := cell_keep (show Below w0.heap.size w0 wr by rw [hw0]; exact hS.bel) (hck k (.int .i64 zn) (by rw [List.getElem?_map, hz]; rfl))
        have HSS := Lib.hid hS
        have HKK := Lib.hid hK
        subst hak
        clear hTT hTK hlk htx htk hck hz hS hK
        by_cases hk0 : k = 0
        · have hPZ0 : PZ = [] := by rw [← hPZ, if_pos hk0]
          have H5 : Hid (ShS w0 B (bs ++ (D ++ [40]) ++ ETs.txt (KT.take k) ws 0 ++ PZ) wr) := Lib.hid (by rw [hPZ0, List.append_nil]; exact HSS.out)
          have HK5 := HKK
          have hd0 : decide (0 < k) = false := decide_eq_false (by omega)
          clear hPZ hPZ0 hk0
          obtain ⟨w5, hw5⟩ : ∃ w5, w5 = wr := ⟨_, rfl⟩
          subst hw5
          have gX5 := kept_at HK5.out GX.out (by omega) (by decide)
          obtain ⟨x0, x1⟩ := (open2 gX5).1
          have HCALL := Lib.hid (HIH.out zn (by omega) (by have := HLN.out; omega) _ w5 H5.out (by have := HLT.out; rw [HTK.out, List.length_append]; omega))
          rw [HTK.out] at HCALL
          clear gX5
          go_wp2_with fail
          with_reducible refine HCALL.out.mono ?_
          rintro e w6 ⟨rfl, h1, h2, h3⟩
          have H6 := Lib.hid h1
          have HK6 := Lib.hid (HK5.out.trans h2)
          have gN6 := kept_at HK6.out GN.out (by omega) (by decide)
          obtain ⟨_, _, _, n3, _⟩ := open5 gN6
          have hs6 : u.heap.size + 2 ≤ w6.heap.size := by omega
          clear h1 h2 h3 HCALL x0 x1 gN6
          by_cases hw0' : nw = 0
          · have hws : ws = [] := List.eq_nil_of_length_eq_zero (by have := HWL.out; omega)
            have HE9 : Hid (ETs.txt (KT.take (k + 1)) ws 0 = ETs.txt (KT.take k) ws 0 ++ (PZ ++ TK.txt)) := Lib.hid (by rw [HTXT.out, if_pos hws, List.append_nil])
            subst hw0'
            clear hws
            go_wp2_with fail
            go_roundw
            case rel => exact ⟨k + 1, by omega, by go_num, by rw [HE9.out, ← List.append_assoc, ← List.append_assoc]; exact H6.out, HK6.out, hs6⟩
            case measure => simp [intOf] <;> omega
          · have hne : ws ≠ [] := fun e => hw0' (by rw [HWL.out, e]; rfl)
            have hkw : k < nw := by
              rcases HAR.out with e | e
              · exact absurd e hne
              · have := HWL.out; have := HKS.out; omega
            obtain ⟨v, hv⟩ : ∃ v, ws[k]? = some v := ⟨_, List.getElem?_eq_getElem (by have := HWL.out; omega)⟩
            have hvr := HWW.out v (List.mem_of_getElem? hv)
            obtain ⟨vn, rfl⟩ := Int.eq_ofNat_of_zero_le (show 0 ≤ v by omega)
            have hgd : (ws.getD k 0).toNat = vn := by rw [List.getD_eq_getElem?_getD, hv]; rfl
            obtain ⟨bw, ow, haw, hcw⟩ := HRW.out.at' (by omega)
            have hc := cell_keep (show Below w0.heap.size w0 w6 by rw [hw0]; exact H6.out.bel) (hcw k (.int .i64 vn) (by rw [List.getElem?_map, hv]; rfl))
            have HIT := Lib.hid (itoa_c vn (by omega) w6 (HPOW.out _ _ H6.out))
            have hEl := dec_len6 vn (by omega)
            obtain ⟨E, hE⟩ : ∃ E, Lib.decDigits vn = E := ⟨_, rfl⟩
            have HE9 : Hid (ETs.txt (KT.take (k + 1)) ws 0 = ETs.txt (KT.take k) ws 0 ++ (PZ ++ (TK.txt ++ (42 :: E)))) := Lib.hid (by rw [HTXT.out, if_neg hne, hgd, hE])
            rw [hE] at HIT hEl
            have hEs : ({ data := E.toArray } : ByteArray).size ≤ 6 := by have := mkB_size E; unfold mkB at this; omega
            have hd1 : decide (0 < nw) = true := decide_eq_true (by omega)
            have HL9 := Lib.hid (show (bs ++ (D ++ [40]) ++ ETs.txt (KT.take k) ws 0 ++ PZ ++ TK.txt).length + 7 ≤ 2000000 by
              have h1 := HL.out
              have h2 := HLT.out
              rw [List.length_append, List.length_append]
              omega)
            unfold mkB at HIT
            subst haw
            clear hne hcw hgd hE hv
            go_wp2_with fail
            with_reducible refine HIT.out.mono ?_
            rintro e w7 ⟨rfl, hb7⟩
            have H7 := Lib.hid (H6.out.below hb7)
            have HK7 := Lib.hid (kept_below HK6.out hb7)
            have hs7 := hb7.size
            have h8 : (([42] : Byts) ++ E).length = E.length + 1 := by simp
            have HW := Lib.hid (write_h H7.out ([42] ++ E) (by rw [h8]; have := HL9.out; omega))
            rw [← mkB_app, show mkB [42] = ⟨#[42]⟩ from rfl, show mkB E = ⟨E.toArray⟩ from rfl] at HW
            clear hb7 hc n3 HIT
            go_wp2_with fail
            with_reducible refine HW.out.mono ?_
            rintro e w8 ⟨rfl, h1, h2, h3⟩
            have H8 := Lib.hid h1
            have HK8 := Lib.hid (HK7.out.trans h2)
            clear h1 h2 HW
            go_wp2_with fail
            go_roundw
            case rel => exact ⟨k + 1, by omega, by go_num, by rw [HE9.out]; have := H8.out; simpa only [List.append_assoc, List.singleton_append, List.cons_append, List.nil_append] using this, HK8.out, by omega⟩
            case measure => simp [intOf] <;> omega
        · have hPZ0 : PZ = [44, 32] := by rw [← hPZ, if_neg hk0]
          have hd0 : decide (0 < k) = true := decide_eq_true (by omega)
          have hd00 : 0 < k := by omega
          have HW := Lib.hid (write_h HSS.out [44, 32] (by have := HLT.out; simp only [List.length_cons, List.length_nil]; omega))
          rw [show mkB [44, 32] = ⟨#[44, 32]⟩ from rfl] at HW
          clear hPZ
          go_wp2_with fail
          with_reducible refine HW.out.mono ?_
          rintro e w5 ⟨rfl, h1, h2, h3⟩
          have H5 : Hid (ShS w0 B (bs ++ (D ++ [40]) ++ ETs.txt (KT.take k) ws 0 ++ PZ) w5) := Lib.hid (by rw [hPZ0]; exact h1)
          have HK5 := Lib.hid (HKK.out.trans h2)
          have hs5' : u.heap.size + 2 ≤ w5.heap.size := by omega
          clear h1 h2 HW hc hPZ0
          have gX5 := kept_at HK5.out GX.out (by omega) (by decide)
          obtain ⟨x0, x1⟩ := (open2 gX5).1
          have HCALL := Lib.hid (HIH.out zn (by omega) (by have := HLN.out; omega) _ w5 H5.out (by have := HLT.out; rw [HTK.out, List.length_append]; omega))
          rw [HTK.out] at HCALL
          clear gX5
          go_wp2_with fail
          with_reducible refine HCALL.out.mono ?_
          rintro e w6 ⟨rfl, h1, h2, h3⟩
          have H6 := Lib.hid h1
          have HK6 := Lib.hid (HK5.out.trans h2)
          have gN6 := kept_at HK6.out GN.out (by omega) (by decide)
          obtain ⟨_, _, _, n3, _⟩ := open5 gN6
          have hs6 : u.heap.size + 2 ≤ w6.heap.size := by omega
          clear h1 h2 h3 HCALL x0 x1 gN6
          by_cases hw0' : nw = 0
          · have hws : ws = [] := List.eq_nil_of_length_eq_zero (by have := HWL.out; omega)
            have HE9 : Hid (ETs.txt (KT.take (k + 1)) ws 0 = ETs.txt (KT.take k) ws 0 ++ (PZ ++ TK.txt)) := Lib.hid (by rw [HTXT.out, if_pos hws, List.append_nil])
            subst hw0'
            clear hws
            go_wp2_with fail
            go_roundw
            case rel => exact ⟨k + 1, by omega, by go_num, by rw [HE9.out, ← List.append_assoc, ← List.append_assoc]; exact H6.out, HK6.out, hs6⟩
            case measure => simp [intOf] <;> omega
          · have hne : ws ≠ [] := fun e => hw0' (by rw [HWL.out, e]; rfl)
            have hkw : k < nw := by
              rcases HAR.out with e | e
              · exact absurd e hne
              · have := HWL.out; have := HKS.out; omega
            obtain ⟨v, hv⟩ : ∃ v, ws[k]? = some v := ⟨_, List.getElem?_eq_getElem (by have := HWL.out; omega)⟩
            have hvr := HWW.out v (List.mem_of_getElem? hv)
            obtain ⟨vn, rfl⟩ := Int.eq_ofNat_of_zero_le (show 0 ≤ v by omega)
            have hgd : (ws.getD k 0).toNat = vn := by rw [List.getD_eq_getElem?_getD, hv]; rfl
            obtain ⟨bw, ow, haw, hcw⟩ := HRW.out.at' (by omega)
            have hc := cell_keep (show Below w0.heap.size w0 w6 by rw [hw0]; exact H6.out.bel) (hcw k (.int .i64 vn) (by rw [List.getElem?_map, hv]; rfl))
            have HIT := Lib.hid (itoa_c vn (by omega) w6 (HPOW.out _ _ H6.out))
            have hEl := dec_len6 vn (by omega)
            obtain ⟨E, hE⟩ : ∃ E, Lib.decDigits vn = E := ⟨_, rfl⟩
            have HE9 : Hid (ETs.txt (KT.take (k + 1)) ws 0 = ETs.txt (KT.take k) ws 0 ++ (PZ ++ (TK.txt ++ (42 :: E)))) := Lib.hid (by rw [HTXT.out, if_neg hne, hgd, hE])
            rw [hE] at HIT hEl
            have hEs : ({ data := E.toArray } : ByteArray).size ≤ 6 := by have := mkB_size E; unfold mkB at this; omega
            have hd1 : decide (0 < nw) = true := decide_eq_true (by omega)
            have HL9 := Lib.hid (show (bs ++ (D ++ [40]) ++ ETs.txt (KT.take k) ws 0 ++ PZ ++ TK.txt).length + 7 ≤ 2000000 by
              have h1 := HL.out
              have h2 := HLT.out
              rw [List.length_append, List.length_append]
              omega)
            unfold mkB at HIT
            subst haw
            clear hne hcw hgd hE hv
            go_wp2_with fail
            with_reducible refine HIT.out.mono ?_
            rintro e w7 ⟨rfl, hb7⟩
            have H7 := Lib.hid (H6.out.below hb7)
            have HK7 := Lib.hid (kept_below HK6.out hb7)
            have hs7 := hb7.size
            have h8 : (([42] : Byts) ++ E).length = E.length + 1 := by simp
            have HW := Lib.hid (write_h H7.out ([42] ++ E) (by rw [h8]; have := HL9.out; omega))
            rw [← mkB_app, show mkB [42] = ⟨#[42]⟩ from rfl, show mkB E = ⟨E.toArray⟩ from rfl] at HW
            clear hb7 hc n3 HIT
            go_wp2_with fail
            with_reducible refine HW.out.mono ?_
            rintro e w8 ⟨rfl, h1, h2, h3⟩
            have H8 := Lib.hid h1
            have HK8 := Lib.hid (HK7.out.trans h2)
            clear h1 h2 HW
            go_wp2_with fail
            go_roundw
            case rel => exact ⟨k + 1, by omega, by go_num, by rw [HE9.out]; have := H8.out; simpa only [List.append_assoc, List.singleton_append, List.cons_append, List.nil_append] using this, HK8.out, by omega⟩
            case measure => simp [intOf] <;> omega
      · obtain rfl : k = nk := by omega
        rw [List.take_of_length_le (by have := HKL.out; omega)] at hS
        have HW := Lib.hid (write_h hS [41] (by have := HL.out; simp only [List.length_append, List.length_cons, List.length_nil] at this ⊢; omega))
        rw [show mkB [41] = ⟨#[41]⟩ from rfl] at HW
        have HKK := Lib.hid hK
        clear hS hK
        go_wp2_with fail
        with_reducible refine HW.out.mono ?_
        rintro e w9 ⟨rfl, h1, h2, h3⟩
        have H9 := Lib.hid h1
        have HK9 := Lib.hid (HK2.out.trans (HKK.out.trans h2))
        clear h1 h2 HW
        go_wp2_with fail
        go_end0
        exact ⟨rfl, by have := H9.out; simpa only [List.append_assoc, List.singleton_append, List.cons_append, List.nil_append] using this, HK9.out, by omega⟩
theorem show_c (x : Xpr) (hx : xprE x = 0) (w0 : World) (B : Nat) (hw0 : w0.heap.size = B) (hpow : HasPow w0) : ∀ f, ShC x w0 B f
  | 0 => fun a n c _ i hi => by omega
  | f + 1 => show_step x hx w0 B hw0 hpow f (show_c x hx w0 B hw0 hpow f)
end Go.Proofs.YtcojmmhclklpoaaGreatDoor
namespace Go.Proofs.YtcojmmhclklpoaaGreatDoor
open Go.RowKit Go.Shelf

/-- what Format answers -/
def fmtX (x : Xpr) : Byts × Int := if (tidS x).2 ≠ 0 then ([], (tidS x).2) else ((treX x).txt, 0)
mutual
theorem txt_sz (t : ET) (h : t.ok) : t.txt.length + 9 ≤ 20 * t.sz := by
  cases t with
  | srv s =>
    rw [ET.ok] at h
    have := dec_len6 s.toNat (by omega)
    rw [ET.txt, ET.sz, List.length_cons]; omega
  | thr n ws ks =>
    rw [ET.ok] at h
    have h1 := dec_len6 n.toNat (by omega)
    have h2 := txts_sz ks ws 0 h.2.2.2 h.2.1
    rw [ET.txt, ET.sz]
    simp only [List.length_append, List.length_cons, List.length_nil]
    omega
theorem txts_sz (ts : List ET) (ws : List Int) (k : Nat) (h : ETs.ok ts) (hw : ∀ w ∈ ws, 1 ≤ w ∧ w ≤ 1000) : (ETs.txt ts ws k).length ≤ 20 * ETs.sz ts := by
  cases ts with
  | nil => simp [ETs.txt]
  | cons t ts =>
    rw [ETs.ok] at h
    have h1 := txt_sz t h.1
    have h2 := txts_sz ts ws (k + 1) h.2 hw
    have h3 : (ws.getD k 0).toNat ≤ 100000 := by
      rw [List.getD_eq_getElem?_getD]
      cases hk : ws[k]? with
      | none => simp
      | some v => have := hw v (List.mem_of_getElem? hk); show v.toNat ≤ _; omega
    have h4 := dec_len6 _ h3
    rw [ETs.txt, ETs.sz]
    split <;> split <;> simp only [List.length_append, List.length_cons, List.length_nil] <;> omega
end
theorem txt_60 {t : ET} (h : t.ok) (hz : t.sz ≤ 60) : t.txt.length ≤ 1800 := by
  have := txt_sz t h; omega

set_option maxRecDepth 100000 in
set_option maxHeartbeats 4000000 in
theorem formatx_c (x : Xpr) (a : Option Addr) (n c : Nat) (w : World) (hp : HasPow w) (h : XM w a n c x.nodes) :
    Calls Tryz.prog 29 #[.agg #[.slice a n c, .int .i64 x.root]] w fun e w' => e = .returned (.tuple #[.string (mkB (fmtX x).1), .int .i64 (fmtX x).2]) ∧ Below w.heap.size w w' := by
  have HS := Lib.hid (fun (u : World) (hu : Below w.heap.size w u) => tidy_c x a n c u (h.below hu))
  have HP := Lib.hid hp
  clear h hp
  by_cases hE : (tidS x).2 = 0
  · obtain ⟨hx, hz, h1⟩ := tidS_ok hE
    have hR : fmtX x = ((treX x).txt, 0) := by unfold fmtX; rw [if_neg (by rw [hE]; simp)]
    rw [hR]
    have hok := treX_ok (xprE_ok hx)
    have hyx := treX_xpr (treX x)
    have hyE := xpr_ok hok hz
    have htx := txt_60 hok hz
    obtain ⟨T, hT⟩ : ∃ T, treX x = T := ⟨_, rfl⟩
    rw [hT] at h1 hz hok hyx hyE htx ⊢
    rw [h1, hE] at HS
    have HYX := Lib.hid hyx
    have HYE := Lib.hid hyE
    have hlen : (T.post 0).length = T.sz := T.post_len 0
    have hpos := T.sz_pos
    have HXR := Lib.hid (show T.xpr.root = ((T.sz - 1 : Nat) : Int) from rfl)
    have HXN := Lib.hid (show T.xpr.nodes = T.post 0 from rfl)
    have HLE := Lib.hid hlen
    have HTX := Lib.hid htx
    clear hR h1 hE hx hT hok hyx hyE hlen htx
    go_enter Tryz.func29, Tryz.ntmps29
    go_wp2_with fail
    generalize hW1 : w.alloc _ = W1
    have hb1 : Below w.heap.size w W1 := by rw [← hW1]; exact (Below.refl _ _).alloc (Nat.le_refl _) _
    clear hW1
    with_reducible refine (HS.out W1 hb1).mono ?_
    rintro e w3 ⟨a', c', rfl, hxm, hb3⟩
    obtain ⟨N3, hN3⟩ : ∃ N3, T.xpr.nodes.length = N3 := ⟨_, rfl⟩
    obtain ⟨RT, hRT⟩ : ∃ RT, T.xpr.root = RT := ⟨_, rfl⟩
    have hxm2 := hxm.xm
    rw [hN3] at hxm2 ⊢
    rw [hRT]
    obtain ⟨w0, hw0⟩ : ∃ w0, w0 = w3.alloc (.cells #[.slice a' N3 c', .int .i64 RT] 32) := ⟨_, rfl⟩
    have hb0 : Below w3.heap.size w3 w0 := by rw [hw0]; exact (Below.refl _ _).alloc (Nat.le_refl _) _
    have hs0 : w0.heap.size = w3.heap.size + 1 := by rw [hw0]; simp
    obtain ⟨w4, hw4⟩ : ∃ w4, w4 = w0.alloc (.cells #[.pointer none, .slice none 0 0] bldT) := ⟨_, rfl⟩
    have hb4 : Below w0.heap.size w0 w4 := by rw [hw4]; exact (Below.refl _ _).alloc (Nat.le_refl _) _
    have gY : w4.heap[w3.heap.size]? = some (.cells #[.slice a' N3 c', .int .i64 RT] 32 (0, 0)) := heap_below hb4 (by rw [hw0]; exact heap_alloc_new _ _)
    obtain ⟨⟨y0, y1⟩, _⟩ := open2 gY
    have hB00 : Below w.heap.size w w0 := Below.next hb1 (Below.next hb3 hb0)
    have hsh : ShS w0 w0.heap.size [] w4 := ⟨hb4, .inl ⟨Nat.le_refl _, .slice none 0 0, by rw [hw4]; exact heap_alloc_new _ _, ⟨rfl, .inl ⟨rfl, rfl⟩⟩, by simp [Value.ownBlock]⟩⟩
    have hTr : treF T.xpr.nodes noSub (T.sz - 1 + 1) (T.sz - 1) = T := by
      have := HYX.out
      unfold treX at this
      rw [HXR.out, Int.toNat_natCast] at this
      exact this
    have hSH := show_c T.xpr HYE.out w0 w0.heap.size rfl (HP.out.below hB00) (T.sz - 1 + 1) a' N3 c' (hxm2.below hb0) (T.sz - 1) (by omega) (by rw [HXN.out, HLE.out]; omega) [] w4 hsh (by rw [hTr]; have := HTX.out; simp; omega)
    rw [hTr, ← HXR.out, hRT, hs0] at hSH
    have HSH := Lib.hid hSH
    have HB0 := Lib.hid hB00
    have hw4' : w4 = (w3.alloc (.cells #[.slice a' N3 c', .int .i64 RT] 32)).alloc (.cells #[.pointer none, .slice none 0 0] bldT) := by rw [hw4, hw0]
    have HW0 := Lib.hid hs0
    rw [hw4'] at y0 y1
    clear hxm hxm2 hb3 hb0 hb4 gY hTr hSH hB00 hsh hw4 hw0 hs0 HS hb1
    go_wp2_with fail
    rw [← hw4']
    clear y0 y1 hw4'
    with_reducible refine HSH.out.mono ?_
    rintro e w5 ⟨rfl, h1, h2, h3⟩
    rw [List.nil_append] at h1
    have HST := Lib.hid (Tryz.Builder_String_any_k (w3.heap.size + 1) (w3.heap.size + 1) T.txt w5 h1.bld (Nat.le_of_lt h1.lt))
    have hBw := HB0.out.size
    have HB5 := Lib.hid (HB0.out.trans (h1.bel.mono (by have := HW0.out; omega)))
    have hW0 := HW0.out
    clear h1 h2 h3 HSH
    go_wp2_with fail
    with_reducible refine HST.out.mono ?_
    rintro e w6 ⟨rfl, -, h2, -⟩
    have HB6 := Lib.hid (HB5.out.trans (h2.mono (by omega)))
    clear h2
    go_wp2_with fail
    go_ret2
    exact ⟨rfl, HB6.out⟩
  · have hR : fmtX x = ([], (tidS x).2) := by unfold fmtX; rw [if_pos hE]
    rw [hR]
    obtain ⟨R, hRR⟩ : ∃ R, tidS x = R := ⟨_, rfl⟩
    rw [hRR] at HS hE ⊢
    obtain ⟨y, er⟩ := R
    simp only at HS hE ⊢
    have hne : (er != 0) = true := by simpa using hE
    clear hR hRR hE
    go_enter Tryz.func29, Tryz.ntmps29
    go_wp2_with fail
    generalize hW1 : w.alloc _ = W1
    have hb1 : Below w.heap.size w W1 := by rw [← hW1]; exact (Below.refl _ _).alloc (Nat.le_refl _) _
    clear hW1
    with_reducible refine (HS.out W1 hb1).mono ?_
    rintro e w3 ⟨a', c', rfl, hxm, hb3⟩
    have HB3 := Lib.hid (Below.next hb1 (Below.next hb3 ((Below.refl _ _).alloc (Nat.le_refl _) (.cells #[.slice a' y.nodes.length c', .int .i64 y.root] 32))))
    clear hb3 hxm HS hb1
    go_wp2_with fail
    go_ret2
    exact ⟨rfl, HB3.out⟩
end Go.Proofs.YtcojmmhclklpoaaGreatDoor
namespace Go.Proofs.YtcojmmhclklpoaaGreatDoor
open Go.RowKit Go.Shelf

def HasRng (w : World) : Prop := ∃ ev, w.cell? ⟨3, 0, none⟩ = some ev ∧ (ev = .nilIface ∨ ∃ te pe, ev = .iface te pe)
theorem HasRng.below {w w' : World} (h : HasRng w) (hb : Below w.heap.size w w') : HasRng w' := by
  obtain ⟨ev, h1, h2⟩ := h
  exact ⟨ev, cell_keep hb h1, h2⟩
def HasSyn (w : World) : Prop := ∃ ev, w.cell? ⟨2, 0, none⟩ = some ev ∧ (ev = .nilIface ∨ ∃ te pe, ev = .iface te pe)
theorem HasSyn.below {w w' : World} (h : HasSyn w) (hb : Below w.heap.size w w') : HasSyn w' := by
  obtain ⟨ev, h1, h2⟩ := h
  exact ⟨ev, cell_keep hb h1, h2⟩
/-- the reader's box -/
def RdB (t : TypeId) (w : World) (RB : Nat) (s : Byts) (bd : Bool) (v : Value) (r : Int) : Prop := w.heap[RB]? = some (.cells #[.string (mkB s), .bool bd, v, .int .i64 r] t (0, 0))
theorem RdB.at {t : TypeId} {w : World} {RB : Nat} {s : Byts} {bd : Bool} {v : Value} {r : Int} (h : RdB t w RB s bd v r) : w.cell? ⟨RB, 0, none⟩ = some (.string (mkB s)) ∧ w.cell? ⟨RB, 1, none⟩ = some (.bool bd) ∧ w.cell? ⟨RB, 2, none⟩ = some v ∧ w.cell? ⟨RB, 3, none⟩ = some (.int .i64 r) :=
  ⟨cell_of_row _ _ 0 _ _ _ h, cell_of_row _ _ 1 _ _ _ h, cell_of_row _ _ 2 _ _ _ h, cell_of_row _ _ 3 _ _ _ h⟩
theorem RdB.frz {t : TypeId} {w : World} {RB : Nat} {s : Byts} {bd : Bool} {v : Value} {r : Int} (h : RdB t w RB s bd v r) (i : Nat) : w.frozen? ⟨RB, i, none⟩ = false := frozen_row h i
theorem RdB.below {t : TypeId} {w w' : World} {RB : Nat} {s : Byts} {bd : Bool} {v : Value} {r : Int} (h : RdB t w RB s bd v r) (hb : Below w.heap.size w w') : RdB t w' RB s bd v r := heap_below hb h
theorem RdB.put {t : TypeId} {w : World} {RB : Nat} {s : Byts} {bd : Bool} {v : Value} {r : Int} (h : RdB t w RB s bd v r) (s' : Byts) : RdB t (w.setCell ⟨RB, 0, none⟩ (.string (mkB s'))) RB s' bd v r := by
  unfold RdB; rw [heap_set_at h]; rfl
theorem RdB.fail {t : TypeId} {w : World} {RB : Nat} {s : Byts} {bd : Bool} {v : Value} {r : Int} (h : RdB t w RB s bd v r) : RdB t (w.setCell ⟨RB, 1, none⟩ (.bool true)) RB s true v r := by
  unfold RdB; rw [heap_set_at h]; rfl

set_option maxRecDepth 100000 in
set_option maxHeartbeats 1000000 in
theorem skip_c (pre s : Byts) (RB : Nat) (bd : Bool) (v : Value) (r : Int) (w : World) (h : RdB 97 w RB s bd v r) :
    Calls Tryz.prog 95 #[.pointer (some ⟨RB, 0, none⟩), .string (mkB pre)] w fun e w' => e = .returned (.bool (!bd && (stripP pre s).isSome)) ∧ w' = if (!bd && (stripP pre s).isSome) = true then w.setCell ⟨RB, 0, none⟩ (.string (mkB ((stripP pre s).getD s))) else w := by
  have HCP := Lib.hid (Tryz.strings_CutPrefix (mkB s) (mkB pre) w)
  obtain ⟨p0, p1, _, _⟩ := h.at
  have z0 := h.frz 0
  clear h
  obtain ⟨b, s', hb, hs', hR⟩ : ∃ b s', Lib.hasPrefix s pre = b ∧ Lib.trimPrefix s pre = s' ∧ Hid ((stripP pre s).isSome = b ∧ (stripP pre s).getD s = s') := by
    cases hq : stripP pre s with
    | none => obtain ⟨h1, h2⟩ := strip_no hq; exact ⟨_, _, h1, h2, Lib.hid ⟨rfl, rfl⟩⟩
    | some r => obtain ⟨h1, h2⟩ := strip_yes hq; exact ⟨_, _, h1, h2, Lib.hid ⟨rfl, rfl⟩⟩
  rw [mkB_list, mkB_list, hb, hs'] at HCP
  rw [hR.out.1, hR.out.2]
  clear hb hs' hR
  cases b <;> cases bd
  all_goals
    go_enter Tryz.func95, Tryz.ntmps95
    go_wp2_with fail
    with_reducible refine HCP.out.mono ?_
    rintro e w1 ⟨rfl, rfl⟩
    go_wp2_with fail
    go_ret
    exact ⟨rfl, rfl⟩
theorem mkB_get (l : Byts) (i : Nat) (h : i < (mkB l).size) : (mkB l)[i] = l[i]'(by rw [mkB_size] at h; exact h) := rfl
theorem tw_go {s : Byts} {k : Nat} {c : UInt8} (hk : k ≤ (s.takeWhile digB).length) (h : s[k]? = some c) (hd : digB c = true) : k + 1 ≤ (s.takeWhile digB).length := by
  induction s generalizing k with
  | nil => simp at h
  | cons a s ih =>
    cases k with
    | zero =>
      simp at h; subst h
      rw [List.takeWhile_cons_of_pos hd]; simp
    | succ k =>
      by_cases ha : digB a = true
      · rw [List.takeWhile_cons_of_pos ha] at hk ⊢
        rw [List.length_cons] at hk ⊢
        have := ih (k := k) (by omega) (by simpa using h)
        omega
      · rw [List.takeWhile_cons_of_neg ha] at hk; simp at hk
theorem tw_stop {s : Byts} {k : Nat} (hk : k ≤ (s.takeWhile digB).length) (h : ∀ c, s[k]? = some c → digB c = false) : k = (s.takeWhile digB).length := by
  induction s generalizing k with
  | nil => simpa using hk
  | cons a s ih =>
    by_cases ha : digB a = true
    · cases k with
      | zero => have := h a rfl; rw [this] at ha; cases ha
      | succ k =>
        rw [List.takeWhile_cons_of_pos ha] at hk ⊢
        rw [List.length_cons] at hk ⊢
        have := ih (k := k) (by omega) (fun c hc => h c (by simpa using hc))
        omega
    · rw [List.takeWhile_cons_of_neg ha] at hk ⊢
      simpa using hk
theorem tw_take (s : Byts) : s.take (s.takeWhile digB).length = s.takeWhile digB ∧ s.drop (s.takeWhile digB).length = s.dropWhile digB := by
  induction s with
  | nil => simp
  | cons a s ih =>
    by_cases ha : digB a = true
    · rw [List.takeWhile_cons_of_pos ha, List.dropWhile_cons_of_pos ha, List.length_cons, List.take_succ_cons, List.drop_succ_cons, ih.1, ih.2]; exact ⟨rfl, rfl⟩
    · rw [List.takeWhile_cons_of_neg ha, List.dropWhile_cons_of_neg ha]; simp

set_option maxRecDepth 100000 in
set_option maxHeartbeats 4000000 in
theorem number_c (s : Byts) (hs : s.length ≤ 100000) (RB : Nat) (v : Value) (r : Int) (w : World) (h : RdB 97 w RB s false v r) (hp : HasPow w) (hr : HasRng w) (hy : HasSyn w) :
    Calls Tryz.prog 96 #[.pointer (some ⟨RB, 0, none⟩)] w fun e w' => ∃ w1, Below w.heap.size w w1 ∧ ((∃ n q, numX s = some (n, q) ∧ e = .returned (.int .i64 n) ∧ w' = w1.setCell ⟨RB, 0, none⟩ (.string (mkB q))) ∨ (numX s = none ∧ e = .returned (.int .i64 0) ∧ w' = w1.setCell ⟨RB, 1, none⟩ (.bool true))) := by
  obtain ⟨p0, p1, _, _⟩ := h.at
  have hsz := mkB_size s
  obtain ⟨B, hB⟩ : ∃ B, mkB s = B := ⟨_, rfl⟩
  rw [hB] at p0 hsz
  have HB := Lib.hid hB
  have HH := Lib.hid h
  have HP := Lib.hid hp
  have HR := Lib.hid hr
  have HY := Lib.hid hy
  clear h hp hr hy hB
  go_enter Tryz.func96, Tryz.ntmps96
  go_wp2_with fail
  go_loopw [3] (fun q wr => ∃ k : Nat, k ≤ (s.takeWhile digB).length ∧ q = .int .i64 k ∧ wr = w) (fun q _ => s.length - (intOf q).toNat)
  case atStart => exact ⟨0, Nat.zero_le _, rfl, rfl⟩
  case round =>
    obtain ⟨k, hk, rfl, rfl⟩ := hrel
    by_cases hgo : ∃ c, s[k]? = some c ∧ digB c = true
    · obtain ⟨c, hc, hd⟩ := hgo
      have hlt : k < s.length := (List.getElem?_eq_some_iff.1 hc).1
      have hgo := tw_go hk hc hd
      have hlt1 : decide (k < B.size) = true := decide_eq_true (by omega)
      have hlt2 : (k : Int) < (B.size : Int) := by omega
      have hcb : ∀ (h : k < B.size), B[k] = c := by
        rw [← HB.out]
        intro h
        rw [mkB_get]
        exact (List.getElem?_eq_some_iff.1 hc).2
      unfold digB at hd
      simp only [Bool.and_eq_true, decide_eq_true_eq] at hd
      have hd1 : (48 : Int) ≤ (c.toNat : Int) := by have := UInt8.le_iff_toNat_le.1 hd.1; simp at this; omega
      have hd2 : (c.toNat : Int) ≤ 57 := by have := UInt8.le_iff_toNat_le.1 hd.2; simp at this; omega
      have hkk : B[k]'(by omega) = c := hcb (by omega)
      rw [← hkk] at hd1 hd2
      clear hc hcb hkk hd
      go_wp2_with fail
      go_roundw
      case rel => exact ⟨k + 1, hgo, by go_num, trivial⟩
      case measure => simp [intOf] <;> omega
    · have hst : k = (s.takeWhile digB).length := tw_stop hk (fun c hc => by
        cases hd : digB c
        · rfl
        · exact absurd ⟨c, hc, hd⟩ hgo)
      have hkl : k ≤ s.length := by rw [hst]; exact (List.takeWhile_prefix digB).length_le
      have hstop : (B.size ≤ k) ∨ (∃ h : k < B.size, (B[k].toNat : Int) < 48) ∨ (∃ h : k < B.size, (48 : Int) ≤ (B[k].toNat : Int) ∧ (57 : Int) < (B[k].toNat : Int)) := by
        by_cases hlt : k < B.size
        · right
          obtain ⟨c, hc⟩ : ∃ c, s[k]? = some c := ⟨_, List.getElem?_eq_getElem (by omega)⟩
          have hcb : B[k] = c := by
            have : ∀ (h : k < B.size), B[k] = c := by
              rw [← HB.out]
              intro h
              rw [mkB_get]
              exact (List.getElem?_eq_some_iff.1 hc).2
            exact this hlt
          have hnd : digB c = false := by
            cases hd : digB c
            · rfl
            · exact absurd ⟨c, hc, hd⟩ hgo
          unfold digB at hnd
          simp only [Bool.and_eq_false_iff, decide_eq_false_iff_not, UInt8.le_iff_toNat_le] at hnd
          simp at hnd
          by_cases h48 : (c.toNat : Int) < 48
          · exact .inl ⟨hlt, by rw [hcb]; exact h48⟩
          · exact .inr ⟨hlt, by rw [hcb]; omega, by rw [hcb]; omega⟩
        · exact .inl (by omega)
      have htk := tw_take s
      rw [← hst] at htk
      have hpx : B.extract 0 k = mkB (s.takeWhile digB) := by rw [← HB.out, mkB_extract, ← htk.1]; simp
      have hpd : B.extract k B.size = mkB (s.dropWhile digB) := by
        rw [← HB.out, mkB_extract, mkB_size, ← htk.2]
        rw [List.take_of_length_le (by rw [List.length_drop]; exact Nat.le_refl _)]
      have hpl : (s.takeWhile digB).length ≤ 100000 := by omega
      obtain ⟨d, hd⟩ : ∃ d, s.takeWhile digB = d := ⟨_, rfl⟩
      have hnx : numX s = match Lib.atoiAll d with
        | .ok v => if v ≤ 100000 ∧ Lib.itoa v = d then some (v.toNat, s.dropWhile digB) else none
        | _ => none := by unfold numX; rw [hd]; rfl
      have hdd : ∀ c ∈ d, digB c = true := by rw [← hd]; exact tw_dig s
      rw [hd] at hpx hpl
      have hkb : k ≤ B.size := by omega
      have hps : (B.extract 0 k).size ≤ 1000000 := by rw [hpx, mkB_size]; omega
      have HPX := Lib.hid hpx
      have HPD2 : Hid (B.extract k s.length = mkB (s.dropWhile digB)) := Lib.hid (by rw [← hsz]; exact hpd)
      have HNX := Lib.hid hnx
      have HDD := Lib.hid hdd
      have HPL := Lib.hid hpl
      have hxl : (B.extract 0 k).data.toList = d := by rw [hpx]; rfl
      have hitl : ∀ z, Lib.atoiAll d = .ok z → -9223372036854775808 ≤ z ∧ z ≤ 9223372036854775807 := fun z hz => Lib.atoiAll_bounds hz
      have hkB : (k : Int) ≤ (B.size : Int) := by omega
      clear hgo hst htk hd hnx hdd hpl hpx hpd hkl hk
      rcases hstop with hs1 | ⟨hs0, hs1⟩ | ⟨hs0, hs1, hs2⟩
      all_goals
        (try have hn1 : decide (k < B.size) = true := decide_eq_true hs0)
        (try have hn1 : decide (k < B.size) = false := decide_eq_false (by omega))
        go_wp2_with fail
        cases ha : Lib.atoiAll d
        · rename_i z
          have hbz := hitl z ha
          have hHA := Tryz.strconv_Atoi_ok (B.extract 0 k) (by omega) z (by rw [hxl]; exact ha) wr
          have HA := Lib.hid hHA
          have HNX2 : Hid (numX s = if z ≤ 100000 ∧ Lib.itoa z = d then some (z.toNat, s.dropWhile digB) else none) := Lib.hid (by rw [HNX.out, ha])
          clear ha hHA hitl
          with_reducible refine HA.out.mono ?_
          rintro e w6 ⟨rfl, hw6⟩
          have hb6 : Below wr.heap.size wr w6 := by
            rcases hw6 with rfl | ⟨t, rfl⟩
            · exact Below.refl _ _
            · exact Lib.bytesWorld_below _ _ _
          have HB6 := Lib.hid hb6
          have g6 := HH.out.below hb6
          have HG6 := Lib.hid g6
          obtain ⟨q0, q1, _, _⟩ := g6.at
          rw [HB.out] at q0
          have y1 := g6.frz 1
          clear hw6 HA g6 p0 p1
          by_cases hz : 100000 < z
          · have HN : Hid (numX s = none) := Lib.hid (by rw [HNX2.out, if_neg (by omega)])
            have d1 : decide ((100000 : Int) < z) = true := decide_eq_true hz
            go_wp2_with fail
            go_quiet (fail)
            go_wp2_with fail
            go_ret
            refine ⟨_, below_drewN HB6.out, .inr ⟨HN.out, rfl, rfl⟩⟩
          · have d1 : decide ((100000 : Int) < z) = false := decide_eq_false hz
            have HIT := Lib.hid (fun (u : World) (hu : HasPow u) => Tryz.strconv_Itoa z hbz.1 hbz.2 u hu)
            obtain ⟨D, hD⟩ : ∃ D : ByteArray, (⟨(Lib.itoa z).toArray⟩ : ByteArray) = D := ⟨_, rfl⟩
            rw [hD] at HIT
            obtain ⟨X, hX⟩ : ∃ X, B.extract 0 k = X := ⟨_, rfl⟩
            have HDX : Hid (Lib.itoa z = d ↔ D = X) := Lib.hid (by
              rw [← hX, HPX.out, ← hD]
              constructor
              · intro e; rw [e]; rfl
              · intro e; exact congrArg (fun b : ByteArray => b.data.toList) e)
            have HXX := Lib.hid hX
            have HP6 := Lib.hid (HP.out.below HB6.out)
            have HHZ := Lib.hid hz
            clear hD hz
            have hcmp : (D = X ∧ (D.toList == (B.extract 0 k).toList) = true) ∨ (D ≠ X ∧ (D.toList == (B.extract 0 k).toList) = false) := by
              by_cases hdx : D = X
              · exact .inl ⟨hdx, by rw [hX, hdx]; exact bs_same _⟩
              · exact .inr ⟨hdx, by rw [hX]; exact bs_diff hdx⟩
            rcases hcmp with ⟨hdx, e1⟩ | ⟨hdx, e1⟩
            · have hde := HDX.out.2 hdx
              have hz0 := itoa_dig hde HDD.out
              have HN : Hid (numX s = some (z.toNat, s.dropWhile digB)) := Lib.hid (by rw [HNX2.out, if_pos ⟨by have := HHZ.out; omega, hde⟩])
              have HZ0 := Lib.hid hz0.1
              clear hdx hde hz0 hX
              go_upto_region 5 with fail
              have HKS := Lib.hid (fun (u : World) (hu : Below w6.heap.size w6 u) => (show u.cell? ⟨RB, 0, none⟩ = some (.string B) by have := ((HG6.out.below hu).at).1; rwa [HB.out] at this))
              refine wp_region_noPanic ?_
              refine wp_region_takes (fun u => Below w6.heap.size w6 u) [0, 1, 2, 3, 4, 5, 6, 7, 9, 10, 11, 12, 13, 14] 3 (by kernel_rfl) (by kernel_rfl) (by kernel_rfl) (fun _ _ _ _ _ h => h) (below_drew (Below.refl _ _)) ?_
              repeat (refine wpTk_cons rfl (fun K hK => ?_); go_simp; apply Exists.intro; refine ⟨fun u hu => ?_, hK _ ?_⟩; (first | exact rfl | (have r0 := HKS.out u hu; go_simp; done) | (have r0 := HKS.out u hu; go_simp; exact rfl)); clear hK K)
              refine wpTk_cons rfl (fun K hK => ?_)
              go_simp
              refine ⟨.string (B.extract 0 k), fun u hu => ?_, hK _ ?_⟩
              · go_simp
                intro hlt
                exact absurd hlt (by omega)
              clear hK K
              refine wpTk_nil ?_
              refine held_ready (rs := [8]) (by kernel_rfl) (by simp) ?_
              refine AllReadyH.cons rfl (fun K hK => ?_) AllReadyH.nil
              go_simp
              with_reducible refine (HIT.out w6.drew (HP6.out.below (below_drew (Below.refl _ _)))).mono ?_
              rintro e w7 ⟨rfl, kk, os, hw7⟩
              have hb7 : Below w6.heap.size w6 w7 := by rw [hw7]; exact below_undrew (Lib.below_grow _ w6.drew (Nat.le_refl _) kk os)
              have HB7 := Lib.hid hb7
              clear hw7
              go_simp
              refine hK.out _ _ HB7.out (fun hh => ?_)
              clear hh hK K; try simp only [Act.put, List.setIfInBounds_toArray, List.set_cons_zero, List.set_cons_succ]
              refine held_takes (f := 0) (by kernel_rfl) (fun _ _ _ _ _ h => h) HB7.out [15, 16] _ _ (by kernel_rfl) ?_
              refine wpTk_cons rfl (fun K hK => ?_)
              go_simp
              apply Exists.intro
              refine ⟨fun y hy => rfl, hK _ ?_⟩
              clear hK K
              refine wpTk_cons rfl (fun K hK => ?_)
              go_simp
              apply Exists.intro
              refine ⟨fun y hy => rfl, hK _ ?_⟩
              clear hK K
              refine wpTk_nil ?_
              refine wpAnyH_done (by kernel_rfl) (NoPanic.normal ?_) _
              have g7 := HG6.out.below hb7
              obtain ⟨s0, s1, _, _⟩ := g7.at
              rw [HB.out] at s0
              have x0 := g7.frz 0
              have x1 := g7.frz 1
              clear hb7 g7 HKS
              go_wp2_with fail
              rw [HPD2.out]
              go_ret
              exact ⟨_, Below.next HB6.out HB7.out, .inl ⟨z.toNat, _, HN.out, by rw [Int.toNat_of_nonneg HZ0.out]; rfl, rfl⟩⟩
            · have HN : Hid (numX s = none) := Lib.hid (by rw [HNX2.out, if_neg (fun h => hdx (HDX.out.1 h.2))])
              clear hdx hX
              go_upto_region 5 with fail
              have HKS := Lib.hid (fun (u : World) (hu : Below w6.heap.size w6 u) => (show u.cell? ⟨RB, 0, none⟩ = some (.string B) by have := ((HG6.out.below hu).at).1; rwa [HB.out] at this))
              refine wp_region_noPanic ?_
              refine wp_region_takes (fun u => Below w6.heap.size w6 u) [0, 1, 2, 3, 4, 5, 6, 7, 9, 10, 11, 12, 13, 14] 3 (by kernel_rfl) (by kernel_rfl) (by kernel_rfl) (fun _ _ _ _ _ h => h) (below_drew (Below.refl _ _)) ?_
              repeat (refine wpTk_cons rfl (fun K hK => ?_); go_simp; apply Exists.intro; refine ⟨fun u hu => ?_, hK _ ?_⟩; (first | exact rfl | (have r0 := HKS.out u hu; go_simp; done) | (have r0 := HKS.out u hu; go_simp; exact rfl)); clear hK K)
              refine wpTk_cons rfl (fun K hK => ?_)
              go_simp
              refine ⟨.string (B.extract 0 k), fun u hu => ?_, hK _ ?_⟩
              · go_simp
                intro hlt
                exact absurd hlt (by omega)
              clear hK K
              refine wpTk_nil ?_
              refine held_ready (rs := [8]) (by kernel_rfl) (by simp) ?_
              refine AllReadyH.cons rfl (fun K hK => ?_) AllReadyH.nil
              go_simp
              with_reducible refine (HIT.out w6.drew (HP6.out.below (below_drew (Below.refl _ _)))).mono ?_
              rintro e w7 ⟨rfl, kk, os, hw7⟩
              have hb7 : Below w6.heap.size w6 w7 := by rw [hw7]; exact below_undrew (Lib.below_grow _ w6.drew (Nat.le_refl _) kk os)
              have HB7 := Lib.hid hb7
              clear hw7
              go_simp
              refine hK.out _ _ HB7.out (fun hh => ?_)
              clear hh hK K; try simp only [Act.put, List.setIfInBounds_toArray, List.set_cons_zero, List.set_cons_succ]
              refine held_takes (f := 0) (by kernel_rfl) (fun _ _ _ _ _ h => h) HB7.out [15, 16] _ _ (by kernel_rfl) ?_
              refine wpTk_cons rfl (fun K hK => ?_)
              go_simp
              apply Exists.intro
              refine ⟨fun y hy => rfl, hK _ ?_⟩
              clear hK K
              refine wpTk_cons rfl (fun K hK => ?_)
              go_simp
              apply Exists.intro
              refine ⟨fun y hy => rfl, hK _ ?_⟩
              clear hK K
              refine wpTk_nil ?_
              refine wpAnyH_done (by kernel_rfl) (NoPanic.normal ?_) _
              have g7 := HG6.out.below hb7
              obtain ⟨s0, s1, _, _⟩ := g7.at
              rw [HB.out] at s0
              have x0 := g7.frz 0
              have x1 := g7.frz 1
              clear hb7 g7 HKS
              go_wp2_with fail
              go_ret
              exact ⟨_, Below.next HB6.out HB7.out, .inr ⟨HN.out, rfl, rfl⟩⟩
        · have HN : Hid (numX s = none) := Lib.hid (by rw [HNX.out, ha])
          obtain ⟨ev, hev1, hev2⟩ := HY.out
          have HA := Lib.hid (Tryz.strconv_Atoi_syntax (B.extract 0 k) (by omega) (by rw [hxl]; exact ha) ev wr hev1 hev2)
          clear ha hev1 hev2 hitl
          with_reducible refine HA.out.mono ?_
          rintro e w6 ⟨N, rfl, _, _, hb6⟩
          have HB6 := Lib.hid hb6
          have g6 := HH.out.below hb6
          obtain ⟨q0, q1, _, _⟩ := g6.at
          rw [HB.out] at q0
          have y1 := g6.frz 1
          clear hb6 HA g6 p0 p1
          go_wp2_with fail
          go_quiet (fail)
          go_wp2_with fail
          go_ret
          exact ⟨_, below_drewN HB6.out, .inr ⟨HN.out, rfl, rfl⟩⟩
        · have HN : Hid (numX s = none) := Lib.hid (by rw [HNX.out, ha])
          obtain ⟨ev, hev1, hev2⟩ := HR.out
          have HA := Lib.hid (Tryz.strconv_Atoi_range (B.extract 0 k) (by omega) (by rw [hxl]; exact ha) ev wr hev1 hev2)
          clear ha hev1 hev2 hitl
          with_reducible refine HA.out.mono ?_
          rintro e w6 ⟨N, rfl, _, _, hb6⟩
          have HB6 := Lib.hid hb6
          have g6 := HH.out.below hb6
          obtain ⟨q0, q1, _, _⟩ := g6.at
          rw [HB.out] at q0
          have y1 := g6.frz 1
          clear hb6 HA g6 p0 p1
          go_wp2_with fail
          go_quiet (fail)
          go_wp2_with fail
          go_ret
          exact ⟨_, below_drewN HB6.out, .inr ⟨HN.out, rfl, rfl⟩⟩
end Go.Proofs.YtcojmmhclklpoaaGreatDoor
namespace Go.Proofs.YtcojmmhclklpoaaGreatDoor
open Go.RowKit

/-- the reader's box and its nodes -/
structure RdI (w0 : World) (T : TypeId) (RB B : Nat) (S : Nat → Prop) (s : Byts) (bd : Bool) (v : Value) (r : Int) (nodes : List Nod) (w : World) : Prop where
  bel : Below w0.heap.size w0 w
  bx : RdB T w RB s bd v r
  xb : XB S B w v 71 nodes
  ob : ¬ S RB
  own : v.ownBlock ≠ some RB
/-- what a call changes -/
def RdX (RB B : Nat) (S : Nat → Prop) (v : Value) (w : World) (S' : Nat → Prop) (v' : Value) (w' : World) : Prop := KB RB B v v' w w' ∧ (∀ g, S g → S' g) ∧ ∀ g, S' g → S g ∨ w.heap.size ≤ g
theorem RdX.refl (RB B : Nat) (S : Nat → Prop) (v : Value) (w : World) : RdX RB B S v w S v w := ⟨KB.refl _ _ _ _, fun _ h => h, fun _ h => .inl h⟩
section
variable {w0 : World} {T : TypeId} {RB B : Nat} {S : Nat → Prop} {s : Byts} {bd : Bool} {v : Value} {r : Int} {nodes : List Nod} {w : World}
theorem RdI.lt (h : RdI w0 T RB B S s bd v r nodes w) : RB < w.heap.size := (Array.getElem?_eq_some_iff.1 h.bx).1
theorem RdI.below (h : RdI w0 T RB B S s bd v r nodes w) {w' : World} (hb : Below w.heap.size w w') : RdI w0 T RB B S s bd v r nodes w' :=
  ⟨h.bel.trans (hb.mono h.bel.size), h.bx.below hb, h.xb.below hb, h.ob, h.own⟩
theorem RdX.below {S' : Nat → Prop} {v' : Value} {w1 w' : World} (h : RdX RB B S v w1 S' v' w') (hB : B ≤ w.heap.size) (hb : Below w.heap.size w w1) : RdX RB B S v w S' v' w' := by
  refine ⟨(KB.of_below v hB hb).trans h.1, h.2.1, fun g hg => ?_⟩
  have := hb.size
  rcases h.2.2 g hg with h1 | h1
  · exact .inl h1
  · exact .inr (by omega)
theorem rdx_box (hB : B ≤ RB) (w : World) (j : Nat) (u : Value) : RdX RB B S v w S v (w.setCell ⟨RB, j, none⟩ u) :=
  ⟨⟨(Below.refl B w).setCell (p := ⟨RB, j, none⟩) hB u, fun k _ ho _ => Below.heap_setCell _ _ _ _ (by exact ho), fun _ e => .inl e⟩, fun _ h => h, fun _ h => .inl h⟩
theorem RdI.setB (h : RdI w0 T RB B S s bd v r nodes w) (hw : w0.heap.size ≤ RB) (j : Nat) (u : Value) {s' : Byts} {b' : Bool} (hb : RdB T (w.setCell ⟨RB, j, none⟩ u) RB s' b' v r) : RdI w0 T RB B S s' b' v r nodes (w.setCell ⟨RB, j, none⟩ u) := by
  have k : ∀ g, g ≠ RB → (w.setCell ⟨RB, j, none⟩ u).heap[g]? = w.heap[g]? := fun g hg => Below.heap_setCell _ _ _ _ (by exact hg)
  refine ⟨h.bel.setCell (p := ⟨RB, j, none⟩) hw u, hb, h.xb.move (fun g hg => k g (fun e => h.ob (e ▸ hg))) (fun g hg => k g (fun e => h.own (e ▸ hg))) (by simp), h.ob, h.own⟩
theorem RdI.put (h : RdI w0 T RB B S s bd v r nodes w) (hw : w0.heap.size ≤ RB) (s' : Byts) : RdI w0 T RB B S s' bd v r nodes (w.setCell ⟨RB, 0, none⟩ (.string (mkB s'))) := h.setB hw 0 _ (h.bx.put s')
theorem RdI.fail (h : RdI w0 T RB B S s bd v r nodes w) (hw : w0.heap.size ≤ RB) : RdI w0 T RB B S s true v r nodes (w.setCell ⟨RB, 1, none⟩ (.bool true)) := h.setB hw 1 _ h.bx.fail
end

theorem RdI.ok {w0 : World} {T : TypeId} {RB B : Nat} {S : Nat → Prop} {s : Byts} {v : Value} {r : Int} {nodes : List Nod} {w : World} (h : RdI w0 T RB B S s false v r nodes w) (hw : w0.heap.size ≤ RB) : RdI w0 T RB B S s false v r nodes (w.setCell ⟨RB, 1, none⟩ (.bool false)) :=
  h.setB hw 1 _ (by unfold RdB; rw [heap_set_at h.bx]; rfl)
def rdM (RB : Nat) (w : World) : Nat := match w.cell? ⟨RB, 0, none⟩, w.cell? ⟨RB, 1, none⟩ with
  | some (.string b), some (.bool false) => b.size + 1
  | _, _ => 0
theorem rdM_eq {T : TypeId} {w : World} {RB : Nat} {s : Byts} {bd : Bool} {v : Value} {r : Int} (h : RdB T w RB s bd v r) : rdM RB w = if bd = true then 0 else s.length + 1 := by
  obtain ⟨h0, h1, _, _⟩ := h.at
  unfold rdM
  rw [h0, h1]
  cases bd
  · simp [mkB_size]
  · rfl

/-- on the way: the node's box N is w's end; rows made since lie behind it -/
structure NdL (w0 w : World) (T : TypeId) (RB B : Nat) (S : Nat → Prop) (v : Value) (k0 k1 k2 wv kv : Value) (ws ks : List Int) (S' : Nat → Prop) (v' : Value) (s : Byts) (bd : Bool) (r : Int) (nodes : List Nod) (wr : World) : Prop where
  i : RdI w0 T RB B S' s bd v' r nodes wr
  kb : KBs w.heap.size RB B v v' w wr
  sub : ∀ g, S g → S' g
  new : ∀ g, S' g → S g ∨ w.heap.size + 1 ≤ g
  nb : wr.heap[w.heap.size]? = some (.cells #[k0, k1, k2, wv, kv] 71 (0, 0))
  own : ∀ g, v'.ownBlock = some g → v.ownBlock = some g ∨ w.heap.size + 1 ≤ g
  rw : wr.ownsRow (w.heap.size + 1) 3 1 wv ws.length (ws.map (Value.int .i64))
  rk : wr.ownsRow (w.heap.size + 1) 3 1 kv ks.length (ks.map (Value.int .i64))
  dw : ∀ g, wv.ownBlock = some g → ¬ S' g ∧ v'.ownBlock ≠ some g ∧ kv.ownBlock ≠ some g
  dk : ∀ g, kv.ownBlock = some g → ¬ S' g ∧ v'.ownBlock ≠ some g ∧ wv.ownBlock ≠ some g
section
variable {w0 w : World} {T : TypeId} {RB B : Nat} {S : Nat → Prop} {v : Value} {k0 k1 k2 wv kv : Value} {ws ks : List Int} {S' : Nat → Prop} {v' : Value} {s : Byts} {bd : Bool} {r : Int} {nodes : List Nod} {wr : World} {s0 : Byts} {b0 : Bool} {n0 : List Nod}
theorem NdL.sz (h : NdL w0 w T RB B S v k0 k1 k2 wv kv ws ks S' v' s bd r nodes wr) : w.heap.size < wr.heap.size := (Array.getElem?_eq_some_iff.1 h.nb).1
theorem NdL.start (h : RdI w0 T RB B S s bd v r nodes w) (hB : B ≤ RB) {W2 : World} (hb : Below w.heap.size w W2) (nb : W2.heap[w.heap.size]? = some (.cells #[k0, k1, k2, .slice none 0 0, .slice none 0 0] 71 (0, 0))) : NdL w0 w T RB B S v k0 k1 k2 (.slice none 0 0) (.slice none 0 0) [] [] S v s bd r nodes W2 :=
  ⟨h.below hb, (KB.of_below v (by have := h.lt; omega) hb).s (Nat.le_refl _), fun _ h => h, fun _ h => .inl h, nb, fun _ h => .inl h, World.ownsRow_nil _ _ _ _, World.ownsRow_nil _ _ _ _, fun g e => by simp [Value.ownBlock] at e, fun g e => by simp [Value.ownBlock] at e⟩
/-- the reader has gone on -/
theorem NdL.step (h : NdL w0 w T RB B S v k0 k1 k2 wv kv ws ks S' v' s bd r nodes wr) (hR : RB < w.heap.size) (h0 : RdI w0 T RB B S s0 b0 v r n0 w) {S2 : Nat → Prop} {v2 : Value} {s2 : Byts} {b2 : Bool} {nodes2 : List Nod} {w2 : World} (hi : RdI w0 T RB B S2 s2 b2 v2 r nodes2 w2) (hX : RdX RB B S' v' wr S2 v2 w2) :
    NdL w0 w T RB B S v k0 k1 k2 wv kv ws ks S2 v2 s2 b2 r nodes2 w2 := by
  obtain ⟨h3, h4, h5⟩ := hX
  have hsz := h.sz
  have hz2 := h3.bel.size
  have hnv : v'.ownBlock ≠ some w.heap.size := fun e => by
    rcases h.own _ e with h6 | h6
    · have := (h0.xb.lt_own _ h6).2; omega
    · omega
  refine ⟨hi, h.kb.trans (h3.s h.kb.bel.size), fun g hg => h4 g (h.sub g hg), fun g hg => ?_, ?_, fun g hg => ?_, rowK_at h.rw (fun g hg => ?_), rowK_at h.rk (fun g hg => ?_), fun g hg => ?_, fun g hg => ?_⟩
  · rcases h5 g hg with h6 | h6
    · exact h.new g h6
    · exact .inr (by omega)
  · rw [h3.blk _ hsz (by omega) hnv]; exact h.nb
  · rcases h3.own g hg with h6 | h6
    · exact h.own g h6
    · exact .inr (by omega)
  · have := h.rw.lt g hg
    exact h3.blk g this.2 (by omega) (h.dw g hg).2.1
  · have := h.rk.lt g hg
    exact h3.blk g this.2 (by omega) (h.dk g hg).2.1
  · obtain ⟨d1, d2, d3⟩ := h.dw g hg
    have := h.rw.lt g hg
    refine ⟨fun hS => ?_, fun e => ?_, d3⟩
    · rcases h5 g hS with h6 | h6
      · exact d1 h6
      · omega
    · rcases h3.own g e with h6 | h6
      · exact d2 h6
      · omega
  · obtain ⟨d1, d2, d3⟩ := h.dk g hg
    have := h.rk.lt g hg
    refine ⟨fun hS => ?_, fun e => ?_, d3⟩
    · rcases h5 g hS with h6 | h6
      · exact d1 h6
      · omega
    · rcases h3.own g e with h6 | h6
      · exact d2 h6
      · omega
theorem NdL.rdx (h : NdL w0 w T RB B S v k0 k1 k2 wv kv ws ks S' v' s bd r nodes wr) : RdX RB B S v w S' v' wr := ⟨h.kb.k, h.sub, fun g hg => (h.new g hg).imp id (fun h1 => by omega)⟩
/-- the node's box is not the nodes' -/
theorem NdL.apart (h : NdL w0 w T RB B S v k0 k1 k2 wv kv ws ks S' v' s bd r nodes wr) (h0 : RdI w0 T RB B S s0 b0 v r n0 w) : v'.ownBlock ≠ some w.heap.size ∧ ¬ S' w.heap.size := by
  refine ⟨fun e => ?_, fun hS => ?_⟩
  · rcases h.own _ e with h6 | h6
    · have := (h0.xb.lt_own _ h6).2; omega
    · omega
  · rcases h.new _ hS with h6 | h6
    · have := h0.xb.lt _ h6; omega
    · omega
/-- the node's box is written over -/
theorem NdL.node (h : NdL w0 w T RB B S v k0 k1 k2 wv kv ws ks S' v' s bd r nodes wr) (h0 : RdI w0 T RB B S s0 b0 v r n0 w) (hB : B ≤ RB) (hw : w0.heap.size ≤ B) {q0 q1 q2 : Value} {wA wB : World} (hA : Below wr.heap.size wr wA) (hg : ∀ g, g ≠ w.heap.size → wB.heap[g]? = wA.heap[g]?) (hb : Below w.heap.size wA wB) (nb : wB.heap[w.heap.size]? = some (.cells #[q0, q1, q2, .slice none 0 0, .slice none 0 0] 71 (0, 0))) :
    NdL w0 w T RB B S v q0 q1 q2 (.slice none 0 0) (.slice none 0 0) [] [] S' v' s bd r nodes wB := by
  have hR := h0.lt
  have hsz := h.sz
  obtain ⟨a1, a2⟩ := h.apart h0
  have hi := h.i.below hA
  have hsA := hA.size
  have hsB := hb.size
  have hBB : Below B wr wB := (hA.mono (by omega)).trans (hb.mono (by omega))
  refine ⟨⟨h.i.bel.trans (hBB.mono hw), ?_, hi.xb.move (fun g hg' => hg g (fun e => a2 (e ▸ hg'))) (fun g hg' => hg g (fun e => a1 (e ▸ hg'))) hsB, hi.ob, hi.own⟩, h.kb.trans ⟨hBB, fun k hk ho hv => ?_, fun _ e => .inl e⟩, h.sub, h.new, nb, h.own, World.ownsRow_nil _ _ _ _, World.ownsRow_nil _ _ _ _, fun g e => by simp [Value.ownBlock] at e, fun g e => by simp [Value.ownBlock] at e⟩
  · exact (hg RB (by omega)).trans hi.bx
  · rw [hg k (by omega)]; exact hA.block k (by omega)
/-- the row of kids grows: the node's box is written -/
theorem NdL.kid (h : NdL w0 w T RB B S v k0 k1 k2 wv kv ws ks S' v' s bd r nodes wr) (h0 : RdI w0 T RB B S s0 b0 v r n0 w) (hB : B ≤ RB) (hw : w0.heap.size ≤ B) {z : Int} {x : World} {u : Value} {y : World} (hb : Below wr.heap.size wr x) (hg : x.grownBy y kv.ownBlock)
    (ho : y.ownsRow (w.heap.size + 1) 3 1 u (ks.length + 1) (ks.map (Value.int .i64) ++ [.int .i64 z])) (hv : ∀ g, u.ownBlock = some g → kv.ownBlock = some g ∨ wr.heap.size ≤ g) (_hsz : x.heap.size ≤ y.heap.size) :
    NdL w0 w T RB B S v k0 k1 k2 wv u ws (ks ++ [z]) S' v' s bd r nodes (y.setCell ⟨w.heap.size, 4, none⟩ u) := by
  have hR := h0.lt
  have hN := h.sz
  have hx := hb.size
  obtain ⟨a1, a2⟩ := h.apart h0
  have hko : ∀ g, kv.ownBlock = some g → w.heap.size + 1 ≤ g ∧ g < wr.heap.size := fun g hg => h.rk.lt g hg
  have hvl := h.i.xb.lt_own
  have blk : ∀ g, g < wr.heap.size → kv.ownBlock ≠ some g → g ≠ w.heap.size → (y.setCell ⟨w.heap.size, 4, none⟩ u).heap[g]? = wr.heap[g]? := fun g g1 g2 g3 => by
    rw [Below.heap_setCell _ _ _ _ (by show g ≠ w.heap.size; exact g3), hg.block g (by omega) (fun e => g2 e.symm)]
    exact hb.block g g1
  have hnb : y.heap[w.heap.size]? = some (.cells #[k0, k1, k2, wv, kv] 71 (0, 0)) := by
    rw [hg.block _ (by omega) (fun e => by have := hko _ e.symm; omega), hb.block _ hN]; exact h.nb
  have hbel : Below B wr (y.setCell ⟨w.heap.size, 4, none⟩ u) := ((hb.mono (by omega)).grown hg (by omega) (fun g hg' => by have := hko g hg'; omega)).setCell (p := ⟨w.heap.size, 4, none⟩) (by show B ≤ w.heap.size; omega) _
  have hrow : (y.setCell ⟨w.heap.size, 4, none⟩ u).ownsRow (w.heap.size + 1) 3 1 u (ks ++ [z]).length ((ks ++ [z]).map (Value.int .i64)) := by
    rw [List.length_append, List.map_append]
    exact rowK_at ho fun g hg' => Below.heap_setCell _ _ _ _ (by have := (ho.lt g hg').1; show g ≠ w.heap.size; omega)
  have hother : (y.setCell ⟨w.heap.size, 4, none⟩ u).ownsRow (w.heap.size + 1) 3 1 wv ws.length (ws.map (Value.int .i64)) := rowK_at h.rw fun g hg' => by
    have := h.rw.lt g hg'
    exact blk g this.2 (h.dw g hg').2.2 (by omega)
  have hvd : ∀ g, u.ownBlock = some g → ¬ S' g ∧ v'.ownBlock ≠ some g ∧ wv.ownBlock ≠ some g := fun g hg' => by
    rcases hv g hg' with h6 | h6
    · exact h.dk g h6
    · exact ⟨fun hS => by have := h.i.xb.lt g hS; omega, fun e => by have := (hvl g e).2; omega, fun e => by have := (h.rw.lt g e).2; omega⟩
  have hod : ∀ g, wv.ownBlock = some g → ¬ S' g ∧ v'.ownBlock ≠ some g ∧ u.ownBlock ≠ some g := fun g hg' => by
    obtain ⟨d1, d2, d3⟩ := h.dw g hg'
    have := h.rw.lt g hg'
    refine ⟨d1, d2, fun e => ?_⟩
    rcases hv g e with h6 | h6
    · exact d3 h6
    · omega
  refine ⟨⟨h.i.bel.trans (hbel.mono hw), ?_, h.i.xb.move (fun g hg' => ?_) (fun g hg' => ?_) hbel.size, h.i.ob, h.i.own⟩, h.kb.trans ⟨hbel, fun g g1 g2 g3 => ?_, fun _ e => .inl e⟩, h.sub, h.new, by rw [heap_set_at hnb]; rfl, h.own, hother, hrow, hod, hvd⟩
  · exact (blk RB (by omega) (fun e => by have := hko _ e; omega) (by omega)).trans h.i.bx
  · exact blk g (h.i.xb.lt g hg') (fun e => (h.dk g e).1 hg') (fun e => a2 (e ▸ hg'))
  · exact blk g (hvl g hg').2 (fun e => (h.dk g e).2.1 hg') (fun e => a1 (e ▸ hg'))
  · exact blk g (by omega) (fun e => by have := hko g e; omega) (by omega)
/-- the row of weights grows: the node's box is written -/
theorem NdL.wgt (h : NdL w0 w T RB B S v k0 k1 k2 wv kv ws ks S' v' s bd r nodes wr) (h0 : RdI w0 T RB B S s0 b0 v r n0 w) (hB : B ≤ RB) (hw : w0.heap.size ≤ B) {z : Int} {x : World} {u : Value} {y : World} (hb : Below wr.heap.size wr x) (hg : x.grownBy y wv.ownBlock)
    (ho : y.ownsRow (w.heap.size + 1) 3 1 u (ws.length + 1) (ws.map (Value.int .i64) ++ [.int .i64 z])) (hv : ∀ g, u.ownBlock = some g → wv.ownBlock = some g ∨ wr.heap.size ≤ g) (_hsz : x.heap.size ≤ y.heap.size) :
    NdL w0 w T RB B S v k0 k1 k2 u kv (ws ++ [z]) ks S' v' s bd r nodes (y.setCell ⟨w.heap.size, 3, none⟩ u) := by
  have hR := h0.lt
  have hN := h.sz
  have hx := hb.size
  obtain ⟨a1, a2⟩ := h.apart h0
  have hko : ∀ g, wv.ownBlock = some g → w.heap.size + 1 ≤ g ∧ g < wr.heap.size := fun g hg => h.rw.lt g hg
  have hvl := h.i.xb.lt_own
  have blk : ∀ g, g < wr.heap.size → wv.ownBlock ≠ some g → g ≠ w.heap.size → (y.setCell ⟨w.heap.size, 3, none⟩ u).heap[g]? = wr.heap[g]? := fun g g1 g2 g3 => by
    rw [Below.heap_setCell _ _ _ _ (by show g ≠ w.heap.size; exact g3), hg.block g (by omega) (fun e => g2 e.symm)]
    exact hb.block g g1
  have hnb : y.heap[w.heap.size]? = some (.cells #[k0, k1, k2, wv, kv] 71 (0, 0)) := by
    rw [hg.block _ (by omega) (fun e => by have := hko _ e.symm; omega), hb.block _ hN]; exact h.nb
  have hbel : Below B wr (y.setCell ⟨w.heap.size, 3, none⟩ u) := ((hb.mono (by omega)).grown hg (by omega) (fun g hg' => by have := hko g hg'; omega)).setCell (p := ⟨w.heap.size, 3, none⟩) (by show B ≤ w.heap.size; omega) _
  have hrow : (y.setCell ⟨w.heap.size, 3, none⟩ u).ownsRow (w.heap.size + 1) 3 1 u (ws ++ [z]).length ((ws ++ [z]).map (Value.int .i64)) := by
    rw [List.length_append, List.map_append]
    exact rowK_at ho fun g hg' => Below.heap_setCell _ _ _ _ (by have := (ho.lt g hg').1; show g ≠ w.heap.size; omega)
  have hother : (y.setCell ⟨w.heap.size, 3, none⟩ u).ownsRow (w.heap.size + 1) 3 1 kv ks.length (ks.map (Value.int .i64)) := rowK_at h.rk fun g hg' => by
    have := h.rk.lt g hg'
    exact blk g this.2 (h.dk g hg').2.2 (by omega)
  have hvd : ∀ g, u.ownBlock = some g → ¬ S' g ∧ v'.ownBlock ≠ some g ∧ kv.ownBlock ≠ some g := fun g hg' => by
    rcases hv g hg' with h6 | h6
    · exact h.dw g h6
    · exact ⟨fun hS => by have := h.i.xb.lt g hS; omega, fun e => by have := (hvl g e).2; omega, fun e => by have := (h.rk.lt g e).2; omega⟩
  have hod : ∀ g, kv.ownBlock = some g → ¬ S' g ∧ v'.ownBlock ≠ some g ∧ u.ownBlock ≠ some g := fun g hg' => by
    obtain ⟨d1, d2, d3⟩ := h.dk g hg'
    have := h.rk.lt g hg'
    refine ⟨d1, d2, fun e => ?_⟩
    rcases hv g e with h6 | h6
    · exact d3 h6
    · omega
  refine ⟨⟨h.i.bel.trans (hbel.mono hw), ?_, h.i.xb.move (fun g hg' => ?_) (fun g hg' => ?_) hbel.size, h.i.ob, h.i.own⟩, h.kb.trans ⟨hbel, fun g g1 g2 g3 => ?_, fun _ e => .inl e⟩, h.sub, h.new, by rw [heap_set_at hnb]; rfl, h.own, hrow, hother, hvd, hod⟩
  · exact (blk RB (by omega) (fun e => by have := hko _ e; omega) (by omega)).trans h.i.bx
  · exact blk g (h.i.xb.lt g hg') (fun e => (h.dw g e).1 hg') (fun e => a2 (e ▸ hg'))
  · exact blk g (hvl g hg').2 (fun e => (h.dw g e).2.1 hg') (fun e => a1 (e ▸ hg'))
  · exact blk g (by omega) (fun e => by have := hko g e; omega) (by omega)
/-- the node is written -/
theorem NdL.fin {k sv nn : Int} (h : NdL w0 w T RB B S v (.int .i64 k) (.int .i64 sv) (.int .i64 nn) wv kv ws ks S' v' s bd r nodes wr) (h0 : RdI w0 T RB B S s0 b0 v r n0 w) (hB : B ≤ RB) (hw : w0.heap.size ≤ B) {V : List NodV} (hV : V.length = nodes.length) (h3 : ∀ (i : Nat) p nd, V[i]? = some p → nodes[i]? = some nd → NodS S' wr p nd)
    {x : World} {u : Value} {y : World} (hb : Below wr.heap.size wr x) (hg : x.grownBy y v'.ownBlock) (ho : y.ownsRow B 71 5 u (nodes.length + 1) (V.flatMap nodVC ++ nodVC (⟨k, sv, nn, wv, kv⟩ : NodV))) (hv : ∀ g, u.ownBlock = some g → v'.ownBlock = some g ∨ wr.heap.size ≤ g) (hsz : x.heap.size ≤ y.heap.size) :
    ∃ S2, RdI w0 T RB B S2 s bd u r (nodes ++ [(⟨k, sv, nn, ws, ks⟩ : Nod)]) (y.setCell ⟨RB, 2, none⟩ u) ∧ RdX RB B S v w S2 u (y.setCell ⟨RB, 2, none⟩ u) := by
  have hR := h0.lt
  have hN := h.sz
  have hx := hb.size
  have hvl := h.i.xb.lt_own
  let Q : Nat → Prop := fun g => S' g ∨ wv.ownBlock = some g ∨ kv.ownBlock = some g
  have hQlt : ∀ g, Q g → g < wr.heap.size := fun g hT => by
    rcases hT with h6 | h6 | h6
    · exact h.i.xb.lt g h6
    · exact (h.rw.lt g h6).2
    · exact (h.rk.lt g h6).2
  have hQv : ∀ g, v'.ownBlock = some g → ¬ Q g := fun g e hT => by
    rcases hT with h6 | h6 | h6
    · exact h.i.xb.own g e h6
    · exact (h.dw g h6).2.1 e
    · exact (h.dk g h6).2.1 e
  have hQo : ¬ Q RB := fun hT => by
    rcases hT with h6 | h6 | h6
    · exact h.i.ob h6
    · have := (h.rw.lt _ h6).1; omega
    · have := (h.rk.lt _ h6).1; omega
  have hgx : wr.grownBy y v'.ownBlock := by
    exact ⟨hg.os.trans hb.os, hg.tape.trans hb.tape, hg.output.trans hb.output, by omega, fun g g1 g2 => (hg.block g (by omega) g2).trans (hb.block g g1)⟩
  have hp : NodS Q wr ⟨k, sv, nn, wv, kv⟩ ⟨k, sv, nn, ws, ks⟩ := fun w2 ha => by
    obtain ⟨a, c, e1, r1⟩ := row_alone h.rw w2 (fun g hg' => ha g (.inr (.inl hg')))
    obtain ⟨a', c', e2, r2⟩ := row_alone h.rk w2 (fun g hg' => ha g (.inr (.inr hg')))
    exact ⟨rfl, rfl, rfl, ⟨a, _, c, e1, r1⟩, ⟨a', _, c', e2, r2⟩⟩
  have hxy : XB Q B y u 71 (nodes ++ [(⟨k, sv, nn, ws, ks⟩ : Nod)]) :=
    XB.push (S := Q) (p := ⟨k, sv, nn, wv, kv⟩) hV (fun i p nd hp hn => (h3 i p nd hp hn).mono fun g hg' => .inl hg') hQlt hQv ho hp hgx hv (by omega)
  have hbox : RdB T y RB s bd v' r := by
    show y.heap[RB]? = _
    rw [hgx.block RB (by omega) (fun e => h.i.own e.symm)]; exact h.i.bx
  have huo : u.ownBlock ≠ some RB := fun e => by
    rcases hv _ e with h6 | h6
    · exact h.i.own h6
    · omega
  have keep : ∀ g, g ≠ RB → (y.setCell ⟨RB, 2, none⟩ u).heap[g]? = y.heap[g]? := fun g hg' => Below.heap_setCell _ ⟨RB, 2, none⟩ _ g (by exact hg')
  have hbel : Below B wr (y.setCell ⟨RB, 2, none⟩ u) := (((hb.mono (by omega)).grown hg (by omega) (fun g hg' => (hvl g hg').1)).setCell (p := ⟨RB, 2, none⟩) hB _)
  refine ⟨Q, ⟨h.i.bel.trans (hbel.mono hw), ?_, hxy.move (fun g hg' => keep g (fun e => hQo (e ▸ hg'))) (fun g hg' => keep g (fun e => huo (e ▸ hg'))) (by simp), hQo, huo⟩, ⟨h.kb.bel.trans hbel, fun g g1 g2 g3 => ?_, fun g e => ?_⟩, fun g hg' => .inl (h.sub g hg'), fun g hT => ?_⟩
  · show (y.setCell ⟨RB, 2, none⟩ u).heap[RB]? = _
    rw [heap_set_at hbox]; rfl
  · rw [keep g g2, hgx.block g (by omega) (fun e => ?_)]
    · exact h.kb.blk g g1 g2 g3
    · rcases h.own g e.symm with h6 | h6
      · exact g3 h6
      · omega
  · rcases hv g e with h6 | h6
    · rcases h.own g h6 with h7 | h7
      · exact .inl h7
      · exact .inr (by omega)
    · exact .inr (by omega)
  · rcases hT with h6 | h6 | h6
    · rcases h.new g h6 with h7 | h7
      · exact .inl h7
      · exact .inr (by omega)
    · exact .inr (by have := (h.rw.lt _ h6).1; omega)
    · exact .inr (by have := (h.rk.lt _ h6).1; omega)
end
end Go.Proofs.YtcojmmhclklpoaaGreatDoor
