/- Contracts of Go's library over this seat's dump: laid by the kit's shelf tools (plain mode), cut down to those that are used. -/
import Derived.Shelf.Strings.Builder1
import Derived.Shelf.Strings.Builder2
import Derived.Shelf.Strings.OnBuilder
import Derived.Shelf.Small.Bits
import Derived.Shelf.Strconv.Atoi
import Derived.Shelf.Strconv.Itoa0
import Derived.Shelf.Strconv.Itoa1
import Derived.Shelf.LaysM
import Derived.Shelf.Strconv.Itoa2
import Derived.Shelf.Strconv.Itoa3
import Derived.Shelf.Strconv.AtoiErrFast
import Derived.Shelf.Strconv.ParseIntEmpty
import Derived.Shelf.Strconv.AtoiFail
import Derived.Shelf.Strconv.Clone
import Derived.Shelf.Strconv.SyntaxError
import Derived.Shelf.LaysC
import Derived.Shelf.Strconv.ToError
import Derived.Shelf.Strconv.Lower
import Derived.Shelf.Strconv.ParseUint10
import Derived.Shelf.Strconv.ParseUint10Empty
import Derived.Shelf.Strconv.ParseUint10Any
import Derived.Shelf.Strconv.ParseInt10
import Derived.Shelf.Strconv.AtoiLong
import Derived.Shelf.Strconv.AtoiInnerAll
import Derived.Shelf.Strconv.RangeError
import Derived.Shelf.Strconv.ToErrorRange
import Derived.Shelf.Strconv.AtoiAll
import Derived.Shelf.Strconv.ErrVarAll
import Derived.Shelf.Strings.FieldsFuncAny
import Derived.Test.YthkboibhkpkliaaDoorProg
import Derived.Test.YthkboibhkpkliaaDoorShelf
namespace Go.Proofs
open Go.Shelf

def Tryd.laysC172_ren : Go.Shelf.Ren := ⟨fun | 172 => 56 | 244 => 67 | 245 => 68 | 247 => 75 | 279 => 76 | 280 => 77 | 281 => 78 | 282 => 79 | 287 => 97 | 316 => 98 | 171 => 52 | 205 => 99 | 321 => 109 | 322 => 110 | 243 => 63 | 246 => 72 | 283 => 91 | 284 => 92 | 285 => 93 | 286 => 94 | 129 => 90 | 317 => 105 | 318 => 106 | 319 => 107 | 320 => 108 | 337 => 112 | 338 => 113 | n => n, fun | 9 => 9 | 3 => 3 | 75 => 73 | 76 => 74 | 4 => 4 | 5 => 5 | 167 => 95 | 37 => 81 | 0 => 0 | 85 => 96 | 2 => 2 | 168 => 98 | 53 => 112 | 175 => 120 | 46 => 78 | 210 => 124 | 127 => 94 | 145 => 139 | 143 => 137 | 21 => 21 | 171 => 113 | 173 => 115 | 212 => 134 | 51 => 77 | 20 => 20 | 213 => 135 | 232 => 79 | 233 => 143 | 80 => 85 | n => n, fun | 15 => 1 | 16 => 2 | 17 => 3 | 18 => 0 | 19 => 5 | n => n⟩

theorem Tryd.laysC172 : Go.Proofs.LaysC.n172 Tryd.prog Tryd.laysC172_ren := {
  mixed := by kernel_rfl
  f129 := Tryd.func90.trans (congrArg some (by kernel_rfl))
  f171 := Tryd.func52.trans (congrArg some (by kernel_rfl))
  f172 := Tryd.func56.trans (congrArg some (by kernel_rfl))
  f205 := Tryd.func99.trans (congrArg some (by kernel_rfl))
  f243 := Tryd.func63.trans (congrArg some (by kernel_rfl))
  f244 := Tryd.func67.trans (congrArg some (by kernel_rfl))
  f245 := Tryd.func68.trans (congrArg some (by kernel_rfl))
  f246 := Tryd.func72.trans (congrArg some (by kernel_rfl))
  f247 := Tryd.func75.trans (congrArg some (by kernel_rfl))
  f279 := Tryd.func76.trans (congrArg some (by kernel_rfl))
  f280 := Tryd.func77.trans (congrArg some (by kernel_rfl))
  f281 := Tryd.func78.trans (congrArg some (by kernel_rfl))
  f282 := Tryd.func79.trans (congrArg some (by kernel_rfl))
  f283 := Tryd.func91.trans (congrArg some (by kernel_rfl))
  f284 := Tryd.func92.trans (congrArg some (by kernel_rfl))
  f285 := Tryd.func93.trans (congrArg some (by kernel_rfl))
  f286 := Tryd.func94.trans (congrArg some (by kernel_rfl))
  f287 := Tryd.func97.trans (congrArg some (by kernel_rfl))
  f316 := Tryd.func98.trans (congrArg some (by kernel_rfl))
  f317 := Tryd.func105.trans (congrArg some (by kernel_rfl))
  f318 := Tryd.func106.trans (congrArg some (by kernel_rfl))
  f319 := Tryd.func107.trans (congrArg some (by kernel_rfl))
  f320 := Tryd.func108.trans (congrArg some (by kernel_rfl))
  f321 := Tryd.func109.trans (congrArg some (by kernel_rfl))
  f322 := Tryd.func110.trans (congrArg some (by kernel_rfl))
  f337 := Tryd.func112.trans (congrArg some (by kernel_rfl))
  f338 := Tryd.func113.trans (congrArg some (by kernel_rfl))
  t0 := Tryd.underlying0
  a0 := Tryd.isAgg0
  z0 := Tryd.sizeOf0
  v0 := Tryd.zeroValue0
  t2 := Tryd.underlying2
  a2 := Tryd.isAgg2
  z2 := Tryd.sizeOf2
  v2 := Tryd.zeroValue2
  t3 := Tryd.underlying3
  a3 := Tryd.isAgg3
  z3 := Tryd.sizeOf3
  v3 := Tryd.zeroValue3
  t4 := Tryd.underlying4
  a4 := Tryd.isAgg4
  z4 := Tryd.sizeOf4
  v4 := Tryd.zeroValue4
  t5 := Tryd.underlying5
  a5 := Tryd.isAgg5
  z5 := Tryd.sizeOf5
  v5 := Tryd.zeroValue5
  t9 := Tryd.underlying9
  a9 := Tryd.isAgg9
  z9 := Tryd.sizeOf9
  v9 := Tryd.zeroValue9
  t20 := Tryd.underlying20
  a20 := Tryd.isAgg20
  z20 := Tryd.sizeOf20
  v20 := Tryd.zeroValue20
  t21 := Tryd.underlying21
  a21 := Tryd.isAgg21
  z21 := Tryd.sizeOf21
  v21 := Tryd.zeroValue21
  t37 := Tryd.underlying81
  a37 := Tryd.isAgg81
  z37 := Tryd.sizeOf81
  v37 := Tryd.zeroValue81
  t46 := Tryd.underlying78
  a46 := Tryd.isAgg78
  z46 := Tryd.sizeOf78
  v46 := Tryd.zeroValue78
  t51 := Tryd.underlying77
  a51 := Tryd.isAgg77
  z51 := Tryd.sizeOf77
  v51 := Tryd.zeroValue77
  t53 := Tryd.underlying112
  a53 := Tryd.isAgg112
  z53 := Tryd.sizeOf112
  v53 := Tryd.zeroValue112
  t75 := Tryd.underlying73
  a75 := Tryd.isAgg73
  z75 := Tryd.sizeOf73
  v75 := Tryd.zeroValue73
  t76 := Tryd.underlying74
  a76 := Tryd.isAgg74
  z76 := Tryd.sizeOf74
  v76 := Tryd.zeroValue74
  t85 := Tryd.underlying96
  a85 := Tryd.isAgg96
  z85 := Tryd.sizeOf96
  v85 := Tryd.zeroValue96
  t127 := Tryd.underlying94
  a127 := Tryd.isAgg94
  z127 := Tryd.sizeOf94
  v127 := Tryd.zeroValue94
  t143 := Tryd.underlying137
  a143 := Tryd.isAgg137
  z143 := Tryd.sizeOf137
  v143 := Tryd.zeroValue137
  t145 := Tryd.underlying139
  a145 := Tryd.isAgg139
  z145 := Tryd.sizeOf139
  v145 := Tryd.zeroValue139
  t167 := Tryd.underlying95
  a167 := Tryd.isAgg95
  z167 := Tryd.sizeOf95
  v167 := Tryd.zeroValue95
  t168 := Tryd.underlying98
  a168 := Tryd.isAgg98
  z168 := Tryd.sizeOf98
  v168 := Tryd.zeroValue98
  t171 := Tryd.underlying113
  a171 := Tryd.isAgg113
  z171 := Tryd.sizeOf113
  v171 := Tryd.zeroValue113
  t173 := Tryd.underlying115
  a173 := Tryd.isAgg115
  z173 := Tryd.sizeOf115
  v173 := Tryd.zeroValue115
  t175 := Tryd.underlying120
  a175 := Tryd.isAgg120
  z175 := Tryd.sizeOf120
  v175 := Tryd.zeroValue120
  t210 := Tryd.underlying124
  a210 := Tryd.isAgg124
  z210 := Tryd.sizeOf124
  v210 := Tryd.zeroValue124
  t212 := Tryd.underlying134
  a212 := Tryd.isAgg134
  z212 := Tryd.sizeOf134
  v212 := Tryd.zeroValue134
  t213 := Tryd.underlying135
  a213 := Tryd.isAgg135
  z213 := Tryd.sizeOf135
  t232 := Tryd.underlying79
  a232 := Tryd.isAgg79
  z232 := Tryd.sizeOf79
  v232 := Tryd.zeroValue79
  t233 := Tryd.underlying143
  a233 := Tryd.isAgg143
  z233 := Tryd.sizeOf143
  v233 := Tryd.zeroValue143
  g15 := by kernel_rfl
  g16 := by kernel_rfl
  g17 := by kernel_rfl
  g18 := by kernel_rfl
  g19 := by kernel_rfl
  t80 := Tryd.underlying85
  a80 := Tryd.isAgg85
  z80 := Tryd.sizeOf85
  v80 := Tryd.zeroValue85
  i0 := by kernel_rfl
  i2 := by kernel_rfl
  i3 := by kernel_rfl
  i4 := by kernel_rfl
  i5 := by kernel_rfl
  i9 := by kernel_rfl
  i20 := by kernel_rfl
  i21 := by kernel_rfl
  i37 := by kernel_rfl
  i46 := by kernel_rfl
  i51 := by kernel_rfl
  i53 := by kernel_rfl
  i75 := by kernel_rfl
  i76 := by kernel_rfl
  i80 := by kernel_rfl
  i85 := by kernel_rfl
  i127 := by kernel_rfl
  i143 := by kernel_rfl
  i145 := by kernel_rfl
  i167 := by kernel_rfl
  i168 := by kernel_rfl
  i171 := by kernel_rfl
  i173 := by kernel_rfl
  i175 := by kernel_rfl
  i210 := by kernel_rfl
  i212 := by kernel_rfl
  i232 := by kernel_rfl
  i233 := by kernel_rfl
  m15 := by kernel_rfl
  m16 := by kernel_rfl
  m17 := by kernel_rfl
  m18 := by kernel_rfl
  m19 := by kernel_rfl
  c0 := by kernel_rfl
  c2 := by kernel_rfl
  c3 := by kernel_rfl
  c4 := by kernel_rfl
  c5 := by kernel_rfl
  c9 := by kernel_rfl
  c20 := by kernel_rfl
  c21 := by kernel_rfl
  c37 := by kernel_rfl
  c46 := by kernel_rfl
  c51 := by kernel_rfl
  c53 := by kernel_rfl
  c75 := by kernel_rfl
  c76 := by kernel_rfl
  c80 := by kernel_rfl
  c85 := by kernel_rfl
  c127 := by kernel_rfl
  c143 := by kernel_rfl
  c145 := by kernel_rfl
  c167 := by kernel_rfl
  c168 := by kernel_rfl
  c171 := by kernel_rfl
  c173 := by kernel_rfl
  c175 := by kernel_rfl
  c210 := by kernel_rfl
  c212 := by kernel_rfl
  c213 := by kernel_rfl
  c232 := by kernel_rfl
  c233 := by kernel_rfl }

open Go.RowKit in
theorem Tryd.strconv_Atoi_ok (s : ByteArray) (hmax : s.size ≤ 9223372036854775806) (v : Int) (h : Lib.atoiAll s.data.toList = .ok v) (w : World) :
    Calls Tryd.prog 56 #[.string s] w fun e w' => e = .returned (.tuple #[.int .i64 v, .nilIface]) ∧ (w' = w ∨ ∃ t, w' = Lib.bytesWorld w 5 t) := Any.strconv_Atoi_ok Tryd.laysC172 s hmax v h w

open Go.RowKit in
theorem Tryd.strconv_Atoi_syntax (s : ByteArray) (hlim : s.size ≤ 281474976710656) (h : Lib.atoiAll s.data.toList = .«syntax») (ev : Value) (w : World) (hv : w.cell? ⟨1, 0, none⟩ = some ev) (hev : ev = .nilIface ∨ ∃ te pe, ev = .iface te pe) :
    Calls Tryd.prog 56 #[.string s] w fun e w' => ∃ N, e = .returned (.tuple #[.int .i64 (0), .iface 98 (.pointer (some ⟨N, 0, none⟩))]) ∧ w.heap.size ≤ N ∧ w'.heap[N]? = some (.cells #[.string ⟨#[65, 116, 111, 105]⟩, .string s, ev] 124 (0, 0)) ∧ Below w.heap.size w w' := Any.strconv_Atoi_syntax Tryd.laysC172 s hlim h ev w hv hev

open Go.RowKit in
theorem Tryd.strconv_Atoi_range (s : ByteArray) (hlim : s.size ≤ 281474976710656) (h : Lib.atoiAll s.data.toList = .range) (ev : Value) (w : World) (hv : w.cell? ⟨2, 0, none⟩ = some ev) (hev : ev = .nilIface ∨ ∃ te pe, ev = .iface te pe) :
    Calls Tryd.prog 56 #[.string s] w fun e w' => ∃ N, e = .returned (.tuple #[.int .i64 (Lib.atoiSat s.data.toList), .iface 98 (.pointer (some ⟨N, 0, none⟩))]) ∧ w.heap.size ≤ N ∧ w'.heap[N]? = some (.cells #[.string ⟨#[65, 116, 111, 105]⟩, .string s, ev] 124 (0, 0)) ∧ Below w.heap.size w w' := Any.strconv_Atoi_range Tryd.laysC172 s hlim h ev w hv hev

def Tryd.lays229_ren : Go.Shelf.Ren := ⟨fun | 229 => 54 | n => n, fun | 9 => 9 | 40 => 71 | 31 => 67 | 152 => 86 | 3 => 3 | 0 => 0 | 4 => 4 | 21 => 21 | 154 => 88 | n => n, fun | n => n⟩

theorem Tryd.lays229 : Go.Proofs.Lays.n229 Tryd.prog Tryd.lays229_ren := {
  mixed := by kernel_rfl
  f229 := Tryd.func54.trans (congrArg some (by kernel_rfl))
  t0 := Tryd.underlying0
  a0 := Tryd.isAgg0
  z0 := Tryd.sizeOf0
  v0 := Tryd.zeroValue0
  t3 := Tryd.underlying3
  a3 := Tryd.isAgg3
  z3 := Tryd.sizeOf3
  v3 := Tryd.zeroValue3
  t4 := Tryd.underlying4
  a4 := Tryd.isAgg4
  z4 := Tryd.sizeOf4
  v4 := Tryd.zeroValue4
  t9 := Tryd.underlying9
  a9 := Tryd.isAgg9
  z9 := Tryd.sizeOf9
  v9 := Tryd.zeroValue9
  t21 := Tryd.underlying21
  a21 := Tryd.isAgg21
  z21 := Tryd.sizeOf21
  v21 := Tryd.zeroValue21
  t31 := Tryd.underlying67
  a31 := Tryd.isAgg67
  z31 := Tryd.sizeOf67
  v31 := Tryd.zeroValue67
  t40 := Tryd.underlying71
  a40 := Tryd.isAgg71
  z40 := Tryd.sizeOf71
  v40 := Tryd.zeroValue71
  t152 := Tryd.underlying86
  a152 := Tryd.isAgg86
  z152 := Tryd.sizeOf86
  v152 := Tryd.zeroValue86
  t154 := Tryd.underlying88
  a154 := Tryd.isAgg88
  z154 := Tryd.sizeOf88
  v154 := Tryd.zeroValue88 }

open Go.RowKit Go.Lib in
theorem Tryd.strings_FieldsFunc (g : Nat) (lb : Array Value) (eg : ∀ args w, (callFunc g args).run Tryd.prog w = .ok (.enter g args) w) (p : Nat → Bool) (s : ByteArray) (w : World) (hs : s.size ≤ 4294967296) (hp : PredAt Tryd.prog g lb encR p w) :
    Calls Tryd.prog 54 #[.string s, .func (.func g) #[] lb] w fun e w' => ∃ A, e = .returned (.slice (some ⟨A, 0, none⟩) (Lib.goFieldsP p s).length (Lib.goFieldsP p s).length) ∧ w.heap.size ≤ A ∧
      w'.ownsRow w.heap.size 9 1 (.slice (some ⟨A, 0, none⟩) (Lib.goFieldsP p s).length (Lib.goFieldsP p s).length) (Lib.goFieldsP p s).length ((Lib.goFieldsP p s).map Value.string) ∧ Below w.heap.size w w' := Any.strings_FieldsFunc Tryd.lays229 g lb eg p s w hs hp (by kernel_rfl) (by kernel_rfl)

end Go.Proofs
