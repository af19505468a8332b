/- Texts laid together. intersect's parser: take. Contracts of Go's library over this seat's dump: laid by the kit's shelf tools (plain mode), cut down to those that are used. intersect's parser: node (printed by psr.py). intersect's parser: node, the number's way. intersect.Parse, Size. -/
import Derived.Test.YtflpkkebampmfaaGreatDoorGIntersectCheck3
import Derived.Test.YtflpkkebampmfaaGreatDoorGIntersectCheck5
import Derived.Test.YtflpkkebampmfaaGreatDoorProg
import Derived.Shelf.Small.Strs
import Derived.Shelf.Small.Wraps
import Derived.Shelf.Strconv.Atoi
import Derived.Shelf.Strconv.Itoa0
import Derived.Shelf.Strconv.Itoa1
import Derived.Shelf.LaysM
import Derived.Shelf.Strconv.Itoa2
import Derived.Shelf.Strconv.Itoa3
import Derived.Shelf.Strconv.AtoiErrFast
import Derived.Shelf.Strconv.ParseIntEmpty
import Derived.Shelf.Strconv.AtoiFail
import Derived.Shelf.Strconv.Clone
import Derived.Shelf.Strconv.SyntaxError
import Derived.Shelf.LaysC
import Derived.Shelf.Strconv.ToError
import Derived.Shelf.Strconv.Lower
import Derived.Shelf.Strconv.ParseUint10
import Derived.Shelf.Strconv.ParseUint10Empty
import Derived.Shelf.Strconv.ParseUint10Any
import Derived.Shelf.Strconv.ParseInt10
import Derived.Shelf.Strconv.AtoiLong
import Derived.Shelf.Strconv.AtoiInnerAll
import Derived.Shelf.Strconv.RangeError
import Derived.Shelf.Strconv.ToErrorRange
import Derived.Shelf.Strconv.AtoiAll
import Derived.Shelf.Strings.Search1
import Derived.Shelf.Strings.Prefix
import Derived.Ground.Names2Prog
import Derived.Shelf.Slices.SearchI
import Derived.Lib.AtoiErrMem
namespace Go.Proofs.YtflpkkebampmfaaGreatDoor
open Go.RowKit Go.Shelf

/-- a parser in memory -/
structure PN (w : World) (B : Nat) (s : Byts) (v : Value) (ns : List Cho) : Prop where
  blk : w.heap[B]? = some (.cells #[.string (mkB s), v] 80 (0, 0))
  row : w.ownsRow (B + 1) 72 3 v ns.length (ns.flatMap choC)
/-- what lies neither in the parser's block nor in its row is kept -/
structure KeepP (B : Nat) (v v' : Value) (w w' : World) : Prop where
  bel : Below B w w'
  blk : ∀ k, k < w.heap.size → k ≠ B → v.ownBlock ≠ some k → w'.heap[k]? = w.heap[k]?
  own : ∀ g, v'.ownBlock = some g → v.ownBlock = some g ∨ w.heap.size ≤ g
theorem KeepP.refl (B : Nat) (v : Value) (w : World) : KeepP B v v w w := ⟨Below.refl _ _, fun _ _ _ _ => rfl, fun _ h => .inl h⟩
theorem KeepP.trans {B : Nat} {v v' v'' : Value} {w w' w'' : World} (h : KeepP B v v' w w') (k : KeepP B v' v'' w' w'') : KeepP B v v'' w w'' := by
  refine ⟨h.bel.trans k.bel, fun j hj hB hv => ?_, fun g hg => ?_⟩
  · rw [k.blk j (Nat.lt_of_lt_of_le hj h.bel.size) hB (fun e => ?_), h.blk j hj hB hv]
    rcases h.own j e with h1 | h1
    · exact hv h1
    · omega
  · rcases k.own g hg with h1 | h1
    · exact h.own g h1
    · exact .inr (Nat.le_trans h.bel.size h1)
theorem KeepP.of_below {B : Nat} {v : Value} {w w' : World} (hB : B ≤ w.heap.size) (h : Below w.heap.size w w') : KeepP B v v w w' := ⟨h.mono hB, fun k hk _ _ => h.block k hk, fun _ hg => .inl hg⟩
theorem PN.below {w w' : World} {B : Nat} {s : Byts} {v : Value} {ns : List Cho} (h : PN w B s v ns) (hb : Below w.heap.size w w') : PN w' B s v ns := ⟨heap_below hb h.blk, rowK_below h.row hb⟩
theorem PN.lt {w : World} {B : Nat} {s : Byts} {v : Value} {ns : List Cho} (h : PN w B s v ns) : B < w.heap.size := (Array.getElem?_eq_some_iff.1 h.blk).1
/-- the text, set -/
theorem PN.put {w : World} {B : Nat} {s : Byts} {v : Value} {ns : List Cho} (h : PN w B s v ns) (s' : Byts) : PN (w.setCell ⟨B, 0, none⟩ (.string (mkB s'))) B s' v ns :=
  ⟨by rw [heap_set_at h.blk]; rfl, rowK_at h.row fun g hg => Below.heap_setCell _ _ _ _ (by have := (h.row.lt g hg).1; show g ≠ B; omega)⟩
theorem KeepP.put {B : Nat} {v : Value} (w : World) (i : Nat) (u : Value) : KeepP B v v w (w.setCell ⟨B, i, none⟩ u) :=
  ⟨(Below.refl _ _).setCell (p := ⟨B, i, none⟩) (Nat.le_refl _) _, fun k _ hB _ => Below.heap_setCell _ _ _ _ hB, fun _ h => .inl h⟩
theorem heap_keepP {B : Nat} {v v' : Value} {w w' : World} (h : KeepP B v v' w w') {k : Nat} {ob : Obj} (hk : w.heap[k]? = some ob) (hB : k ≠ B) (hv : v.ownBlock ≠ some k) : w'.heap[k]? = some ob :=
  (h.blk k (Array.getElem?_eq_some_iff.1 hk).1 hB hv).trans hk

set_option maxRecDepth 100000 in
set_option maxHeartbeats 1000000 in
theorem take_p (pre s : Byts) (B : Nat) (v : Value) (ns : List Cho) (w : World) (h : PN w B s v ns) :
    Calls Tryz.prog 46 #[.pointer (some ⟨B, 0, none⟩), .string (mkB pre)] w fun e w' => e = .returned (.bool (stripP pre s).isSome) ∧ PN w' B ((stripP pre s).getD s) v ns ∧ KeepP B v v w w' := by
  have HCP := Lib.hid (Tryz.strings_CutPrefix (mkB s) (mkB pre) w)
  have p0 := cell_of_row _ _ 0 _ _ _ h.blk
  have z0 := frozen_row h.blk 0
  have H := Lib.hid h
  clear h
  obtain ⟨b, s', hb, hs', hR⟩ : ∃ b s', Lib.hasPrefix s pre = b ∧ Lib.trimPrefix s pre = s' ∧ Hid ((stripP pre s).isSome = b ∧ (stripP pre s).getD s = s') := by
    cases hq : stripP pre s with
    | none => obtain ⟨h1, h2⟩ := strip_no hq; exact ⟨_, _, h1, h2, Lib.hid ⟨rfl, rfl⟩⟩
    | some r => obtain ⟨h1, h2⟩ := strip_yes hq; exact ⟨_, _, h1, h2, Lib.hid ⟨rfl, rfl⟩⟩
  rw [mkB_list, mkB_list, hb, hs'] at HCP
  rw [hR.out.1, hR.out.2]
  clear hb hs' hR
  go_enter Tryz.func46, Tryz.ntmps46
  go_wp2_with fail
  with_reducible refine HCP.out.mono ?_
  rintro e w1 ⟨rfl, rfl⟩
  go_wp2_with fail
  go_ret
  exact ⟨rfl, H.out.put s', KeepP.put _ _ _⟩
end Go.Proofs.YtflpkkebampmfaaGreatDoor
namespace Go.Proofs
open Go.Shelf

def Tryz.laysC172_ren : Go.Shelf.Ren := ⟨fun | 172 => 48 | 244 => 58 | 245 => 59 | 247 => 74 | 279 => 75 | 280 => 76 | 281 => 77 | 282 => 78 | 287 => 86 | 316 => 87 | 171 => 49 | 205 => 88 | 321 => 93 | 322 => 94 | 243 => 60 | 246 => 79 | 283 => 89 | 284 => 90 | 285 => 91 | 286 => 92 | 129 => 96 | 317 => 95 | 318 => 97 | 319 => 98 | 320 => 99 | 337 => 100 | 338 => 101 | n => n, fun | 9 => 9 | 3 => 3 | 75 => 97 | 76 => 98 | 4 => 4 | 5 => 5 | 167 => 116 | 37 => 53 | 0 => 0 | 85 => 117 | 2 => 2 | 168 => 119 | 53 => 126 | 175 => 127 | 46 => 104 | 210 => 131 | 127 => 139 | 145 => 142 | 143 => 140 | 21 => 21 | 171 => 133 | 173 => 136 | 212 => 145 | 51 => 103 | 20 => 20 | 213 => 146 | 232 => 102 | 233 => 149 | 80 => 150 | n => n, fun | 15 => 2 | 16 => 3 | 17 => 4 | 18 => 0 | 19 => 5 | n => n⟩

theorem Tryz.laysC172 : Go.Proofs.LaysC.n172 Tryz.prog Tryz.laysC172_ren := {
  mixed := by kernel_rfl
  f129 := Tryz.func96.trans (congrArg some (by kernel_rfl))
  f171 := Tryz.func49.trans (congrArg some (by kernel_rfl))
  f172 := Tryz.func48.trans (congrArg some (by kernel_rfl))
  f205 := Tryz.func88.trans (congrArg some (by kernel_rfl))
  f243 := Tryz.func60.trans (congrArg some (by kernel_rfl))
  f244 := Tryz.func58.trans (congrArg some (by kernel_rfl))
  f245 := Tryz.func59.trans (congrArg some (by kernel_rfl))
  f246 := Tryz.func79.trans (congrArg some (by kernel_rfl))
  f247 := Tryz.func74.trans (congrArg some (by kernel_rfl))
  f279 := Tryz.func75.trans (congrArg some (by kernel_rfl))
  f280 := Tryz.func76.trans (congrArg some (by kernel_rfl))
  f281 := Tryz.func77.trans (congrArg some (by kernel_rfl))
  f282 := Tryz.func78.trans (congrArg some (by kernel_rfl))
  f283 := Tryz.func89.trans (congrArg some (by kernel_rfl))
  f284 := Tryz.func90.trans (congrArg some (by kernel_rfl))
  f285 := Tryz.func91.trans (congrArg some (by kernel_rfl))
  f286 := Tryz.func92.trans (congrArg some (by kernel_rfl))
  f287 := Tryz.func86.trans (congrArg some (by kernel_rfl))
  f316 := Tryz.func87.trans (congrArg some (by kernel_rfl))
  f317 := Tryz.func95.trans (congrArg some (by kernel_rfl))
  f318 := Tryz.func97.trans (congrArg some (by kernel_rfl))
  f319 := Tryz.func98.trans (congrArg some (by kernel_rfl))
  f320 := Tryz.func99.trans (congrArg some (by kernel_rfl))
  f321 := Tryz.func93.trans (congrArg some (by kernel_rfl))
  f322 := Tryz.func94.trans (congrArg some (by kernel_rfl))
  f337 := Tryz.func100.trans (congrArg some (by kernel_rfl))
  f338 := Tryz.func101.trans (congrArg some (by kernel_rfl))
  t0 := Tryz.underlying0
  a0 := Tryz.isAgg0
  z0 := Tryz.sizeOf0
  v0 := Tryz.zeroValue0
  t2 := Tryz.underlying2
  a2 := Tryz.isAgg2
  z2 := Tryz.sizeOf2
  v2 := Tryz.zeroValue2
  t3 := Tryz.underlying3
  a3 := Tryz.isAgg3
  z3 := Tryz.sizeOf3
  v3 := Tryz.zeroValue3
  t4 := Tryz.underlying4
  a4 := Tryz.isAgg4
  z4 := Tryz.sizeOf4
  v4 := Tryz.zeroValue4
  t5 := Tryz.underlying5
  a5 := Tryz.isAgg5
  z5 := Tryz.sizeOf5
  v5 := Tryz.zeroValue5
  t9 := Tryz.underlying9
  a9 := Tryz.isAgg9
  z9 := Tryz.sizeOf9
  v9 := Tryz.zeroValue9
  t20 := Tryz.underlying20
  a20 := Tryz.isAgg20
  z20 := Tryz.sizeOf20
  v20 := Tryz.zeroValue20
  t21 := Tryz.underlying21
  a21 := Tryz.isAgg21
  z21 := Tryz.sizeOf21
  v21 := Tryz.zeroValue21
  t37 := Tryz.underlying53
  a37 := Tryz.isAgg53
  z37 := Tryz.sizeOf53
  v37 := Tryz.zeroValue53
  t46 := Tryz.underlying104
  a46 := Tryz.isAgg104
  z46 := Tryz.sizeOf104
  v46 := Tryz.zeroValue104
  t51 := Tryz.underlying103
  a51 := Tryz.isAgg103
  z51 := Tryz.sizeOf103
  v51 := Tryz.zeroValue103
  t53 := Tryz.underlying126
  a53 := Tryz.isAgg126
  z53 := Tryz.sizeOf126
  v53 := Tryz.zeroValue126
  t75 := Tryz.underlying97
  a75 := Tryz.isAgg97
  z75 := Tryz.sizeOf97
  v75 := Tryz.zeroValue97
  t76 := Tryz.underlying98
  a76 := Tryz.isAgg98
  z76 := Tryz.sizeOf98
  v76 := Tryz.zeroValue98
  t85 := Tryz.underlying117
  a85 := Tryz.isAgg117
  z85 := Tryz.sizeOf117
  v85 := Tryz.zeroValue117
  t127 := Tryz.underlying139
  a127 := Tryz.isAgg139
  z127 := Tryz.sizeOf139
  v127 := Tryz.zeroValue139
  t143 := Tryz.underlying140
  a143 := Tryz.isAgg140
  z143 := Tryz.sizeOf140
  v143 := Tryz.zeroValue140
  t145 := Tryz.underlying142
  a145 := Tryz.isAgg142
  z145 := Tryz.sizeOf142
  v145 := Tryz.zeroValue142
  t167 := Tryz.underlying116
  a167 := Tryz.isAgg116
  z167 := Tryz.sizeOf116
  v167 := Tryz.zeroValue116
  t168 := Tryz.underlying119
  a168 := Tryz.isAgg119
  z168 := Tryz.sizeOf119
  v168 := Tryz.zeroValue119
  t171 := Tryz.underlying133
  a171 := Tryz.isAgg133
  z171 := Tryz.sizeOf133
  v171 := Tryz.zeroValue133
  t173 := Tryz.underlying136
  a173 := Tryz.isAgg136
  z173 := Tryz.sizeOf136
  v173 := Tryz.zeroValue136
  t175 := Tryz.underlying127
  a175 := Tryz.isAgg127
  z175 := Tryz.sizeOf127
  v175 := Tryz.zeroValue127
  t210 := Tryz.underlying131
  a210 := Tryz.isAgg131
  z210 := Tryz.sizeOf131
  v210 := Tryz.zeroValue131
  t212 := Tryz.underlying145
  a212 := Tryz.isAgg145
  z212 := Tryz.sizeOf145
  v212 := Tryz.zeroValue145
  t213 := Tryz.underlying146
  a213 := Tryz.isAgg146
  z213 := Tryz.sizeOf146
  t232 := Tryz.underlying102
  a232 := Tryz.isAgg102
  z232 := Tryz.sizeOf102
  v232 := Tryz.zeroValue102
  t233 := Tryz.underlying149
  a233 := Tryz.isAgg149
  z233 := Tryz.sizeOf149
  v233 := Tryz.zeroValue149
  g15 := by kernel_rfl
  g16 := by kernel_rfl
  g17 := by kernel_rfl
  g18 := by kernel_rfl
  g19 := by kernel_rfl
  t80 := Tryz.underlying150
  a80 := Tryz.isAgg150
  z80 := Tryz.sizeOf150
  v80 := Tryz.zeroValue150
  i0 := by kernel_rfl
  i2 := by kernel_rfl
  i3 := by kernel_rfl
  i4 := by kernel_rfl
  i5 := by kernel_rfl
  i9 := by kernel_rfl
  i20 := by kernel_rfl
  i21 := by kernel_rfl
  i37 := by kernel_rfl
  i46 := by kernel_rfl
  i51 := by kernel_rfl
  i53 := by kernel_rfl
  i75 := by kernel_rfl
  i76 := by kernel_rfl
  i80 := by kernel_rfl
  i85 := by kernel_rfl
  i127 := by kernel_rfl
  i143 := by kernel_rfl
  i145 := by kernel_rfl
  i167 := by kernel_rfl
  i168 := by kernel_rfl
  i171 := by kernel_rfl
  i173 := by kernel_rfl
  i175 := by kernel_rfl
  i210 := by kernel_rfl
  i212 := by kernel_rfl
  i232 := by kernel_rfl
  i233 := by kernel_rfl
  m15 := by kernel_rfl
  m16 := by kernel_rfl
  m17 := by kernel_rfl
  m18 := by kernel_rfl
  m19 := by kernel_rfl
  c0 := by kernel_rfl
  c2 := by kernel_rfl
  c3 := by kernel_rfl
  c4 := by kernel_rfl
  c5 := by kernel_rfl
  c9 := by kernel_rfl
  c20 := by kernel_rfl
  c21 := by kernel_rfl
  c37 := by kernel_rfl
  c46 := by kernel_rfl
  c51 := by kernel_rfl
  c53 := by kernel_rfl
  c75 := by kernel_rfl
  c76 := by kernel_rfl
  c80 := by kernel_rfl
  c85 := by kernel_rfl
  c127 := by kernel_rfl
  c143 := by kernel_rfl
  c145 := by kernel_rfl
  c167 := by kernel_rfl
  c168 := by kernel_rfl
  c171 := by kernel_rfl
  c173 := by kernel_rfl
  c175 := by kernel_rfl
  c210 := by kernel_rfl
  c212 := by kernel_rfl
  c213 := by kernel_rfl
  c232 := by kernel_rfl
  c233 := by kernel_rfl }

open Go.RowKit in
theorem Tryz.strconv_Atoi_ok (s : ByteArray) (hmax : s.size ≤ 9223372036854775806) (v : Int) (h : Lib.atoiAll s.data.toList = .ok v) (w : World) :
    Calls Tryz.prog 48 #[.string s] w fun e w' => e = .returned (.tuple #[.int .i64 v, .nilIface]) ∧ (w' = w ∨ ∃ t, w' = Lib.bytesWorld w 5 t) := Any.strconv_Atoi_ok Tryz.laysC172 s hmax v h w

open Go.RowKit in
theorem Tryz.strconv_Atoi_syntax (s : ByteArray) (hlim : s.size ≤ 281474976710656) (h : Lib.atoiAll s.data.toList = .«syntax») (ev : Value) (w : World) (hv : w.cell? ⟨2, 0, none⟩ = some ev) (hev : ev = .nilIface ∨ ∃ te pe, ev = .iface te pe) :
    Calls Tryz.prog 48 #[.string s] w fun e w' => ∃ N, e = .returned (.tuple #[.int .i64 (0), .iface 119 (.pointer (some ⟨N, 0, none⟩))]) ∧ w.heap.size ≤ N ∧ w'.heap[N]? = some (.cells #[.string ⟨#[65, 116, 111, 105]⟩, .string s, ev] 131 (0, 0)) ∧ Below w.heap.size w w' := Any.strconv_Atoi_syntax Tryz.laysC172 s hlim h ev w hv hev

open Go.RowKit in
theorem Tryz.strconv_Atoi_range (s : ByteArray) (hlim : s.size ≤ 281474976710656) (h : Lib.atoiAll s.data.toList = .range) (ev : Value) (w : World) (hv : w.cell? ⟨3, 0, none⟩ = some ev) (hev : ev = .nilIface ∨ ∃ te pe, ev = .iface te pe) :
    Calls Tryz.prog 48 #[.string s] w fun e w' => ∃ N, e = .returned (.tuple #[.int .i64 (Lib.atoiSat s.data.toList), .iface 119 (.pointer (some ⟨N, 0, none⟩))]) ∧ w.heap.size ≤ N ∧ w'.heap[N]? = some (.cells #[.string ⟨#[65, 116, 111, 105]⟩, .string s, ev] 131 (0, 0)) ∧ Below w.heap.size w w' := Any.strconv_Atoi_range Tryz.laysC172 s hlim h ev w hv hev

end Go.Proofs
namespace Go.Proofs.YtflpkkebampmfaaGreatDoor
open Go.RowKit Go.Shelf

/-- what strconv's two errors read as: some interface values -/
def HasRng (w : World) : Prop := ∃ ev, w.cell? ⟨3, 0, none⟩ = some ev ∧ (ev = .nilIface ∨ ∃ te pe, ev = .iface te pe)
theorem HasRng.below {w w' : World} (h : HasRng w) (hb : Below w.heap.size w w') : HasRng w' := by
  obtain ⟨ev, h1, h2⟩ := h
  exact ⟨ev, (hb.cell (p := ⟨3, 0, none⟩) (cell_lt h1)).trans h1, h2⟩
def HasSyn (w : World) : Prop := ∃ ev, w.cell? ⟨2, 0, none⟩ = some ev ∧ (ev = .nilIface ∨ ∃ te pe, ev = .iface te pe)
theorem HasSyn.below {w w' : World} (h : HasSyn w) (hb : Below w.heap.size w w') : HasSyn w' := by
  obtain ⟨ev, h1, h2⟩ := h
  exact ⟨ev, (hb.cell (p := ⟨2, 0, none⟩) (cell_lt h1)).trans h1, h2⟩

theorem KeepP.app {B : Nat} {w2 wA : World} {ob : Obj} {av : Option Addr} {n cv gg n' cap : Nat} {xs : List Value} (hB : B < w2.heap.size) (hg : (w2.alloc ob).drew.grownBy wA (Value.slice av n cv).ownBlock) (hown : w2.ownsRow (B + 1) 72 3 (.slice av n cv) n xs) (hat : (Value.slice av n cv).ownBlock = some gg ∨ gg = w2.heap.size + 1) (u : Value) :
    KeepP B (.slice av n cv) (.slice (some ⟨gg, 0, none⟩) n' cap) w2 (wA.setCell ⟨B, 1, none⟩ u) := by
  refine ⟨?_, fun k hk hkB hv => ?_, fun g hgg => ?_⟩
  · have hb2 := (below_drew ((Below.refl B w2).alloc (Nat.le_of_lt hB) ob)).grown hg (by show B ≤ (w2.alloc ob).heap.size; simp; omega) (fun k hk => by have := (hown.lt k hk).1; omega)
    exact hb2.setCell (p := ⟨B, 1, none⟩) (Nat.le_refl _) _
  · rw [Below.heap_setCell _ _ _ _ hkB, hg.block k (by show k < (w2.alloc ob).heap.size; simp; omega) (fun e => hv e.symm)]
    exact Below.heap_alloc w2 _ k hk
  · have : gg = g := by simpa [Value.ownBlock] using hgg
    subst this
    rcases hat with h | h
    · exact .inl h
    · exact .inr (by omega)

/-- what a node leaves -/
def Read (f : Nat) (s : Byts) (ns : List Cho) (B : Nat) (v : Value) (W : World) (e : Ending) (w' : World) : Prop :=
  ∃ s' v' ns', KeepP B v v' W w' ∧ PN w' B s' v' ns' ∧ ((pnode f s ns = some (s', ns') ∧ e = .returned (.tuple #[.int .i64 ((ns'.length - 1 : Nat) : Int), .bool true])) ∨ (pnode f s ns = none ∧ e = .returned (.tuple #[.int .i64 0, .bool false])))

set_option maxRecDepth 100000 in
set_option maxHeartbeats 4000000 in
theorem node_x (f : Nat) (s r : Byts) (ns : List Cho) (B : Nat) (v : Value) (W : World) (hl : ns.length ≤ 100000) (h : PN W B s v ns) (hx : stripP [120] s = some r) :
    Calls Tryz.prog 33 #[.pointer (some ⟨B, 0, none⟩)] W fun e w' => Read (f + 1) s ns B v W e w' := by
  have HR := Lib.hid (pn_x hx |> fun (e : pnode (f + 1) s ns = some (r, ns ++ [⟨(-1), 0, 0⟩])) => e)
  obtain ⟨av, cv, rfl, _⟩ := rdK_of_row h.row
  obtain ⟨W1, hW1⟩ : ∃ W1, W1 = W.alloc (.cells #[.int .i64 (-1), .int .i64 0, .int .i64 0] 72) := ⟨_, rfl⟩
  have hb1 : Below W.heap.size W W1 := by rw [hW1]; exact (Below.refl _ W).alloc (Nat.le_refl _) _
  have hp1 := h.below hb1
  have hBW := h.lt
  have hc1 : W1.heap[W.heap.size]? = some (.cells #[.int .i64 (-1), .int .i64 0, .int .i64 0] 72 (0, 0)) := by rw [hW1]; exact heap_alloc_new _ _
  have hown : (Value.slice av ns.length cv).ownBlock ≠ some W.heap.size := fun e => by have := (h.row.lt _ e).2; omega
  have HOWN := Lib.hid hown
  have HK1 := Lib.hid (KeepP.of_below (v := Value.slice av ns.length cv) (Nat.le_of_lt hBW) hb1)
  have HP1 := Lib.hid hp1
  have HC1 := Lib.hid hc1
  have HBW := Lib.hid hBW
  have HT1 : Hid (Calls Tryz.prog 46 #[.pointer (some ⟨B, 0, none⟩), .string ⟨#[120]⟩] W1 fun e w' => e = .returned (.bool true) ∧ PN w' B r (.slice av ns.length cv) ns ∧ KeepP B (.slice av ns.length cv) (.slice av ns.length cv) W1 w') := Lib.hid (by
    have := take_p [120] s B _ ns W1 hp1
    rw [hx] at this
    exact this)
  obtain ⟨i0, hi0, hz0, hz1, hz2⟩ := info_parts Tryz.infoCho
  clear h hx hb1 hp1 hc1 hown hBW
  go_enter Tryz.func33, Tryz.ntmps33
  go_wp2_with fail
  rw [← hW1]
  with_reducible refine HT1.out.mono ?_
  rintro e w2 ⟨rfl, hp2, hk2⟩
  have HC := Lib.hid (heap_keepP hk2 HC1.out (by have := HBW.out; omega) HOWN.out)
  have HP := Lib.hid hp2
  have HK := Lib.hid (HK1.out.trans hk2)
  clear hp2 hk2
  have p1 := cell_of_row _ _ 1 _ _ _ HP.out.blk
  have z1 := frozen_row HP.out.blk 1
  have a0 := cell_of_row _ _ 0 _ _ _ HC.out
  have a1 := cell_of_row _ _ 1 _ _ _ HC.out
  have a2 := cell_of_row _ _ 2 _ _ _ HC.out
  have p1b : (w2.alloc (Obj.cells #[.int .i64 (-1), .int .i64 0, .int .i64 0] 72)).cell? ⟨B, 1, none⟩ = some (.slice av ns.length cv) := cell_of_row _ _ 1 _ _ _ (heap_alloc_at HP.out.blk _)
  have hBs := HP.out.lt
  have KA : Hid (∀ x y : World, x.grownBy y (Value.slice av ns.length cv).ownBlock → x.heap[B]? = w2.heap[B]? → w2.heap.size ≤ x.heap.size → y.heap[B]? = some (.cells #[.string (mkB r), .slice av ns.length cv] 80 (0, 0))) := Lib.hid (fun x y hg hx hsx => by
    rw [hg.block B (by have := HP.out.lt; omega) (fun e => by have := (HP.out.row.lt B e.symm).1; omega), hx]
    exact HP.out.blk)
  go_wp2_with fail
  go_region_law (first
    | (refine step_append_lies _ (by rfl) _ _ _ (by rfl) (B + 1) 72 i0 _ 3 24 Tryz.underlying36 hi0 hz0 hz1 hz2 rfl (by omega) (.slice av ns.length cv) ns.length _ (by rfl) ((HP.out.row.alloc _).drew) ⟨w2.heap.size, 0, none⟩ 1 1 [.int .i64 (-1), .int .i64 0, .int .i64 0] (by rfl) (by rfl) (World.news_of_block (cs := #[.int .i64 (-1), .int .i64 0, .int .i64 0]) (t := 72) (fr := (0, 0)) (heap_alloc_new w2 _)) (by simp [Value.oneCell']) (by omega) (by unfold maxLen; omega) (by omega) (by simp; omega) (w2.heap.size + 1) (by simp) ?_; intro gg cap wA hownA hgrow hat hlt; have hA := KA.out _ _ hgrow (Below.heap_alloc w2 _ B (by omega)) (by simp); have pA := cell_of_row _ _ 1 _ _ _ hA; have zA := frozen_row hA 1; have HA := Lib.hid hA; have HOA := Lib.hid hownA; have HGA := Lib.hid hgrow; have HAT := Lib.hid hat; clear hA hownA hgrow hat))
  all_goals
    go_wp2_with fail
    go_ret2
    refine ⟨r, .slice (some ⟨gg, 0, none⟩) (ns.length + 1) cap, ns ++ [⟨(-1), 0, 0⟩], HK.out.trans (KeepP.app (by omega) HGA.out HP.out.row HAT.out _), ⟨?_, ?_⟩, .inl ⟨HR.out, ?_⟩⟩
    · rw [heap_set_at HA.out]; rfl
    · have hrow := HOA.out
      rw [show (ns ++ [(⟨(-1), 0, 0⟩ : Cho)]).length = ns.length + 1 by simp, show (ns ++ [(⟨(-1), 0, 0⟩ : Cho)]).flatMap choC = (ns).flatMap choC ++ [.int .i64 (-1), .int .i64 0, .int .i64 0] by rw [List.flatMap_append]; rfl]
      exact rowK_at hrow fun g hg => Below.heap_setCell _ _ _ _ (by have := (hrow.lt g hg).1; show g ≠ B; omega)
    · congr 1; simp

set_option maxRecDepth 100000 in
set_option maxHeartbeats 4000000 in
theorem node_y (f : Nat) (s r : Byts) (ns : List Cho) (B : Nat) (v : Value) (W : World) (hl : ns.length ≤ 100000) (h : PN W B s v ns) (h0 : stripP [120] s = none) (hx : stripP [121] s = some r) :
    Calls Tryz.prog 33 #[.pointer (some ⟨B, 0, none⟩)] W fun e w' => Read (f + 1) s ns B v W e w' := by
  have HR := Lib.hid (pn_y h0 hx |> fun (e : pnode (f + 1) s ns = some (r, ns ++ [⟨(-2), 0, 0⟩])) => e)
  obtain ⟨av, cv, rfl, _⟩ := rdK_of_row h.row
  obtain ⟨W1, hW1⟩ : ∃ W1, W1 = W.alloc (.cells #[.int .i64 (-1), .int .i64 0, .int .i64 0] 72) := ⟨_, rfl⟩
  have hb1 : Below W.heap.size W W1 := by rw [hW1]; exact (Below.refl _ W).alloc (Nat.le_refl _) _
  have hp1 := h.below hb1
  have hBW := h.lt
  have hc1 : W1.heap[W.heap.size]? = some (.cells #[.int .i64 (-1), .int .i64 0, .int .i64 0] 72 (0, 0)) := by rw [hW1]; exact heap_alloc_new _ _
  have hown : (Value.slice av ns.length cv).ownBlock ≠ some W.heap.size := fun e => by have := (h.row.lt _ e).2; omega
  have HOWN := Lib.hid hown
  have HK1 := Lib.hid (KeepP.of_below (v := Value.slice av ns.length cv) (Nat.le_of_lt hBW) hb1)
  have HP1 := Lib.hid hp1
  have HC1 := Lib.hid hc1
  have HBW := Lib.hid hBW
  have HT1 : Hid (Calls Tryz.prog 46 #[.pointer (some ⟨B, 0, none⟩), .string ⟨#[120]⟩] W1 fun e w' => e = .returned (.bool false) ∧ PN w' B s (.slice av ns.length cv) ns ∧ KeepP B (.slice av ns.length cv) (.slice av ns.length cv) W1 w') := Lib.hid (by
    have := take_p [120] s B _ ns W1 hp1
    rw [h0] at this
    exact this)
  obtain ⟨i0, hi0, hz0, hz1, hz2⟩ := info_parts Tryz.infoCho
  have HT2 : Hid (∀ u : World, PN u B s (.slice av ns.length cv) ns → Calls Tryz.prog 46 #[.pointer (some ⟨B, 0, none⟩), .string ⟨#[121]⟩] u fun e w' => e = .returned (.bool true) ∧ PN w' B r (.slice av ns.length cv) ns ∧ KeepP B (.slice av ns.length cv) (.slice av ns.length cv) u w') := Lib.hid (fun u hu => by
    have := take_p [121] s B _ ns u hu
    rw [hx] at this
    exact this)
  clear h hx h0 hb1 hp1 hc1 hown hBW
  go_enter Tryz.func33, Tryz.ntmps33
  go_wp2_with fail
  rw [← hW1]
  with_reducible refine HT1.out.mono ?_
  rintro e w2 ⟨rfl, hp2, hk2⟩
  have hc2 := heap_keepP hk2 HC1.out (by have := HBW.out; omega) HOWN.out
  have q0 := cell_of_row _ _ 0 _ _ _ hc2
  have q1 := frozen_row hc2 0
  have HP2 := Lib.hid hp2
  have HC2 := Lib.hid hc2
  have HK2 := Lib.hid (HK1.out.trans hk2)
  clear hp2 hk2 hc2
  go_wp2_with fail
  clear q0 q1
  obtain ⟨w3, hw3⟩ : ∃ w3, w2.setCell ⟨W.heap.size, 0, none⟩ (.int .i64 (-2)) = w3 := ⟨_, rfl⟩
  have hb3 : Below (B + 1) w2 w3 := by rw [← hw3]; exact (Below.refl _ _).setCell (p := ⟨W.heap.size, 0, none⟩) (by show B + 1 ≤ W.heap.size; exact HBW.out) _
  have hp3 : PN w3 B s (.slice av ns.length cv) ns := by
    rw [← hw3]
    exact ⟨heap_set_other (by have := HBW.out; omega) _ _ HP2.out.blk, rowK_at HP2.out.row fun g hg => Below.heap_setCell _ _ _ _ (by show g ≠ W.heap.size; exact fun e => HOWN.out (e ▸ hg))⟩
  have hc3 : w3.heap[W.heap.size]? = some (.cells #[.int .i64 (-2), .int .i64 0, .int .i64 0] 72 (0, 0)) := by rw [← hw3, heap_set_at HC2.out]; rfl
  have hk3 : KeepP B (.slice av ns.length cv) (.slice av ns.length cv) W w3 := by
    refine ⟨HK2.out.bel.trans (hb3.mono (by omega)), fun k hk hkB hv => ?_, fun g hg => .inl hg⟩
    rw [← hw3, Below.heap_setCell _ _ _ _ (by show k ≠ W.heap.size; omega)]
    exact HK2.out.blk k hk hkB hv
  have HT3 := Lib.hid (HT2.out w3 hp3)
  have HC3 := Lib.hid hc3
  have HK3 := Lib.hid hk3
  rw [hw3]
  clear hb3 hp3 hc3 hk3 hw3
  with_reducible refine HT3.out.mono ?_
  rintro e w4 ⟨rfl, hp4, hk4⟩
  have HC := Lib.hid (heap_keepP hk4 HC3.out (by have := HBW.out; omega) HOWN.out)
  have HP := Lib.hid hp4
  have HK := Lib.hid (HK3.out.trans hk4)
  clear hp4 hk4
  have p1 := cell_of_row _ _ 1 _ _ _ HP.out.blk
  have z1 := frozen_row HP.out.blk 1
  have a0 := cell_of_row _ _ 0 _ _ _ HC.out
  have a1 := cell_of_row _ _ 1 _ _ _ HC.out
  have a2 := cell_of_row _ _ 2 _ _ _ HC.out
  have p1b : (w4.alloc (Obj.cells #[.int .i64 (-2), .int .i64 0, .int .i64 0] 72)).cell? ⟨B, 1, none⟩ = some (.slice av ns.length cv) := cell_of_row _ _ 1 _ _ _ (heap_alloc_at HP.out.blk _)
  have hBs := HP.out.lt
  have KA : Hid (∀ x y : World, x.grownBy y (Value.slice av ns.length cv).ownBlock → x.heap[B]? = w4.heap[B]? → w4.heap.size ≤ x.heap.size → y.heap[B]? = some (.cells #[.string (mkB r), .slice av ns.length cv] 80 (0, 0))) := Lib.hid (fun x y hg hx hsx => by
    rw [hg.block B (by have := HP.out.lt; omega) (fun e => by have := (HP.out.row.lt B e.symm).1; omega), hx]
    exact HP.out.blk)
  go_wp2_with fail
  go_region_law (first
    | (refine step_append_lies _ (by rfl) _ _ _ (by rfl) (B + 1) 72 i0 _ 3 24 Tryz.underlying36 hi0 hz0 hz1 hz2 rfl (by omega) (.slice av ns.length cv) ns.length _ (by rfl) ((HP.out.row.alloc _).drew) ⟨w4.heap.size, 0, none⟩ 1 1 [.int .i64 (-2), .int .i64 0, .int .i64 0] (by rfl) (by rfl) (World.news_of_block (cs := #[.int .i64 (-2), .int .i64 0, .int .i64 0]) (t := 72) (fr := (0, 0)) (heap_alloc_new w4 _)) (by simp [Value.oneCell']) (by omega) (by unfold maxLen; omega) (by omega) (by simp; omega) (w4.heap.size + 1) (by simp) ?_; intro gg cap wA hownA hgrow hat hlt; have hA := KA.out _ _ hgrow (Below.heap_alloc w4 _ B (by omega)) (by simp); have pA := cell_of_row _ _ 1 _ _ _ hA; have zA := frozen_row hA 1; have HA := Lib.hid hA; have HOA := Lib.hid hownA; have HGA := Lib.hid hgrow; have HAT := Lib.hid hat; clear hA hownA hgrow hat))
  all_goals
    go_wp2_with fail
    go_ret2
    refine ⟨r, .slice (some ⟨gg, 0, none⟩) (ns.length + 1) cap, ns ++ [⟨(-2), 0, 0⟩], HK.out.trans (KeepP.app (by omega) HGA.out HP.out.row HAT.out _), ⟨?_, ?_⟩, .inl ⟨HR.out, ?_⟩⟩
    · rw [heap_set_at HA.out]; rfl
    · have hrow := HOA.out
      rw [show (ns ++ [(⟨(-2), 0, 0⟩ : Cho)]).length = ns.length + 1 by simp, show (ns ++ [(⟨(-2), 0, 0⟩ : Cho)]).flatMap choC = (ns).flatMap choC ++ [.int .i64 (-2), .int .i64 0, .int .i64 0] by rw [List.flatMap_append]; rfl]
      exact rowK_at hrow fun g hg => Below.heap_setCell _ _ _ _ (by have := (hrow.lt g hg).1; show g ≠ B; omega)
    · congr 1; simp
end Go.Proofs.YtflpkkebampmfaaGreatDoor
namespace Go.Proofs.YtflpkkebampmfaaGreatDoor
open Go.RowKit Go.Shelf

theorem idx_cases (s : Byts) : Lib.indexByte s 40 = -1 ∨ ∃ k : Nat, Lib.indexByte s 40 = (k : Int) := by
  have h := Lib.indexByte_ge s 40
  by_cases h1 : Lib.indexByte s 40 = -1
  · exact .inl h1
  · exact .inr ⟨(Lib.indexByte s 40).toNat, by omega⟩

set_option maxRecDepth 100000 in
set_option maxHeartbeats 4000000 in
theorem node_p (B : Nat) (W0 : World) (HE : ∀ u : World, Below B W0 u → HasRng u ∧ HasSyn u) :
    ∀ (f : Nat) (s : Byts) (ns : List Cho) (v : Value) (W : World), s.length < f → ns.length + s.length ≤ 100000 → Below B W0 W → PN W B s v ns →
    Calls Tryz.prog 33 #[.pointer (some ⟨B, 0, none⟩)] W fun e w' => Read f s ns B v W e w' := by
  have HEE := Lib.hid HE
  clear HE
  intro f
  induction f with
  | zero => intro s ns v W h; omega
  | succ f ih =>
    intro s ns v W hsf hsz hbw h
    cases h0 : stripP [120] s with
    | some r => exact node_x f s r ns B v W (by omega) h h0
    | none =>
      cases h1 : stripP [121] s with
      | some r => exact node_y f s r ns B v W (by omega) h h0 h1
      | none =>
        have HIH := Lib.hid ih
        have HX := Lib.hid h0
        have HY := Lib.hid h1
        obtain ⟨av, cv, rfl, _⟩ := rdK_of_row h.row
        obtain ⟨W1, hW1⟩ : ∃ W1, W1 = W.alloc (.cells #[.int .i64 (-1), .int .i64 0, .int .i64 0] 72) := ⟨_, rfl⟩
        have hb1 : Below W.heap.size W W1 := by rw [hW1]; exact (Below.refl _ W).alloc (Nat.le_refl _) _
        have hp1 := h.below hb1
        have hBW := h.lt
        have hc1 : W1.heap[W.heap.size]? = some (.cells #[.int .i64 (-1), .int .i64 0, .int .i64 0] 72 (0, 0)) := by rw [hW1]; exact heap_alloc_new _ _
        have hown : (Value.slice av ns.length cv).ownBlock ≠ some W.heap.size := fun e => by have := (h.row.lt _ e).2; omega
        have HOWN := Lib.hid hown
        have HK1 := Lib.hid (KeepP.of_below (v := Value.slice av ns.length cv) (Nat.le_of_lt hBW) hb1)
        have HP1 := Lib.hid hp1
        have HC1 := Lib.hid hc1
        have HBW := Lib.hid hBW
        have HB0 := Lib.hid hbw
        have HT1 : Hid (Calls Tryz.prog 46 #[.pointer (some ⟨B, 0, none⟩), .string ⟨#[120]⟩] W1 fun e w' => e = .returned (.bool false) ∧ PN w' B s (.slice av ns.length cv) ns ∧ KeepP B (.slice av ns.length cv) (.slice av ns.length cv) W1 w') := Lib.hid (by
          have := take_p [120] s B _ ns W1 hp1
          rw [h0] at this
          exact this)
        have HT2 : Hid (∀ u : World, PN u B s (.slice av ns.length cv) ns → Calls Tryz.prog 46 #[.pointer (some ⟨B, 0, none⟩), .string ⟨#[121]⟩] u fun e w' => e = .returned (.bool false) ∧ PN w' B s (.slice av ns.length cv) ns ∧ KeepP B (.slice av ns.length cv) (.slice av ns.length cv) u w') := Lib.hid (fun u hu => by
          have := take_p [121] s B _ ns u hu
          rw [h1] at this
          exact this)
        have HTC : Hid (∀ (t : Byts) (u : World) (v : Value) (ms : List Cho), PN u B t v ms → Calls Tryz.prog 46 #[.pointer (some ⟨B, 0, none⟩), .string ⟨#[44, 32]⟩] u fun e w' => e = .returned (.bool (stripP [44, 32] t).isSome) ∧ PN w' B ((stripP [44, 32] t).getD t) v ms ∧ KeepP B v v u w') := Lib.hid (fun t u v ms hu => take_p [44, 32] t B v ms u hu)
        have HTE : Hid (∀ (t : Byts) (u : World) (v : Value) (ms : List Cho), PN u B t v ms → Calls Tryz.prog 46 #[.pointer (some ⟨B, 0, none⟩), .string ⟨#[41]⟩] u fun e w' => e = .returned (.bool (stripP [41] t).isSome) ∧ PN w' B ((stripP [41] t).getD t) v ms ∧ KeepP B v v u w') := Lib.hid (fun t u v ms hu => take_p [41] t B v ms u hu)
        have HIX : Hid (∀ u : World, Calls Tryz.prog 47 #[.string (mkB s), .int .u8 40] u fun e w' => e = .returned (.int .i64 (Lib.indexByte s 40)) ∧ w' = u) := Lib.hid (fun u => Tryz.strings_IndexByte (mkB s) 40 u)
        obtain ⟨i0, hi0, hz0, hz1, hz2⟩ := info_parts Tryz.infoCho
        clear h h0 h1 hb1 hp1 hc1 hown hBW ih hbw
        go_enter Tryz.func33, Tryz.ntmps33
        go_wp2_with fail
        rw [← hW1]
        with_reducible refine HT1.out.mono ?_
        rintro e w2 ⟨rfl, hp2, hk2⟩
        have hc2 := heap_keepP hk2 HC1.out (by have := HBW.out; omega) HOWN.out
        have q0 := cell_of_row _ _ 0 _ _ _ hc2
        have q1 := frozen_row hc2 0
        have HP2 := Lib.hid hp2
        have HC2 := Lib.hid hc2
        have HK2 := Lib.hid (HK1.out.trans hk2)
        clear hp2 hk2 hc2
        go_wp2_with fail
        clear q0 q1
        obtain ⟨w3, hw3⟩ : ∃ w3, w2.setCell ⟨W.heap.size, 0, none⟩ (.int .i64 (-2)) = w3 := ⟨_, rfl⟩
        have hb3 : Below (B + 1) w2 w3 := by rw [← hw3]; exact (Below.refl _ _).setCell (p := ⟨W.heap.size, 0, none⟩) (by show B + 1 ≤ W.heap.size; exact HBW.out) _
        have hp3 : PN w3 B s (.slice av ns.length cv) ns := by
          rw [← hw3]
          exact ⟨heap_set_other (by have := HBW.out; omega) _ _ HP2.out.blk, rowK_at HP2.out.row fun g hg => Below.heap_setCell _ _ _ _ (by show g ≠ W.heap.size; exact fun e => HOWN.out (e ▸ hg))⟩
        have hc3 : w3.heap[W.heap.size]? = some (.cells #[.int .i64 (-2), .int .i64 0, .int .i64 0] 72 (0, 0)) := by rw [← hw3, heap_set_at HC2.out]; rfl
        have hk3 : KeepP B (.slice av ns.length cv) (.slice av ns.length cv) W w3 := by
          refine ⟨HK2.out.bel.trans (hb3.mono (by omega)), fun k hk hkB hv => ?_, fun g hg => .inl hg⟩
          rw [← hw3, Below.heap_setCell _ _ _ _ (by show k ≠ W.heap.size; omega)]
          exact HK2.out.blk k hk hkB hv
        have HT3 := Lib.hid (HT2.out w3 hp3)
        have HC3 := Lib.hid hc3
        have HK3 := Lib.hid hk3
        rw [hw3]
        clear hb3 hp3 hc3 hk3 hw3 HT1 HT2
        with_reducible refine HT3.out.mono ?_
        rintro e w4 ⟨rfl, hp4, hk4⟩
        have HC4 := Lib.hid (heap_keepP hk4 HC3.out (by have := HBW.out; omega) HOWN.out)
        have HP4 := Lib.hid hp4
        have HK4 := Lib.hid (HK3.out.trans hk4)
        have p0 := cell_of_row _ _ 0 _ _ _ hp4.blk
        obtain ⟨S, hS⟩ : ∃ S, mkB s = S := ⟨_, rfl⟩
        rw [hS] at p0 HIX
        have HS := Lib.hid hS
        clear hp4 hk4 HT3 hS
        go_wp2_with fail
        with_reducible refine (HIX.out w4).mono ?_
        rintro e w5 ⟨rfl, rfl⟩
        rcases idx_cases s with hi | ⟨k, hi⟩
        · have HN := Lib.hid (pn_0 (f := f) (ns := ns) HX.out HY.out (num_nobr hi))
          rw [hi]
          clear hi
          go_wp2_with fail
          go_ret2
          exact ⟨s, _, ns, HK4.out, HP4.out, .inr ⟨HN.out, rfl⟩⟩
        · rw [hi]
          have HI := Lib.hid hi
          have hks := (idx_split hi).1
          have d0 : decide ((k : Int) < 0) = false := decide_eq_false (by omega)
          have hkm : k ≤ S.size := by rw [← HS.out, mkB_size]; omega
          clear hi hks
          go_wp2_with fail
          have HIDX := Lib.hid (idx_split HI.out)
          have hpx : S.extract 0 k = mkB (s.take k) := by rw [← HS.out, mkB_extract]; simp
          have hpd : S.extract (k + 1) S.size = mkB (s.drop (k + 1)) := by
            rw [← HS.out, mkB_extract, mkB_size]
            rw [List.take_of_length_le (by rw [List.length_drop]; omega)]
          have hps : (S.extract 0 k).size ≤ 1000000 := by rw [hpx, mkB_size, List.length_take]; omega
          have HPX := Lib.hid hpx
          have HPD := Lib.hid hpd
          have hbe := HB0.out.trans HK4.out.bel
          obtain ⟨hrng, hsyn⟩ := HEE.out _ hbe
          cases ha : Lib.atoiAll (s.take k)
          · rename_i z
            have HA := Lib.hid (Tryz.strconv_Atoi_ok (S.extract 0 k) (by omega) z (by rw [hpx, mkB_list]; exact ha) w5)
            have HZ := Lib.hid ha
            clear ha hrng hsyn hbe hpx hpd
            with_reducible refine HA.out.mono ?_
            rintro e w6 ⟨rfl, hw6⟩
            have hb6 : Below w5.heap.size w5 w6 := by
              rcases hw6 with rfl | ⟨t, rfl⟩
              · exact Below.refl _ _
              · exact Lib.bytesWorld_below _ _ _
            have HP6 := Lib.hid (HP4.out.below hb6)
            have HK6 := Lib.hid (HK4.out.trans (KeepP.of_below (Nat.le_of_lt HP4.out.lt) hb6))
            have HC6 := Lib.hid (heap_below hb6 HC4.out)
            have p0 := cell_of_row _ _ 0 _ _ _ HP6.out.blk
            have z0 := frozen_row HP6.out.blk 0
            rw [HS.out] at p0
            clear hb6 HA hw6 HP4 HK4 HC4
            by_cases hz0' : z < 0
            · have HN := Lib.hid (pn_0 (f := f) (ns := ns) HX.out HY.out (num_out HI.out HZ.out (.inl hz0')))
              have d1 : decide (z < 0) = true := decide_eq_true hz0'
              clear hz0'
              go_wp2_with fail
              go_quiet (fail)
              go_wp2_with fail
              go_ret2
              exact ⟨s, _, ns, HK6.out.trans (KeepP.of_below (Nat.le_of_lt HP6.out.lt) (below_drewN (Below.refl _ _))), HP6.out.below (below_drewN (Below.refl _ _)), .inr ⟨HN.out, rfl⟩⟩
            have d1 : decide (z < 0) = false := decide_eq_false hz0'
            by_cases hz12 : 12 ≤ z
            · have HN := Lib.hid (pn_0 (f := f) (ns := ns) HX.out HY.out (num_out HI.out HZ.out (.inr hz12)))
              have d2 : decide ((12 : Int) ≤ z) = true := decide_eq_true hz12
              clear hz0' hz12
              go_wp2_with fail
              go_quiet (fail)
              go_wp2_with fail
              go_ret2
              exact ⟨s, _, ns, HK6.out.trans (KeepP.of_below (Nat.le_of_lt HP6.out.lt) (below_drewN (Below.refl _ _))), HP6.out.below (below_drewN (Below.refl _ _)), .inr ⟨HN.out, rfl⟩⟩
            have d2 : decide ((12 : Int) ≤ z) = false := decide_eq_false hz12
            obtain ⟨n, rfl⟩ := Int.eq_ofNat_of_zero_le (show 0 ≤ z by omega)
            have HN12 : Hid (n < 12) := Lib.hid (by omega)
            have HIT := Lib.hid (fun u => Tryz.strconv_Itoa_small n (by omega) u)
            obtain ⟨D, hD⟩ : ∃ D : ByteArray, (⟨(Lib.decDigits n).toArray⟩ : ByteArray) = D := ⟨_, rfl⟩
            rw [hD] at HIT
            obtain ⟨X, hX⟩ : ∃ X, S.extract 0 k = X := ⟨_, rfl⟩
            have HDX : Hid (Lib.decDigits n = s.take k ↔ D = X) := Lib.hid (by
              rw [← hX, HPX.out, ← hD]
              constructor
              · intro e; rw [e]; rfl
              · intro e; exact congrArg (fun b : ByteArray => b.data.toList) e)
            have HXX := Lib.hid hX
            clear hz0' hz12 hD
            by_cases hdx : D = X
            · have HNP := Lib.hid (num_yes HI.out HN12.out (HDX.out.2 hdx))
              have e1 : (D.toList == (S.extract 0 k).toList) = true := by rw [hX, hdx]; exact bs_same _
              have hwr : wrap64 ((k : Int) + 1) = (k : Int) + 1 := by have := HIDX.out.1; unfold wrap64; omega
              have hkm1 : (k : Int) + 1 ≤ (S.size : Int) := by have := HIDX.out.1; rw [← HS.out, mkB_size]; omega
              have hkm0 : (0 : Int) ≤ (k : Int) + 1 := by omega
              clear hdx hX
              go_wp2_with fail
              go_quiet ((go_at_call 49; exact Calls.quiet_of_same (HIT.out _)))
              go_wp2_with fail
              rw [HPD.out]
              generalize hw7 : (w6.drewN _).setCell _ _ = w7
              have hp7 : PN w7 B (s.drop (k + 1)) (.slice av ns.length cv) ns := by
                rw [← hw7]; exact (HP6.out.below (below_drewN (Below.refl _ _))).put _
              have hk7 : KeepP B (.slice av ns.length cv) (.slice av ns.length cv) W w7 := by
                rw [← hw7]
                exact (HK6.out.trans (KeepP.of_below (Nat.le_of_lt HP6.out.lt) (below_drewN (Below.refl _ _)))).trans (KeepP.put _ _ _)
              have hrl : (s.drop (k + 1)).length + 2 ≤ s.length := num_len HNP.out
              have HI1 := Lib.hid (HIH.out (s.drop (k + 1)) ns _ w7 (by omega) (by omega) (HB0.out.trans hk7.bel) hp7)
              have HC7 : Hid (w7.heap[W.heap.size]? = some (.cells #[.int .i64 (-2), .int .i64 0, .int .i64 0] 72 (0, 0))) := Lib.hid (by
                rw [← hw7]; exact heap_set_other (by have := HBW.out; omega) _ _ (heap_below (below_drewN (Below.refl _ _)) HC6.out))
              have HK7 := Lib.hid hk7
              have HRL := Lib.hid hrl
              obtain ⟨r1, hr1⟩ : ∃ r, s.drop (k + 1) = r := ⟨_, rfl⟩
              rw [hr1] at HI1 HRL
              rw [hr1] at HNP
              clear hw7 hp7 hk7 hr1 HC6 HP6 HK6 e1 hwr hkm1 hkm0 hrl p0 z0
              with_reducible refine HI1.out.mono ?_
              rintro e w8 ⟨r2, v2, n2, hk8, hp8, hres⟩
              have HC8 := Lib.hid (heap_keepP hk8 HC7.out (by have := HBW.out; omega) HOWN.out)
              have hk9 := HK7.out.trans hk8
              have hown2 : v2.ownBlock ≠ some W.heap.size := fun e => by
                rcases hk8.own _ e with h1 | h1
                · exact HOWN.out h1
                · have := (Array.getElem?_eq_some_iff.1 HC7.out).1; omega
              have HP8 := Lib.hid hp8
              have HK9 := Lib.hid hk9
              have HOWN2 := Lib.hid hown2
              clear hk8 hp8 hk9 hown2 HC7 HK7
              rcases hres with ⟨hpn, rfl⟩ | ⟨hpn, rfl⟩
              · have hpl := pn_len _ _ _ _ _ hpn
                have HPN1 := Lib.hid hpn
                have HPL1 := Lib.hid hpl
                have HTC1 := Lib.hid (HTC.out r2 w8 v2 n2 HP8.out)
                clear hpn hpl
                cases hq4 : stripP [44, 32] r2 with
                | none =>
                  have HN := Lib.hid (pn_2 (f := f) (ns := ns) HX.out HY.out HNP.out HPN1.out hq4)
                  rw [hq4] at HTC1
                  have HTC2 : Hid (Calls Tryz.prog 46 #[.pointer (some ⟨B, 0, none⟩), .string ⟨#[44, 32]⟩] w8 fun e w' => e = .returned (.bool false) ∧ PN w' B r2 v2 n2 ∧ KeepP B v2 v2 w8 w') := HTC1
                  clear hq4 HTC1
                  go_wp2_with fail
                  with_reducible refine HTC2.out.mono ?_
                  rintro e w9 ⟨rfl, hp9, hk9⟩
                  have HP9 := Lib.hid hp9
                  have HK10 := Lib.hid (HK9.out.trans hk9)
                  clear hp9 hk9
                  go_wp2_with fail
                  go_ret2
                  exact ⟨r2, v2, n2, HK10.out, HP9.out, .inr ⟨HN.out, rfl⟩⟩
                | some r3 =>
                  rw [hq4] at HTC1
                  have HTC2 : Hid (Calls Tryz.prog 46 #[.pointer (some ⟨B, 0, none⟩), .string ⟨#[44, 32]⟩] w8 fun e w' => e = .returned (.bool true) ∧ PN w' B r3 v2 n2 ∧ KeepP B v2 v2 w8 w') := HTC1
                  have HQ4 := Lib.hid hq4
                  have hl3 := strip_len hq4
                  have HL3 := Lib.hid hl3
                  clear hq4 HTC1 hl3
                  go_wp2_with fail
                  with_reducible refine HTC2.out.mono ?_
                  rintro e w9 ⟨rfl, hp9, hk9⟩
                  have HI2 := Lib.hid (HIH.out r3 n2 v2 w9 (by have h1 := HL3.out; have h2 := HPL1.out; have h3 := HRL.out; simp at h1; omega) (by have h1 := HL3.out; have h2 := HPL1.out; have h3 := HRL.out; simp at h1; omega) (HB0.out.trans (HK9.out.trans hk9).bel) hp9)
                  have HC9 := Lib.hid (heap_keepP hk9 HC8.out (by have := HBW.out; omega) HOWN2.out)
                  have HK10 := Lib.hid (HK9.out.trans hk9)
                  clear hp9 hk9 HC8 HK9 HP8
                  go_wp2_with fail
                  with_reducible refine HI2.out.mono ?_
                  rintro e w12 ⟨r4, v4, n4, hk12, hp12, hres⟩
                  have HC12 := Lib.hid (heap_keepP hk12 HC9.out (by have := HBW.out; omega) HOWN2.out)
                  have hown4 : v4.ownBlock ≠ some W.heap.size := fun e => by
                    rcases hk12.own _ e with h1 | h1
                    · exact HOWN2.out h1
                    · have := (Array.getElem?_eq_some_iff.1 HC9.out).1; omega
                  have HP12 := Lib.hid hp12
                  have HK12 := Lib.hid (HK10.out.trans hk12)
                  have HOWN4 := Lib.hid hown4
                  clear hk12 hp12 hown4 HC9 HK10
                  rcases hres with ⟨hpn, rfl⟩ | ⟨hpn, rfl⟩
                  · have hpl := pn_len _ _ _ _ _ hpn
                    have HPN2 := Lib.hid hpn
                    have HPL2 := Lib.hid hpl
                    have HTE1 := Lib.hid (HTE.out r4 w12 v4 n4 HP12.out)
                    clear hpn hpl
                    cases hq6 : stripP [41] r4 with
                    | none =>
                      have HN := Lib.hid (pn_4 (f := f) (ns := ns) HX.out HY.out HNP.out HPN1.out HQ4.out HPN2.out hq6)
                      rw [hq6] at HTE1
                      have HTE2 : Hid (Calls Tryz.prog 46 #[.pointer (some ⟨B, 0, none⟩), .string ⟨#[41]⟩] w12 fun e w' => e = .returned (.bool false) ∧ PN w' B r4 v4 n4 ∧ KeepP B v4 v4 w12 w') := HTE1
                      clear hq6 HTE1
                      go_wp2_with fail
                      with_reducible refine HTE2.out.mono ?_
                      rintro e w9 ⟨rfl, hp9, hk9⟩
                      have HP9 := Lib.hid hp9
                      have HK10 := Lib.hid (HK12.out.trans hk9)
                      clear hp9 hk9
                      go_wp2_with fail
                      go_ret2
                      exact ⟨r4, v4, n4, HK10.out, HP9.out, .inr ⟨HN.out, rfl⟩⟩
                    | some r5 =>
                      have HR := Lib.hid (pn_5 (f := f) (ns := ns) HX.out HY.out HNP.out HPN1.out HQ4.out HPN2.out hq6)
                      rw [hq6] at HTE1
                      have HTE2 : Hid (Calls Tryz.prog 46 #[.pointer (some ⟨B, 0, none⟩), .string ⟨#[41]⟩] w12 fun e w' => e = .returned (.bool true) ∧ PN w' B r5 v4 n4 ∧ KeepP B v4 v4 w12 w') := HTE1
                      have hn4 : n4.length ≤ 100000 := by have h1 := HL3.out; have h2 := HPL1.out; have h3 := HPL2.out; have h4 := HRL.out; simp at h1; omega
                      clear hq6 HTE1
                      go_wp2_with fail
                      with_reducible refine HTE2.out.mono ?_
                      rintro e w14 ⟨rfl, hp14, hk14⟩
                      have HC14 := Lib.hid (heap_keepP hk14 HC12.out (by have := HBW.out; omega) HOWN4.out)
                      have HP14 := Lib.hid hp14
                      have HK14 := Lib.hid (HK12.out.trans hk14)
                      clear hp14 hk14 HC12 HK12
                      have q0 := cell_of_row _ _ 0 _ _ _ HC14.out
                      have q1 := cell_of_row _ _ 1 _ _ _ HC14.out
                      have q2 := cell_of_row _ _ 2 _ _ _ HC14.out
                      have y0 := frozen_row HC14.out 0
                      have y1 := frozen_row HC14.out 1
                      have y2 := frozen_row HC14.out 2
                      obtain ⟨a4, c4, rfl, _⟩ := rdK_of_row HP14.out.row
                      go_wp2_with fail
                      clear q0 q1 q2 y0 y1 y2
                      generalize hw16 : ((w14.setCell _ _).setCell _ _).setCell _ _ = w16
                      have HC : Hid (w16.heap[W.heap.size]? = some (.cells #[.int .i64 n, .int .i64 ((n2.length - 1 : Nat) : Int), .int .i64 ((n4.length - 1 : Nat) : Int)] 72 (0, 0))) := Lib.hid (by
                        rw [← hw16]; exact heap_set_at (heap_set_at (heap_set_at HC14.out 0 _) 1 _) 2 _)
                      have HP : Hid (PN w16 B r5 (.slice a4 n4.length c4) n4) := Lib.hid (by
                        rw [← hw16]
                        refine ⟨heap_set_other (by have := HBW.out; omega) _ _ (heap_set_other (by have := HBW.out; omega) _ _ (heap_set_other (by have := HBW.out; omega) _ _ HP14.out.blk)), rowK_at HP14.out.row fun g hg => ?_⟩
                        have hgw : g ≠ W.heap.size := fun e => HOWN4.out (e ▸ hg)
                        rw [Below.heap_setCell _ _ _ _ (by exact hgw), Below.heap_setCell _ _ _ _ (by exact hgw), Below.heap_setCell _ _ _ _ (by exact hgw)])
                      have HK : Hid (KeepP B (.slice av ns.length cv) (.slice a4 n4.length c4) W w16) := Lib.hid (by
                        have hk := HK14.out
                        refine ⟨?_, fun k hk2 hkB hv => ?_, hk.own⟩
                        · rw [← hw16]
                          exact ((hk.bel.setCell (p := ⟨W.heap.size, 0, none⟩) (by have := HBW.out; show B ≤ W.heap.size; omega) _).setCell (p := ⟨W.heap.size, 1, none⟩) (by have := HBW.out; show B ≤ W.heap.size; omega) _).setCell (p := ⟨W.heap.size, 2, none⟩) (by have := HBW.out; show B ≤ W.heap.size; omega) _
                        · rw [← hw16, Below.heap_setCell _ _ _ _ (by show k ≠ W.heap.size; omega), Below.heap_setCell _ _ _ _ (by show k ≠ W.heap.size; omega), Below.heap_setCell _ _ _ _ (by show k ≠ W.heap.size; omega)]
                          exact hk.blk k hk2 hkB hv)
                      clear hw16
                      have p1 := cell_of_row _ _ 1 _ _ _ HP.out.blk
                      have z1 := frozen_row HP.out.blk 1
                      have a0 := cell_of_row _ _ 0 _ _ _ HC.out
                      have a1 := cell_of_row _ _ 1 _ _ _ HC.out
                      have a2 := cell_of_row _ _ 2 _ _ _ HC.out
                      have p1b : (w16.alloc (Obj.cells #[.int .i64 n, .int .i64 ((n2.length - 1 : Nat) : Int), .int .i64 ((n4.length - 1 : Nat) : Int)] 72)).cell? ⟨B, 1, none⟩ = some (.slice a4 n4.length c4) := cell_of_row _ _ 1 _ _ _ (heap_alloc_at HP.out.blk _)
                      have hBs := HP.out.lt
                      have KA : Hid (∀ x y : World, x.grownBy y (Value.slice a4 n4.length c4).ownBlock → x.heap[B]? = w16.heap[B]? → w16.heap.size ≤ x.heap.size → y.heap[B]? = some (.cells #[.string (mkB r5), .slice a4 n4.length c4] 80 (0, 0))) := Lib.hid (fun x y hg hx hsx => by
                        rw [hg.block B (by have := HP.out.lt; omega) (fun e => by have := (HP.out.row.lt B e.symm).1; omega), hx]
                        exact HP.out.blk)
                      go_region_law (first
                        | (refine step_append_lies _ (by rfl) _ _ _ (by rfl) (B + 1) 72 i0 _ 3 24 Tryz.underlying36 hi0 hz0 hz1 hz2 rfl (by omega) (.slice a4 n4.length c4) n4.length _ (by rfl) ((HP.out.row.alloc _).drew) ⟨w16.heap.size, 0, none⟩ 1 1 [.int .i64 n, .int .i64 ((n2.length - 1 : Nat) : Int), .int .i64 ((n4.length - 1 : Nat) : Int)] (by rfl) (by rfl) (World.news_of_block (cs := #[.int .i64 n, .int .i64 ((n2.length - 1 : Nat) : Int), .int .i64 ((n4.length - 1 : Nat) : Int)]) (t := 72) (fr := (0, 0)) (heap_alloc_new w16 _)) (by simp [Value.oneCell']) (by omega) (by unfold maxLen; omega) (by omega) (by simp; omega) (w16.heap.size + 1) (by simp) ?_; intro gg cap wA hownA hgrow hat hlt; have hA := KA.out _ _ hgrow (Below.heap_alloc w16 _ B (by omega)) (by simp); have pA := cell_of_row _ _ 1 _ _ _ hA; have zA := frozen_row hA 1; have HA := Lib.hid hA; have HOA := Lib.hid hownA; have HGA := Lib.hid hgrow; have HAT := Lib.hid hat; clear hA hownA hgrow hat))
                      all_goals
                        go_wp2_with fail
                        go_ret2
                        refine ⟨r5, .slice (some ⟨gg, 0, none⟩) (n4.length + 1) cap, n4 ++ [⟨n, ((n2.length - 1 : Nat) : Int), ((n4.length - 1 : Nat) : Int)⟩], HK.out.trans (KeepP.app (by omega) HGA.out HP.out.row HAT.out _), ⟨?_, ?_⟩, .inl ⟨HR.out, ?_⟩⟩
                        · rw [heap_set_at HA.out]; rfl
                        · have hrow := HOA.out
                          rw [show (n4 ++ [(⟨n, ((n2.length - 1 : Nat) : Int), ((n4.length - 1 : Nat) : Int)⟩ : Cho)]).length = n4.length + 1 by simp, show (n4 ++ [(⟨n, ((n2.length - 1 : Nat) : Int), ((n4.length - 1 : Nat) : Int)⟩ : Cho)]).flatMap choC = (n4).flatMap choC ++ [.int .i64 n, .int .i64 ((n2.length - 1 : Nat) : Int), .int .i64 ((n4.length - 1 : Nat) : Int)] by rw [List.flatMap_append]; rfl]
                          exact rowK_at hrow fun g hg => Below.heap_setCell _ _ _ _ (by have := (hrow.lt g hg).1; show g ≠ B; omega)
                        · congr 1; simp
                  · have HN := Lib.hid (pn_3 (f := f) (ns := ns) HX.out HY.out HNP.out HPN1.out HQ4.out hpn)
                    clear hpn
                    go_wp2_with fail
                    go_ret2
                    exact ⟨r4, v4, n4, HK12.out, HP12.out, .inr ⟨HN.out, rfl⟩⟩
              · have HN := Lib.hid (pn_1 (f := f) (ns := ns) HX.out HY.out HNP.out hpn)
                clear hpn
                go_wp2_with fail
                go_ret2
                exact ⟨r2, v2, n2, HK9.out, HP8.out, .inr ⟨HN.out, rfl⟩⟩
            · have HN := Lib.hid (pn_0 (f := f) (ns := ns) HX.out HY.out (num_other HI.out HZ.out (fun e => hdx (HDX.out.1 e))))
              have e1 : (D.toList == (S.extract 0 k).toList) = false := by rw [hX]; exact bs_diff hdx
              clear hdx hX
              go_wp2_with fail
              go_quiet ((go_at_call 49; exact Calls.quiet_of_same (HIT.out _)))
              go_wp2_with fail
              go_ret2
              exact ⟨s, _, ns, HK6.out.trans (KeepP.of_below (Nat.le_of_lt HP6.out.lt) (below_drewN (Below.refl _ _))), HP6.out.below (below_drewN (Below.refl _ _)), .inr ⟨HN.out, rfl⟩⟩
          · have HN := Lib.hid (pn_0 (f := f) (ns := ns) HX.out HY.out (num_err HI.out (fun v e => by rw [ha] at e; cases e)))
            obtain ⟨ev, hev1, hev2⟩ := hsyn
            have HA := Lib.hid (Tryz.strconv_Atoi_syntax (S.extract 0 k) (by omega) (by rw [hpx, mkB_list]; exact ha) ev w5 hev1 hev2)
            clear ha hev1 hev2 hrng hbe hpx hpd
            with_reducible refine HA.out.mono ?_
            rintro e w6 ⟨N, rfl, _, _, hb6⟩
            have HB6 := Lib.hid hb6
            clear hb6 HA p0
            go_wp2_with fail
            go_quiet (fail)
            go_wp2_with fail
            go_ret2
            exact ⟨s, _, ns, HK4.out.trans (KeepP.of_below (Nat.le_of_lt HP4.out.lt) (below_drewN HB6.out)), HP4.out.below (below_drewN HB6.out), .inr ⟨HN.out, rfl⟩⟩
          · have HN := Lib.hid (pn_0 (f := f) (ns := ns) HX.out HY.out (num_err HI.out (fun v e => by rw [ha] at e; cases e)))
            obtain ⟨ev, hev1, hev2⟩ := hrng
            have HA := Lib.hid (Tryz.strconv_Atoi_range (S.extract 0 k) (by omega) (by rw [hpx, mkB_list]; exact ha) ev w5 hev1 hev2)
            clear ha hev1 hev2 hsyn hbe hpx hpd
            with_reducible refine HA.out.mono ?_
            rintro e w6 ⟨N, rfl, _, _, hb6⟩
            have HB6 := Lib.hid hb6
            clear hb6 HA p0
            go_wp2_with fail
            go_quiet (fail)
            go_wp2_with fail
            go_ret2
            exact ⟨s, _, ns, HK4.out.trans (KeepP.of_below (Nat.le_of_lt HP4.out.lt) (below_drewN HB6.out)), HP4.out.below (below_drewN HB6.out), .inr ⟨HN.out, rfl⟩⟩
end Go.Proofs.YtflpkkebampmfaaGreatDoor
namespace Go.Proofs.YtflpkkebampmfaaGreatDoor
open Go.RowKit Go.Shelf

theorem parC_hit {s : Byts} {ns : List Cho} (h : pnode (s.length + 1) s [] = some ([], ns)) (hl : ns.length ≤ 8191) : parC s = (⟨ns, ((ns.length - 1 : Nat) : Int)⟩, 0) := by unfold parC; rw [h]; simp only; rw [if_pos hl]
theorem parC_rest {s r : Byts} {ns : List Cho} (h : pnode (s.length + 1) s [] = some (r, ns)) (hr : r ≠ []) : parC s = (⟨[], 0⟩, 2) := by
  unfold parC; rw [h]
  cases r with
  | nil => exact absurd rfl hr
  | cons c r => rfl
theorem parC_none {s : Byts} (h : pnode (s.length + 1) s [] = none) : parC s = (⟨[], 0⟩, 2) := by unfold parC; rw [h]

set_option maxRecDepth 100000 in
set_option maxHeartbeats 4000000 in
theorem parse_c (s : Byts) (hs : s.length ≤ 1000) (w : World) (hr : HasRng w) (hy : HasSyn w) :
    Calls Tryz.prog 15 #[.string (mkB s)] w fun e w' => ∃ a c, e = .returned (.tuple #[treV a (parC s).1.nodes.length c (parC s).1.root, .int .i64 (parC s).2]) ∧ TM w' a (parC s).1.nodes.length c (parC s).1.nodes ∧ Below w.heap.size w w' := by
  obtain ⟨R, hR⟩ : ∃ R, parC s = R := ⟨_, rfl⟩
  rw [hR]
  have HR := Lib.hid hR
  clear hR
  obtain ⟨W3, hW3⟩ : ∃ W3, W3 = w.alloc (.cells #[.slice none 0 0, .int .i64 0] 38) := ⟨_, rfl⟩
  obtain ⟨S, hS⟩ : ∃ S, mkB s = S := ⟨_, rfl⟩
  obtain ⟨W4, hW4⟩ : ∃ W4, W4 = W3.alloc (.cells #[.string S, .slice none 0 0] 80) := ⟨_, rfl⟩
  have hs3 : W3.heap.size = w.heap.size + 1 := by rw [hW3]; simp
  have hb3 : Below w.heap.size w W3 := by rw [hW3]; exact (Below.refl _ w).alloc (Nat.le_refl _) _
  have hb4 : Below W3.heap.size W3 W4 := by rw [hW4]; exact (Below.refl _ _).alloc (Nat.le_refl _) _
  have g3 : W3.heap[w.heap.size]? = some (.cells #[.slice none 0 0, .int .i64 0] 38 (0, 0)) := by rw [hW3]; exact heap_alloc_new _ _
  have g4 := heap_below hb4 g3
  have hpn : PN W4 (w.heap.size + 1) s (.slice none 0 0) [] := ⟨by rw [hW4, ← hs3, hS]; exact heap_alloc_new _ _, World.ownsRow_nil _ _ _ _⟩
  have hbw := Below.next hb3 hb4
  have hnode := node_p (w.heap.size + 1) W4 (fun u hu => by
    have hb : Below w.heap.size w u := hbw.trans (hu.mono (by omega))
    exact ⟨hr.below hb, hy.below hb⟩) (s.length + 1) s [] (.slice none 0 0) W4 (by omega) (by simp; omega) (Below.refl _ _) hpn
  have HND := Lib.hid hnode
  have HG4 := Lib.hid g4
  have HBW := Lib.hid hbw
  clear hnode hpn hbw g4 g3 hb4 hb3 hr hy
  rw [hS]
  go_enter Tryz.func15, Tryz.ntmps15
  go_wp2_with fail
  rw [← hW3, ← hW4]
  with_reducible refine HND.out.mono ?_
  rintro e w6 ⟨r, v6, ns6, hk6, hp6, hres⟩
  have hg6 : w6.heap[w.heap.size]? = some (.cells #[.slice none 0 0, .int .i64 0] 38 (0, 0)) := (hk6.bel.block _ (by omega)).trans HG4.out
  have HG6 := Lib.hid hg6
  have t0 := cell_of_row _ _ 0 _ _ _ hg6
  have t1 := cell_of_row _ _ 1 _ _ _ hg6
  have z0 := frozen_row hg6 0
  have z1 := frozen_row hg6 1
  have HB6 := Lib.hid (HBW.out.trans (hk6.bel.mono (by omega)))
  have q0 := cell_of_row _ _ 0 _ _ _ hp6.blk
  have q1 := cell_of_row _ _ 1 _ _ _ hp6.blk
  have HP6 := Lib.hid hp6
  clear hk6 hg6 hp6 HND hW3 hW4 HG4
  rcases hres with ⟨hpq, rfl⟩ | ⟨hpq, rfl⟩
  · obtain ⟨a6, c6, rfl, hr6⟩ := rdK_of_row HP6.out.row
    have hpl := pn_len _ _ _ _ _ hpq
    have hln : ns6.length ≤ 1000 := by have := hpl.2.1; simp at this; omega
    have d1 : decide ((8191 : Int) < (ns6.length : Int)) = false := decide_eq_false (by omega)
    by_cases hr0 : r = []
    · subst hr0
      have HPV : Hid (R = (⟨ns6, ((ns6.length - 1 : Nat) : Int)⟩, 0)) := HR.out.symm.trans (parC_hit hpq (by omega))
      have e1 : (mkB []).toList.isEmpty = true := by rw [ByteArray.toList_eq]; rfl
      obtain ⟨X, hX⟩ : ∃ X, mkB [] = X := ⟨_, rfl⟩
      rw [hX] at e1 q0
      have HR6 := Lib.hid hr6
      obtain ⟨rt, hrt⟩ : ∃ rt : Int, ((ns6.length - 1 : Nat) : Int) = rt := ⟨_, rfl⟩
      rw [hrt] at HPV ⊢
      obtain ⟨m6, hm6⟩ : ∃ m, ns6.length = m := ⟨_, rfl⟩
      have HM := Lib.hid hm6
      rw [hm6] at q1 d1
      clear hpq hpl hr6 hX hrt hm6
      go_wp2_with fail
      clear t0 t1 z0 z1
      generalize hWF : (w6.setCell _ _).setCell _ _ = WF
      have e1 : WF.heap[w.heap.size]? = some (.cells #[.slice a6 m6 c6, .int .i64 rt] 38 (0, 0)) := by
        rw [← hWF]; exact heap_set_at (heap_set_at HG6.out 0 _) 1 _
      have HBF : Hid (Below w.heap.size w WF) := Lib.hid (by
        rw [← hWF]
        exact (HB6.out.setCell (p := ⟨w.heap.size, 0, none⟩) (Nat.le_refl _) _).setCell (p := ⟨w.heap.size, 1, none⟩) (Nat.le_refl _) _)
      have hrow : WF.ownsRow (w.heap.size + 1 + 1) 72 3 (.slice a6 ns6.length c6) ns6.length (ns6.flatMap choC) := by
        rw [← hWF]
        refine rowK_at HP6.out.row fun g hg => ?_
        have hgl := (HP6.out.row.lt g hg).1
        rw [Below.heap_setCell _ _ _ _ (by show g ≠ w.heap.size; omega), Below.heap_setCell _ _ _ _ (by show g ≠ w.heap.size; omega)]
      obtain ⟨a', c', hv, hr'⟩ := rdK_of_row hrow
      cases hv
      have f0 := cell_of_row _ _ 0 _ _ _ e1
      have f1 := cell_of_row _ _ 1 _ _ _ e1
      have hR2 := HPV.out
      have hm := HM.out
      clear hWF e1 hrow
      subst hR2
      subst hm
      refine bodyPost_ret (v := .tuple #[.agg #[.slice a6 ns6.length c6, .int .i64 rt], .int .i64 0]) ?_ rfl ⟨a6, c6, rfl, hr', HBF.out⟩
      rw [results_cell_tmp rfl]
      go_simp
    · have HPV : Hid (R = (⟨[], 0⟩, 2)) := HR.out.symm.trans (parC_rest hpq hr0)
      have e1 : (mkB r).toList.isEmpty = false := by rw [ByteArray.toList_eq, mkB_list, List.isEmpty_eq_false_iff]; exact hr0
      obtain ⟨X, hX⟩ : ∃ X, mkB r = X := ⟨_, rfl⟩
      rw [hX] at e1 q0
      clear hpq hpl hr6 hX hr0 d1
      go_wp2_with fail
      clear t0 t1 z0 z1
      generalize hWF : (w6.setCell _ _).setCell _ _ = WF
      have e1 : WF.heap[w.heap.size]? = some (.cells #[.slice none 0 0, .int .i64 0] 38 (0, 0)) := by
        rw [← hWF]; exact heap_set_at (heap_set_at HG6.out 0 _) 1 _
      have HBF : Hid (Below w.heap.size w WF) := Lib.hid (by
        rw [← hWF]
        exact (HB6.out.setCell (p := ⟨w.heap.size, 0, none⟩) (Nat.le_refl _) _).setCell (p := ⟨w.heap.size, 1, none⟩) (Nat.le_refl _) _)
      have f0 := cell_of_row _ _ 0 _ _ _ e1
      have f1 := cell_of_row _ _ 1 _ _ _ e1
      have hR2 := HPV.out
      clear hWF e1
      subst hR2
      refine bodyPost_ret (v := .tuple #[.agg #[.slice none 0 0, .int .i64 0], .int .i64 2]) ?_ rfl ⟨none, 0, rfl, RdK.none_ 3 _, HBF.out⟩
      rw [results_cell_tmp rfl]
      go_simp
  · have HPV : Hid (R = (⟨[], 0⟩, 2)) := HR.out.symm.trans (parC_none hpq)
    clear hpq q0 q1
    go_wp2_with fail
    clear t0 t1 z0 z1
    generalize hWF : (w6.setCell _ _).setCell _ _ = WF
    have e1 : WF.heap[w.heap.size]? = some (.cells #[.slice none 0 0, .int .i64 0] 38 (0, 0)) := by
      rw [← hWF]; exact heap_set_at (heap_set_at HG6.out 0 _) 1 _
    have HBF : Hid (Below w.heap.size w WF) := Lib.hid (by
      rw [← hWF]
      exact (HB6.out.setCell (p := ⟨w.heap.size, 0, none⟩) (Nat.le_refl _) _).setCell (p := ⟨w.heap.size, 1, none⟩) (Nat.le_refl _) _)
    have f0 := cell_of_row _ _ 0 _ _ _ e1
    have f1 := cell_of_row _ _ 1 _ _ _ e1
    have hR2 := HPV.out
    clear hWF e1
    subst hR2
    refine bodyPost_ret (v := .tuple #[.agg #[.slice none 0 0, .int .i64 0], .int .i64 2]) ?_ rfl ⟨none, 0, rfl, RdK.none_ 3 _, HBF.out⟩
    rw [results_cell_tmp rfl]
    go_simp

set_option maxHeartbeats 1000000 in
theorem size_c (a : Option Addr) (n c : Nat) (r : Int) (w : World) :
    Calls Tryz.prog 13 #[.agg #[.slice a n c, .int .i64 r]] w fun e w' => e = .returned (.int .i64 n) ∧ Below w.heap.size w w' := by
  go_enter Tryz.func13, Tryz.ntmps13
  go_wp2_with fail
  go_ret
  exact ⟨rfl, (Below.refl _ w).alloc (Nat.le_refl _) _⟩
end Go.Proofs.YtflpkkebampmfaaGreatDoor
