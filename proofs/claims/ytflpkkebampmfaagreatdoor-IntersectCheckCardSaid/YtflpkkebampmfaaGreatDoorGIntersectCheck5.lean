/- Texts laid together. The prover's search. A region that draws its order: some operations that only read are taken first; the rest is walked by hand. Over any program. intersect.Prove. Layer 20, plain: the texts of trees. No program. Layer 20, plain: reading a tree's text, step by step. No program. Contracts of Go's library over this seat's dump: laid by the kit's shelf tools (plain mode), cut down to those that are used. -/
import Derived.Test.YtflpkkebampmfaaGreatDoorGIntersectCheck1
import Derived.Test.YtflpkkebampmfaaGreatDoorGIntersectCheck3
import Derived.Test.YtflpkkebampmfaaGreatDoorGIntersectCheck4
import Derived.Test.YtflpkkebampmfaaGreatDoorProg
import Derived.OrdersHeld
import Derived.Deep.RegionHeld
import Derived.Deep.RegionHeld3
import Derived.Lib.ItoaNum
import Derived.Lib.AtoiAll
import Derived.Lib.IndexLaws
import Derived.Shelf.Small.Strs
import Derived.Shelf.Small.Wraps
import Derived.Shelf.Strconv.Atoi
import Derived.Shelf.Strconv.Itoa0
import Derived.Shelf.Strconv.Itoa1
import Derived.Shelf.LaysM
import Derived.Shelf.Strconv.Itoa2
import Derived.Shelf.Strconv.Itoa3
import Derived.Shelf.Strconv.AtoiErrFast
import Derived.Shelf.Strconv.ParseIntEmpty
import Derived.Shelf.Strconv.AtoiFail
import Derived.Shelf.Strconv.Clone
import Derived.Shelf.Strconv.SyntaxError
import Derived.Shelf.LaysC
import Derived.Shelf.Strconv.ToError
import Derived.Shelf.Strconv.Lower
import Derived.Shelf.Strconv.ParseUint10
import Derived.Shelf.Strconv.ParseUint10Empty
import Derived.Shelf.Strconv.ParseUint10Any
import Derived.Shelf.Strconv.ParseInt10
import Derived.Shelf.Strconv.AtoiLong
import Derived.Shelf.Strconv.AtoiInnerAll
import Derived.Shelf.Strconv.RangeError
import Derived.Shelf.Strconv.ToErrorRange
import Derived.Shelf.Strconv.AtoiAll
import Derived.Shelf.Strings.Search1
import Derived.Shelf.Strings.Prefix
import Derived.Ground.Names2Prog
import Derived.Shelf.Slices.SearchI
namespace Go.Proofs.YtflpkkebampmfaaGreatDoor
open Go.RowKit Go.Shelf

@[go_sem] theorem bv16_full (x : BitVec 16) : bits .andNot .u16 4095 (U x) = U (4095#16 &&& ~~~x) := bv16_andNot_l 4095 (by decide) x
/-- without the least member -/
theorem memS_drop {x : BitVec 16} {i : Nat} {l : List Nat} (h : memS x = i :: l) : memS (x &&& ~~~bitS i) = l := by
  have hso := memS_sorted x
  rw [h] at hso
  have h16 : i < 16 := hasB_lt (mem_memS.1 (by rw [h]; simp))
  refine ext_sorted (fun y => y) _ _ (memS_sorted _) (List.pairwise_cons.1 hso).2 fun p => ?_
  rw [mem_memS, hasB_and, Bool.and_eq_true]
  constructor
  · rintro ⟨h1, h2⟩
    have hm := mem_memS.2 h1
    rw [h] at hm
    rcases List.mem_cons.1 hm with e | e
    · subst e
      rw [hasB_not _ _ h16, hasB_bit _ _ h16] at h2
      simp at h2
    · exact e
  · intro hp
    have hm : p ∈ memS x := by rw [h]; exact List.mem_cons_of_mem _ hp
    have h1 := mem_memS.1 hm
    have hne : p ≠ i := by have := (List.pairwise_cons.1 hso).1 p hp; omega
    refine ⟨h1, ?_⟩
    rw [hasB_not _ _ (hasB_lt h1), hasB_bit _ _ h16]
    simp [hne]
theorem all_lt (b : BitVec 16) : (4095#16 &&& ~~~b).toNat < 4096 := by
  rw [BitVec.toNat_and]
  exact Nat.lt_of_le_of_lt Nat.and_le_left (by decide)
theorem proveL_x {x y : Xpr} {l : List Nat} {a b : BitVec 16} (h : holdX x (4095#16 &&& ~~~b) = false) : proveL x y l a b = some .fx := by
  have h' : holdX x (allV &&& ~~~b) = false := h
  cases l <;> (unfold proveL; rw [if_pos h'])
theorem proveL_y {x y : Xpr} {l : List Nat} {a b : BitVec 16} (h : holdX x (4095#16 &&& ~~~b) = true) (h2 : holdX y (4095#16 &&& ~~~a) = false) : proveL x y l a b = some .fy := by
  have h' : ¬ holdX x (allV &&& ~~~b) = false := by show ¬ holdX x (4095#16 &&& ~~~b) = false; rw [h]; decide
  have h2' : holdX y (allV &&& ~~~a) = false := h2
  cases l <;> (unfold proveL; rw [if_neg h', if_pos h2'])
theorem proveL_end {x y : Xpr} {a b : BitVec 16} (h : holdX x (4095#16 &&& ~~~b) = true) (h2 : holdX y (4095#16 &&& ~~~a) = true) : proveL x y [] a b = none := by
  have h' : ¬ holdX x (allV &&& ~~~b) = false := by show ¬ holdX x (4095#16 &&& ~~~b) = false; rw [h]; decide
  have h2' : ¬ holdX y (allV &&& ~~~a) = false := by show ¬ holdX y (4095#16 &&& ~~~a) = false; rw [h2]; decide
  unfold proveL; rw [if_neg h', if_neg h2']
theorem proveL_n1 {x y : Xpr} {i : Nat} {l : List Nat} {a b : BitVec 16} (h : holdX x (4095#16 &&& ~~~b) = true) (h2 : holdX y (4095#16 &&& ~~~a) = true) (h3 : proveL x y l (a ||| bitS i) b = none) : proveL x y (i :: l) a b = none := by
  have h' : ¬ holdX x (allV &&& ~~~b) = false := by show ¬ holdX x (4095#16 &&& ~~~b) = false; rw [h]; decide
  have h2' : ¬ holdX y (allV &&& ~~~a) = false := by show ¬ holdX y (4095#16 &&& ~~~a) = false; rw [h2]; decide
  rw [proveL, if_neg h', if_neg h2', h3]
theorem proveL_n2 {x y : Xpr} {i : Nat} {l : List Nat} {a b : BitVec 16} {T : CT} (h : holdX x (4095#16 &&& ~~~b) = true) (h2 : holdX y (4095#16 &&& ~~~a) = true) (h3 : proveL x y l (a ||| bitS i) b = some T) (h4 : proveL x y l a (b ||| bitS i) = none) : proveL x y (i :: l) a b = none := by
  have h' : ¬ holdX x (allV &&& ~~~b) = false := by show ¬ holdX x (4095#16 &&& ~~~b) = false; rw [h]; decide
  have h2' : ¬ holdX y (allV &&& ~~~a) = false := by show ¬ holdX y (4095#16 &&& ~~~a) = false; rw [h2]; decide
  rw [proveL, if_neg h', if_neg h2', h3, h4]
theorem proveL_s {x y : Xpr} {i : Nat} {l : List Nat} {a b : BitVec 16} {T R : CT} (h : holdX x (4095#16 &&& ~~~b) = true) (h2 : holdX y (4095#16 &&& ~~~a) = true) (h3 : proveL x y l (a ||| bitS i) b = some T) (h4 : proveL x y l a (b ||| bitS i) = some R) : proveL x y (i :: l) a b = some (.nd i T R) := by
  have h' : ¬ holdX x (allV &&& ~~~b) = false := by show ¬ holdX x (4095#16 &&& ~~~b) = false; rw [h]; decide
  have h2' : ¬ holdX y (allV &&& ~~~a) = false := by show ¬ holdX y (4095#16 &&& ~~~a) = false; rw [h2]; decide
  rw [proveL, if_neg h', if_neg h2', h3, h4]

/-- what a search leans on -/
structure PCx (x y : Xpr) (w0 : World) (B : Nat) (a1 : Option Addr) (n1 c1 : Nat) (r1 : Int) (a2 : Option Addr) (n2 c2 : Nat) (r2 : Int) : Prop where
  at' : w0.heap.size = B
  sx : ∀ (z : BitVec 16) (u : World), Below B w0 u → Calls Tryz.prog 30 #[.agg #[.slice a1 n1 c1, .int .i64 r1], .int .u16 (U (4095#16 &&& ~~~z))] u fun e w' => e = .returned (.bool (holdX x (4095#16 &&& ~~~z))) ∧ Below u.heap.size u w'
  sy : ∀ (z : BitVec 16) (u : World), Below B w0 u → Calls Tryz.prog 30 #[.agg #[.slice a2 n2 c2, .int .i64 r2], .int .u16 (U (4095#16 &&& ~~~z))] u fun e w' => e = .returned (.bool (holdX y (4095#16 &&& ~~~z))) ∧ Below u.heap.size u w'
  add : ∀ (c0 d0 e0 : Int) (v : Value) (ns : List Cho), ns.length ≤ 100000 → ∀ w, Below B w0 w → PV w B (.slice a1 n1 c1) (.int .i64 r1) (.slice a2 n2 c2) (.int .i64 r2) v ns →
    Calls Tryz.prog 41 #[.pointer (some ⟨B, 0, none⟩), .agg #[.int .i64 c0, .int .i64 d0, .int .i64 e0]] w fun e w' => e = .returned (.int .i64 ns.length) ∧ ∃ v', Below B w0 w' ∧ PV w' B (.slice a1 n1 c1) (.int .i64 r1) (.slice a2 n2 c2) (.int .i64 r2) v' (ns ++ [⟨c0, d0, e0⟩])
  tab : HasTab w0
theorem pcx_of (x y : Xpr) (hx : xprE x = 0) (hy : xprE y = 0) (hfx : XprFew x) (hfy : XprFew y) (a1 : Option Addr) (n1 c1 : Nat) (a2 : Option Addr) (n2 c2 : Nat) (w0 : World) (h1 : XM w0 a1 n1 c1 x.nodes) (h2 : XM w0 a2 n2 c2 y.nodes) (ht : HasTab w0) :
    PCx x y w0 w0.heap.size a1 n1 c1 x.root a2 n2 c2 y.root where
  at' := rfl
  sx := fun z u hb => satisfied_c x hx hfx (4095#16 &&& ~~~z) (all_lt z) a1 n1 c1 u (h1.below hb)
  sy := fun z u hb => satisfied_c y hy hfy (4095#16 &&& ~~~z) (all_lt z) a2 n2 c2 u (h2.below hb)
  add := fun c0 d0 e0 v ns hn w h0 h => add_p ⟨c0, d0, e0⟩ _ _ _ _ _ v ns hn w0 w h0 (Nat.le_refl _) h
  tab := ht

/-- what a search leaves -/
def Found (x y : Xpr) (l : List Nat) (a b : BitVec 16) (ns : List Cho) (B : Nat) (q0 q1 q2 q3 : Value) (w0 : World) (e : Ending) (w' : World) : Prop :=
  ∃ v' ns', Below B w0 w' ∧ PV w' B q0 q1 q2 q3 v' ns' ∧
    ((∃ T, proveL x y l a b = some T ∧ e = .returned (.tuple #[.int .i64 ((ns.length + T.sz - 1 : Nat) : Int), .bool true]) ∧ ns' = ns ++ T.bod ns.length) ∨ (proveL x y l a b = none ∧ e = .returned (.tuple #[.int .i64 0, .bool false])))
theorem PV.cells {w : World} {B : Nat} {q0 q1 q2 q3 v : Value} {ns : List Cho} (h : PV w B q0 q1 q2 q3 v ns) : w.cell? ⟨B, 0, none⟩ = some q0 ∧ w.cell? ⟨B, 1, none⟩ = some q1 ∧ w.cell? ⟨B, 2, none⟩ = some q2 ∧ w.cell? ⟨B, 3, none⟩ = some q3 :=
  ⟨cell_of_row _ _ 0 _ _ _ h.blk, cell_of_row _ _ 1 _ _ _ h.blk, cell_of_row _ _ 2 _ _ _ h.blk, cell_of_row _ _ 3 _ _ _ h.blk⟩
theorem below_at {w0 w w' : World} {B : Nat} (h0 : w0.heap.size = B) (h : Below B w0 w) (h' : Below w.heap.size w w') : Below B w0 w' := h.trans (h'.mono (by have := h.size; omega))

set_option maxRecDepth 100000 in
set_option maxHeartbeats 4000000 in
theorem prv_fx {x y : Xpr} {w0 : World} {B : Nat} {a1 : Option Addr} {n1 c1 : Nat} {r1 : Int} {a2 : Option Addr} {n2 c2 : Nat} {r2 : Int} (C : PCx x y w0 B a1 n1 c1 r1 a2 n2 c2 r2)
    (l : List Nat) (a b left : BitVec 16) (ns : List Cho) (v : Value) (W : World) (hn : ns.length ≤ 100000) (hb : Below B w0 W) (hp : PV W B (.slice a1 n1 c1) (.int .i64 r1) (.slice a2 n2 c2) (.int .i64 r2) v ns) (hh : holdX x (4095#16 &&& ~~~b) = false) :
    Calls Tryz.prog 24 #[.pointer (some ⟨B, 0, none⟩), .int .u16 (U a), .int .u16 (U b), .int .u16 (U left)] W fun e w' => Found x y l a b ns B (.slice a1 n1 c1) (.int .i64 r1) (.slice a2 n2 c2) (.int .i64 r2) w0 e w' := by
  have HR := Lib.hid (proveL_x (y := y) (l := l) (a := a) hh)
  have HS := Lib.hid (C.sx b W hb)
  rw [hh] at HS
  obtain ⟨p0, p1, p2, p3⟩ := hp.cells
  have HP := Lib.hid hp
  have HBW := Lib.hid hb
  have HC := Lib.hid C
  clear hh hb hp C
  go_enter Tryz.func24, Tryz.ntmps24
  go_wp2_with fail
  with_reducible refine HS.out.mono ?_
  rintro e w1 ⟨rfl, hb1⟩
  have HB1 := Lib.hid (below_at HC.out.at' HBW.out hb1)
  have HA := Lib.hid (HC.out.add (-1) 0 0 v ns hn w1 HB1.out (HP.out.below hb1))
  go_wp2_with fail
  with_reducible refine HA.out.mono ?_
  rintro e w2 ⟨rfl, v', hb2, hp2⟩
  have HB2 := Lib.hid hb2
  have HP2 := Lib.hid hp2
  clear hb2 hp2
  go_wp2_with fail
  go_ret2
  exact ⟨v', _, HB2.out, HP2.out, .inl ⟨.fx, HR.out, rfl, rfl⟩⟩

set_option maxRecDepth 100000 in
set_option maxHeartbeats 4000000 in
theorem prv_fy {x y : Xpr} {w0 : World} {B : Nat} {a1 : Option Addr} {n1 c1 : Nat} {r1 : Int} {a2 : Option Addr} {n2 c2 : Nat} {r2 : Int} (C : PCx x y w0 B a1 n1 c1 r1 a2 n2 c2 r2)
    (l : List Nat) (a b left : BitVec 16) (ns : List Cho) (v : Value) (W : World) (hn : ns.length ≤ 100000) (hb : Below B w0 W) (hp : PV W B (.slice a1 n1 c1) (.int .i64 r1) (.slice a2 n2 c2) (.int .i64 r2) v ns) (hh : holdX x (4095#16 &&& ~~~b) = true) (hh2 : holdX y (4095#16 &&& ~~~a) = false) :
    Calls Tryz.prog 24 #[.pointer (some ⟨B, 0, none⟩), .int .u16 (U a), .int .u16 (U b), .int .u16 (U left)] W fun e w' => Found x y l a b ns B (.slice a1 n1 c1) (.int .i64 r1) (.slice a2 n2 c2) (.int .i64 r2) w0 e w' := by
  have HR := Lib.hid (proveL_y (l := l) hh hh2)
  have HS := Lib.hid (C.sx b W hb)
  rw [hh] at HS
  have HS2 := Lib.hid (C.sy a)
  rw [hh2] at HS2
  obtain ⟨p0, p1, p2, p3⟩ := hp.cells
  have HP := Lib.hid hp
  have HBW := Lib.hid hb
  have HC := Lib.hid C
  clear hh hb hp C hh2
  go_enter Tryz.func24, Tryz.ntmps24
  go_wp2_with fail
  with_reducible refine HS.out.mono ?_
  rintro e w1 ⟨rfl, hb1⟩
  have HB1 := Lib.hid (below_at HC.out.at' HBW.out hb1)
  have HP1 := Lib.hid (HP.out.below hb1)
  obtain ⟨t0, t1, t2, t3⟩ := HP1.out.cells
  clear p0 p1 p2 p3 hb1
  go_wp2_with fail
  with_reducible refine (HS2.out w1 HB1.out).mono ?_
  rintro e w3 ⟨rfl, hb3⟩
  have HB3 := Lib.hid (below_at HC.out.at' HB1.out hb3)
  have HA := Lib.hid (HC.out.add (-2) 0 0 v ns hn w3 HB3.out (HP1.out.below hb3))
  clear hb3
  go_wp2_with fail
  with_reducible refine HA.out.mono ?_
  rintro e w2 ⟨rfl, v', hb2, hp2⟩
  have HB2 := Lib.hid hb2
  have HP2 := Lib.hid hp2
  clear hb2 hp2
  go_wp2_with fail
  go_ret2
  exact ⟨v', _, HB2.out, HP2.out, .inl ⟨.fy, HR.out, rfl, rfl⟩⟩

set_option maxRecDepth 100000 in
set_option maxHeartbeats 4000000 in
theorem prove_p {x y : Xpr} {w0 : World} {B : Nat} {a1 : Option Addr} {n1 c1 : Nat} {r1 : Int} {a2 : Option Addr} {n2 c2 : Nat} {r2 : Int} (C : PCx x y w0 B a1 n1 c1 r1 a2 n2 c2 r2) :
    ∀ (l : List Nat) (a b left : BitVec 16) (ns : List Cho) (v : Value) (W : World), memS left = l → ns.length + 2 ^ (l.length + 1) ≤ 100000 → Below B w0 W → PV W B (.slice a1 n1 c1) (.int .i64 r1) (.slice a2 n2 c2) (.int .i64 r2) v ns →
    Calls Tryz.prog 24 #[.pointer (some ⟨B, 0, none⟩), .int .u16 (U a), .int .u16 (U b), .int .u16 (U left)] W fun e w' => Found x y l a b ns B (.slice a1 n1 c1) (.int .i64 r1) (.slice a2 n2 c2) (.int .i64 r2) w0 e w' := by
  have HC := Lib.hid C
  clear C
  intro l
  induction l with
  | nil =>
    intro a b left ns v W hl hn hb hp
    cases hh : holdX x (4095#16 &&& ~~~b)
    · exact prv_fx HC.out [] a b left ns v W (Nat.le_trans (Nat.le_add_right _ _) hn) hb hp hh
    cases hh2 : holdX y (4095#16 &&& ~~~a)
    · exact prv_fy HC.out [] a b left ns v W (Nat.le_trans (Nat.le_add_right _ _) hn) hb hp hh hh2
    have h0 : left = 0#16 := by
      apply Classical.byContradiction
      intro hc
      obtain ⟨k, _, _, _, hk⟩ := memS_step left hc
      rw [hl] at hk; cases hk
    subst h0
    have HR := Lib.hid (proveL_end hh hh2)
    have HS := Lib.hid (HC.out.sx b W hb)
    rw [hh] at HS
    have HS2 := Lib.hid (HC.out.sy a)
    rw [hh2] at HS2
    obtain ⟨p0, p1, p2, p3⟩ := hp.cells
    have HP := Lib.hid hp
    have HBW := Lib.hid hb
    clear hh hb hp hh2 hl
    go_enter Tryz.func24, Tryz.ntmps24
    go_wp2_with fail
    with_reducible refine HS.out.mono ?_
    rintro e w1 ⟨rfl, hb1⟩
    have HB1 := Lib.hid (below_at HC.out.at' HBW.out hb1)
    have HP1 := Lib.hid (HP.out.below hb1)
    obtain ⟨t0, t1, t2, t3⟩ := HP1.out.cells
    clear p0 p1 p2 p3 hb1
    go_wp2_with fail
    with_reducible refine (HS2.out w1 HB1.out).mono ?_
    rintro e w3 ⟨rfl, hb3⟩
    have HB3 := Lib.hid (below_at HC.out.at' HB1.out hb3)
    have HP3 := Lib.hid (HP1.out.below hb3)
    clear hb3
    go_wp2_with fail
    go_ret2
    exact ⟨v, ns, HB3.out, HP3.out, .inr ⟨HR.out, rfl⟩⟩
  | cons i l ih =>
    intro a b left ns v W hl hn hb hp
    cases hh : holdX x (4095#16 &&& ~~~b)
    · exact prv_fx HC.out (i :: l) a b left ns v W (Nat.le_trans (Nat.le_add_right _ _) hn) hb hp hh
    cases hh2 : holdX y (4095#16 &&& ~~~a)
    · exact prv_fy HC.out (i :: l) a b left ns v W (Nat.le_trans (Nat.le_add_right _ _) hn) hb hp hh hh2
    have hne : left ≠ 0#16 := fun e => by rw [e, show memS 0#16 = [] by decide] at hl; cases hl
    have hbq : (left == 0#16) = false := by simpa using hne
    obtain ⟨k, hk, hand, _, hks⟩ := memS_step left hne
    have hki : k = i := by rw [hl] at hks; injection hks with h; exact h.symm
    subst hki
    have hdrop := memS_drop hl
    have HIH := Lib.hid ih
    have HHX := Lib.hid hh
    have HHY := Lib.hid hh2
    have HDR := Lib.hid hdrop
    have HAND := Lib.hid hand
    have HBQ := Lib.hid hbq
    have hn1 : ns.length + 2 ^ (l.length + 1) ≤ 100000 := by
      have : 2 ^ (l.length + 1) ≤ 2 ^ ((k :: l).length + 1) := Nat.pow_le_pow_right (by decide) (by simp)
      omega
    have HN : Hid (ns.length + 2 * 2 ^ (l.length + 1) ≤ 100000) := Lib.hid (by
      have : 2 ^ ((k :: l).length + 1) = 2 * 2 ^ (l.length + 1) := by rw [List.length_cons, Nat.pow_succ]; omega
      omega)
    have HS := Lib.hid (HC.out.sx b W hb)
    rw [hh] at HS
    have HS2 := Lib.hid (HC.out.sy a)
    rw [hh2] at HS2
    obtain ⟨p0, p1, p2, p3⟩ := hp.cells
    have HP := Lib.hid hp
    have HBW := Lib.hid hb
    have HN1 := Lib.hid hn1
    clear hh hb hp hh2 hl hne hks hdrop ih hand hn hn1
    go_enter Tryz.func24, Tryz.ntmps24
    go_wp2_with fail
    with_reducible refine HS.out.mono ?_
    rintro e w1 ⟨rfl, hb1⟩
    have HB1 := Lib.hid (below_at HC.out.at' HBW.out hb1)
    have HP1 := Lib.hid (HP.out.below hb1)
    obtain ⟨t0, t1, t2, t3⟩ := HP1.out.cells
    clear p0 p1 p2 p3 hb1
    go_wp2_with fail
    with_reducible refine (HS2.out w1 HB1.out).mono ?_
    rintro e w3 ⟨rfl, hb3⟩
    have HB3 := Lib.hid (below_at HC.out.at' HB1.out hb3)
    have HP3 := Lib.hid (HP1.out.below hb3)
    clear hb3 t0 t1 t2 t3
    have HTZ := Lib.hid (tz_k k hk left w3 HBQ.out HAND.out (HC.out.tab.below (by rw [HC.out.at']; exact HB3.out)))
    go_wp2_with fail
    with_reducible refine HTZ.out.mono ?_
    rintro e w4 ⟨rfl, rfl⟩
    have HI1 := Lib.hid (HIH.out (a ||| bitS k) b (left &&& ~~~bitS k) ns v w3 HDR.out HN1.out HB3.out HP3.out)
    have HKI : Hid ((k : Int) = (k : Int)) := rfl
    go_wp2_with fail
    with_reducible refine HI1.out.mono ?_
    rintro e w5 ⟨v5, ns5, hb5, hp5, hres⟩
    rcases hres with ⟨T, hT, rfl, hns5⟩ | ⟨hT, rfl⟩
    · have hsz := proveL_sz l _ _ T hT
      have hlen : ns5.length = ns.length + T.sz := by rw [hns5, List.length_append, T.bod_len]
      have HB5 := Lib.hid hb5
      have HP5 := Lib.hid hp5
      have HLEN := Lib.hid hlen
      have HNS5 := Lib.hid hns5
      have HTT := Lib.hid hT
      have hnn := HN.out
      have HI2 := Lib.hid (HIH.out a (b ||| bitS k) (left &&& ~~~bitS k) ns5 v5 w5 HDR.out (by omega) hb5 hp5)
      have HSZ := Lib.hid hsz
      clear hb5 hp5 hns5 hT hlen hnn hsz
      go_wp2_with fail
      with_reducible refine HI2.out.mono ?_
      rintro e w6 ⟨v6, ns6, hb6, hp6, hres⟩
      rcases hres with ⟨R, hR, rfl, hns6⟩ | ⟨hR, rfl⟩
      · have hsz2 := proveL_sz l _ _ R hR
        have hlen2 : ns6.length = ns5.length + R.sz := by rw [hns6, List.length_append, R.bod_len]
        have HB6 := Lib.hid hb6
        have HLEN2 := Lib.hid hlen2
        have HNS6 := Lib.hid hns6
        have HRR := Lib.hid hR
        have HA := Lib.hid (HC.out.add (k : Int) ((ns.length + T.sz - 1 : Nat) : Int) ((ns5.length + R.sz - 1 : Nat) : Int) v6 ns6 (by have := HN.out; have := HSZ.out; have := HLEN.out; omega) w6 hb6 hp6)
        clear hb6 hp6 hns6 hR hlen2 hsz2
        go_wp2_with fail
        with_reducible refine HA.out.mono ?_
        rintro e w7 ⟨rfl, v7, hb7, hp7⟩
        have HB7 := Lib.hid hb7
        have HP7 := Lib.hid hp7
        clear hb7 hp7
        go_wp2_with fail
        go_ret2
        refine ⟨v7, _, HB7.out, HP7.out, .inl ⟨.nd k T R, proveL_s HHX.out HHY.out HTT.out HRR.out, ?_, ?_⟩⟩
        · have : ns6.length = ns.length + (CT.nd k T R).sz - 1 := by rw [HLEN2.out, HLEN.out]; show _ = ns.length + (T.sz + R.sz + 1) - 1; omega
          exact congrArg (fun z : Nat => Ending.returned (Value.tuple #[.int .i64 (z : Int), .bool true])) this
        · rw [HNS6.out, HLEN.out, HNS5.out]
          simp only [CT.bod, List.append_assoc]
      · have HB6 := Lib.hid hb6
        have HP6 := Lib.hid hp6
        have HRR := Lib.hid hR
        clear hb6 hp6 hR
        go_wp2_with fail
        go_ret2
        exact ⟨v6, ns6, HB6.out, HP6.out, .inr ⟨proveL_n2 HHX.out HHY.out HTT.out HRR.out, rfl⟩⟩
    · have HB5 := Lib.hid hb5
      have HP5 := Lib.hid hp5
      have HTT := Lib.hid hT
      clear hb5 hp5 hT
      go_wp2_with fail
      go_ret2
      exact ⟨v5, ns5, HB5.out, HP5.out, .inr ⟨proveL_n1 HHX.out HHY.out HTT.out, rfl⟩⟩
end Go.Proofs.YtflpkkebampmfaaGreatDoor
namespace Go.Proofs.YtflpkkebampmfaaGreatDoor
open Go.RowKit
section
variable {P : Program} {ops : Array Oper} {md : Region.Mode} {S : World → Prop}

def takesB (md : Region.Mode) (ops : Array Oper) : List Nat → Array Bool → Bool
  | [], _ => true
  | i :: L, listed => (Region.free md ops listed i && (Region.ready md ops listed).contains i) && takesB md ops L (listed.setIfInBounds i true)
def afterT : List Nat → Array Bool → Array Bool
  | [], listed => listed
  | i :: L, listed => afterT L (listed.setIfInBounds i true)
def wpTk (P : Program) (ops : Array Oper) (S : World → Prop) (K : Act → Prop) : List Nat → Act → Prop
  | [], a => K a
  | i :: L, a => ∃ o, ops[i]? = some o ∧ if Region.wanted o (yielded ops a.tmps) = true then ∃ v, (∀ w, S w → (execOp a.eval o).run P w = .ok (.value v) w) ∧ wpTk P ops S K L (a.put o.dst v) else wpTk P ops S K L (a.put o.dst undef)
theorem wpTk_nil {K : Act → Prop} {a : Act} (h : K a) : wpTk P ops S K [] a := h
theorem wpTk_cons {K : Act → Prop} {i : Nat} {L : List Nat} {a : Act} {o : Oper} (ho : ops[i]? = some o)
    (h : ∀ K' : Act → Prop, (∀ a, wpTk P ops S K L a → K' a) → if Region.wanted o (yielded ops a.tmps) = true then ∃ v, (∀ w, S w → (execOp a.eval o).run P w = .ok (.value v) w) ∧ K' (a.put o.dst v) else K' (a.put o.dst undef)) : wpTk P ops S K (i :: L) a :=
  ⟨o, ho, h _ (fun _ h => h)⟩
theorem held_takes {Q : Exit → Act → World → Prop} {f : Nat} {w : World} (hsel : Region.noSelect ops = true) (hQ : ∀ c a d v w, Q (.panic c) (a.put d v) w → Q (.panic c) a w) (hS : S w) :
    ∀ (L : List Nat) (listed : Array Bool) (a : Act), takesB md ops L listed = true → wpTk P ops S (fun a' => wpAnyH P md ops Q S f (afterT L listed) a' w) L a → wpAnyH P md ops Q S (f + L.length) listed a w
  | [], listed, a, _, h => h
  | i :: L, listed, a, hB, h => by
    obtain ⟨o, ho, h⟩ := h
    unfold takesB at hB
    simp only [Bool.and_eq_true] at hB
    rw [List.length_cons, ← Nat.add_assoc]
    by_cases hw : Region.wanted o (yielded ops a.tmps) = true
    · rw [if_pos hw] at h
      obtain ⟨v, hv, h⟩ := h
      exact wpAnyH_take ho hsel hB.1.1 hB.1.2 (fun c a w => hQ c a _ _ w) (.inl ⟨hw, hv⟩) hS (held_takes hsel hQ hS L _ _ hB.2 h)
    · rw [if_neg hw] at h
      have hw' : Region.wanted o (yielded ops a.tmps) = false := by simpa using hw
      exact wpAnyH_take ho hsel hB.1.1 hB.1.2 (fun c a w => hQ c a _ _ w) (.inr ⟨hw', rfl⟩) hS (held_takes hsel hQ hS L _ _ hB.2 h)
theorem wp_region_takes {id : Nat} {Q : Exit → Act → World → Prop} {a : Act} {w : World} {l : List Oper} (S : World → Prop) (L : List Nat) (f : Nat) (hm : P.follows .mixedOrders = true) (hf : (f + L.length == l.length) = true)
    (hB : (Region.noSelect l.toArray && takesB .any l.toArray L (Array.replicate l.length false)) = true) (hQ : ∀ c a d v w, Q (.panic c) (a.put d v) w → Q (.panic c) a w) (hS : S w.drew)
    (h : wpTk P l.toArray S (fun a' => wpAnyH P .any l.toArray Q S f (afterT L (Array.replicate l.length false)) a' w.drew) L a) : (Code.region id l.toArray true).wp P Q a w := by
  simp only [Bool.and_eq_true] at hB
  have e : l.toArray.size = f + L.length := by rw [List.size_toArray]; exact (eq_of_beq hf).symm
  refine wp_region_held_drew hm hS (fun _ => ?_)
  rw [e]
  have := held_takes (md := .any) (f := f) (w := w.drew) hB.1 hQ hS L (Array.replicate l.length false) a hB.2 h
  rw [show f + L.length = l.length from eq_of_beq hf] at this ⊢
  exact this
/-- whichever comes up -/
theorem held_ready {Q : Exit → Act → World → Prop} {rs : List Nat} {f : Nat} {listed : Array Bool} {a : Act} {w : World} (hr : (Region.ready md ops listed == rs) = true) (hne : rs ≠ [])
    (h : AllReadyH P md ops Q S f listed a w rs) : wpAnyH P md ops Q S (f + 1) listed a w := wpAnyH_ready (eq_of_beq hr) hne h
end
end Go.Proofs.YtflpkkebampmfaaGreatDoor
namespace Go.Proofs.YtflpkkebampmfaaGreatDoor
open Go.RowKit Go.Shelf

def treV (a : Option Addr) (n c : Nat) (r : Int) : Value := .agg #[.slice a n c, .int .i64 r]

set_option maxRecDepth 100000 in
set_option maxHeartbeats 2000000 in
theorem prove_err (x y : Xpr) (b : BitVec 16) (E : Int) (hE : (if xprE x ≠ 0 then xprE x else xprE y) = E) (h0 : E ≠ 0) (a1 : Option Addr) (n1 c1 : Nat) (a2 : Option Addr) (n2 c2 : Nat) (w : World) (h1 : XM w a1 n1 c1 x.nodes) (h2 : XM w a2 n2 c2 y.nodes) :
    Calls Tryz.prog 8 #[.agg #[.slice a1 n1 c1, .int .i64 x.root], .agg #[.slice a2 n2 c2, .int .i64 y.root], .int .u16 (U b)] w fun e w' => e = .returned (.tuple #[treV none 0 0 0, .int .i64 E]) ∧ Below w.heap.size w w' := by
  have H1 := Lib.hid (fun (u : World) (hb : Below w.heap.size w u) => two_c x y a1 n1 c1 a2 n2 c2 u (h1.below hb) (h2.below hb))
  rw [hE] at H1
  clear h1 h2 hE
  obtain ⟨W2, hW2⟩ : ∃ W2, W2 = (w.alloc (.cells #[.slice a1 n1 c1, .int .i64 x.root] 30)).alloc (.cells #[.slice a2 n2 c2, .int .i64 y.root] 30) := ⟨_, rfl⟩
  obtain ⟨hb2, hc⟩ := args22 w _ _ _ _ _ _ hW2
  have hs2 : W2.heap.size = w.heap.size + 2 := by rw [hW2]; simp
  obtain ⟨W3, hW3⟩ : ∃ W3, W3 = W2.alloc (.cells #[.slice none 0 0, .int .i64 0] 38) := ⟨_, rfl⟩
  have hb3 : Below W2.heap.size W2 W3 := by rw [hW3]; exact (Below.refl _ _).alloc (Nat.le_refl _) _
  have g3 : W3.heap[w.heap.size + 2]? = some (.cells #[.slice none 0 0, .int .i64 0] 38 (0, 0)) := by rw [hW3, ← hs2]; exact heap_alloc_new _ _
  have HB3 := Lib.hid (Below.next hb2 hb3)
  have G3 := Lib.hid g3
  obtain ⟨⟨q0, q1⟩, q2, q3⟩ := hc W3 hb3
  have hne : (E != 0) = true := by simpa using h0
  clear hb2 hc hs2 hb3 g3 h0
  go_enter Tryz.func8, Tryz.ntmps8
  go_wp2_with fail
  rw [← hW2, ← hW3]
  with_reducible refine (H1.out W3 HB3.out).mono ?_
  rintro e w1 ⟨rfl, hb1⟩
  have g4 := heap_below hb1 G3.out
  have t0 := cell_of_row _ _ 0 _ _ _ g4
  have t1 := cell_of_row _ _ 1 _ _ _ g4
  have z0 := frozen_row g4 0
  have z1 := frozen_row g4 1
  have G4 := Lib.hid g4
  have HB1 := Lib.hid hb1
  clear g4 hb1 hW2 hW3
  go_wp2_with fail
  clear t0 t1 z0 z1
  generalize hWF : (w1.setCell _ _).setCell _ _ = WF
  have e1 : WF.heap[w.heap.size + 1 + 1]? = some (.cells #[.slice none 0 0, .int .i64 0] 38 (0, 0)) := by
    rw [← hWF]; exact heap_set_at (heap_set_at G4.out 0 _) 1 _
  have HBF : Hid (Below w.heap.size w WF) := Lib.hid (by
    rw [← hWF]
    exact ((Below.next HB3.out HB1.out).setCell (p := ⟨w.heap.size + 1 + 1, 0, none⟩) (by show w.heap.size ≤ w.heap.size + 1 + 1; omega) _).setCell (p := ⟨w.heap.size + 1 + 1, 1, none⟩) (by show w.heap.size ≤ w.heap.size + 1 + 1; omega) _)
  have f0 := cell_of_row _ _ 0 _ _ _ e1
  have f1 := cell_of_row _ _ 1 _ _ _ e1
  clear hWF e1
  refine bodyPost_ret (v := .tuple #[.agg #[.slice none 0 0, .int .i64 0], .int .i64 E]) ?_ rfl ⟨rfl, HBF.out⟩
  rw [results_cell_tmp rfl]
  go_simp

set_option maxRecDepth 100000 in
set_option maxHeartbeats 4000000 in
theorem prove_ok (x y : Xpr) (b : BitVec 16) (hx : xprE x = 0) (hy : xprE y = 0) (hfx : XprFew x) (hfy : XprFew y) (a1 : Option Addr) (n1 c1 : Nat) (a2 : Option Addr) (n2 c2 : Nat) (w : World) (h1 : XM w a1 n1 c1 x.nodes) (h2 : XM w a2 n2 c2 y.nodes) (ht : HasTab w) :
    Calls Tryz.prog 8 #[.agg #[.slice a1 n1 c1, .int .i64 x.root], .agg #[.slice a2 n2 c2, .int .i64 y.root], .int .u16 (U b)] w fun e w' => ∃ a c, e = .returned (.tuple #[treV a (prvS x y (leftS x y b)).1.nodes.length c (prvS x y (leftS x y b)).1.root, .int .i64 (prvS x y (leftS x y b)).2]) ∧ TM w' a (prvS x y (leftS x y b)).1.nodes.length c (prvS x y (leftS x y b)).1.nodes ∧ Below w.heap.size w w' := by
  have H1 := Lib.hid (fun (u : World) (hb : Below w.heap.size w u) => two_c x y a1 n1 c1 a2 n2 c2 u (h1.below hb) (h2.below hb))
  rw [hx, hy] at H1
  have HS1 := Lib.hid (fun (u : World) (hb : Below w.heap.size w u) => support_x x (xprE_ok hx) a1 n1 c1 u (h1.below hb))
  have HS2 := Lib.hid (fun (u : World) (hb : Below w.heap.size w u) => support_x y (xprE_ok hy) a2 n2 c2 u (h2.below hb))
  have HP := Lib.hid (fun (u : World) (hb : Below w.heap.size w u) => prove_p (pcx_of x y hx hy hfx hfy a1 n1 c1 a2 n2 c2 u (h1.below hb) (h2.below hb) (ht.below hb)))
  have HLE := Lib.hid (left_le (xprE_ok hx) (xprE_ok hy) b)
  obtain ⟨R, hR⟩ : ∃ R, prvS x y (leftS x y b) = R := ⟨_, rfl⟩
  rw [hR]
  have HR := Lib.hid hR
  clear hR
  clear h1 h2 hx hy hfx hfy ht
  obtain ⟨W2, hW2⟩ : ∃ W2, W2 = (w.alloc (.cells #[.slice a1 n1 c1, .int .i64 x.root] 30)).alloc (.cells #[.slice a2 n2 c2, .int .i64 y.root] 30) := ⟨_, rfl⟩
  obtain ⟨hb2, hc⟩ := args22 w _ _ _ _ _ _ hW2
  have hs2 : W2.heap.size = w.heap.size + 2 := by rw [hW2]; simp
  obtain ⟨W3, hW3⟩ : ∃ W3, W3 = W2.alloc (.cells #[.slice none 0 0, .int .i64 0] 38) := ⟨_, rfl⟩
  have hb3 : Below W2.heap.size W2 W3 := by rw [hW3]; exact (Below.refl _ _).alloc (Nat.le_refl _) _
  have g3 : W3.heap[w.heap.size + 2]? = some (.cells #[.slice none 0 0, .int .i64 0] 38 (0, 0)) := by rw [hW3, ← hs2]; exact heap_alloc_new _ _
  have HB3 := Lib.hid (Below.next hb2 hb3)
  have G3 := Lib.hid g3
  have HC := Lib.hid (fun (y : World) (hy : Below W3.heap.size W3 y) => hc y (Below.next hb3 hy))
  obtain ⟨⟨q0, q1⟩, q2, q3⟩ := hc W3 hb3
  clear hb2 hc hs2 hb3 g3
  go_enter Tryz.func8, Tryz.ntmps8
  go_wp2_with fail
  rw [← hW2, ← hW3]
  with_reducible refine (H1.out W3 HB3.out).mono ?_
  rintro e w1 ⟨rfl, hb1⟩
  obtain ⟨⟨t0, t1⟩, t2, t3⟩ := HC.out w1 hb1
  clear hW2 hW3 q0 q1 q2 q3
  have hif : (if (0 : Int) ≠ 0 then (0 : Int) else 0) = 0 := by decide
  rw [hif]
  have HBW := Lib.hid (Below.next HB3.out hb1)
  have HP1 := Lib.hid (HP.out w1 HBW.out)
  have HB1 := Lib.hid hb1
  clear hb1 hif
  go_wp2_with fail
  generalize hWA : w1.alloc _ = WA
  have hbA : Below w1.heap.size w1 WA := by rw [← hWA]; exact (Below.refl _ _).alloc (Nat.le_refl _) _
  have gA : WA.heap[w1.heap.size]? = some (.cells #[.slice a1 n1 c1, .int .i64 x.root, .slice a2 n2 c2, .int .i64 y.root, .slice none 0 0] 68 (0, 0)) := by rw [← hWA]; exact heap_alloc_new _ _
  have KS : Hid (∀ u : World, Below w1.heap.size w1 u → (u.cell? ⟨w.heap.size, 0, none⟩ = some (.slice a1 n1 c1) ∧ u.cell? ⟨w.heap.size, 1, none⟩ = some (.int .i64 x.root)) ∧ u.cell? ⟨w.heap.size + 1, 0, none⟩ = some (.slice a2 n2 c2) ∧ u.cell? ⟨w.heap.size + 1, 1, none⟩ = some (.int .i64 y.root)) :=
    Lib.hid (fun u hu => HC.out u (Below.next HB1.out hu))
  have HSA : Hid (∀ u : World, Below w1.heap.size w1 u → Calls Tryz.prog 25 #[.agg #[.slice a1 n1 c1, .int .i64 x.root]] u fun e w' => e = .returned (.int .u16 (U (srvX x))) ∧ Below u.heap.size u w') :=
    Lib.hid (fun u hu => HS1.out u (Below.next HBW.out hu))
  have HSB : Hid (∀ u : World, Below w1.heap.size w1 u → Calls Tryz.prog 25 #[.agg #[.slice a2 n2 c2, .int .i64 y.root]] u fun e w' => e = .returned (.int .u16 (U (srvX y))) ∧ Below u.heap.size u w') :=
    Lib.hid (fun u hu => HS2.out u (Below.next HBW.out hu))
  have HY := Lib.hid (below_drew hbA)
  have GA := Lib.hid gA
  have hB0 : w1.heap.size < WA.heap.size := (Array.getElem?_eq_some_iff.1 gA).1
  have HB0 := Lib.hid hB0
  clear t0 t1 t2 t3 hbA gA hWA hB0
  refine wp_region_noPanic ?_
  refine wp_region_takes (fun u => Below w1.heap.size w1 u) [0, 1, 3, 6] 10 (by kernel_rfl) (by kernel_rfl) (by kernel_rfl) (fun _ _ _ _ _ h => h) HY.out ?_
  repeat (refine wpTk_cons rfl (fun K hK => ?_); go_simp; apply Exists.intro; refine ⟨fun u hu => ?_, hK _ ?_⟩; (first | exact rfl | (obtain ⟨⟨q1, q2⟩, q3, q4⟩ := KS.out u hu; go_simp; done) | (obtain ⟨⟨q1, q2⟩, q3, q4⟩ := KS.out u hu; go_simp; exact rfl)); clear hK K)
  refine wpTk_nil ?_
  refine held_ready (rs := [2]) (by kernel_rfl) (by simp) ?_
  refine AllReadyH.cons rfl (fun K hK => ?_) AllReadyH.nil
  go_simp
  with_reducible refine (HSA.out _ HY.out).mono ?_
  rintro e w3 ⟨rfl, h3⟩
  have HY3 := Lib.hid (below_at rfl HY.out h3)
  have HG3 := Lib.hid (heap_below h3 GA.out)
  clear h3 HY
  have HY := Lib.hid HY3.out
  clear HY3
  go_simp
  refine hK.out _ _ HY.out (fun hh => ?_)
  clear hh hK K; try simp only [Act.put, List.setIfInBounds_toArray, List.set_cons_zero, List.set_cons_succ]
  refine held_ready (rs := [4]) (by kernel_rfl) (by simp) ?_
  refine AllReadyH.cons rfl (fun K hK => ?_) AllReadyH.nil
  go_simp
  with_reducible refine (HSB.out _ HY.out).mono ?_
  rintro e w5 ⟨rfl, h3⟩
  have HY3 := Lib.hid (below_at rfl HY.out h3)
  have HG5 := Lib.hid (heap_below h3 HG3.out)
  clear h3 HY
  have HY := Lib.hid HY3.out
  clear HY3
  go_simp
  refine hK.out _ _ HY.out (fun hh => ?_)
  clear hh hK K; try simp only [Act.put, List.setIfInBounds_toArray, List.set_cons_zero, List.set_cons_succ]
  refine held_ready (rs := [5]) (by kernel_rfl) (by simp) ?_
  refine AllReadyH.cons rfl (fun K hK => ?_) AllReadyH.nil
  go_simp
  refine hK.out _ _ HY.out (fun hh => ?_)
  clear hh hK K; try simp only [Act.put, List.setIfInBounds_toArray, List.set_cons_zero, List.set_cons_succ]
  refine held_ready (rs := [7]) (by kernel_rfl) (by simp) ?_
  refine AllReadyH.cons rfl (fun K hK => ?_) AllReadyH.nil
  go_simp
  refine hK.out _ _ HY.out (fun hh => ?_)
  clear hh hK K; try simp only [Act.put, List.setIfInBounds_toArray, List.set_cons_zero, List.set_cons_succ]
  refine held_ready (rs := [8]) (by kernel_rfl) (by simp) ?_
  refine AllReadyH.cons rfl (fun K hK => ?_) AllReadyH.nil
  have HPR := HP1.out (leftS x y b) 0#16 0#16 ((srvX x ||| srvX y) &&& ~~~b) [] (.slice none 0 0) w5 rfl (by
    have h1 := HLE.out
    have h2 : 2 ^ ((leftS x y b).length + 1) ≤ 2 ^ 13 := Nat.pow_le_pow_right (by decide) (by omega)
    have h3 : ([] : List Cho).length = 0 := rfl
    omega) HY.out ⟨HG5.out, World.ownsRow_nil _ _ _ _⟩
  rw [U_zero] at HPR
  have HPR2 := Lib.hid HPR
  clear HPR HP1
  go_simp
  with_reducible refine HPR2.out.mono ?_
  rintro e w6 ⟨v6, ns6, hb6, hp6, hres⟩
  have HB6 := Lib.hid hb6
  have HP6 := Lib.hid hp6
  have hg6 : w6.heap[w.heap.size + 1 + 1]? = some (.cells #[.slice none 0 0, .int .i64 0] 38 (0, 0)) := by
    have h1 := heap_below HB1.out G3.out
    exact (hb6.block _ (Array.getElem?_eq_some_iff.1 h1).1).trans h1
  have HG6 := Lib.hid hg6
  have t0 := cell_of_row _ _ 0 _ _ _ hg6
  have t1 := cell_of_row _ _ 1 _ _ _ hg6
  have z0 := frozen_row hg6 0
  have z1 := frozen_row hg6 1
  clear hb6 hg6 HPR2 HG3 HG5 HSA HSB KS
  rcases hres with ⟨T, hT, rfl, hns⟩ | ⟨hT, rfl⟩
  · have hpr : prvS x y (leftS x y b) = (T.tre, 0) := by unfold prvS; rw [hT]
    obtain ⟨a6, c6, rfl, hr6⟩ := rdK_of_row hp6.row
    rw [List.length_nil, List.nil_append] at hns
    have hln : ns6.length = T.sz := by rw [hns, T.bod_len]
    have p4 := cell_of_row _ _ 4 _ _ _ hp6.blk
    have HPV : Hid (R = (T.tre, 0)) := HR.out.symm.trans hpr
    have HR6 := Lib.hid hr6
    have HLN := Lib.hid hln
    have HNS := Lib.hid hns
    have hsz : ((([] : List Cho).length + T.sz - 1 : Nat) : Int) = ((T.sz - 1 : Nat) : Int) := by simp
    rw [hsz]
    clear hp6 hr6 hln hns hpr hT hsz
    go_simp
    refine hK.out _ _ HB6.out (fun hh => ?_)
    clear hh hK K; try simp only [Act.put, List.setIfInBounds_toArray, List.set_cons_zero, List.set_cons_succ]
    refine held_takes (f := 0) (by kernel_rfl) (fun _ _ _ _ _ h => h) HB6.out [9, 10, 11, 12, 13] _ _ (by kernel_rfl) ?_
    repeat (refine wpTk_cons rfl (fun K hK => ?_); go_simp; apply Exists.intro; refine ⟨fun y hy => rfl, hK _ ?_⟩; clear hK K)
    refine wpTk_nil ?_
    refine wpAnyH_done (by kernel_rfl) (NoPanic.normal ?_) _
    go_wp2_with fail
    clear t0 t1 z0 z1
    generalize hWF : (w6.setCell _ _).setCell _ _ = WF
    have e1 : WF.heap[w.heap.size + 1 + 1]? = some (.cells #[.slice a6 ns6.length c6, .int .i64 ((T.sz - 1 : Nat) : Int)] 38 (0, 0)) := by
      rw [← hWF]; exact heap_set_at (heap_set_at HG6.out 0 _) 1 _
    have hlt : w.heap.size + 1 + 1 < w1.heap.size := (Array.getElem?_eq_some_iff.1 (heap_below HB1.out G3.out)).1
    have HBF : Hid (Below w.heap.size w WF) := Lib.hid (by
      rw [← hWF]
      exact ((HBW.out.trans (HB6.out.mono (by omega))).setCell (p := ⟨w.heap.size + 1 + 1, 0, none⟩) (by show w.heap.size ≤ w.heap.size + 1 + 1; omega) _).setCell (p := ⟨w.heap.size + 1 + 1, 1, none⟩) (by show w.heap.size ≤ w.heap.size + 1 + 1; omega) _)
    have hrow : WF.ownsRow (w1.heap.size + 1) 72 3 (.slice a6 ns6.length c6) ns6.length (ns6.flatMap choC) := by
      rw [← hWF]
      refine rowK_at HP6.out.row fun g hg => ?_
      have hgl := (HP6.out.row.lt g hg).1
      rw [Below.heap_setCell _ _ _ _ (by show g ≠ w.heap.size + 1 + 1; omega), Below.heap_setCell _ _ _ _ (by show g ≠ w.heap.size + 1 + 1; omega)]
    obtain ⟨a', c', hv, hr'⟩ := rdK_of_row hrow
    cases hv
    have f0 := cell_of_row _ _ 0 _ _ _ e1
    have f1 := cell_of_row _ _ 1 _ _ _ e1
    have hns : ns6 = T.bod 0 := HNS.out
    have hR2 := HPV.out
    clear hWF e1 hrow p4
    subst hR2
    subst hns
    refine bodyPost_ret (v := .tuple #[.agg #[.slice a6 (T.bod 0).length c6, .int .i64 ((T.sz - 1 : Nat) : Int)], .int .i64 0]) ?_ rfl ⟨a6, c6, rfl, hr', HBF.out⟩
    rw [results_cell_tmp rfl]
    go_simp
  · have hpr : prvS x y (leftS x y b) = (⟨[], 0⟩, 12) := by unfold prvS; rw [hT]
    have HPV : Hid (R = (⟨[], 0⟩, 12)) := HR.out.symm.trans hpr
    clear hp6 hpr hT
    go_simp
    refine hK.out _ _ HB6.out (fun hh => ?_)
    clear hh hK K; try simp only [Act.put, List.setIfInBounds_toArray, List.set_cons_zero, List.set_cons_succ]
    refine held_takes (f := 0) (by kernel_rfl) (fun _ _ _ _ _ h => h) HB6.out [9, 10, 11, 12, 13] _ _ (by kernel_rfl) ?_
    repeat (refine wpTk_cons rfl (fun K hK => ?_); go_simp; apply Exists.intro; refine ⟨fun y hy => rfl, hK _ ?_⟩; clear hK K)
    refine wpTk_nil ?_
    refine wpAnyH_done (by kernel_rfl) (NoPanic.normal ?_) _
    go_wp2_with fail
    clear t0 t1 z0 z1
    generalize hWF : (w6.setCell _ _).setCell _ _ = WF
    have e1 : WF.heap[w.heap.size + 1 + 1]? = some (.cells #[.slice none 0 0, .int .i64 0] 38 (0, 0)) := by
      rw [← hWF]; exact heap_set_at (heap_set_at HG6.out 0 _) 1 _
    have hlt : w.heap.size + 1 + 1 < w1.heap.size := (Array.getElem?_eq_some_iff.1 (heap_below HB1.out G3.out)).1
    have HBF : Hid (Below w.heap.size w WF) := Lib.hid (by
      rw [← hWF]
      exact ((HBW.out.trans (HB6.out.mono (by omega))).setCell (p := ⟨w.heap.size + 1 + 1, 0, none⟩) (by show w.heap.size ≤ w.heap.size + 1 + 1; omega) _).setCell (p := ⟨w.heap.size + 1 + 1, 1, none⟩) (by show w.heap.size ≤ w.heap.size + 1 + 1; omega) _)
    have f0 := cell_of_row _ _ 0 _ _ _ e1
    have f1 := cell_of_row _ _ 1 _ _ _ e1
    have hR2 := HPV.out
    clear hWF e1
    subst hR2
    refine bodyPost_ret (v := .tuple #[.agg #[.slice none 0 0, .int .i64 0], .int .i64 12]) ?_ rfl ⟨none, 0, rfl, RdK.none_ 3 _, HBF.out⟩
    rw [results_cell_tmp rfl]
    go_simp
end Go.Proofs.YtflpkkebampmfaaGreatDoor
namespace Go.Proofs.YtflpkkebampmfaaGreatDoor

abbrev Byts := List UInt8
/-- the tree from a node on -/
def ctF (nodes : List Cho) : Nat → Int → CT
  | 0, _ => .fx
  | f + 1, i => if (nodes.getD i.toNat cho0).server = -1 then .fx else if (nodes.getD i.toNat cho0).server = -2 then .fy
    else .nd (nodes.getD i.toNat cho0).server.toNat (ctF nodes f (nodes.getD i.toNat cho0).first) (ctF nodes f (nodes.getD i.toNat cho0).second)
def CT.txt : CT → Byts
  | .fx => [120]
  | .fy => [121]
  | .nd i l r => Lib.decDigits i ++ [40] ++ l.txt ++ [44, 32] ++ r.txt ++ [41]
def txtF (nodes : List Cho) : Nat → Int → Byts
  | 0, _ => [120]
  | f + 1, i => if (nodes.getD i.toNat cho0).server = -1 then [120] else if (nodes.getD i.toNat cho0).server = -2 then [121]
    else Lib.decDigits (nodes.getD i.toNat cho0).server.toNat ++ [40] ++ txtF nodes f (nodes.getD i.toNat cho0).first ++ [44, 32] ++ txtF nodes f (nodes.getD i.toNat cho0).second ++ [41]
theorem txt_ct (nodes : List Cho) : ∀ (f : Nat) (i : Int), txtF nodes f i = (ctF nodes f i).txt := by
  intro f
  induction f with
  | zero => intro i; rfl
  | succ f ih =>
    intro i
    unfold txtF ctF
    split
    · rfl
    · split
      · rfl
      · rw [ih, ih]; rfl
/-- the text of a tree, or the error -/
def fmtC (t : Tre) : Byts × Int := if formC t = true then (txtF t.nodes t.nodes.length t.root, 0) else ([], 1)

/-! reading -/
def stripP : Byts → Byts → Option Byts
  | [], s => some s
  | c :: p, d :: s => if c = d then stripP p s else none
  | _ :: _, [] => none
theorem strip_app (p s : Byts) : stripP p (p ++ s) = some s := by
  induction p with
  | nil => rfl
  | cons c p ih => show (if c = c then stripP p (p ++ s) else none) = _; rw [if_pos rfl, ih]
theorem strip_some {p s r : Byts} (h : stripP p s = some r) : s = p ++ r := by
  induction p generalizing s with
  | nil => unfold stripP at h; cases h; rfl
  | cons c p ih =>
    cases s with
    | nil => cases h
    | cons d s =>
      unfold stripP at h
      split at h
      · rename_i e; subst e; rw [ih h]; rfl
      · cases h
/-- a number with its bracket -/
def numP (s : Byts) : Option (Nat × Byts) := (List.range 12).findSome? fun n => (stripP (Lib.decDigits n ++ [40]) s).map fun r => (n, r)
theorem dec12 : ∀ n : Fin 12, Lib.decDigits n.val = if n.val < 10 then [UInt8.ofNat (48 + n.val)] else [49, UInt8.ofNat (38 + n.val)] := by decide +kernel
theorem num_one {n m : Nat} (hn : n < 12) (hm : m < 12) {r r' : Byts} (h : Lib.decDigits n ++ [40] ++ r = Lib.decDigits m ++ [40] ++ r') : n = m ∧ r = r' := by
  have key : ∀ n m : Fin 12, (Lib.decDigits n.val ++ [40]).take 2 = (Lib.decDigits m.val ++ [40]).take 2 → n = m := by decide +kernel
  have len2 : ∀ n : Fin 12, 2 ≤ (Lib.decDigits n.val ++ [40]).length := by decide +kernel
  have e : (Lib.decDigits n ++ [40]).take 2 = (Lib.decDigits m ++ [40]).take 2 := by
    have := congrArg (List.take 2) h
    rwa [List.take_append_of_le_length (len2 ⟨n, hn⟩), List.take_append_of_le_length (len2 ⟨m, hm⟩)] at this
  have := key ⟨n, hn⟩ ⟨m, hm⟩ e
  have hnm : n = m := congrArg Fin.val this
  subst hnm
  exact ⟨rfl, List.append_cancel_left h⟩
theorem numP_app {n : Nat} (hn : n < 12) (r : Byts) : numP (Lib.decDigits n ++ [40] ++ r) = some (n, r) := by
  unfold numP
  cases h : (List.range 12).findSome? fun k => (stripP (Lib.decDigits k ++ [40]) (Lib.decDigits n ++ [40] ++ r)).map fun r => (k, r) with
  | none =>
    rw [List.findSome?_eq_none_iff] at h
    have := h n (List.mem_range.2 hn)
    rw [strip_app] at this
    cases this
  | some p =>
    obtain ⟨k, hk, hs⟩ := List.exists_of_findSome?_eq_some h
    cases hq : stripP (Lib.decDigits k ++ [40]) (Lib.decDigits n ++ [40] ++ r) with
    | none => rw [hq] at hs; cases hs
    | some r' =>
      rw [hq] at hs
      have h1 := strip_some hq
      obtain ⟨rfl, rfl⟩ := num_one hn (List.mem_range.1 hk) h1
      cases hs; rfl
theorem numP_some {s r : Byts} {n : Nat} (h : numP s = some (n, r)) : n < 12 ∧ s = Lib.decDigits n ++ [40] ++ r := by
  unfold numP at h
  obtain ⟨k, hk, hs⟩ := List.exists_of_findSome?_eq_some h
  cases hq : stripP (Lib.decDigits k ++ [40]) s with
  | none => rw [hq] at hs; cases hs
  | some r' =>
    rw [hq] at hs
    cases hs
    exact ⟨List.mem_range.1 hk, strip_some hq⟩
theorem numP_none {s : Byts} (h : numP s = none) {n : Nat} (hn : n < 12) (r : Byts) : s ≠ Lib.decDigits n ++ [40] ++ r := by
  intro e
  rw [e, numP_app hn] at h; cases h

def pnode : Nat → Byts → List Cho → Option (Byts × List Cho)
  | 0, _, _ => none
  | f + 1, s, ns =>
    match stripP [120] s with
    | some r => some (r, ns ++ [⟨-1, 0, 0⟩])
    | none => match stripP [121] s with
      | some r => some (r, ns ++ [⟨-2, 0, 0⟩])
      | none => match numP s with
        | none => none
        | some (n, r) => match pnode f r ns with
          | none => none
          | some (r2, n2) => match stripP [44, 32] r2 with
            | none => none
            | some r3 => match pnode f r3 n2 with
              | none => none
              | some (r4, n4) => match stripP [41] r4 with
                | none => none
                | some r5 => some (r5, n4 ++ [⟨n, ((n2.length - 1 : Nat) : Int), ((n4.length - 1 : Nat) : Int)⟩])
/-- the tree with a text, or the error -/
def parC (s : Byts) : Tre × Int := match pnode (s.length + 1) s [] with
  | some ([], ns) => if ns.length ≤ 8191 then (⟨ns, ((ns.length - 1 : Nat) : Int)⟩, 0) else (⟨[], 0⟩, 2)
  | _ => (⟨[], 0⟩, 2)
theorem dec_head : ∀ n : Fin 12, ∃ c r, Lib.decDigits n.val = c :: r ∧ c ≠ 120 ∧ c ≠ 121 := by
  intro n
  have h1 := dec12 n
  have h2 : ∀ n : Fin 12, (if n.val < 10 then [UInt8.ofNat (48 + n.val)] else [49, UInt8.ofNat (38 + n.val)] : Byts).headD 120 ≠ 120 ∧ (if n.val < 10 then [UInt8.ofNat (48 + n.val)] else [49, UInt8.ofNat (38 + n.val)] : Byts).headD 120 ≠ 121 := by decide +kernel
  have h3 := h2 n
  rw [← h1] at h3
  cases hd : Lib.decDigits n.val with
  | nil => rw [hd] at h3; exact absurd rfl h3.1
  | cons c r => rw [hd] at h3; exact ⟨c, r, rfl, h3.1, h3.2⟩
theorem txt_len (T : CT) : T.sz ≤ T.txt.length := by
  induction T with
  | fx => exact Nat.le_refl _
  | fy => exact Nat.le_refl _
  | nd i l r h1 h2 => simp only [CT.txt, CT.sz, List.length_append, List.length_cons, List.length_nil]; omega
/-- the text of a tree leads back to it -/
theorem pnode_txt (T : CT) (hT : T.low) : ∀ (f : Nat) (rest : Byts) (ns : List Cho), T.sz ≤ f → pnode f (T.txt ++ rest) ns = some (rest, ns ++ T.bod ns.length) := by
  induction T with
  | fx => intro f rest ns hf; obtain ⟨f, rfl⟩ : ∃ g, f = g + 1 := ⟨f - 1, by have : 1 ≤ f := hf; omega⟩; rfl
  | fy => intro f rest ns hf; obtain ⟨f, rfl⟩ : ∃ g, f = g + 1 := ⟨f - 1, by have : 1 ≤ f := hf; omega⟩; rfl
  | nd i l r h1 h2 =>
    intro f rest ns hf
    obtain ⟨hi, hl, hr⟩ := hT
    have hls := l.sz_pos
    have hrs := r.sz_pos
    have hsz : (CT.nd i l r).sz = l.sz + r.sz + 1 := rfl
    rw [hsz] at hf
    obtain ⟨f, rfl⟩ : ∃ g, f = g + 1 := ⟨f - 1, by omega⟩
    obtain ⟨c, cr, hc, hcx, hcy⟩ := dec_head ⟨i, hi⟩
    have e : (CT.nd i l r).txt ++ rest = Lib.decDigits i ++ [40] ++ (l.txt ++ ([44, 32] ++ (r.txt ++ ([41] ++ rest)))) := by simp [CT.txt]
    have hx : stripP [120] (Lib.decDigits i ++ [40] ++ (l.txt ++ ([44, 32] ++ (r.txt ++ ([41] ++ rest))))) = none := by
      simp only at hc
      rw [hc]; show (if (120 : UInt8) = c then _ else none) = none; rw [if_neg (fun e => hcx e.symm)]
    have hy : stripP [121] (Lib.decDigits i ++ [40] ++ (l.txt ++ ([44, 32] ++ (r.txt ++ ([41] ++ rest))))) = none := by
      simp only at hc
      rw [hc]; show (if (121 : UInt8) = c then _ else none) = none; rw [if_neg (fun e => hcy e.symm)]
    unfold pnode
    rw [e, hx, hy, numP_app hi]
    simp only
    rw [h1 hl f _ ns (by omega)]
    simp only
    rw [strip_app]
    simp only
    rw [h2 hr f _ _ (by omega)]
    simp only
    rw [strip_app]
    simp [CT.bod, CT.bod_len, Nat.add_assoc]
theorem parC_txt (T : CT) (hT : T.low) (hs : T.sz ≤ 8191) : parC T.txt = (T.tre, 0) := by
  unfold parC
  have := pnode_txt T hT (T.txt.length + 1) [] [] (by have := txt_len T; omega)
  rw [List.append_nil, List.nil_append, List.length_nil] at this
  rw [this]
  simp only
  rw [if_pos (by rw [CT.bod_len]; exact hs), CT.bod_len]; rfl
/-! formed trees -/
theorem ct_low {nodes : List Cho} (hn : nodsC nodes = true) : ∀ (f : Nat) (i : Int), 0 ≤ i → i.toNat < nodes.length → i.toNat < f → (ctF nodes f i).low := by
  intro f
  induction f with
  | zero => intro i _ _ h; omega
  | succ f ih =>
    intro i h0 h1 h2
    unfold ctF
    have hc := nodsC_at hn h1
    split
    · trivial
    · rename_i q1
      split
      · trivial
      · rename_i q2
        have hlf : leafC (nodes.getD i.toNat cho0) = false := by unfold leafC; rw [decide_eq_false q1, decide_eq_false q2]; rfl
        obtain ⟨hs, hf, hsc⟩ := nodC_leaf hc hlf
        exact ⟨by omega, ih _ hf.1 (by omega) (by omega), ih _ hsc.1 (by omega) (by omega)⟩
/-- the sizes of the trees from the first nodes on -/
def szTo (nodes : List Cho) : Nat → List Nat
  | 0 => []
  | k + 1 => szTo nodes k ++ [if leafC (nodes.getD k cho0) = true then 1 else (szTo nodes k).getD (nodes.getD k cho0).first.toNat 0 + (szTo nodes k).getD (nodes.getD k cho0).second.toNat 0 + 1]
theorem szTo_len (nodes : List Cho) : ∀ k, (szTo nodes k).length = k := by
  intro k
  induction k with
  | zero => rfl
  | succ k ih => rw [szTo, List.length_append, ih]; rfl
theorem szTo_get (nodes : List Cho) {i : Nat} : ∀ k, i < k → (szTo nodes k).getD i 0 = (szTo nodes (i + 1)).getD i 0 := by
  intro k
  induction k with
  | zero => intro h; omega
  | succ k ih =>
    intro h
    by_cases h1 : i < k
    · rw [szTo, List.getD_eq_getElem?_getD, List.getElem?_append_left (by rw [szTo_len]; exact h1), ← List.getD_eq_getElem?_getD]
      exact ih h1
    · obtain rfl : i = k := by omega
      rfl
theorem szTo_at (nodes : List Cho) (k : Nat) : (szTo nodes (k + 1)).getD k 0 = if leafC (nodes.getD k cho0) = true then 1 else (szTo nodes k).getD (nodes.getD k cho0).first.toNat 0 + (szTo nodes k).getD (nodes.getD k cho0).second.toNat 0 + 1 := by
  rw [szTo, List.getD_eq_getElem?_getD, List.getElem?_append_right (by rw [szTo_len]; exact Nat.le_refl _), szTo_len, Nat.sub_self]; rfl
theorem ct_sz {nodes : List Cho} (hn : nodsC nodes = true) : ∀ (f : Nat) (i : Int), 0 ≤ i → i.toNat < nodes.length → i.toNat < f → (ctF nodes f i).sz = (szTo nodes nodes.length).getD i.toNat 0 := by
  intro f
  induction f with
  | zero => intro i _ _ h; omega
  | succ f ih =>
    intro i h0 h1 h2
    rw [szTo_get nodes _ h1, szTo_at]
    unfold ctF
    have hc := nodsC_at hn h1
    by_cases q1 : (nodes.getD i.toNat cho0).server = -1
    · have hlf : leafC (nodes.getD i.toNat cho0) = true := by unfold leafC; rw [decide_eq_true q1]; rfl
      rw [if_pos q1, if_pos hlf]; rfl
    · rw [if_neg q1]
      by_cases q2 : (nodes.getD i.toNat cho0).server = -2
      · have hlf : leafC (nodes.getD i.toNat cho0) = true := by unfold leafC; rw [decide_eq_true q2, Bool.or_true]
        rw [if_pos q2, if_pos hlf]; rfl
      · have hlf : leafC (nodes.getD i.toNat cho0) = false := by unfold leafC; rw [decide_eq_false q1, decide_eq_false q2]; rfl
        obtain ⟨hs, hf, hsc⟩ := nodC_leaf hc hlf
        rw [if_neg q2, hlf, if_neg (by decide)]
        show (ctF nodes f _).sz + (ctF nodes f _).sz + 1 = _
        rw [ih _ hf.1 (by omega) (by omega), ih _ hsc.1 (by omega) (by omega), szTo_get nodes _ (show _ < nodes.length by omega), szTo_get nodes _ (show (nodes.getD i.toNat cho0).second.toNat < nodes.length by omega),
          ← szTo_get nodes i.toNat (by omega), ← szTo_get nodes i.toNat (by omega)]
/-- the sum of the sizes of what has no parent yet -/
def pend (nodes : List Cho) (ps : List Int) : Nat → Nat
  | 0 => 0
  | j + 1 => pend nodes ps j + (if ps.getD j 0 = 0 then (szTo nodes (j + 1)).getD j 0 else 0)
theorem pend_congr {nodes : List Cho} {ps qs : List Int} : ∀ k, (∀ j, j < k → (ps.getD j 0 = 0 ↔ qs.getD j 0 = 0)) → pend nodes ps k = pend nodes qs k := by
  intro k
  induction k with
  | zero => intro _; rfl
  | succ k ih =>
    intro h
    unfold pend
    rw [ih fun j hj => h j (by omega)]
    have := h k (by omega)
    by_cases q : ps.getD k 0 = 0
    · rw [if_pos q, if_pos (this.1 q)]
    · rw [if_neg q, if_neg (fun e => q (this.2 e))]
theorem pend_set {nodes : List Cho} {ps : List Int} {a : Nat} (ha : ps.getD a 0 = 0) : ∀ k, a < k → k ≤ ps.length → pend nodes (ps.set a 1) k + (szTo nodes (a + 1)).getD a 0 = pend nodes ps k := by
  intro k
  induction k with
  | zero => intro h; omega
  | succ k ih =>
    intro h hk
    unfold pend
    rw [getD_set (by omega)]
    by_cases q : k = a
    · subst q
      rw [if_pos rfl, if_neg (by decide), ha, if_pos rfl]
      rw [pend_congr (ps := ps.set k 1) (qs := ps) k fun j hj => by rw [getD_set (by omega), if_neg (by omega)]]
      omega
    · rw [if_neg q]
      have := ih (by omega) (by omega)
      omega
theorem bump_ge (ps : List Int) (a : Int) (j : Nat) : ps.getD j 0 ≤ (bumpS ps a).getD j 0 := by
  unfold bumpS
  by_cases h : a.toNat < ps.length
  · rw [getD_set h]
    split
    · rename_i e; subst e; omega
    · exact Int.le_refl _
  · rw [List.set_eq_of_length_le (by omega)]; exact Int.le_refl _
theorem par_ge (ps : List Int) (c : Cho) (j : Nat) : ps.getD j 0 ≤ (parStep ps c).getD j 0 := by
  unfold parStep
  split
  · exact Int.le_refl _
  · exact Int.le_trans (bump_ge _ _ _) (bump_ge _ _ _)
theorem parTo_ge (nodes : List Cho) {k m : Nat} (h : k ≤ m) (j : Nat) : (parTo nodes k).getD j 0 ≤ (parTo nodes m).getD j 0 := by
  induction m with
  | zero => obtain rfl : k = 0 := by omega
            exact Int.le_refl _
  | succ m ih =>
    by_cases hk : k ≤ m
    · refine Int.le_trans (ih hk) ?_
      cases hc : nodes[m]? with
      | none => unfold parTo; rw [List.take_add_one, hc]; simp
      | some c => rw [parTo_succ hc]; exact par_ge _ _ _
    · obtain rfl : k = m + 1 := by omega
      exact Int.le_refl _
theorem parTo_nonneg (nodes : List Cho) (k j : Nat) : 0 ≤ (parTo nodes k).getD j 0 := by
  have := parTo_ge nodes (Nat.zero_le k) j
  have e : (parTo nodes 0).getD j 0 = 0 := by
    unfold parTo
    rw [List.take_zero, List.foldl_nil, List.getD_eq_getElem?_getD, List.getElem?_replicate]; split <;> rfl
  omega
/-- nodes that no one has come to yet have no parent -/
theorem parTo_late {nodes : List Cho} (hn : nodsC nodes = true) : ∀ k, k ≤ nodes.length → ∀ j, k ≤ j → (parTo nodes k).getD j 0 = 0 := by
  intro k
  induction k with
  | zero =>
    intro _ j _
    unfold parTo
    rw [List.take_zero, List.foldl_nil, List.getD_eq_getElem?_getD, List.getElem?_replicate]; split <;> rfl
  | succ k ih =>
    intro hk j hj
    have hc : nodes[k]? = some (nodes.getD k cho0) := by rw [List.getD_eq_getElem?_getD, List.getElem?_eq_getElem (by omega)]; rfl
    rw [parTo_succ hc]
    have hnc := nodsC_at hn (show k < nodes.length by omega)
    have h0 := ih (by omega) j (by omega)
    unfold parStep
    cases hlf : leafC (nodes.getD k cho0)
    · obtain ⟨_, hf, hs⟩ := nodC_leaf hnc hlf
      rw [if_neg (by decide)]
      unfold bumpS
      rw [getD_set (by rw [List.length_set, parTo_len]; omega), if_neg (by omega), getD_set (by rw [parTo_len]; omega), if_neg (by omega)]
      exact h0
    · rw [if_pos rfl]; exact h0
theorem pend_all {t : Tre} (h : formC t = true) : ∀ k, k ≤ t.nodes.length → pend t.nodes (parTo t.nodes k) k = k := by
  obtain ⟨⟨h1, h2, h3, h4⟩, hn, hp⟩ := formC_parts h
  have hfin : ∀ j, j < t.nodes.length → (parTo t.nodes t.nodes.length).getD j 0 ≤ 1 := fun j hj => by
    have := List.all_eq_true.1 hp j (List.mem_range.2 hj)
    unfold parB at this
    split at this
    · have := eq_of_beq this; omega
    · have := eq_of_beq this; omega
  intro k
  induction k with
  | zero => intro _; rfl
  | succ k ih =>
    intro hk
    have hc : t.nodes[k]? = some (t.nodes.getD k cho0) := by rw [List.getD_eq_getElem?_getD, List.getElem?_eq_getElem (by omega)]; rfl
    have hnc := nodsC_at hn (show k < t.nodes.length by omega)
    have hih := ih (by omega)
    have hlate := parTo_late hn (k + 1) hk k
    unfold pend
    have hk0 : (parTo t.nodes (k + 1)).getD k 0 = 0 := by
      rw [parTo_succ hc]
      have h0 := parTo_late hn k (by omega) k (Nat.le_refl _)
      unfold parStep
      cases hlf : leafC (t.nodes.getD k cho0)
      · obtain ⟨_, hf, hs⟩ := nodC_leaf hnc hlf
        rw [if_neg (by decide)]
        unfold bumpS
        rw [getD_set (by rw [List.length_set, parTo_len]; omega), if_neg (by omega), getD_set (by rw [parTo_len]; omega), if_neg (by omega)]
        exact h0
      · rw [if_pos rfl]; exact h0
    rw [if_pos hk0, szTo_at]
    cases hlf : leafC (t.nodes.getD k cho0)
    · obtain ⟨_, hf, hs⟩ := nodC_leaf hnc hlf
      rw [if_neg (by decide)]
      obtain ⟨a, ha⟩ : ∃ a, (t.nodes.getD k cho0).first.toNat = a := ⟨_, rfl⟩
      obtain ⟨b, hb⟩ : ∃ b, (t.nodes.getD k cho0).second.toNat = b := ⟨_, rfl⟩
      have hak : a < k := by omega
      have hbk : b < k := by omega
      have hstep : parTo t.nodes (k + 1) = ((parTo t.nodes k).set a ((parTo t.nodes k).getD a 0 + 1)).set b (((parTo t.nodes k).set a ((parTo t.nodes k).getD a 0 + 1)).getD b 0 + 1) := by
        rw [parTo_succ hc]; unfold parStep; rw [hlf, if_neg (by decide)]; unfold bumpS; rw [ha, hb]
      have hlen := parTo_len t.nodes k
      have f1 := hfin a (by omega)
      have f2 := hfin b (by omega)
      have g1 := parTo_ge t.nodes hk a
      have g2 := parTo_ge t.nodes hk b
      have p1 := parTo_nonneg t.nodes k a
      have p2 := parTo_nonneg t.nodes k b
      rw [hstep] at g1 g2
      rw [getD_set (by rw [List.length_set]; omega), getD_set (by omega)] at g1
      rw [getD_set (by rw [List.length_set]; omega), if_pos rfl, getD_set (by omega)] at g2
      have hab : a ≠ b := by
        intro e; subst e
        rw [if_pos rfl] at g2
        omega
      rw [if_neg (fun e => hab e), getD_set (by omega), if_pos rfl] at g1
      rw [if_neg (fun e => hab e.symm)] at g2
      have a0 : (parTo t.nodes k).getD a 0 = 0 := by omega
      have b0 : (parTo t.nodes k).getD b 0 = 0 := by omega
      rw [hstep, a0, getD_set (by omega), if_neg (fun e => hab e.symm), b0]
      have e1 := pend_set (nodes := t.nodes) a0 k hak (by omega)
      have e2 := pend_set (nodes := t.nodes) (ps := (parTo t.nodes k).set a 1) (a := b) (by rw [getD_set (by omega), if_neg (fun e => hab e.symm)]; exact b0) k hbk (by rw [List.length_set]; omega)
      rw [ha, hb, szTo_get t.nodes k hak, szTo_get t.nodes k hbk]
      show pend t.nodes (((parTo t.nodes k).set a (0 + 1)).set b (0 + 1)) k + _ = k + 1
      rw [Int.zero_add]
      omega
    · rw [if_pos rfl]
      have : parTo t.nodes (k + 1) = parTo t.nodes k := by rw [parTo_succ hc]; unfold parStep; rw [hlf, if_pos rfl]
      rw [this, hih]
theorem pend_one {nodes : List Cho} {ps : List Int} {r : Nat} (hr : ps.getD r 0 = 0) : ∀ k, (∀ j, j < k → j ≠ r → ps.getD j 0 ≠ 0) → pend nodes ps k = if r < k then (szTo nodes (r + 1)).getD r 0 else 0 := by
  intro k
  induction k with
  | zero => intro _; rfl
  | succ k ih =>
    intro h
    unfold pend
    rw [ih fun j hj => h j (by omega)]
    by_cases q : k = r
    · subst q; rw [if_neg (by omega), if_pos hr, if_pos (by omega)]; omega
    · rw [if_neg (h k (by omega) q)]
      by_cases q2 : r < k
      · rw [if_pos q2, if_pos (by omega)]; rfl
      · rw [if_neg q2, if_neg (by omega)]
/-- a formed tree comes to each of its nodes once -/
theorem form_sz {t : Tre} (h : formC t = true) : (ctF t.nodes t.nodes.length t.root).sz = t.nodes.length := by
  obtain ⟨⟨h1, h2, h3, h4⟩, hn, hp⟩ := formC_parts h
  rw [ct_sz hn _ _ h3 (by omega) (by omega), szTo_get t.nodes _ (by omega)]
  have hall := pend_all h _ (Nat.le_refl _)
  have hpar : ∀ j, j < t.nodes.length → parB t.root (parTo t.nodes t.nodes.length) j = true := fun j hj => List.all_eq_true.1 hp j (List.mem_range.2 hj)
  rw [pend_one (r := t.root.toNat)] at hall
  · rw [if_pos (by omega)] at hall; exact hall
  · have := hpar t.root.toNat (by omega)
    unfold parB at this
    rw [if_pos (by omega)] at this
    exact eq_of_beq this
  · intro j hj hne
    have := hpar j hj
    unfold parB at this
    rw [if_neg (by omega)] at this
    rw [eq_of_beq this]; decide
theorem txtF_tre (T : CT) (hT : T.low) : ∀ (k f : Nat) (N : List Cho), T.sz ≤ f → (∀ j c, (T.bod k)[j]? = some c → N[k + j]? = some c) → txtF N f ((k + T.sz - 1 : Nat) : Int) = T.txt := by
  induction T with
  | fx =>
    intro k f N hf hN
    obtain ⟨f, rfl⟩ : ∃ g, f = g + 1 := ⟨f - 1, by have : 1 ≤ f := hf; omega⟩
    have hc := hN 0 _ rfl
    have hg : N.getD (((k + CT.fx.sz - 1 : Nat) : Int)).toNat cho0 = ⟨-1, 0, 0⟩ := by
      rw [Int.toNat_natCast, List.getD_eq_getElem?_getD, show k + CT.fx.sz - 1 = k + 0 by show k + 1 - 1 = k + 0; omega, hc]; rfl
    unfold txtF
    rw [hg]; rfl
  | fy =>
    intro k f N hf hN
    obtain ⟨f, rfl⟩ : ∃ g, f = g + 1 := ⟨f - 1, by have : 1 ≤ f := hf; omega⟩
    have hc := hN 0 _ rfl
    have hg : N.getD (((k + CT.fy.sz - 1 : Nat) : Int)).toNat cho0 = ⟨-2, 0, 0⟩ := by
      rw [Int.toNat_natCast, List.getD_eq_getElem?_getD, show k + CT.fy.sz - 1 = k + 0 by show k + 1 - 1 = k + 0; omega, hc]; rfl
    unfold txtF
    rw [hg]; rfl
  | nd i l r h1 h2 =>
    intro k f N hf hN
    obtain ⟨hi, hl, hr⟩ := hT
    have hls := l.sz_pos
    have hrs := r.sz_pos
    have hsz : (CT.nd i l r).sz = l.sz + r.sz + 1 := rfl
    rw [hsz] at hf ⊢
    obtain ⟨f, rfl⟩ : ∃ g, f = g + 1 := ⟨f - 1, by omega⟩
    have hc : N[k + (l.sz + r.sz)]? = some ⟨i, ((k + l.sz - 1 : Nat) : Int), ((k + l.sz + r.sz - 1 : Nat) : Int)⟩ := by
      refine hN (l.sz + r.sz) _ ?_
      show (l.bod k ++ r.bod (k + l.sz) ++ _)[l.sz + r.sz]? = _
      rw [List.getElem?_append_right (by simp [CT.bod_len])]
      simp [CT.bod_len]
    have hNl : ∀ j c, (l.bod k)[j]? = some c → N[k + j]? = some c := fun j c h => hN j c (by
      show (l.bod k ++ r.bod (k + l.sz) ++ _)[j]? = _
      have := (List.getElem?_eq_some_iff.1 h).1
      rw [List.append_assoc, List.getElem?_append_left this]; exact h)
    have hNr : ∀ j c, (r.bod (k + l.sz))[j]? = some c → N[k + l.sz + j]? = some c := fun j c h => by
      have := hN (l.sz + j) c (by
        show (l.bod k ++ r.bod (k + l.sz) ++ _)[l.sz + j]? = _
        have hjl := (List.getElem?_eq_some_iff.1 h).1
        rw [List.getElem?_append_left (by rw [List.length_append, CT.bod_len]; omega), List.getElem?_append_right (by rw [CT.bod_len]; omega), CT.bod_len]
        rw [show l.sz + j - l.sz = j by omega]; exact h)
      rwa [← Nat.add_assoc] at this
    have hg : N.getD (((k + (l.sz + r.sz + 1) - 1 : Nat) : Int)).toNat cho0 = ⟨i, ((k + l.sz - 1 : Nat) : Int), ((k + l.sz + r.sz - 1 : Nat) : Int)⟩ := by
      rw [Int.toNat_natCast, List.getD_eq_getElem?_getD, show k + (l.sz + r.sz + 1) - 1 = k + (l.sz + r.sz) by omega, hc]; rfl
    unfold txtF
    rw [hg]
    simp only
    rw [if_neg (by omega), if_neg (by omega), Int.toNat_natCast, h1 hl k f N (by omega) hNl, h2 hr (k + l.sz) f N (by omega) hNr]
    rfl
theorem fmt_tre (T : CT) (hT : T.low) (hs : T.sz ≤ 8191) : fmtC T.tre = (T.txt, 0) := by
  unfold fmtC
  rw [if_pos (tre_form T hT hs)]
  have := txtF_tre T hT 0 T.sz (T.bod 0) (Nat.le_refl _) (fun j c h => by rwa [Nat.zero_add])
  rw [Nat.zero_add] at this
  show (txtF (T.bod 0) (T.bod 0).length ((T.sz - 1 : Nat) : Int), (0 : Int)) = _
  rw [T.bod_len, this]
/-- the text of a formed tree leads to a tree with as many nodes and the same text -/
theorem text_back {t : Tre} (h : formC t = true) : ∃ u, parC (fmtC t).1 = (u, 0) ∧ fmtC u = ((fmtC t).1, 0) ∧ u.nodes.length = t.nodes.length := by
  obtain ⟨⟨h1, h2, h3, h4⟩, hn, _⟩ := formC_parts h
  have hlow := ct_low hn t.nodes.length t.root h3 (by omega) (by omega)
  have hsz := form_sz h
  have e : (fmtC t).1 = (ctF t.nodes t.nodes.length t.root).txt := by unfold fmtC; rw [if_pos h]; exact txt_ct _ _ _
  refine ⟨(ctF t.nodes t.nodes.length t.root).tre, ?_, ?_, ?_⟩
  · rw [e]; exact parC_txt _ hlow (by omega)
  · rw [e]; exact fmt_tre _ hlow (by omega)
  · show ((ctF t.nodes t.nodes.length t.root).bod 0).length = _
    rw [CT.bod_len, hsz]
end Go.Proofs.YtflpkkebampmfaaGreatDoor
namespace Go.Proofs.YtflpkkebampmfaaGreatDoor

theorem strip_trim : ∀ (p s : Byts), stripP p s = if Lib.hasPrefix s p = true then some (Lib.trimPrefix s p) else none := by
  intro p
  induction p with
  | nil => intro s; unfold Lib.trimPrefix Lib.hasPrefix; simp [stripP]
  | cons c p ih =>
    intro s
    cases s with
    | nil => unfold Lib.hasPrefix; simp [stripP]
    | cons d s =>
      have h := ih s
      unfold Lib.trimPrefix Lib.hasPrefix at h ⊢
      unfold stripP
      by_cases e : c = d
      · subst e
        rw [if_pos rfl, h]
        have e : (c :: p).isPrefixOf (c :: s) = p.isPrefixOf s := by simp [List.isPrefixOf]
        rw [e]
        cases p.isPrefixOf s <;> rfl
      · rw [if_neg e, if_neg (by simp [List.isPrefixOf, e])]
theorem strip_yes {p s r : Byts} (h : stripP p s = some r) : Lib.hasPrefix s p = true ∧ Lib.trimPrefix s p = r := by
  rw [strip_trim] at h
  split at h
  · rename_i e; exact ⟨e, Option.some.inj h⟩
  · cases h
theorem strip_no {p s : Byts} (h : stripP p s = none) : Lib.hasPrefix s p = false ∧ Lib.trimPrefix s p = s := by
  rw [strip_trim] at h
  split at h
  · cases h
  · rename_i e
    have e' : Lib.hasPrefix s p = false := by simpa using e
    exact ⟨e', by unfold Lib.trimPrefix; rw [if_neg (by rw [e']; decide)]⟩
theorem strip_len {p s r : Byts} (h : stripP p s = some r) : p.length + r.length = s.length := by rw [strip_some h, List.length_append]

theorem dec_atoi (n : Nat) (hn : n < 12) : Lib.atoiAll (Lib.decDigits n) = .ok (n : Int) := by
  have h1 := dec12 ⟨n, hn⟩
  simp only at h1
  rw [h1]
  have : ∀ n : Fin 12, Lib.atoiAll (if n.val < 10 then [UInt8.ofNat (48 + n.val)] else [49, UInt8.ofNat (38 + n.val)] : Byts) = .ok (n.val : Int) := by decide +kernel
  exact this ⟨n, hn⟩
theorem dec_no40 (n : Nat) (hn : n < 12) : (40 : UInt8) ∉ Lib.decDigits n := by
  have h1 := dec12 ⟨n, hn⟩
  simp only at h1
  rw [h1]
  have : ∀ n : Fin 12, (40 : UInt8) ∉ (if n.val < 10 then [UInt8.ofNat (48 + n.val)] else [49, UInt8.ofNat (38 + n.val)] : Byts) := by decide +kernel
  exact this ⟨n, hn⟩
theorem num_nobr {s : Byts} (h : Lib.indexByte s 40 = -1) : numP s = none := by
  cases hq : numP s with
  | none => rfl
  | some p =>
    obtain ⟨n, r⟩ := p
    obtain ⟨_, e⟩ := numP_some hq
    have := Lib.indexByte_none h (Lib.decDigits n).length
    rw [e] at this
    exact absurd (by simp) this
theorem idx_split {s : Byts} {k : Nat} (h : Lib.indexByte s 40 = (k : Int)) : k < s.length ∧ s = s.take k ++ [40] ++ s.drop (k + 1) := by
  obtain ⟨h1, _⟩ := Lib.indexByte_some h
  obtain ⟨hk, e⟩ := List.getElem?_eq_some_iff.1 h1
  refine ⟨hk, ?_⟩
  have := List.drop_eq_getElem_cons hk
  rw [e] at this
  rw [List.append_assoc, List.singleton_append, ← this, List.take_append_drop]
theorem num_pre {s r : Byts} {n k : Nat} (h : Lib.indexByte s 40 = (k : Int)) (hq : numP s = some (n, r)) : n < 12 ∧ s.take k = Lib.decDigits n ∧ s.drop (k + 1) = r := by
  obtain ⟨hn, e⟩ := numP_some hq
  obtain ⟨h1, h2⟩ := Lib.indexByte_some h
  have hlen : (Lib.decDigits n).length = k := by
    rcases Nat.lt_trichotomy k (Lib.decDigits n).length with hl | hl | hl
    · exfalso
      rw [e, List.append_assoc, List.getElem?_append_left hl] at h1
      exact dec_no40 n hn (List.mem_of_getElem? h1)
    · exact hl.symm
    · exfalso
      refine h2 _ hl ?_
      rw [e]; simp
  refine ⟨hn, ?_, ?_⟩
  · rw [e, List.append_assoc, ← hlen]; simp
  · rw [e, ← hlen]; simp
theorem num_yes {s : Byts} {n k : Nat} (h : Lib.indexByte s 40 = (k : Int)) (hn : n < 12) (hp : Lib.decDigits n = s.take k) : numP s = some (n, s.drop (k + 1)) := by
  have e := (idx_split h).2
  have := numP_app hn (s.drop (k + 1))
  rw [hp, ← e] at this
  exact this
theorem num_err {s : Byts} {k : Nat} (h : Lib.indexByte s 40 = (k : Int)) (ha : ∀ v, Lib.atoiAll (s.take k) ≠ .ok v) : numP s = none := by
  cases hq : numP s with
  | none => rfl
  | some p =>
    obtain ⟨n, r⟩ := p
    obtain ⟨hn, e, _⟩ := num_pre h hq
    exact absurd (by rw [e]; exact dec_atoi n hn) (ha (n : Int))
theorem num_out {s : Byts} {k : Nat} {v : Int} (h : Lib.indexByte s 40 = (k : Int)) (ha : Lib.atoiAll (s.take k) = .ok v) (hv : v < 0 ∨ 12 ≤ v) : numP s = none := by
  cases hq : numP s with
  | none => rfl
  | some p =>
    obtain ⟨n, r⟩ := p
    obtain ⟨hn, e, _⟩ := num_pre h hq
    rw [e, dec_atoi n hn] at ha
    cases ha; omega
theorem num_other {s : Byts} {k : Nat} {n : Nat} (h : Lib.indexByte s 40 = (k : Int)) (ha : Lib.atoiAll (s.take k) = .ok (n : Int)) (hv : Lib.decDigits n ≠ s.take k) : numP s = none := by
  cases hq : numP s with
  | none => rfl
  | some p =>
    obtain ⟨m, r⟩ := p
    obtain ⟨hm, e, _⟩ := num_pre h hq
    rw [e, dec_atoi m hm] at ha
    have : m = n := by cases ha; rfl
    subst this
    exact absurd e.symm hv
theorem num_len {s r : Byts} {n : Nat} (h : numP s = some (n, r)) : r.length + 2 ≤ s.length := by
  obtain ⟨hn, e⟩ := numP_some h
  have h1 : 1 ≤ (Lib.decDigits n).length := by
    obtain ⟨c, r', hc, _⟩ := dec_head ⟨n, hn⟩
    simp only at hc
    rw [hc]; simp
  rw [e]; simp; omega

/-! one node -/
section
variable {f : Nat} {s : Byts} {ns : List Cho}
theorem pn_x {r : Byts} (h : stripP [120] s = some r) : pnode (f + 1) s ns = some (r, ns ++ [⟨-1, 0, 0⟩]) := by unfold pnode; rw [h]
theorem pn_y {r : Byts} (h0 : stripP [120] s = none) (h : stripP [121] s = some r) : pnode (f + 1) s ns = some (r, ns ++ [⟨-2, 0, 0⟩]) := by unfold pnode; rw [h0, h]
theorem pn_0 (h0 : stripP [120] s = none) (h1 : stripP [121] s = none) (h : numP s = none) : pnode (f + 1) s ns = none := by unfold pnode; rw [h0, h1, h]
theorem pn_1 {n : Nat} {r : Byts} (h0 : stripP [120] s = none) (h1 : stripP [121] s = none) (h2 : numP s = some (n, r)) (h : pnode f r ns = none) : pnode (f + 1) s ns = none := by
  unfold pnode; rw [h0, h1, h2]; simp only; rw [h]
theorem pn_2 {n : Nat} {r r2 : Byts} {n2 : List Cho} (h0 : stripP [120] s = none) (h1 : stripP [121] s = none) (h2 : numP s = some (n, r)) (h3 : pnode f r ns = some (r2, n2)) (h : stripP [44, 32] r2 = none) : pnode (f + 1) s ns = none := by
  unfold pnode; rw [h0, h1, h2]; simp only; rw [h3]; simp only; rw [h]
theorem pn_3 {n : Nat} {r r2 r3 : Byts} {n2 : List Cho} (h0 : stripP [120] s = none) (h1 : stripP [121] s = none) (h2 : numP s = some (n, r)) (h3 : pnode f r ns = some (r2, n2)) (h4 : stripP [44, 32] r2 = some r3) (h : pnode f r3 n2 = none) : pnode (f + 1) s ns = none := by
  unfold pnode; rw [h0, h1, h2]; simp only; rw [h3]; simp only; rw [h4]; simp only; rw [h]
theorem pn_4 {n : Nat} {r r2 r3 r4 : Byts} {n2 n4 : List Cho} (h0 : stripP [120] s = none) (h1 : stripP [121] s = none) (h2 : numP s = some (n, r)) (h3 : pnode f r ns = some (r2, n2)) (h4 : stripP [44, 32] r2 = some r3) (h5 : pnode f r3 n2 = some (r4, n4)) (h : stripP [41] r4 = none) : pnode (f + 1) s ns = none := by
  unfold pnode; rw [h0, h1, h2]; simp only; rw [h3]; simp only; rw [h4]; simp only; rw [h5]; simp only; rw [h]
theorem pn_5 {n : Nat} {r r2 r3 r4 r5 : Byts} {n2 n4 : List Cho} (h0 : stripP [120] s = none) (h1 : stripP [121] s = none) (h2 : numP s = some (n, r)) (h3 : pnode f r ns = some (r2, n2)) (h4 : stripP [44, 32] r2 = some r3) (h5 : pnode f r3 n2 = some (r4, n4)) (h : stripP [41] r4 = some r5) :
    pnode (f + 1) s ns = some (r5, n4 ++ [⟨n, ((n2.length - 1 : Nat) : Int), ((n4.length - 1 : Nat) : Int)⟩]) := by
  unfold pnode; rw [h0, h1, h2]; simp only; rw [h3]; simp only; rw [h4]; simp only; rw [h5]; simp only; rw [h]
end
theorem pn_len : ∀ (f : Nat) (s : Byts) (ns : List Cho) (r : Byts) (n2 : List Cho), pnode f s ns = some (r, n2) → r.length < s.length ∧ n2.length + r.length ≤ ns.length + s.length ∧ 1 ≤ n2.length := by
  intro f
  induction f with
  | zero => intro s ns r n2 h; cases h
  | succ f ih =>
    intro s ns r n2 h
    cases h0 : stripP [120] s with
    | some r0 =>
      rw [pn_x h0] at h
      cases h
      have := strip_len h0
      simp at this ⊢; omega
    | none =>
      cases h1 : stripP [121] s with
      | some r0 =>
        rw [pn_y h0 h1] at h
        cases h
        have := strip_len h1
        simp at this ⊢; omega
      | none =>
        cases h2 : numP s with
        | none => rw [pn_0 h0 h1 h2] at h; cases h
        | some p =>
          obtain ⟨n, r1⟩ := p
          have l2 := num_len h2
          cases h3 : pnode f r1 ns with
          | none => rw [pn_1 h0 h1 h2 h3] at h; cases h
          | some p =>
            obtain ⟨r2, n2'⟩ := p
            have l3 := ih _ _ _ _ h3
            cases h4 : stripP [44, 32] r2 with
            | none => rw [pn_2 h0 h1 h2 h3 h4] at h; cases h
            | some r3 =>
              have l4 := strip_len h4
              cases h5 : pnode f r3 n2' with
              | none => rw [pn_3 h0 h1 h2 h3 h4 h5] at h; cases h
              | some p =>
                obtain ⟨r4, n4⟩ := p
                have l5 := ih _ _ _ _ h5
                cases h6 : stripP [41] r4 with
                | none => rw [pn_4 h0 h1 h2 h3 h4 h5 h6] at h; cases h
                | some r5 =>
                  have l6 := strip_len h6
                  rw [pn_5 h0 h1 h2 h3 h4 h5 h6] at h
                  cases h
                  simp at l4 l6 ⊢; omega

/-! bytes -/
theorem bs_ext {a b : ByteArray} (h : a.toList = b.toList) : a = b := by
  rw [ByteArray.toList_eq, ByteArray.toList_eq] at h
  exact ByteArray.ext (Array.toList_inj.1 h)
theorem bs_same (a : ByteArray) : (a.toList == a.toList) = true := by simp
theorem bs_diff {a b : ByteArray} (h : a ≠ b) : (a.toList == b.toList) = false := by
  rw [beq_eq_false_iff_ne]; exact fun e => h (bs_ext e)
def mkB (l : Byts) : ByteArray := ⟨l.toArray⟩
theorem mkB_list (l : Byts) : (mkB l).data.toList = l := rfl
theorem mkB_size (l : Byts) : (mkB l).size = l.length := by show l.toArray.size = _; simp
theorem mkB_of (s : ByteArray) : mkB s.data.toList = s := rfl
theorem mkB_extract (l : Byts) (a b : Nat) : (mkB l).extract a b = mkB ((l.drop a).take (b - a)) := by
  have h : ((mkB l).extract a b).data = (mkB ((l.drop a).take (b - a))).data := by
    rw [ByteArray.data_extract]
    unfold mkB
    simp [List.extract_eq_take_drop, List.take_drop]
  exact congrArg ByteArray.mk h
end Go.Proofs.YtflpkkebampmfaaGreatDoor
namespace Go.Proofs
open Go.Shelf

def Tryz.lays137_ren : Go.Shelf.Ren := ⟨fun | 137 => 47 | 217 => 57 | 266 => 73 | n => n, fun | 9 => 9 | 5 => 5 | 3 => 3 | n => n, fun | n => n⟩

theorem Tryz.lays137 : Go.Proofs.Lays.n137 Tryz.prog Tryz.lays137_ren := {
  mixed := by kernel_rfl
  f137 := Tryz.func47.trans (congrArg some (by kernel_rfl))
  f217 := Tryz.func57.trans (congrArg some (by kernel_rfl))
  f266 := Tryz.func73.trans (congrArg some (by kernel_rfl))
  t3 := Tryz.underlying3
  a3 := Tryz.isAgg3
  z3 := Tryz.sizeOf3
  v3 := Tryz.zeroValue3
  t5 := Tryz.underlying5
  a5 := Tryz.isAgg5
  z5 := Tryz.sizeOf5
  v5 := Tryz.zeroValue5
  t9 := Tryz.underlying9
  a9 := Tryz.isAgg9
  z9 := Tryz.sizeOf9
  v9 := Tryz.zeroValue9 }

open Go.RowKit in
theorem Tryz.strings_IndexByte (s : ByteArray) (c : Int) (w : World) :
    Calls Tryz.prog 47 #[.string s, .int .u8 c] w fun e w' => e = .returned (.int .i64 (Lib.indexByte s.data.toList c.toNat.toUInt8)) ∧ w' = w := Any.strings_IndexByte Tryz.lays137 s c w

def Tryz.lays103_ren : Go.Shelf.Ren := ⟨fun | 103 => 56 | 210 => 72 | 206 => 85 | n => n, fun | 9 => 9 | 4 => 4 | 24 => 106 | 3 => 3 | n => n, fun | n => n⟩

theorem Tryz.lays103 : Go.Proofs.Lays.n103 Tryz.prog Tryz.lays103_ren := {
  mixed := by kernel_rfl
  f103 := Tryz.func56.trans (congrArg some (by kernel_rfl))
  f206 := Tryz.func85.trans (congrArg some (by kernel_rfl))
  f210 := Tryz.func72.trans (congrArg some (by kernel_rfl))
  t3 := Tryz.underlying3
  a3 := Tryz.isAgg3
  z3 := Tryz.sizeOf3
  v3 := Tryz.zeroValue3
  t4 := Tryz.underlying4
  a4 := Tryz.isAgg4
  z4 := Tryz.sizeOf4
  v4 := Tryz.zeroValue4
  t9 := Tryz.underlying9
  a9 := Tryz.isAgg9
  z9 := Tryz.sizeOf9
  v9 := Tryz.zeroValue9
  t24 := Tryz.underlying106
  a24 := Tryz.isAgg106
  z24 := Tryz.sizeOf106
  v24 := Tryz.zeroValue106 }

open Go.RowKit in
theorem Tryz.strings_CutPrefix (s p : ByteArray) (w : World) :
    Calls Tryz.prog 56 #[.string s, .string p] w fun e w' => e = .returned (.tuple #[.string ⟨(Lib.trimPrefix s.data.toList p.data.toList).toArray⟩, .bool (Lib.hasPrefix s.data.toList p.data.toList)]) ∧ w' = w := Any.strings_CutPrefix Tryz.lays103 s p w

def Tryz.lays171_ren : Go.Shelf.Ren := ⟨fun | 171 => 49 | 243 => 60 | 246 => 79 | 283 => 89 | 284 => 90 | 285 => 91 | 286 => 92 | 129 => 96 | 317 => 95 | 318 => 97 | 319 => 98 | 320 => 99 | 337 => 100 | 338 => 101 | n => n, fun | 3 => 3 | 9 => 9 | 2 => 2 | 4 => 4 | 171 => 133 | 0 => 0 | 53 => 126 | 37 => 53 | 5 => 5 | 173 => 136 | 212 => 145 | 51 => 103 | 20 => 20 | 213 => 146 | 46 => 104 | 232 => 102 | 233 => 149 | n => n, fun | 17 => 4 | 18 => 0 | 19 => 5 | n => n⟩

theorem Tryz.lays171 : Go.Proofs.Lays.n171 Tryz.prog Tryz.lays171_ren := {
  mixed := by kernel_rfl
  f129 := Tryz.func96.trans (congrArg some (by kernel_rfl))
  f171 := Tryz.func49.trans (congrArg some (by kernel_rfl))
  f243 := Tryz.func60.trans (congrArg some (by kernel_rfl))
  f246 := Tryz.func79.trans (congrArg some (by kernel_rfl))
  f283 := Tryz.func89.trans (congrArg some (by kernel_rfl))
  f284 := Tryz.func90.trans (congrArg some (by kernel_rfl))
  f285 := Tryz.func91.trans (congrArg some (by kernel_rfl))
  f286 := Tryz.func92.trans (congrArg some (by kernel_rfl))
  f317 := Tryz.func95.trans (congrArg some (by kernel_rfl))
  f318 := Tryz.func97.trans (congrArg some (by kernel_rfl))
  f319 := Tryz.func98.trans (congrArg some (by kernel_rfl))
  f320 := Tryz.func99.trans (congrArg some (by kernel_rfl))
  f337 := Tryz.func100.trans (congrArg some (by kernel_rfl))
  f338 := Tryz.func101.trans (congrArg some (by kernel_rfl))
  t0 := Tryz.underlying0
  a0 := Tryz.isAgg0
  z0 := Tryz.sizeOf0
  v0 := Tryz.zeroValue0
  t2 := Tryz.underlying2
  a2 := Tryz.isAgg2
  z2 := Tryz.sizeOf2
  v2 := Tryz.zeroValue2
  t3 := Tryz.underlying3
  a3 := Tryz.isAgg3
  z3 := Tryz.sizeOf3
  v3 := Tryz.zeroValue3
  t4 := Tryz.underlying4
  a4 := Tryz.isAgg4
  z4 := Tryz.sizeOf4
  v4 := Tryz.zeroValue4
  t5 := Tryz.underlying5
  a5 := Tryz.isAgg5
  z5 := Tryz.sizeOf5
  v5 := Tryz.zeroValue5
  t9 := Tryz.underlying9
  a9 := Tryz.isAgg9
  z9 := Tryz.sizeOf9
  v9 := Tryz.zeroValue9
  t20 := Tryz.underlying20
  a20 := Tryz.isAgg20
  z20 := Tryz.sizeOf20
  v20 := Tryz.zeroValue20
  t37 := Tryz.underlying53
  a37 := Tryz.isAgg53
  z37 := Tryz.sizeOf53
  v37 := Tryz.zeroValue53
  t46 := Tryz.underlying104
  a46 := Tryz.isAgg104
  z46 := Tryz.sizeOf104
  v46 := Tryz.zeroValue104
  t51 := Tryz.underlying103
  a51 := Tryz.isAgg103
  z51 := Tryz.sizeOf103
  v51 := Tryz.zeroValue103
  t53 := Tryz.underlying126
  a53 := Tryz.isAgg126
  z53 := Tryz.sizeOf126
  v53 := Tryz.zeroValue126
  t171 := Tryz.underlying133
  a171 := Tryz.isAgg133
  z171 := Tryz.sizeOf133
  v171 := Tryz.zeroValue133
  t173 := Tryz.underlying136
  a173 := Tryz.isAgg136
  z173 := Tryz.sizeOf136
  v173 := Tryz.zeroValue136
  t212 := Tryz.underlying145
  a212 := Tryz.isAgg145
  z212 := Tryz.sizeOf145
  v212 := Tryz.zeroValue145
  t213 := Tryz.underlying146
  a213 := Tryz.isAgg146
  z213 := Tryz.sizeOf146
  t232 := Tryz.underlying102
  a232 := Tryz.isAgg102
  z232 := Tryz.sizeOf102
  v232 := Tryz.zeroValue102
  t233 := Tryz.underlying149
  a233 := Tryz.isAgg149
  z233 := Tryz.sizeOf149
  v233 := Tryz.zeroValue149
  g17 := by kernel_rfl
  g18 := by kernel_rfl
  g19 := by kernel_rfl }

open Go.RowKit Go.Sort Go.Lib in
theorem Tryz.strconv_Itoa_small (i : Nat) (hi : i < 100) (w : World) :
    Calls Tryz.prog 49 #[.int .i64 i] w fun e w' => e = .returned (.string ⟨(Lib.decDigits i).toArray⟩) ∧ w' = w := Any.strconv_Itoa_small Tryz.lays171 i hi w

end Go.Proofs
