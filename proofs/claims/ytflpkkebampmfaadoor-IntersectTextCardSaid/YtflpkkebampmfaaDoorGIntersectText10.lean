/- Texts laid together. intersect.Format and its closure. Contracts of Go's library over this seat's dump: laid by the kit's shelf tools (plain mode), cut down to those that are used. intersect.Format. The reference's reader: take. The reference's reader: node (printed by rdr.py). The reference's Formed. A region that draws its order: operations that stay in a class of worlds, and behind them, in one forced order, a tail that writes. Over any program. The reference's text and Format of layer 20. A handed slice of integers, as a law's frame opens it. Handed drafts, as a law's frame opens them. Handed trees, choices, expressions, descriptions, as a law's frame opens them. Layer 20: the law Text, walked. -/
import Derived.Test.YtflpkkebampmfaaDoorGIntersectText1
import Derived.Test.YtflpkkebampmfaaDoorGIntersectText6
import Derived.Test.YtflpkkebampmfaaDoorGIntersectText7
import Derived.Test.YtflpkkebampmfaaDoorGIntersectText8
import Derived.Test.YtflpkkebampmfaaDoorGIntersectText9
import Derived.Test.YtflpkkebampmfaaDoorProg
import Derived.Shelf.Strings.Builder1
import Derived.Shelf.Small.Strs
import Derived.Shelf.Small.Wraps
import Derived.Shelf.Strings.BuilderF
import Derived.Shelf.Strings.BuilderK
import Derived.Shelf.Strconv.Atoi
import Derived.Shelf.Strconv.Itoa0
import Derived.Shelf.Strconv.Itoa1
import Derived.Shelf.LaysM
import Derived.Shelf.Strconv.Itoa2
import Derived.Shelf.Strconv.Itoa3
import Derived.Shelf.Strconv.AtoiErrFast
import Derived.Shelf.Strconv.ParseIntEmpty
import Derived.Shelf.Strconv.AtoiFail
import Derived.Shelf.Strconv.Clone
import Derived.Shelf.Strconv.SyntaxError
import Derived.Shelf.LaysC
import Derived.Shelf.Strconv.ToError
import Derived.Shelf.Strconv.Lower
import Derived.Shelf.Strconv.ParseUint10
import Derived.Shelf.Strconv.ParseUint10Empty
import Derived.Shelf.Strconv.ParseUint10Any
import Derived.Shelf.Strconv.ParseInt10
import Derived.Shelf.Strconv.AtoiLong
import Derived.Shelf.Strconv.AtoiInnerAll
import Derived.Shelf.Strconv.RangeError
import Derived.Shelf.Strconv.ToErrorRange
import Derived.Shelf.Strconv.AtoiAll
import Derived.Shelf.Strings.Search1
import Derived.Shelf.Strings.Prefix
import Derived.Shelf.Strings.BuilderCap
import Derived.Ground.Names2Prog
import Derived.Shelf.Slices.SearchI
import Derived.Laws.BytesString
import Derived.StillTail
import Derived.Deep.Quiet
import Derived.Deep.QuietTactic
import Derived.OpenShut
import Derived.Deep.Slices
import Derived.Deep.Fields
import Derived.ChangeSame
namespace Go.Proofs.YtflpkkebampmfaaDoor
open Go.RowKit Go.Shelf

theorem eg_fmt : ∀ args w, (callFunc 53 args).run Tryd.prog w = .ok (.enter 53 args) w := enters_of Tryd.func53 (by kernel_rfl) rfl
theorem strCells_mkB (l : Byts) : Lib.strCells (mkB l) = Lib.byteCells l := rfl
theorem byteCells_app (l m : Byts) : Lib.byteCells (l ++ m) = Lib.byteCells l ++ Lib.byteCells m := by unfold Lib.byteCells; rw [List.map_append]
abbrev fnO (B T F : Nat) : Obj := .cells #[.func (.func 53) #[] #[.pointer (some ⟨T, 0, none⟩), .pointer (some ⟨B, 0, none⟩), .pointer (some ⟨F, 0, none⟩)]] 98 (0, 0)

/-- what a walk over a tree's text leans on -/
structure FtW (w0 : World) (B T F : Nat) (a : Option Addr) (n c : Nat) (rt : Int) (nodes : List Cho) : Prop where
  at' : w0.heap.size = B
  tb : w0.heap[T]? = some (.cells #[.slice a n c, .int .i64 rt] 33 (0, 0))
  tm : TM w0 a n c nodes
  ne : F ≠ B
/-- the world while writing -/
structure FtS (w0 : World) (B T F : Nat) (bs : Byts) (u : World) : Prop where
  bel : Below B w0 u
  fn : u.heap[F]? = some (fnO B T F)
  bld : Lib.IsBuilderF bldT bytT B B (Lib.byteCells bs) u
theorem FtS.lt {w0 u : World} {B T F : Nat} {bs : Byts} (h : FtS w0 B T F bs u) : B < u.heap.size := by
  rcases h.bld with h | h
  · exact h.lt
  · exact h.lt
theorem FtS.alloc {w0 u : World} {B T F : Nat} {bs : Byts} (h : FtS w0 B T F bs u) (cs : Array Value) (t : TypeId) : FtS w0 B T F bs (u.alloc (.cells cs t)) :=
  ⟨h.bel.alloc (Nat.le_of_lt h.lt) _, heap_alloc_at h.fn _, h.bld.alloc _⟩
theorem FtS.step {w0 u u' : World} {B T F : Nat} {bs bs' : Byts} (h : FtS w0 B T F bs u) (hF : F ≠ B) (hb : Lib.BuilderAtF bldT bytT B B (.pointer (some ⟨B, 0, none⟩)) (Lib.byteCells bs') u') (hl : Below B u u') (hk : Lib.OthersKept bytT (some B) u u') : FtS w0 B T F bs' u' :=
  ⟨h.bel.trans hl, hk F _ h.fn (by simpa using hF) (fun c fz e => by simp [fnO] at e; exact absurd e.2.1 (by decide)), .inr hb⟩
theorem FtS.size {w0 u : World} {B T F : Nat} {bs : Byts} (h : FtS w0 B T F bs u) (h0 : w0.heap.size = B) : w0.heap.size ≤ u.heap.size := h.bel.size

theorem write_s {w0 u : World} {B T F : Nat} {bs : Byts} (h : FtS w0 B T F bs u) (hF : F ≠ B) (s : Byts) (hl : bs.length + s.length ≤ 1000000) :
    Calls Tryd.prog 54 #[.pointer (some ⟨B, 0, none⟩), .string (mkB s)] u fun e w' => e = .returned (.tuple #[.int .i64 s.length, .nilIface]) ∧ FtS w0 B T F (bs ++ s) w' ∧ Lib.OthersKept bytT (some B) u w' ∧ u.heap.size ≤ w'.heap.size := by
  refine (bwrite_k B B (Lib.byteCells bs) (mkB s) u h.bld (by rw [Lib.byteCells_length, mkB_size]; omega) (Nat.le_of_lt h.lt)).mono ?_
  rintro e w' ⟨rfl, h1, h2, h3⟩
  rw [strCells_mkB, ← byteCells_app] at h1
  exact ⟨by rw [mkB_size], h.step hF h1 h2 h3, h3, h2.size⟩
theorem txtF_x {nodes : List Cho} {f i : Nat} {c : Cho} (h : nodes[i]? = some c) (h1 : c.server = -1) : txtF nodes (f + 1) (i : Int) = [120] := by
  have e : nodes.getD (i : Int).toNat cho0 = c := by rw [Int.toNat_natCast, List.getD_eq_getElem?_getD, h]; rfl
  rw [txtF, e, if_pos h1]
theorem txtF_y {nodes : List Cho} {f i : Nat} {c : Cho} (h : nodes[i]? = some c) (h1 : c.server = -2) : txtF nodes (f + 1) (i : Int) = [121] := by
  have e : nodes.getD (i : Int).toNat cho0 = c := by rw [Int.toNat_natCast, List.getD_eq_getElem?_getD, h]; rfl
  rw [txtF, e, if_neg (by rw [h1]; decide), if_pos h1]
theorem txtF_n {nodes : List Cho} {f i : Nat} {c : Cho} {s : Nat} (h : nodes[i]? = some c) (hs : c.server = (s : Int)) :
    txtF nodes (f + 1) (i : Int) = Lib.decDigits s ++ [40] ++ txtF nodes f c.first ++ [44, 32] ++ txtF nodes f c.second ++ [41] := by
  have e : nodes.getD (i : Int).toNat cho0 = c := by rw [Int.toNat_natCast, List.getD_eq_getElem?_getD, h]; rfl
  rw [txtF, e, if_neg (by rw [hs]; omega), if_neg (by rw [hs]; omega), hs, Int.toNat_natCast]
theorem dec_len12 : ∀ s : Fin 12, (Lib.decDigits s.val).length ≤ 2 := by decide +kernel
theorem mkB_app (l m : Byts) : mkB l ++ mkB m = mkB (l ++ m) := by
  apply ByteArray.ext
  rw [ByteArray.data_append]
  unfold mkB
  simp

set_option maxRecDepth 100000 in
set_option maxHeartbeats 4000000 in
theorem fmt1_p {w0 : World} {B T F : Nat} {a : Option Addr} {n c : Nat} {rt : Int} {nodes : List Cho} (C : FtW w0 B T F a n c rt nodes) (hn : nodsC nodes = true) :
    ∀ (f i : Nat) (bs : Byts) (u : World), i < n → i < f → FtS w0 B T F bs u → bs.length + (txtF nodes f i).length ≤ 1000000 →
    Calls Tryd.prog 53 #[.int .i64 i, .pointer (some ⟨T, 0, none⟩), .pointer (some ⟨B, 0, none⟩), .pointer (some ⟨F, 0, none⟩)] u fun e w' => e = .returned (.tuple #[]) ∧ FtS w0 B T F (bs ++ txtF nodes f i) w' ∧ Lib.OthersKept bytT (some B) u w' ∧ u.heap.size ≤ w'.heap.size := by
  have HC := Lib.hid C
  have HNO := Lib.hid hn
  have hle := RdK.le C.tm
  have hm := RdK.max C.tm
  unfold maxLen at hm
  have HNL := Lib.hid (TM.len C.tm)
  clear C hn
  intro f
  induction f with
  | zero => intro i bs u _ h; omega
  | succ f ih =>
    intro i bs u hin hif hs hl
    have HIH := Lib.hid ih
    clear ih
    obtain ⟨nd, hnd⟩ : ∃ nd, nodes[i]? = some nd := ⟨_, List.getElem?_eq_getElem (by have := HNL.out; omega)⟩
    have hb0 : Below w0.heap.size w0 u := by rw [HC.out.at']; exact hs.bel
    obtain ⟨bb, oo, ha, hat⟩ := TM.at3 (RdK.below HC.out.tm hb0) (by omega)
    obtain ⟨m0, m1, m2⟩ := hat i nd hnd
    obtain ⟨⟨q70, _⟩, _⟩ := open2 (heap_below hb0 HC.out.tb)
    subst ha
    have hnc := nodsC_at HNO.out (i := i) (by have := HNL.out; omega)
    rw [List.getD_eq_getElem?_getD, hnd] at hnc
    have hnc : nodC nd i = true := hnc
    have HRX := Lib.hid (txtF_x (f := f) hnd)
    have HRY := Lib.hid (txtF_y (f := f) hnd)
    have HRN := Lib.hid (fun s => txtF_n (f := f) (s := s) hnd)
    obtain ⟨sv, fi, se⟩ := nd
    simp only at m0 m1 m2 HRX HRY HRN
    obtain ⟨U1, hU1⟩ : ∃ U1, U1 = u.alloc (.cells #[.int .i64 sv, .int .i64 fi, .int .i64 se] 39) := ⟨_, rfl⟩
    have HS1 : Hid (FtS w0 B T F bs U1) := Lib.hid (by rw [hU1]; exact hs.alloc _ _)
    have HK1 : Hid (Lib.OthersKept bytT (some B) u U1 ∧ u.heap.size < U1.heap.size) := Lib.hid (by rw [hU1]; exact ⟨(Lib.OthersKept.refl _ _ u).alloc _, by simp⟩)
    have HG1 : Hid (∀ v, Lib.OthersKept bytT (some B) U1 v → v.heap[u.heap.size]? = some (.cells #[.int .i64 sv, .int .i64 fi, .int .i64 se] 39 (0, 0))) := Lib.hid (fun v hv => by
      refine hv _ _ (by rw [hU1]; exact heap_alloc_new _ _) ?_ (fun c fz e => by simp at e; exact absurd e.2.1 (by decide))
      have := hs.lt
      intro e; injection e with e; omega)
    have HL := Lib.hid hl
    clear hat hs hl hb0
    by_cases s1 : sv = -1
    · have HR := Lib.hid (HRX.out s1)
      have HL1 : bs.length + ([120] : Byts).length ≤ 1000000 := by have := HL.out; rw [HR.out] at this; exact this
      have HW := Lib.hid (write_s HS1.out HC.out.ne [120] HL1)
      rw [show mkB [120] = ⟨#[120]⟩ from rfl] at HW
      subst s1
      clear hnc HL1
      go_enter Tryd.func53, Tryd.ntmps53
      go_wp2_with fail
      rw [← hU1]
      with_reducible refine HW.out.mono ?_
      rintro e w1 ⟨rfl, h1, h2, h3⟩
      have H1 := Lib.hid h1
      have H2 := Lib.hid (And.intro (HK1.out.1.trans h2) (Nat.le_trans (Nat.le_of_lt HK1.out.2) h3))
      clear h1 h2 h3
      go_wp2_with fail
      go_end0
      exact ⟨rfl, by rw [HR.out]; exact H1.out, H2.out.1, H2.out.2⟩
    by_cases s2 : sv = -2
    · have HR := Lib.hid (HRY.out s2)
      have HL1 : bs.length + ([121] : Byts).length ≤ 1000000 := by have := HL.out; rw [HR.out] at this; exact this
      have HW := Lib.hid (write_s HS1.out HC.out.ne [121] HL1)
      rw [show mkB [121] = ⟨#[121]⟩ from rfl] at HW
      subst s2
      clear hnc HL1 s1
      go_enter Tryd.func53, Tryd.ntmps53
      go_wp2_with fail
      rw [← hU1]
      with_reducible refine HW.out.mono ?_
      rintro e w1 ⟨rfl, h1, h2, h3⟩
      have H1 := Lib.hid h1
      have H2 := Lib.hid (And.intro (HK1.out.1.trans h2) (Nat.le_trans (Nat.le_of_lt HK1.out.2) h3))
      clear h1 h2 h3
      go_wp2_with fail
      go_end0
      exact ⟨rfl, by rw [HR.out]; exact H1.out, H2.out.1, H2.out.2⟩
    have hlf : leafC ⟨sv, fi, se⟩ = false := by unfold leafC; rw [decide_eq_false s1, decide_eq_false s2]; rfl
    obtain ⟨⟨hs0, hs12⟩, ⟨hf0, hfk⟩, hse0, hsek⟩ := nodC_leaf hnc hlf
    simp only at hs0 hs12 hf0 hfk hse0 hsek
    have t1 : (sv == -1) = false := by simpa using s1
    have t2 : (sv == -2) = false := by simpa using s2
    obtain ⟨s, rfl⟩ := Int.eq_ofNat_of_zero_le hs0
    obtain ⟨fk, rfl⟩ := Int.eq_ofNat_of_zero_le hf0
    obtain ⟨sk, rfl⟩ := Int.eq_ofNat_of_zero_le hse0
    have HR := Lib.hid (HRN.out s rfl)
    obtain ⟨D, hD⟩ : ∃ D, Lib.decDigits s = D := ⟨_, rfl⟩
    obtain ⟨X1, hX1⟩ : ∃ X1, txtF nodes f (fk : Int) = X1 := ⟨_, rfl⟩
    obtain ⟨X2, hX2⟩ : ∃ X2, txtF nodes f (sk : Int) = X2 := ⟨_, rfl⟩
    rw [hD, hX1, hX2] at HR
    have HLL : Hid (bs.length + (D.length + 1 + X1.length + 2 + X2.length + 1) ≤ 1000000) := Lib.hid (by
      have := HL.out
      rw [HR.out] at this
      simp only [List.length_append, List.length_cons, List.length_nil] at this
      omega)
    have hfn : fk < n := by omega
    have hsn : sk < n := by omega
    have hff : fk < f := by omega
    have hsf : sk < f := by omega
    have hDl : D.length ≤ 2 := by rw [← hD]; exact dec_len12 ⟨s, by omega⟩
    have hDs : ({ data := D.toArray } : ByteArray).size ≤ 2 := by have := mkB_size D; unfold mkB at this; omega
    have HIT := Lib.hid (fun u => Tryd.strconv_Itoa_small s (by omega) u)
    rw [hD] at HIT
    have HI1 := Lib.hid (fun bs' u' h1 => HIH.out fk bs' u' hfn hff h1)
    have HI2 := Lib.hid (fun bs' u' h1 => HIH.out sk bs' u' hsn hsf h1)
    rw [hX1] at HI1
    rw [hX2] at HI2
    have HWS := Lib.hid (fun (v : World) (bs' s' : Byts) (h : FtS w0 B T F bs' v) => write_s h HC.out.ne s')
    have heg := eg_fmt
    clear hnc hlf s1 s2 hs0 hf0 hse0 hD hX1 hX2 HRX HRY HRN HIH
    go_enter Tryd.func53, Tryd.ntmps53
    go_wp2_with fail
    rw [← hU1]
    with_reducible refine (HIT.out U1).mono ?_
    rintro e U2 ⟨rfl, hU2⟩
    have hU2 := hU2.symm
    subst hU2
    have HW1 := Lib.hid (HWS.out U1 bs (D ++ [40]) HS1.out (by have := HLL.out; rw [List.length_append]; simp only [List.length_cons, List.length_nil]; omega))
    rw [← mkB_app, show mkB D = ⟨D.toArray⟩ from rfl, show mkB [40] = ⟨#[40]⟩ from rfl] at HW1
    rw [hU1] at HW1
    go_wp2_with fail
    with_reducible refine HW1.out.mono ?_
    rintro e w2 ⟨rfl, h1, h2, h3⟩
    rw [← hU1] at h2 h3
    have H1 := Lib.hid h1
    have HK2 := Lib.hid (And.intro h2 h3)
    have gF := cell_of_row _ _ 0 _ _ _ h1.fn
    have gN := cell_of_row _ _ 1 _ _ _ (HG1.out w2 h2)
    have HI := Lib.hid (HI1.out (bs ++ (D ++ [40])) w2 h1 (by have := HLL.out; simp only [List.length_append, List.length_cons, List.length_nil]; omega))
    clear h1 h2 h3 HW1 hU1
    go_wp2_with fail
    with_reducible refine HI.out.mono ?_
    rintro e w3 ⟨rfl, h1, h2, h3⟩
    have HK3 := Lib.hid (And.intro (HK2.out.1.trans h2) (Nat.le_trans HK2.out.2 h3))
    have HW := Lib.hid (HWS.out w3 _ [44, 32] h1 (by have := HLL.out; simp only [List.length_append, List.length_cons, List.length_nil]; omega))
    rw [show mkB [44, 32] = ⟨#[44, 32]⟩ from rfl] at HW
    clear h1 h2 h3 HI gF gN
    go_wp2_with fail
    with_reducible refine HW.out.mono ?_
    rintro e w4 ⟨rfl, h1, h2, h3⟩
    have HK4 := Lib.hid (And.intro (HK3.out.1.trans h2) (Nat.le_trans HK3.out.2 h3))
    have gF := cell_of_row _ _ 0 _ _ _ h1.fn
    have gN := cell_of_row _ _ 2 _ _ _ (HG1.out w4 HK4.out.1)
    have HI := Lib.hid (HI2.out _ w4 h1 (by have := HLL.out; simp only [List.length_append, List.length_cons, List.length_nil]; omega))
    clear h1 h2 h3 HW
    go_wp2_with fail
    with_reducible refine HI.out.mono ?_
    rintro e w5 ⟨rfl, h1, h2, h3⟩
    have HK5 := Lib.hid (And.intro (HK4.out.1.trans h2) (Nat.le_trans HK4.out.2 h3))
    have HW := Lib.hid (HWS.out w5 _ [41] h1 (by have := HLL.out; simp only [List.length_append, List.length_cons, List.length_nil]; omega))
    rw [show mkB [41] = ⟨#[41]⟩ from rfl] at HW
    clear h1 h2 h3 HI gF gN
    go_wp2_with fail
    with_reducible refine HW.out.mono ?_
    rintro e w6 ⟨rfl, h1, h2, h3⟩
    have HK6 := Lib.hid (And.intro (HK1.out.1.trans (HK5.out.1.trans h2)) (Nat.le_trans (Nat.le_of_lt HK1.out.2) (Nat.le_trans HK5.out.2 h3)))
    have H6 := Lib.hid h1
    clear h1 h2 h3
    go_wp2_with fail
    go_end0
    refine ⟨rfl, ?_, HK6.out.1, HK6.out.2⟩
    have := H6.out
    rw [HR.out]
    simpa only [List.append_assoc] using this

end Go.Proofs.YtflpkkebampmfaaDoor
namespace Go.Proofs
open Go.Shelf

def Tryd.lays169_ren : Go.Shelf.Ren := ⟨fun | 169 => 56 | n => n, fun | 70 => 95 | 9 => 9 | 0 => 0 | 72 => 97 | 37 => 83 | 127 => 113 | 3 => 3 | 5 => 5 | n => n, fun | n => n⟩

theorem Tryd.lays169 : Go.Proofs.Lays.n169 Tryd.prog Tryd.lays169_ren := {
  mixed := by kernel_rfl
  f169 := Tryd.func56.trans (congrArg some (by kernel_rfl))
  t0 := Tryd.underlying0
  a0 := Tryd.isAgg0
  z0 := Tryd.sizeOf0
  v0 := Tryd.zeroValue0
  t3 := Tryd.underlying3
  a3 := Tryd.isAgg3
  z3 := Tryd.sizeOf3
  v3 := Tryd.zeroValue3
  t9 := Tryd.underlying9
  a9 := Tryd.isAgg9
  z9 := Tryd.sizeOf9
  v9 := Tryd.zeroValue9
  t37 := Tryd.underlying83
  a37 := Tryd.isAgg83
  z37 := Tryd.sizeOf83
  v37 := Tryd.zeroValue83
  t70 := Tryd.underlying95
  a70 := Tryd.isAgg95
  z70 := Tryd.sizeOf95
  v70 := Tryd.zeroValue95
  t72 := Tryd.underlying97
  a72 := Tryd.isAgg97
  z72 := Tryd.sizeOf97
  v72 := Tryd.zeroValue97
  t127 := Tryd.underlying113
  a127 := Tryd.isAgg113
  z127 := Tryd.sizeOf113
  v127 := Tryd.zeroValue113 }

theorem Tryd.Builder_Extra_169 : Builder.Extra Tryd.prog Tryd.lays169_ren := {
  sizeBuilder := by kernel_rfl
  liesBuilder := by kernel_rfl
  t5 := Tryd.underlying5
  a5 := Tryd.isAgg5
  z5 := Tryd.sizeOf5
  v5 := Tryd.zeroValue5
  infoByte := by kernel_rfl
  cellsByte := by kernel_rfl
  sizeByte := by kernel_rfl
  neB5 := by decide }

open Go.RowKit in
theorem Tryd.Builder_String_any_k (B b : Nat) (l : List UInt8) (w : World) (h : Lib.IsBuilderF 97 5 B b (Lib.byteCells l) w) (hBw : B ≤ w.heap.size) :
    Calls Tryd.prog 56 #[.pointer (some ⟨b, 0, none⟩)] w fun e w' => e = .returned (.string ⟨l.toArray⟩) ∧ (Lib.IsBuilderF 97 5 B b (Lib.byteCells l) w' ∧ Below B w w' ∧ Lib.OthersKept 5 (some b) w w') := Any.Builder_String_any_k Tryd.lays169 Tryd.Builder_Extra_169 B b l w h hBw

end Go.Proofs
namespace Go.Proofs.YtflpkkebampmfaaDoor
open Go.RowKit Go.Shelf

theorem txt_le (T : CT) (hT : T.low) : T.txt.length ≤ 8 * T.sz := by
  induction T with
  | fx => decide
  | fy => decide
  | nd i l r h1 h2 =>
    obtain ⟨hi, hl, hr⟩ := hT
    have := h1 hl
    have := h2 hr
    have h3 := dec_len12 ⟨i, hi⟩
    simp only [CT.txt, CT.sz, List.length_append, List.length_cons, List.length_nil] at h3 ⊢
    omega
theorem fmt_len {t : Tre} (h : formC t = true) : (txtF t.nodes t.nodes.length t.root).length ≤ 100000 := by
  obtain ⟨⟨_, h8, h0, h1⟩, hn, _⟩ := formC_parts h
  have hlow := ct_low hn t.nodes.length t.root h0 (by omega) (by omega)
  have hs := form_sz h
  have := txt_le _ hlow
  rw [txt_ct]
  omega

set_option maxRecDepth 100000 in
set_option maxHeartbeats 4000000 in
theorem fmt_c (t : Tre) (a : Option Addr) (n c : Nat) (w : World) (h : TM w a n c t.nodes) :
    Calls Tryd.prog 29 #[.agg #[.slice a n c, .int .i64 t.root]] w fun e w' => e = .returned (.tuple #[.string (mkB (fmtC t).1), .int .i64 (fmtC t).2]) ∧ Below w.heap.size w w' := by
  have H2 := Lib.hid (fun (u : World) (hb : Below w.heap.size w u) => formed_c t a n c u (RdK.below h hb))
  have HTM := Lib.hid (fun (u : World) (hb : Below w.heap.size w u) => RdK.below h hb)
  have HNL := Lib.hid (TM.len h)
  clear h
  obtain ⟨W2, hW2⟩ : ∃ W2, W2 = w.alloc (.cells #[.slice a n c, .int .i64 t.root] 33) := ⟨_, rfl⟩
  have hb2 : Below w.heap.size w W2 := by rw [hW2]; exact (Below.refl _ w).alloc (Nat.le_refl _) _
  have g2 : W2.heap[w.heap.size]? = some (.cells #[.slice a n c, .int .i64 t.root] 33 (0, 0)) := by rw [hW2]; exact heap_alloc_new _ _
  obtain ⟨⟨q0, q1⟩, _⟩ := open2 g2
  have HB2 := Lib.hid hb2
  have HG2 := Lib.hid g2
  clear hb2 g2
  obtain ⟨F, hF⟩ : ∃ F, formC t = F := ⟨_, rfl⟩
  rw [hF] at H2
  cases F
  · have HV : Hid (fmtC t = ([], 1)) := by show _ = _; unfold fmtC; rw [if_neg (by rw [hF]; decide)]
    clear hF
    go_enter Tryd.func29, Tryd.ntmps29
    go_wp2_with fail
    rw [← hW2]
    with_reducible refine (H2.out W2 HB2.out).mono ?_
    rintro e w1 ⟨rfl, hb1⟩
    have HB1 := Lib.hid (Below.next HB2.out hb1)
    clear hb1
    go_wp2_with fail
    go_ret2
    exact ⟨by rw [HV.out]; rfl, HB1.out⟩
  · have HV : Hid (fmtC t = (txtF t.nodes t.nodes.length t.root, 0)) := by show _ = _; unfold fmtC; rw [if_pos hF]
    obtain ⟨⟨_, _, hr0, hrn⟩, hnods, _⟩ := formC_parts hF
    have hlen := fmt_len hF
    obtain ⟨r, hr⟩ := Int.eq_ofNat_of_zero_le hr0
    have hrn' : r < n := by have := HNL.out; omega
    rw [HNL.out] at HV hlen
    rw [hr] at HV hW2 q1 HG2 H2 hlen
    rw [hr]
    have HP := Lib.hid (fun (u0 u : World) (B : Nat) (C : FtW u0 B w.heap.size (B + 1) a n c (r : Int) t.nodes) (hs : FtS u0 B w.heap.size (B + 1) [] u) => fmt1_p C hnods n r [] u hrn' hrn' hs (by rw [List.length_nil]; omega))
    obtain ⟨X, hX⟩ : ∃ X, txtF t.nodes n (r : Int) = X := ⟨_, rfl⟩
    rw [hX] at HP HV
    clear hF hr0 hrn hnods hr hlen hX
    have hmf : ∀ (fn : Fn) (first cap : Array Value) (w : World), (Instr.makeFunc fn first cap).run Tryd.prog w = .ok (.func fn first cap) w := fun _ _ _ _ => rfl
    have heg := eg_fmt
    go_enter Tryd.func29, Tryd.ntmps29
    go_wp2_with fail
    rw [← hW2]
    with_reducible refine (H2.out W2 HB2.out).mono ?_
    rintro e w1 ⟨rfl, hb1⟩
    have hg1 := heap_below hb1 HG2.out
    obtain ⟨WF, hWF⟩ : ∃ WF, WF = (w1.alloc (.cells #[.pointer none, .slice none 0 0] 97)).alloc (.cells #[.func (.func 53) #[] #[.pointer (some ⟨w.heap.size, 0, none⟩), .pointer (some ⟨w1.heap.size, 0, none⟩), .pointer (some ⟨w1.heap.size + 1, 0, none⟩)]] 98) := ⟨_, rfl⟩
    have hbF : Below w1.heap.size w1 WF := by rw [hWF]; exact ((Below.refl _ _).alloc (Nat.le_refl _) _).alloc (by simp) _
    obtain ⟨⟨p0, p1⟩, _⟩ := open2 (heap_below hbF hg1)
    have hB1 := Below.next HB2.out hb1
    have HS : Hid (FtS w1 w1.heap.size w.heap.size (w1.heap.size + 1) [] WF) := Lib.hid
      { bel := hbF
        fn := by
          rw [hWF]
          have := heap_alloc_new (w1.alloc (.cells #[.pointer none, .slice none 0 0] 97)) (.cells #[.func (.func 53) #[] #[.pointer (some ⟨w.heap.size, 0, none⟩), .pointer (some ⟨w1.heap.size, 0, none⟩), .pointer (some ⟨w1.heap.size + 1, 0, none⟩)]] 98)
          rwa [World.size_alloc] at this
        bld := .inl ⟨Nat.le_refl _, .slice none 0 0, by rw [hWF]; exact heap_alloc_at (heap_alloc_new _ _) _, ⟨rfl, .inl ⟨rfl, rfl⟩⟩, by simp [Value.ownBlock]⟩ }
    have HW := Lib.hid (HP.out w1 WF w1.heap.size { at' := rfl, tb := hg1, tm := HTM.out w1 hB1, ne := by omega } HS.out)
    have HB1 := Lib.hid hB1
    have hcF := cell_of_row _ _ 0 _ _ _ HS.out.fn
    have HBF := Lib.hid (hbF.size)
    rw [hWF] at hcF p0 p1
    clear hg1 hbF hb1 hB1 q0 q1 hW2
    go_wp2_with fail
    rw [← hWF]
    with_reducible refine HW.out.mono ?_
    rintro e w5 ⟨rfl, h1, h2, h3⟩
    have HST := Lib.hid (Tryd.Builder_String_any_k w1.heap.size w1.heap.size X w5 (by rw [List.nil_append] at h1; exact h1.bld) (Nat.le_trans HBF.out h3))
    have HB5 := Lib.hid (Below.next HB1.out h1.bel)
    clear h1 h2 h3 hcF p0 p1 hWF
    go_wp2_with fail
    with_reducible refine HST.out.mono ?_
    rintro e w6 ⟨rfl, -, h2, -⟩
    have HB6 := Lib.hid (HB5.out.trans (h2.mono (HB1.out.size)))
    clear h2
    go_wp2_with fail
    go_ret2
    exact ⟨by rw [HV.out]; rfl, HB6.out⟩
end Go.Proofs.YtflpkkebampmfaaDoor
namespace Go.Proofs.YtflpkkebampmfaaDoor
open Go.RowKit Go.Shelf

theorem strip_drop (p : Byts) : ∀ (s : Byts), stripP p s = if p.length ≤ s.length ∧ s.take p.length = p then some (s.drop p.length) else none := by
  intro s
  cases h : stripP p s with
  | some r =>
    have e := strip_some h
    rw [if_pos ⟨by rw [e]; simp, by rw [e]; simp⟩, e]; simp
  | none =>
    rw [if_neg]
    rintro ⟨h1, h2⟩
    have : s = p ++ s.drop p.length := by rw [← h2, List.length_take, Nat.min_eq_left h1]; exact (List.take_append_drop _ _).symm
    rw [this, strip_app] at h
    cases h

/-- a reader in memory -/
structure RN (w : World) (B : Nat) (T : Byts) (i : Nat) (v : Value) (ns : List Cho) (bad : Bool) : Prop where
  blk : w.heap[B]? = some (.cells #[.string (mkB T), .int .i64 i, v, .bool bad] 81 (0, 0))
  row : w.ownsRow (B + 1) 39 3 v ns.length (ns.flatMap choC)
theorem RN.below {w w' : World} {B : Nat} {T : Byts} {i : Nat} {v : Value} {ns : List Cho} {bad : Bool} (h : RN w B T i v ns bad) (hb : Below w.heap.size w w') : RN w' B T i v ns bad := ⟨heap_below hb h.blk, rowK_below h.row hb⟩
theorem RN.lt {w : World} {B : Nat} {T : Byts} {i : Nat} {v : Value} {ns : List Cho} {bad : Bool} (h : RN w B T i v ns bad) : B < w.heap.size := (Array.getElem?_eq_some_iff.1 h.blk).1
theorem RN.put {w : World} {B : Nat} {T : Byts} {i : Nat} {v : Value} {ns : List Cho} {bad : Bool} (h : RN w B T i v ns bad) (j : Nat) : RN (w.setCell ⟨B, 1, none⟩ (.int .i64 j)) B T j v ns bad :=
  ⟨by rw [heap_set_at h.blk]; rfl, rowK_at h.row fun g hg => Below.heap_setCell _ _ _ _ (by have := (h.row.lt g hg).1; show g ≠ B; omega)⟩
theorem RN.spoil {w : World} {B : Nat} {T : Byts} {i : Nat} {v : Value} {ns : List Cho} {bad : Bool} (h : RN w B T i v ns bad) : RN (w.setCell ⟨B, 3, none⟩ (.bool true)) B T i v ns true :=
  ⟨by rw [heap_set_at h.blk]; rfl, rowK_at h.row fun g hg => Below.heap_setCell _ _ _ _ (by have := (h.row.lt g hg).1; show g ≠ B; omega)⟩
theorem RN.drewN {w : World} {B : Nat} {T : Byts} {i : Nat} {v : Value} {ns : List Cho} {bad : Bool} (h : RN w B T i v ns bad) (q : Nat) : RN (w.drewN q) B T i v ns bad := h.below (below_drewN (Below.refl _ _))
/-- where the reader stands behind a take -/
def tkAt (pre T : Byts) (i : Nat) : Nat := if (stripP pre (T.drop i)).isSome = true then i + pre.length else i
theorem tk_some {pre T r : Byts} {i : Nat} (hi : i ≤ T.length) (h : stripP pre (T.drop i) = some r) : tkAt pre T i = i + pre.length ∧ i + pre.length ≤ T.length ∧ r = T.drop (i + pre.length) := by
  refine ⟨by unfold tkAt; rw [h]; rfl, ?_, ?_⟩
  · have := strip_len h; rw [List.length_drop] at this; omega
  · rw [strip_drop] at h
    split at h
    · rw [List.drop_drop] at h; cases h; rfl
    · cases h
theorem tk_none {pre T : Byts} {i : Nat} (h : stripP pre (T.drop i) = none) : tkAt pre T i = i := by unfold tkAt; rw [h]; rfl

set_option maxRecDepth 100000 in
set_option maxHeartbeats 2000000 in
theorem rtake_p (pre T : Byts) (hT : T.length ≤ 1000) (hp : pre.length ≤ 100) (i : Nat) (hi : i ≤ T.length) (B : Nat) (v : Value) (ns : List Cho) (bad : Bool) (w : World) (h : RN w B T i v ns bad) :
    Calls Tryd.prog 65 #[.pointer (some ⟨B, 0, none⟩), .string (mkB pre)] w fun e w' => e = .returned (.bool (stripP pre (T.drop i)).isSome) ∧ RN w' B T (tkAt pre T i) v ns bad ∧ KeepP B v v w w' := by
  have q0 := cell_of_row _ _ 0 _ _ _ h.blk
  have q1 := cell_of_row _ _ 1 _ _ _ h.blk
  have z1 := frozen_row h.blk 1
  have H := Lib.hid h
  have hS := mkB_size T
  have hP := mkB_size pre
  obtain ⟨S, eS⟩ : ∃ S, mkB T = S := ⟨_, rfl⟩
  obtain ⟨P, eP⟩ : ∃ P, mkB pre = P := ⟨_, rfl⟩
  rw [eS] at hS q0
  rw [eP] at hP ⊢
  have hwr : wrap64 ((i : Int) + (P.size : Int)) = (i : Int) + (P.size : Int) := by unfold wrap64; omega
  have hsd := strip_drop pre (T.drop i)
  rw [List.length_drop] at hsd
  have HPL : Hid (P.size = pre.length) := hP
  by_cases c1 : S.size < i + P.size
  · have d1 : decide ((S.size : Int) < (i : Int) + (P.size : Int)) = true := decide_eq_true (by omega)
    rw [if_neg (by omega)] at hsd
    have HT := Lib.hid (tk_none hsd)
    rw [hsd, HT.out]
    clear hsd c1 h hS hP eS eP
    go_enter Tryd.func65, Tryd.ntmps65
    go_wp2_with fail
    go_quiet (fail)
    go_wp2_with fail
    go_ret
    exact ⟨rfl, H.out.below (below_drewN (Below.refl _ _)), KeepP.of_below (Nat.le_of_lt H.out.lt) (below_drewN (Below.refl _ _))⟩
  have d1 : decide ((S.size : Int) < (i : Int) + (P.size : Int)) = false := decide_eq_false (by omega)
  have hb1 : (0 : Int) ≤ i := by omega
  have hb2 : (i : Int) ≤ (i : Int) + (P.size : Int) := by omega
  have hb3 : (i : Int) + (P.size : Int) ≤ (S.size : Int) := by omega
  have hex : S.extract i (i + P.size) = mkB ((T.drop i).take pre.length) := by
    rw [← eS, mkB_extract, hP, Nat.add_sub_cancel_left]
  by_cases c2 : (T.drop i).take pre.length = pre
  · rw [if_pos ⟨by omega, c2⟩] at hsd
    obtain ⟨k1, _, _⟩ := tk_some hi hsd
    have e1 : ((S.extract i (i + P.size)).toList == P.toList) = true := by rw [hex, c2, eP]; exact bs_same _
    have HT := Lib.hid k1
    rw [hsd, HT.out]
    clear hsd c1 c2 h hS hP eS eP hex k1
    go_enter Tryd.func65, Tryd.ntmps65
    go_wp2_with fail
    go_quiet (fail)
    go_wp2_with fail
    go_ret
    refine ⟨rfl, ?_, (KeepP.of_below (Nat.le_of_lt H.out.lt) (below_drewN (Below.refl _ _))).trans (KeepP.put _ _ _)⟩
    have := fun q => (H.out.drewN q).put (i + pre.length)
    rw [← HPL.out] at this ⊢
    simp only [Int.natCast_add] at this
    exact this _
  · rw [if_neg (fun e => c2 e.2)] at hsd
    have e1 : ((S.extract i (i + P.size)).toList == P.toList) = false := by rw [hex, ← eP]; exact bs_diff fun e => c2 (congrArg (fun b : ByteArray => b.data.toList) e)
    have HT := Lib.hid (tk_none hsd)
    rw [hsd, HT.out]
    clear hsd c1 c2 h hS hP eS eP hex
    go_enter Tryd.func65, Tryd.ntmps65
    go_wp2_with fail
    go_quiet (fail)
    go_wp2_with fail
    go_ret
    exact ⟨rfl, H.out.below (below_drewN (Below.refl _ _)), KeepP.of_below (Nat.le_of_lt H.out.lt) (below_drewN (Below.refl _ _))⟩
end Go.Proofs.YtflpkkebampmfaaDoor
namespace Go.Proofs.YtflpkkebampmfaaDoor
open Go.RowKit Go.Shelf

/-- what a call of node leaves -/
def Rdd (f : Nat) (T : Byts) (i : Nat) (ns : List Cho) (bad : Bool) (B : Nat) (v : Value) (W : World) (e : Ending) (w' : World) : Prop :=
  ∃ i' v' ns' bad' z, KeepP B v v' W w' ∧ RN w' B T i' v' ns' bad' ∧ (i ≤ i' ∧ i' ≤ T.length) ∧ ns'.length + (T.length - i') ≤ ns.length + (T.length - i) ∧ e = .returned (.int .i64 z) ∧ (bad = true → bad' = true) ∧
    (bad = false → (bad' = false → pnode f (T.drop i) ns = some (T.drop i', ns') ∧ z = ((ns'.length - 1 : Nat) : Int)) ∧ (bad' = true → pnode f (T.drop i) ns = none))

/-- the digits of a server, with a bracket -/
def nbr (n : Nat) : Byts := Lib.decDigits n ++ [40]
/-- the search for a number, from above, down to k -/
def Srch (T : Byts) (i : Nat) (k : Int) (sv : Int) (i' : Nat) : Prop :=
  (sv = -3 ∧ i' = i ∧ -1 ≤ k ∧ k ≤ 11 ∧ ∀ n : Nat, k < n → n < 12 → stripP (nbr n) (T.drop i) = none) ∨ (∃ n : Nat, n < 12 ∧ sv = n ∧ k = (n : Int) - 1 ∧ numP (T.drop i) = some (n, T.drop i') ∧ i ≤ i' ∧ i' ≤ T.length)

theorem conv_one (c : Nat) (w : World) : (convert 83 9 (.slice (some ⟨w.heap.size, 0, none⟩) 1 1)).run Tryd.prog (w.alloc (.cells #[.int .u8 c] 5)) = .ok (.string ⟨#[UInt8.ofNat c]⟩) (w.alloc (.cells #[.int .u8 c] 5)) := by
  rw [run_convert_bytes_string _ _ _ _ _ _ _ Tryd.underlying83 Tryd.underlying5 Tryd.underlying9]
  rw [run_bytesToString _ _ _ _ [(c : Int)] (by
    have := run_loadCells_list (P := Tryd.prog) (w := w.alloc (.cells #[.int .u8 c] 5)) ⟨w.heap.size, 0, none⟩ [.int .u8 c] (fun j v hj => by
      match j, hj with
      | 0, hj => cases hj; rw [Addr.add_lit]; exact cell_of_row _ _ 0 _ _ _ (heap_alloc_new w _))
    exact this)]
  rfl


theorem nb_lt : ∀ n : Fin 12, n.val < 10 → mkB (nbr n.val) = (⟨#[UInt8.ofNat (48 + n.val % 10)]⟩ : ByteArray) ++ (⟨#[40]⟩ : ByteArray) := by decide +kernel
theorem nb_ge : ∀ n : Fin 12, 10 ≤ n.val → mkB (nbr n.val) = ((⟨#[49]⟩ : ByteArray) ++ (⟨#[UInt8.ofNat (48 + n.val % 10)]⟩ : ByteArray)) ++ (⟨#[40]⟩ : ByteArray) := by decide +kernel
theorem nbr_len : ∀ n : Fin 12, (nbr n.val).length ≤ 3 := by decide +kernel
theorem num_none_all {s : Byts} (h : ∀ n : Nat, n < 12 → stripP (nbr n) s = none) : numP s = none := by
  cases hq : numP s with
  | none => rfl
  | some p =>
    obtain ⟨n, r⟩ := p
    obtain ⟨hn, e⟩ := numP_some hq
    have := h n hn
    rw [e] at this
    unfold nbr at this
    rw [strip_app] at this; cases this
theorem num_strip {s r : Byts} {n : Nat} (hn : n < 12) (h : stripP (nbr n) s = some r) : numP s = some (n, r) := by
  rw [strip_some h]; exact numP_app hn r
theorem KeepP.appj {B : Nat} {w2 wA : World} {ob : Obj} {av : Option Addr} {n cv gg n' cap j : Nat} {xs : List Value} (hB : B < w2.heap.size) (hg : (w2.alloc ob).drew.grownBy wA (Value.slice av n cv).ownBlock) (hown : w2.ownsRow (B + 1) 39 3 (.slice av n cv) n xs) (hat : (Value.slice av n cv).ownBlock = some gg ∨ gg = w2.heap.size + 1) (u : Value) :
    KeepP B (.slice av n cv) (.slice (some ⟨gg, 0, none⟩) n' cap) w2 (wA.setCell ⟨B, j, none⟩ u) := by
  have h := KeepP.app (n' := n') (cap := cap) hB hg hown hat (Value.int .i64 0)
  refine ⟨?_, fun k hk hkB hv => ?_, h.own⟩
  · have hb2 := (below_drew ((Below.refl B w2).alloc (Nat.le_of_lt hB) ob)).grown hg (by show B ≤ (w2.alloc ob).heap.size; simp; omega) (fun k hk => by have := (hown.lt k hk).1; omega)
    exact hb2.setCell (p := ⟨B, j, none⟩) (Nat.le_refl _) _
  · have := h.blk k hk hkB hv
    rw [Below.heap_setCell _ _ _ _ hkB] at this ⊢
    exact this
/-- an append in the text's order: what lies elsewhere is kept -/
theorem KeepP.grow {B : Nat} {w2 wA : World} {v v' : Value} {n j : Nat} {xs : List Value} (hB : B < w2.heap.size) (hg : w2.grownBy wA v.ownBlock) (hown : w2.ownsRow (B + 1) 39 3 v n xs) (hv : ∀ g, v'.ownBlock = some g → v.ownBlock = some g ∨ w2.heap.size ≤ g) (u : Value) :
    KeepP B v v' w2 (wA.setCell ⟨B, j, none⟩ u) := by
  refine ⟨?_, fun k hk hkB hvk => ?_, hv⟩
  · exact ((Below.refl B w2).grown hg (Nat.le_of_lt hB) (fun k hk => by have := (hown.lt k hk).1; omega)).setCell (p := ⟨B, j, none⟩) (Nat.le_refl _) _
  · rw [Below.heap_setCell _ _ _ _ hkB]
    exact hg.block k hk (fun e => hvk e.symm)

theorem rd_join {f : Nat} {T : Byts} {i n i0 i1 i2 i3 i4 : Nat} {ns ns1 ns3 : List Cho} {bad1 bad2 bad3 bad4 : Bool} {z1 z2 : Int} (hx : stripP [120] (T.drop i) = none) (hy : stripP [121] (T.drop i) = none) (hq : numP (T.drop i) = some (n, T.drop i0))
    (h1 : (bad1 = false → pnode f (T.drop i0) ns = some (T.drop i1, ns1) ∧ z1 = ((ns1.length - 1 : Nat) : Int)) ∧ (bad1 = true → pnode f (T.drop i0) ns = none)) (hi1 : i1 ≤ T.length)
    (ht : i2 = tkAt [44, 32] T i1) (hb2 : bad2 = (bad1 || !(stripP [44, 32] (T.drop i1)).isSome)) (h3 : bad2 = true → bad3 = true)
    (h3' : bad2 = false → (bad3 = false → pnode f (T.drop i2) ns1 = some (T.drop i3, ns3) ∧ z2 = ((ns3.length - 1 : Nat) : Int)) ∧ (bad3 = true → pnode f (T.drop i2) ns1 = none)) (hi3 : i3 ≤ T.length)
    (ht4 : i4 = tkAt [41] T i3) (hb4 : bad4 = (bad3 || !(stripP [41] (T.drop i3)).isSome)) :
    (bad4 = false → pnode (f + 1) (T.drop i) ns = some (T.drop i4, ns3 ++ [⟨n, z1, z2⟩])) ∧ (bad4 = true → pnode (f + 1) (T.drop i) ns = none) := by
  cases bad1 with
  | true =>
    have hn := pn_1 hx hy hq (h1.2 rfl)
    have e2 : bad2 = true := by rw [hb2]; rfl
    have e4 : bad4 = true := by rw [hb4, h3 e2]; rfl
    rw [e4]; exact ⟨fun h => (by cases h), fun _ => hn⟩
  | false =>
    obtain ⟨g1, rfl⟩ := h1.1 rfl
    cases h2 : stripP [44, 32] (T.drop i1) with
    | none =>
      have hn := pn_2 hx hy hq g1 h2
      have e2 : bad2 = true := by rw [hb2, h2]; rfl
      have e4 : bad4 = true := by rw [hb4, h3 e2]; rfl
      rw [e4]; exact ⟨fun h => (by cases h), fun _ => hn⟩
    | some r3 =>
      obtain ⟨k1, k2, rfl⟩ := tk_some hi1 h2
      have e2 : bad2 = false := by rw [hb2, h2]; rfl
      rw [← k1, ← ht] at h2
      have h3' := h3' e2
      cases bad3 with
      | true =>
        have hn := pn_3 hx hy hq g1 h2 (h3'.2 rfl)
        have e4 : bad4 = true := by rw [hb4]; rfl
        rw [e4]; exact ⟨fun h => (by cases h), fun _ => hn⟩
      | false =>
        obtain ⟨g3, rfl⟩ := h3'.1 rfl
        cases h4 : stripP [41] (T.drop i3) with
        | none =>
          have hn := pn_4 hx hy hq g1 h2 g3 h4
          have e4 : bad4 = true := by rw [hb4, h4]; rfl
          rw [e4]; exact ⟨fun h => (by cases h), fun _ => hn⟩
        | some r5 =>
          obtain ⟨j1, j2, rfl⟩ := tk_some hi3 h4
          have hn := pn_5 hx hy hq g1 h2 g3 h4
          have e4 : bad4 = false := by rw [hb4, h4]; rfl
          rw [e4, ht4, j1]; exact ⟨fun _ => hn, fun h => (by cases h)⟩

set_option maxRecDepth 100000 in
set_option maxHeartbeats 4000000 in
theorem rd_x (f : Nat) (T : Byts) (hT : T.length ≤ 1000) (i : Nat) (hi : i ≤ T.length) (r : Byts) (B : Nat) (v : Value) (ns : List Cho) (W : World) (h : RN W B T i v ns false) (hx : stripP [120] (T.drop i) = some r) (hl : ns.length ≤ 8000) :
    Calls Tryd.prog 41 #[.pointer (some ⟨B, 0, none⟩)] W fun e w' => Rdd (f + 1) T i ns false B v W e w' := by
  have heq : pnode (f + 1) (T.drop i) ns = some (r, ns ++ [⟨-1, 0, 0⟩]) := pn_x hx
  obtain ⟨k1, k2, hr⟩ := tk_some hi hx
  have hk2 : i + 1 ≤ T.length := k2
  have HEQ : Hid (pnode (f + 1) (T.drop i) ns = some (T.drop (i + 1), ns ++ [⟨-1, 0, 0⟩])) := Lib.hid (by rw [heq, hr]; rfl)
  obtain ⟨av, cv, rfl, _⟩ := rdK_of_row h.row
  have q2 := cell_of_row _ _ 2 _ _ _ h.blk
  have q3 := cell_of_row _ _ 3 _ _ _ h.blk
  have H := Lib.hid h
  have HTX : Hid (∀ u : World, RN u B T i (.slice av ns.length cv) ns false → Calls Tryd.prog 65 #[.pointer (some ⟨B, 0, none⟩), .string ⟨#[120]⟩] u fun e w' => e = .returned (.bool true) ∧ RN w' B T (i + 1) (.slice av ns.length cv) ns false ∧ KeepP B (.slice av ns.length cv) (.slice av ns.length cv) u w') := Lib.hid (fun u hu => by
    have := rtake_p [120] T hT (by decide) i hi B _ ns false u hu
    rw [k1, hx] at this
    exact this)
  have d1 : decide ((8191 : Int) ≤ (ns.length : Int)) = false := decide_eq_false (by omega)
  clear heq k1 k2 hr h hx
  go_enter Tryd.func41, Tryd.ntmps41
  go_wp2_with fail
  with_reducible refine (HTX.out W H.out).mono ?_
  rintro e w2 ⟨rfl, hr2, hkk2⟩
  have HR := Lib.hid hr2
  have HK := Lib.hid hkk2
  clear hr2 hkk2 q2 q3
  have q2 := cell_of_row _ _ 2 _ _ _ HR.out.blk
  have hlt := HR.out.lt
  have hown := HR.out.row
  go_wp2_with (at_builtin; go_must (refine wpList_appK2 3 _ _ 31 24 (.agg #[.int .i64 0, .int .i64 0, .int .i64 0]) (choC ⟨-1, 0, 0⟩) _ Tryd.underlying31 Tryd.infoCho rfl (by decide) hown (Below.refl (B + 1) w2) hlt rfl rfl rfl rfl rfl (by intro u hu; unfold choC at hu; simp at hu; rcases hu with rfl | rfl <;> rfl) (by unfold maxLen; omega) (by omega) ?_))
  intro v' w4 hown4 hb4 hg4 hs4 hv4
  obtain ⟨a4, c4, rfl, _⟩ := rdK_of_row hown4
  have hB4 : w4.heap[B]? = some (.cells #[.string (mkB T), .int .i64 ((i + 1 : Nat) : Int), .slice av ns.length cv, .bool false] 81 (0, 0)) := by
    rw [hg4.block B hlt (fun e => by have := (HR.out.row.lt B e.symm).1; omega)]
    exact HR.out.blk
  have p2 := cell_of_row _ _ 2 _ _ _ hB4
  have z2 := frozen_row hB4 2
  have HO4 := Lib.hid hown4
  have HG4 := Lib.hid hg4
  have HV4 := Lib.hid hv4
  have HB4 := Lib.hid hB4
  clear hown hown4 hb4 hg4 hs4 hv4 hB4 q2
  go_wp2_with fail
  go_ret
  refine ⟨i + 1, .slice a4 (ns.length + 1) c4, ns ++ [⟨-1, 0, 0⟩], false, _, HK.out.trans (KeepP.grow (n := ns.length) hlt HG4.out HR.out.row HV4.out _), ⟨?_, ?_⟩, ⟨by omega, hk2⟩, by simp; omega, rfl, fun h => (by cases h), fun _ => ⟨fun _ => ⟨HEQ.out, by simp⟩, fun h => (by cases h)⟩⟩
  · rw [heap_set_at HB4.out]; rfl
  · have hrow := HO4.out
    rw [show (ns ++ [(⟨-1, 0, 0⟩ : Cho)]).length = ns.length + 1 by simp, show (ns ++ [(⟨-1, 0, 0⟩ : Cho)]).flatMap choC = ns.flatMap choC ++ choC ⟨-1, 0, 0⟩ by rw [List.flatMap_append]; rfl]
    exact rowK_at hrow fun g hg => Below.heap_setCell _ _ _ _ (by have := (hrow.lt g hg).1; show g ≠ B; omega)

set_option maxRecDepth 100000 in
set_option maxHeartbeats 4000000 in
theorem rd_y (f : Nat) (T : Byts) (hT : T.length ≤ 1000) (i : Nat) (hi : i ≤ T.length) (r : Byts) (B : Nat) (v : Value) (ns : List Cho) (W : World) (h : RN W B T i v ns false) (h0 : stripP [120] (T.drop i) = none) (hx : stripP [121] (T.drop i) = some r) (hl : ns.length ≤ 8000) :
    Calls Tryd.prog 41 #[.pointer (some ⟨B, 0, none⟩)] W fun e w' => Rdd (f + 1) T i ns false B v W e w' := by
  have heq : pnode (f + 1) (T.drop i) ns = some (r, ns ++ [⟨-2, 0, 0⟩]) := pn_y h0 hx
  obtain ⟨k1, k2, hr⟩ := tk_some hi hx
  have hk2 : i + 1 ≤ T.length := k2
  have HEQ : Hid (pnode (f + 1) (T.drop i) ns = some (T.drop (i + 1), ns ++ [⟨-2, 0, 0⟩])) := Lib.hid (by rw [heq, hr]; rfl)
  obtain ⟨av, cv, rfl, _⟩ := rdK_of_row h.row
  have q2 := cell_of_row _ _ 2 _ _ _ h.blk
  have q3 := cell_of_row _ _ 3 _ _ _ h.blk
  have H := Lib.hid h
  have HTX : Hid (∀ u : World, RN u B T i (.slice av ns.length cv) ns false → Calls Tryd.prog 65 #[.pointer (some ⟨B, 0, none⟩), .string ⟨#[120]⟩] u fun e w' => e = .returned (.bool false) ∧ RN w' B T i (.slice av ns.length cv) ns false ∧ KeepP B (.slice av ns.length cv) (.slice av ns.length cv) u w') := Lib.hid (fun u hu => by
    have := rtake_p [120] T hT (by decide) i hi B _ ns false u hu
    rw [tk_none h0, h0] at this
    exact this)
  have HTY : Hid (∀ u : World, RN u B T i (.slice av ns.length cv) ns false → Calls Tryd.prog 65 #[.pointer (some ⟨B, 0, none⟩), .string ⟨#[121]⟩] u fun e w' => e = .returned (.bool true) ∧ RN w' B T (i + 1) (.slice av ns.length cv) ns false ∧ KeepP B (.slice av ns.length cv) (.slice av ns.length cv) u w') := Lib.hid (fun u hu => by
    have := rtake_p [121] T hT (by decide) i hi B _ ns false u hu
    rw [k1, hx] at this
    exact this)
  have d1 : decide ((8191 : Int) ≤ (ns.length : Int)) = false := decide_eq_false (by omega)
  clear heq k1 k2 hr h hx h0
  go_enter Tryd.func41, Tryd.ntmps41
  go_wp2_with fail
  with_reducible refine (HTX.out W H.out).mono ?_
  rintro e w2 ⟨rfl, hr2, hkk2⟩
  have HRa := Lib.hid hr2
  have HKa := Lib.hid hkk2
  clear hr2 hkk2 q2 q3
  go_wp2_with fail
  with_reducible refine (HTY.out w2 HRa.out).mono ?_
  rintro e w3 ⟨rfl, hr3, hk3⟩
  have HR := Lib.hid hr3
  have HK := Lib.hid (HKa.out.trans hk3)
  clear hr3 hk3
  have q2 := cell_of_row _ _ 2 _ _ _ HR.out.blk
  have hlt := HR.out.lt
  have hown := HR.out.row
  go_wp2_with (at_builtin; go_must (refine wpList_appK2 3 _ _ 31 24 (.agg #[.int .i64 0, .int .i64 0, .int .i64 0]) (choC ⟨-2, 0, 0⟩) _ Tryd.underlying31 Tryd.infoCho rfl (by decide) hown (Below.refl (B + 1) w3) hlt rfl rfl rfl rfl rfl (by intro u hu; unfold choC at hu; simp at hu; rcases hu with rfl | rfl <;> rfl) (by unfold maxLen; omega) (by omega) ?_))
  intro v' w4 hown4 hb4 hg4 hs4 hv4
  obtain ⟨a4, c4, rfl, _⟩ := rdK_of_row hown4
  have hB4 : w4.heap[B]? = some (.cells #[.string (mkB T), .int .i64 ((i + 1 : Nat) : Int), .slice av ns.length cv, .bool false] 81 (0, 0)) := by
    rw [hg4.block B hlt (fun e => by have := (HR.out.row.lt B e.symm).1; omega)]
    exact HR.out.blk
  have p2 := cell_of_row _ _ 2 _ _ _ hB4
  have z2 := frozen_row hB4 2
  have HO4 := Lib.hid hown4
  have HG4 := Lib.hid hg4
  have HV4 := Lib.hid hv4
  have HB4 := Lib.hid hB4
  clear hown hown4 hb4 hg4 hs4 hv4 hB4 q2
  go_wp2_with fail
  go_ret
  refine ⟨i + 1, .slice a4 (ns.length + 1) c4, ns ++ [⟨-2, 0, 0⟩], false, _, HK.out.trans (KeepP.grow (n := ns.length) hlt HG4.out HR.out.row HV4.out _), ⟨?_, ?_⟩, ⟨by omega, hk2⟩, by simp; omega, rfl, fun h => (by cases h), fun _ => ⟨fun _ => ⟨HEQ.out, by simp⟩, fun h => (by cases h)⟩⟩
  · rw [heap_set_at HB4.out]; rfl
  · have hrow := HO4.out
    rw [show (ns ++ [(⟨-2, 0, 0⟩ : Cho)]).length = ns.length + 1 by simp, show (ns ++ [(⟨-2, 0, 0⟩ : Cho)]).flatMap choC = ns.flatMap choC ++ choC ⟨-2, 0, 0⟩ by rw [List.flatMap_append]; rfl]
    exact rowK_at hrow fun g hg => Below.heap_setCell _ _ _ _ (by have := (hrow.lt g hg).1; show g ≠ B; omega)
end Go.Proofs.YtflpkkebampmfaaDoor
namespace Go.Proofs.YtflpkkebampmfaaDoor
open Go.RowKit Go.Shelf

set_option maxRecDepth 100000 in
set_option maxHeartbeats 4000000 in
theorem rformed_c (t : Tre) (a : Option Addr) (n c : Nat) (w : World) (h : TM w a n c t.nodes) :
    Calls Tryd.prog 44 #[.agg #[.slice a n c, .int .i64 t.root]] w fun e w' => e = .returned (.bool (formC t)) ∧ Below w.heap.size w w' := by
  obtain ⟨nodes, root⟩ := t
  have hnl := TM.len h
  simp only at h hnl ⊢
  have hm := RdK.max h
  have hle := RdK.le h
  unfold maxLen at hm
  obtain ⟨V, hV⟩ : ∃ V, formC ⟨nodes, root⟩ = V := ⟨_, rfl⟩
  rw [hV]
  have HV := Lib.hid hV
  have HN := Lib.hid hnl
  have HM := Lib.hid h
  obtain ⟨W2, hW2⟩ : ∃ W2, W2 = w.alloc (.cells #[.slice a n c, .int .i64 root] 33) := ⟨_, rfl⟩
  have hb2 : Below w.heap.size w W2 := by rw [hW2]; exact (Below.refl _ w).alloc (Nat.le_refl _) _
  have HB2 := Lib.hid hb2
  clear hV hnl h hb2
  by_cases c1 : n < 1
  · have d1 : decide ((n : Int) < 1) = true := decide_eq_true (by omega)
    have HF : Hid (V = false) := Lib.hid (HV.out.symm.trans (formC_size (by unfold sizeC; simp only; rw [HN.out, decide_eq_false (show ¬ 1 ≤ n by omega)]; rfl)))
    clear c1
    go_enter Tryd.func44, Tryd.ntmps44
    go_wp2_with fail
    go_ret
    exact ⟨ret_bool HF.out.symm, by rw [← hW2]; exact HB2.out⟩
  have d1 : decide ((n : Int) < 1) = false := decide_eq_false (by omega)
  by_cases c2 : 8191 < n
  · have d2 : decide ((8191 : Int) < (n : Int)) = true := decide_eq_true (by omega)
    have HF : Hid (V = false) := Lib.hid (HV.out.symm.trans (formC_size (by unfold sizeC; simp only; rw [HN.out, decide_eq_false (show ¬ n ≤ 8191 by omega)]; simp)))
    clear c1 c2
    go_enter Tryd.func44, Tryd.ntmps44
    go_wp2_with fail
    go_ret
    exact ⟨ret_bool HF.out.symm, by rw [← hW2]; exact HB2.out⟩
  have d2 : decide ((8191 : Int) < (n : Int)) = false := decide_eq_false (by omega)
  by_cases c3 : root < 0
  · have d3 : decide (root < 0) = true := decide_eq_true (by omega)
    have HF : Hid (V = false) := Lib.hid (HV.out.symm.trans (formC_size (by unfold sizeC; simp only; rw [HN.out, decide_eq_false (show ¬ 0 ≤ root by omega)]; simp)))
    clear c1 c2 c3
    go_enter Tryd.func44, Tryd.ntmps44
    go_wp2_with fail
    go_ret
    exact ⟨ret_bool HF.out.symm, by rw [← hW2]; exact HB2.out⟩
  have d3 : decide (root < 0) = false := decide_eq_false (by omega)
  by_cases c4 : (n : Int) ≤ root
  · have d4 : decide ((n : Int) ≤ root) = true := decide_eq_true (by omega)
    have HF : Hid (V = false) := Lib.hid (HV.out.symm.trans (formC_size (by unfold sizeC; simp only; rw [HN.out, decide_eq_false (show ¬ root < (n : Int) by omega)]; simp)))
    clear c1 c2 c3 c4
    go_enter Tryd.func44, Tryd.ntmps44
    go_wp2_with fail
    go_ret
    exact ⟨ret_bool HF.out.symm, by rw [← hW2]; exact HB2.out⟩
  have d4 : decide ((n : Int) ≤ root) = false := decide_eq_false (by omega)
  have HSZ : Hid (sizeC ⟨nodes, root⟩ = true) := Lib.hid (by
    unfold sizeC; simp only; rw [HN.out]; simp; omega)
  have hmk := make_int n (by omega)
  go_enter Tryd.func44, Tryd.ntmps44
  go_wp2_with fail
  rw [← hW2]
  obtain ⟨W3, hW3⟩ : ∃ W3, W3 = W2.alloc (.cells (madeCells #[.int .i64 0] n) 3) := ⟨_, rfl⟩
  have hs2 : W2.heap.size = w.heap.size + 1 := by rw [hW2]; simp
  have hF0 : FrW w W3 a n c root (parTo nodes 0) := by
    refine ⟨by rw [hW3, hW2]; exact heap_alloc_at (heap_alloc_new _ _) _, ?_, by rw [hW3]; exact HB2.out.alloc HB2.out.size _⟩
    rw [← hs2, hW3, psA_made]
    unfold parTo
    rw [List.take_zero, List.foldl_nil, HN.out]
    exact heap_alloc_new _ _
  have HF0 := Lib.hid hF0
  rw [← hW3]
  clear hW3 hW2 hs2 hF0 hmk
  go_loopw [5] (fun i wr => ∃ k : Nat, k ≤ n ∧ i = .int .i64 k ∧ Hid (∀ (i : Nat) c, i < k → nodes[i]? = some c → nodC c i = true) ∧ FrW w wr a n c root (parTo nodes k)) (fun i _ => n - (intOf i).toNat)
  case atStart => exact ⟨0, Nat.zero_le _, rfl, Lib.hid (fun i c hi => by omega), HF0.out⟩
  case round =>
    obtain ⟨k, hk, rfl, hall, hfr⟩ := hrel
    by_cases hlt : k < n
    · obtain ⟨x, hx⟩ : ∃ x, nodes[k]? = some x := ⟨_, List.getElem?_eq_getElem (by have := HN.out; omega)⟩
      obtain ⟨b, o, ha, hat⟩ := TM.at3 (RdK.below HM.out hfr.bel) (by omega)
      obtain ⟨m0, m1, m2⟩ := hat k x hx
      subst ha
      have hps := parTo_succ hx
      have hbad : ∀ (hb : nodC x k = false), V = false := fun hb => HV.out.symm.trans (formC_bad (t := ⟨nodes, root⟩) hx hb)
      have hgood : ∀ (hb : nodC x k = true), ∀ (i : Nat) c, i < k + 1 → nodes[i]? = some c → nodC c i = true := fun hb i c hi hc => by
        by_cases h1 : i < k
        · exact hall.out i c h1 hc
        · obtain rfl : i = k := by omega
          rw [hx] at hc; cases hc; exact hb
      have HBAD := Lib.hid hbad
      have HGOOD := Lib.hid hgood
      have HLE := Lib.hid (parTo_le nodes k)
      have HGE := Lib.hid (parTo_nonneg nodes k)
      have HPL : Hid ((parTo nodes k).length = n) := Lib.hid (by rw [parTo_len]; exact HN.out)
      obtain ⟨ps, hpp⟩ : ∃ ps, parTo nodes k = ps := ⟨_, rfl⟩
      rw [hpp] at hfr hps HLE HGE HPL
      have HPS := Lib.hid hps
      obtain ⟨sv, fi, se⟩ := x
      simp only at m0 m1 m2
      have hfa := hfr.alloc (.cells #[.int .i64 sv, .int .i64 fi, .int .i64 se] 39)
      have HFA := Lib.hid hfa
      have q0 := cell_of_row _ _ 0 _ _ _ hfr.box
      clear hbad hgood hps hpp hx hat hall
      by_cases hl : leafC ⟨sv, fi, se⟩ = true
      · have hnc := nodC_lf (i := k) hl
        have hsv : sv = -1 ∨ sv = -2 := by
          unfold leafC at hl; simpa using hl
        have HPE : Hid (parTo nodes (k + 1) = ps) := Lib.hid (by rw [HPS.out, parStep_leaf hl])
        simp only at hnc
        by_cases e1 : fi = 0
        · by_cases e2 : se = 0
          · subst e1 e2
            have HG := Lib.hid (HGOOD.out (by rw [hnc]; rfl))
            clear hnc hl
            rcases hsv with rfl | rfl
            · go_wp2_with fail
              go_roundw
              case rel => exact ⟨k + 1, by omega, by go_num, HG, by rw [HPE.out]; exact HFA.out⟩
              case measure => simp [intOf]; omega
            · go_wp2_with fail
              go_roundw
              case rel => exact ⟨k + 1, by omega, by go_num, HG, by rw [HPE.out]; exact HFA.out⟩
              case measure => simp [intOf]; omega
          · subst e1
            have HF := Lib.hid (HBAD.out (by rw [hnc, decide_eq_false e2]; simp))
            have de : (se != 0) = true := by simpa using e2
            clear hnc hl e2
            rcases hsv with rfl | rfl
            · go_wp2_with fail
              go_ret
              exact ⟨ret_bool HF.out.symm, HFA.out.bel⟩
            · go_wp2_with fail
              go_ret
              exact ⟨ret_bool HF.out.symm, HFA.out.bel⟩
        · have HF := Lib.hid (HBAD.out (by rw [hnc, decide_eq_false e1]; simp))
          have de : (fi != 0) = true := by simpa using e1
          clear hnc hl e1
          rcases hsv with rfl | rfl
          · go_wp2_with fail
            go_ret
            exact ⟨ret_bool HF.out.symm, HFA.out.bel⟩
          · go_wp2_with fail
            go_ret
            exact ⟨ret_bool HF.out.symm, HFA.out.bel⟩
      · have hl' : leafC ⟨sv, fi, se⟩ = false := by simpa using hl
        have hs1 : (sv == -1) = false := by unfold leafC at hl'; simp at hl'; simpa using hl'.1
        have hs2 : (sv == -2) = false := by unfold leafC at hl'; simp at hl'; simpa using hl'.2
        have HL := Lib.hid hl'
        clear hl hl'
        by_cases g1 : sv < 0
        · have e1 : decide (sv < 0) = true := decide_eq_true g1
          have HF := Lib.hid (HBAD.out (nodC_srv HL.out (.inl g1)))
          clear g1
          go_wp2_with fail
          go_ret
          exact ⟨ret_bool HF.out.symm, HFA.out.bel⟩
        have e1 : decide (sv < 0) = false := decide_eq_false g1
        by_cases g2 : 12 ≤ sv
        · have e2 : decide ((12 : Int) ≤ sv) = true := decide_eq_true g2
          have HF := Lib.hid (HBAD.out (nodC_srv HL.out (.inr g2)))
          clear g1 g2
          go_wp2_with fail
          go_ret
          exact ⟨ret_bool HF.out.symm, HFA.out.bel⟩
        have e2 : decide ((12 : Int) ≤ sv) = false := decide_eq_false g2
        have HNT := Lib.hid (fun hk => nodC_two (i := k) HL.out (show (0 : Int) ≤ sv by omega) (show sv < 12 by omega) hk)
        have HPE : Hid (parTo nodes (k + 1) = bumpS (bumpS ps fi) se) := Lib.hid (by rw [HPS.out, parStep_two HL.out]; rfl)
        have HKB := Lib.hid (fun (j : Nat) (z : Int) => nodC_kid (i := k) (j := j) (z := z) HL.out)
        simp only at HNT HKB
        clear g1 g2
        by_cases z0 : fi < 0
        · have e3 : decide (fi < 0) = true := decide_eq_true z0
          have HF := Lib.hid (HBAD.out (HKB.out 0 fi rfl (.inl z0)))
          clear z0
          go_wp2_with fail
          go_ret
          exact ⟨ret_bool HF.out.symm, HFA.out.bel⟩
        have e3 : decide (fi < 0) = false := decide_eq_false z0
        by_cases y0 : se < 0
        · have e4 : decide (se < 0) = true := decide_eq_true y0
          have HF := Lib.hid (HBAD.out (HKB.out 1 se rfl (.inl y0)))
          clear z0 y0
          go_wp2_with fail
          go_ret
          exact ⟨ret_bool HF.out.symm, HFA.out.bel⟩
        have e4 : decide (se < 0) = false := decide_eq_false y0
        by_cases z1 : (k : Int) ≤ fi
        · have e5 : decide ((k : Int) ≤ fi) = true := decide_eq_true z1
          have HF := Lib.hid (HBAD.out (HKB.out 0 fi rfl (.inr z1)))
          clear z0 y0 z1
          go_wp2_with fail
          go_ret
          exact ⟨ret_bool HF.out.symm, HFA.out.bel⟩
        have e5 : decide ((k : Int) ≤ fi) = false := decide_eq_false z1
        by_cases y1 : (k : Int) ≤ se
        · have e6 : decide ((k : Int) ≤ se) = true := decide_eq_true y1
          have HF := Lib.hid (HBAD.out (HKB.out 1 se rfl (.inr y1)))
          clear z0 y0 z1 y1
          go_wp2_with fail
          go_ret
          exact ⟨ret_bool HF.out.symm, HFA.out.bel⟩
        have e6 : decide ((k : Int) ≤ se) = false := decide_eq_false y1
        have HG := Lib.hid (HGOOD.out (HNT.out (fun j z hz => by
          match j, hz with
          | 0, hz => cases hz; omega
          | 1, hz => cases hz; omega)))
        obtain ⟨p, rfl⟩ := Int.eq_ofNat_of_zero_le (show 0 ≤ fi by omega)
        obtain ⟨q, rfl⟩ := Int.eq_ofNat_of_zero_le (show 0 ≤ se by omega)
        have hpk : p < k := by omega
        have hqk : q < k := by omega
        have hnew := heap_alloc_new wr (Obj.cells #[.int .i64 sv, .int .i64 (p : Int), .int .i64 (q : Int)] 39)
        have hws : w.heap.size + 1 < wr.heap.size := (Array.getElem?_eq_some_iff.1 hfr.row).1
        have hnew2 := heap_set_other (B := wr.heap.size) (B' := w.heap.size + 1) (by omega) p (.int .i64 (ps.getD p 0 + 1)) hnew
        have hps := (cell_of_row _ _ p _ _ _ HFA.out.row).trans (psA_at (by have h2 := HPL.out; omega))
        have hfz := frozen_row HFA.out.row p
        have hset := HFA.out.set p
        have hps2 := (cell_of_row _ _ q _ _ _ hset.row).trans (psA_at (by rw [bump_len]; have h2 := HPL.out; omega))
        have hfz2 := frozen_row hset.row q
        have n2 := cell_of_row _ _ 2 _ _ _ hnew2
        have hset2 := hset.set q
        have hle1 := HLE.out p
        have hge1 := HGE.out p
        have hle2 := HLE.out q
        have hge2 := HGE.out q
        have hbl := bump_le ps (p : Int) q
        have hbg := bump_ge ps (p : Int) q
        obtain ⟨X, hX⟩ : ∃ X, ps.getD p 0 = X := ⟨_, rfl⟩
        obtain ⟨Y, hY⟩ : ∃ Y, (bumpS ps (p : Int)).getD q 0 = Y := ⟨_, rfl⟩
        rw [hX] at hps hset hset2 hle1 hge1 hps2 hfz2 n2
        rw [hY] at hps2 hset2 hbl hbg
        have hwr : wrap64 (X + 1) = X + 1 := by unfold wrap64; omega
        have hwr2 : wrap64 (Y + 1) = Y + 1 := by unfold wrap64; omega
        have HSET2 := Lib.hid hset2
        clear z0 z1 y0 y1 hset hset2 hle1 hge1 hle2 hge2 hbl hbg hX hY hnew hnew2 hfr hfa hws
        go_wp2_with fail
        go_roundw
        case rel => exact ⟨k + 1, by omega, by go_num, HG, by rw [HPE.out]; exact HSET2.out⟩
        case measure => simp [intOf]; omega
    · obtain rfl : k = n := by omega
      have HND : Hid (nodsC nodes = true) := Lib.hid (nodsC_all fun i c hc => hall.out i c (by have := (List.getElem?_eq_some_iff.1 hc).1; have := HN.out; omega) hc)
      have HFR := Lib.hid hfr
      clear hall hfr
      go_wp2_with fail
      have HFP : Hid (∀ i, i < k → parB root (parTo nodes k) i = false → V = false) := Lib.hid (fun i hi hb => HV.out.symm.trans (formC_par (t := ⟨nodes, root⟩) (i := i) (by have := HN.out; simp only; omega) (by simp only; rw [HN.out]; exact hb)))
      have HOK : Hid ((∀ i, i < k → parB root (parTo nodes k) i = true) → V = true) := Lib.hid (fun h => HV.out.symm.trans (formC_ok (t := ⟨nodes, root⟩) HSZ.out HND.out (fun i hi => by simp only at hi ⊢; rw [HN.out] at hi ⊢; exact h i hi)))
      have HPN := Lib.hid (parTo_nonneg nodes k)
      have HPL : Hid ((parTo nodes k).length = k) := Lib.hid (by rw [parTo_len]; exact HN.out)
      obtain ⟨ps, hpp⟩ : ∃ ps, parTo nodes k = ps := ⟨_, rfl⟩
      rw [hpp] at HFR HFP HOK HPN HPL
      clear hpp
      go_loopw [7] (fun i wr => ∃ j : Nat, j ≤ k ∧ i = .int .i64 j ∧ Hid (∀ i, i < j → parB root ps i = true) ∧ FrW w wr a k c root ps) (fun i _ => k - (intOf i).toNat)
      case atStart => exact ⟨0, Nat.zero_le _, rfl, Lib.hid (fun i hi => by omega), HFR.out⟩
      case round =>
        obtain ⟨j, hj, rfl, hpar, hfj⟩ := hrel
        by_cases hltj : j < k
        · have q1 := cell_of_row _ _ 1 _ _ _ hfj.box
          have hps := (cell_of_row _ _ j _ _ _ hfj.row).trans (psA_at (by have h2 := HPL.out; omega))
          have hX0 := HPN.out j
          have hB := HFP.out j hltj
          have hG : parB root ps j = true → ∀ i, i < j + 1 → parB root ps i = true := fun hb i hi => by
            by_cases h1 : i < j
            · exact hpar.out i h1
            · obtain rfl : i = j := by omega
              exact hb
          unfold parB at hB
          obtain ⟨X, hX⟩ : ∃ X, ps.getD j 0 = X := ⟨_, rfl⟩
          have hPB : parB root ps j = if (j : Int) = root then X == 0 else X == 1 := by unfold parB; rw [hX]
          rw [hX] at hps hX0 hB
          have HG := Lib.hid hG
          have HB := Lib.hid hB
          have HPB := Lib.hid hPB
          have HFJ := Lib.hid hfj
          clear hB hG hPB hX hpar hfj
          by_cases hr : (j : Int) = root
          · have t1 : ((j : Int) == root) = true := by simpa using hr
            by_cases x0 : X = 0
            · subst x0
              have HG2 := Lib.hid (HG.out (by rw [HPB.out, if_pos hr]; rfl))
              have t3 : ((j : Int) != root) = false := by rw [bne, t1]; rfl
              clear hr
              go_wp2_with fail
              go_roundw
              case rel => exact ⟨j + 1, by omega, by go_num, HG2, HFJ.out⟩
              case measure => simp [intOf]; omega
            · have t2 : (X == 0) = false := by simpa using x0
              have t3 : (X != 0) = true := by simpa using x0
              have HF := Lib.hid (HB.out (by rw [if_pos hr]; exact t2))
              clear hr x0
              go_wp2_with fail
              go_ret
              exact ⟨ret_bool HF.out.symm, HFJ.out.bel⟩
          · have t1 : ((j : Int) == root) = false := by simpa using hr
            have t2 : ((j : Int) != root) = true := by simpa using hr
            by_cases x1 : X = 1
            · subst x1
              have HG2 := Lib.hid (HG.out (by rw [HPB.out, if_neg hr]; rfl))
              clear hr
              go_wp2_with fail
              go_roundw
              case rel => exact ⟨j + 1, by omega, by go_num, HG2, HFJ.out⟩
              case measure => simp [intOf]; omega
            · have t3 : (X != 1) = true := by simpa using x1
              have HF := Lib.hid (HB.out (by rw [if_neg hr]; simpa using x1))
              clear hr x1
              go_wp2_with fail
              go_ret
              exact ⟨ret_bool HF.out.symm, HFJ.out.bel⟩
        · obtain rfl : j = k := by omega
          have HT := Lib.hid (HOK.out hpar.out)
          clear hpar
          go_wp2_with fail
          go_ret
          exact ⟨ret_bool HT.out.symm, hfj.bel⟩
end Go.Proofs.YtflpkkebampmfaaDoor
namespace Go.Proofs.YtflpkkebampmfaaDoor
open Go.RowKit
section
variable {P : Program} {ops : Array Oper} {md : Region.Mode} {C : World → Prop}

/-- the first n operations in any order, each quiet in the class; then L -/
def headQ (P : Program) (md : Region.Mode) (ops : Array Oper) (C : World → Prop) (n : Nat) (L : Array Bool → Act → Prop) : Nat → Array Bool → Act → Prop
  | 0, listed, a => L listed a
  | f + 1, listed, a => Region.ready md ops listed ≠ [] ∧ ∀ i ∈ Region.ready md ops listed, i < n ∧ qOp P ops C i (headQ P md ops C n L f (listed.setIfInBounds i true)) a

theorem any_of_headQ {n g : Nat} {L : Array Bool → Act → Prop} {Q' : Exit → Act → World → Prop} (hL : ∀ listed a w, C w → L listed a → wpAny P md ops Q' g listed a w) :
    ∀ (f : Nat) (listed : Array Bool) (a : Act) (w : World), C w → headQ P md ops C n L f listed a → wpAny P md ops Q' (f + g) listed a w
  | 0, listed, a, w, hw, h => by rw [Nat.zero_add]; exact hL _ _ _ hw h
  | f + 1, listed, a, w, hw, h => by
    rw [show f + 1 + g = (f + g) + 1 by omega]
    exact ⟨fun h0 => absurd h0 h.1, fun i hi => wpOp_of_qOp hw (fun a' w' hw' h' => any_of_headQ hL f _ a' w' hw' h') (h.2 i hi).2⟩

theorem headQ_first {n i : Nat} {oi : Oper} {v : Value} {L : Array Bool → Act → Prop} (hi : ops[i]? = some oi) (hsel : ∀ (j : Nat) (o : Oper) cs b, ops[j]? = some o → o.op ≠ .select cs b)
    (hs : Region.sinkB md ops n = true) (hc : Region.chainB md ops n = true) (hn : n < ops.size) (hin : i < n)
    (hdone : ∀ listed a, L listed a → ∀ j ∈ Region.ready md ops listed, n ≤ j) :
    ∀ (f : Nat) (listed : Array Bool) (a : Act), HeadInv md ops n listed →
      (∀ j oj, ops[j]? = some oj → j ≠ i → listed.getD j true = false → (∀ e ∈ oj.after, Region.binds md e = true → e.on ≠ i) → oi.apart ops oj = true) →
      i ∈ Region.ready md ops listed → YieldsIn P ops C oi v a →
      headQ P md ops C n L f (listed.setIfInBounds i true) (a.put oi.dst v) → headQ P md ops C n L (f + 1) listed a := by
  intro f
  induction f with
  | zero =>
    intro listed a inv _ hr hy H
    have hun := (mem_ready.1 hr).1
    refine ⟨fun h => (by rw [h] at hr; cases hr), fun j hj => ?_⟩
    have hjn : j < n := by
      rcases Nat.lt_or_ge j n with h | h
      · exact h
      · exact absurd hj (tail_waits hs hc hn inv _ i rfl hin hun j h)
    refine ⟨hjn, ?_⟩
    by_cases hji : j = i
    · subst hji; exact hy.qOp hi H
    · have := hdone _ _ H j (ready_mono hj hji)
      omega
  | succ f ih =>
    intro listed a inv hfree hr hy H
    have hun := (mem_ready.1 hr).1
    refine ⟨fun h => (by rw [h] at hr; cases hr), fun j hj => ?_⟩
    have hjn : j < n := by
      rcases Nat.lt_or_ge j n with h | h
      · exact h
      · exact absurd hj (tail_waits hs hc hn inv _ i rfl hin hun j h)
    refine ⟨hjn, ?_⟩
    by_cases hji : j = i
    · subst hji; exact hy.qOp hi H
    · have h1 := (H.2 j (ready_mono hj hji)).2
      obtain ⟨hjun, oj, hoj, hall⟩ := mem_ready.1 hj
      have hnot : ∀ e ∈ oj.after, Region.binds md e = true → e.on ≠ i := fun e he hb heq => by
        have h1 := hall e he hb
        rw [heq, getD_both hun] at h1
        cases h1
      have h2 := qOp_put hoj (hfree j oj hoj hji hjun hnot) (fun cs b => hsel i oi cs b hi) (fun cs b => hsel j oj cs b hoj) hy h1
      have hfree' : ∀ k ok, ops[k]? = some ok → k ≠ i → (listed.setIfInBounds j true).getD k true = false →
          (∀ e ∈ ok.after, Region.binds md e = true → e.on ≠ i) → oi.apart ops ok = true := fun k ok hk hki hun hno => by
        refine hfree k ok hk hki ?_ hno
        by_cases hjk : j = k
        · subst hjk; exact hjun
        · rw [getD_set_ne true hjk] at hun; exact hun
      refine qOp_mono (fun a' h3 => ih (listed.setIfInBounds j true) a' (inv.set hj hjn) hfree' (ready_mono hr (Ne.symm hji)) h3.1 ?_) h2
      rw [Array.setIfInBounds_comm _ _ hji]
      exact h3.2

theorem headQ_lex {n g : Nat} {Lq : Act → Prop} (hsel : Region.noSelect ops = true) (hs : Region.sinkB md ops n = true) (hc : Region.chainB md ops n = true) (hn : n < ops.size) :
    ∀ (l : List Oper) (k : Nat) (listed : Array Bool) (a : Act), (∀ j, j < l.length → l[j]? = ops[k + j]?) → k + l.length = n → HeadInv md ops n listed →
    Region.lexHead md ops g l.length k listed = true → wpQuiet P ops C Lq l a →
    headQ P md ops C n (fun listed' a' => Region.seqB md ops g n listed' = true ∧ Lq a') l.length listed a
  | [], k, listed, a, _, hk, _, hB, h => by
    have : k = n := by simpa using hk
    subst this
    exact ⟨by simpa [Region.lexHead] using hB, h⟩
  | o :: l, k, listed, a, hl, hk, inv, hB, h => by
    have h0 : ops[k]? = some o := by simpa using (hl 0 (by simp)).symm
    simp only [List.length_cons, Region.lexHead, Bool.and_eq_true] at hB
    obtain ⟨⟨hr, hf⟩, hB'⟩ := hB
    have hkn : k < n := by simp only [List.length_cons] at hk; omega
    have hr' : k ∈ Region.ready md ops listed := by simpa using hr
    have hst : qOp P ops C k (wpQuiet P ops C Lq l) a := by unfold qOp; simp only [h0]; exact h
    obtain ⟨v, hy, hK⟩ := yieldsIn_of_qOp h0 hst
    exact headQ_first h0 (Region.noSelect_spec hsel) hs hc hn hkn (fun listed' a' hL => seqB_ready hL.1) l.length listed a inv (Region.free_spec h0 hf) hr' hy
      (headQ_lex hsel hs hc hn l (k + 1) _ _ (fun j hj => by have := hl (j + 1) (by simp; omega); simpa [Nat.add_assoc, Nat.add_comm 1 j] using this) (by simp only [List.length_cons] at hk; omega) (inv.set hr' hkn) hB' hK)

/-- one walk in the order of the text serves every order; the tail stands behind, in any world of the class -/
theorem wp_region_quiet_tail {id : Nat} {Q : Exit → Act → World → Prop} {a : Act} {w : World} {l : List Oper} (C : World → Prop) (n : Nat) (hm : P.follows .mixedOrders = true) (hB : Region.lexTailB .any l.toArray n = true) (hC : C { w with drawn := w.drawn + 1 })
    (h : wpQuiet P l.toArray C (fun a' => ∀ w', C w' → wpList P l.toArray Q (l.drop n) a' w') (l.take n) a) : (Code.region id l.toArray true).wp P Q a w := by
  simp only [Region.lexTailB, Bool.and_eq_true, decide_eq_true_eq] at hB
  obtain ⟨⟨⟨⟨hsel, hn⟩, hs⟩, hc⟩, hlex⟩ := hB
  have hn' : n < l.length := by simpa using hn
  have htl : (l.take n).length = n := by simp; omega
  have hdl : (l.drop n).length = l.toArray.size - n := by simp
  have inv0 : HeadInv .any l.toArray n (Array.replicate l.toArray.size false) :=
    ⟨by simp, fun j oj _ hl => (by rw [getD_replicate_false] at hl; cases hl), fun t _ ht => getD_in (by simpa using ht) (getD_replicate_false _ _)⟩
  have H := headQ_lex (md := .any) (C := C) (g := l.toArray.size - n) hsel hs hc hn (l.take n) 0 _ a (fun j hj => by
    have hj' : j < n := by rw [htl] at hj; exact hj
    simp [hj']) (by simpa using htl) inv0 (by rw [htl]; exact hlex) h
  refine wp_region_any hm ?_
  have := any_of_headQ (Q' := Q) (g := l.toArray.size - n) (fun listed a' w' hw' hL => by
    have := wpAny_of_seq (md := .any) (Q' := Q) (l.drop n) n listed a' w' (fun j => by simp [List.getElem?_drop]) (by rw [hdl]; exact hL.1) (hL.2 w' hw')
    rwa [hdl] at this) _ _ _ _ hC H
  rw [htl, show n + (l.toArray.size - n) = l.toArray.size by omega] at this
  exact this
end
end Go.Proofs.YtflpkkebampmfaaDoor
namespace Go.Proofs.YtflpkkebampmfaaDoor
open Go.RowKit Go.Shelf

set_option maxRecDepth 100000 in
set_option maxHeartbeats 4000000 in
theorem rtext_p {w0 : World} {a : Option Addr} {n c : Nat} {rt : Int} {nodes : List Cho} (tm : TM w0 a n c nodes) (hn : nodsC nodes = true) :
    ∀ (f i : Nat) (u : World), i < n → i < f → Below w0.heap.size w0 u → (txtF nodes f i).length ≤ 1000000 →
    Calls Tryd.prog 57 #[.agg #[.slice a n c, .int .i64 rt], .int .i64 i] u fun e w' => e = .returned (.string (mkB (txtF nodes f i))) ∧ Below u.heap.size u w' := by
  have HTM := Lib.hid tm
  have HNO := Lib.hid hn
  have hle := RdK.le tm
  have hm := RdK.max tm
  unfold maxLen at hm
  have HNL := Lib.hid (TM.len tm)
  clear tm hn
  intro f
  induction f with
  | zero => intro i u _ h; omega
  | succ f ih =>
    intro i u hin hif hb hl
    have HIH := Lib.hid ih
    clear ih
    obtain ⟨nd, hnd⟩ : ∃ nd, nodes[i]? = some nd := ⟨_, List.getElem?_eq_getElem (by have := HNL.out; omega)⟩
    obtain ⟨UA, hUA⟩ : ∃ UA, UA = u.alloc (.cells #[.slice a n c, .int .i64 rt] 33) := ⟨_, rfl⟩
    have hbA : Below u.heap.size u UA := by rw [hUA]; exact (Below.refl _ u).alloc (Nat.le_refl _) _
    obtain ⟨bb, oo, ha, hat⟩ := TM.at3 (RdK.below HTM.out (Below.next hb hbA)) (by omega)
    obtain ⟨m0, m1, m2⟩ := hat i nd hnd
    have gA : UA.heap[u.heap.size]? = some (.cells #[.slice a n c, .int .i64 rt] 33 (0, 0)) := by rw [hUA]; exact heap_alloc_new _ _
    obtain ⟨⟨q0, q1⟩, _⟩ := open2 gA
    subst ha
    have hnc := nodsC_at HNO.out (i := i) (by have := HNL.out; omega)
    rw [List.getD_eq_getElem?_getD, hnd] at hnc
    have hnc : nodC nd i = true := hnc
    have HRX := Lib.hid (txtF_x (f := f) hnd)
    have HRY := Lib.hid (txtF_y (f := f) hnd)
    have HRN := Lib.hid (fun s => txtF_n (f := f) (s := s) hnd)
    obtain ⟨sv, fi, se⟩ := nd
    simp only at m0 m1 m2 HRX HRY HRN
    obtain ⟨U1, hU1⟩ : ∃ U1, U1 = UA.alloc (.cells #[.int .i64 sv, .int .i64 fi, .int .i64 se] 39) := ⟨_, rfl⟩
    have hb1 : Below UA.heap.size UA U1 := by rw [hU1]; exact (Below.refl _ UA).alloc (Nat.le_refl _) _
    have HB1 := Lib.hid (Below.next hbA hb1)
    have HB2 := Lib.hid (Below.next hb (Below.next hbA hb1))
    have HG1 := Lib.hid (heap_below hb1 gA)
    have hsA : UA.heap.size = u.heap.size + 1 := by rw [hUA]; simp
    have HC1 : Hid (U1.heap[u.heap.size + 1]? = some (.cells #[.int .i64 sv, .int .i64 fi, .int .i64 se] 39 (0, 0))) := Lib.hid (by rw [hU1, ← hsA]; exact heap_alloc_new _ _)
    have HL := Lib.hid hl
    have HSA := Lib.hid hsA
    rw [hUA] at m0 m1 m2 q0 q1
    clear hat hl hb hbA hb1 gA hsA
    by_cases s1 : sv = -1
    · have HR := Lib.hid (HRX.out s1)
      subst s1
      clear hnc
      go_enter Tryd.func57, Tryd.ntmps57
      go_wp2_with fail
      rw [← hUA, ← hU1]
      go_ret
      exact ⟨by rw [HR.out]; rfl, HB1.out.alloc HB1.out.size _⟩
    by_cases s2 : sv = -2
    · have HR := Lib.hid (HRY.out s2)
      subst s2
      clear hnc s1
      go_enter Tryd.func57, Tryd.ntmps57
      go_wp2_with fail
      rw [← hUA, ← hU1]
      go_ret
      exact ⟨by rw [HR.out]; rfl, HB1.out.alloc HB1.out.size _⟩
    have hlf : leafC ⟨sv, fi, se⟩ = false := by unfold leafC; rw [decide_eq_false s1, decide_eq_false s2]; rfl
    obtain ⟨⟨hs0, hs12⟩, ⟨hf0, hfk⟩, hse0, hsek⟩ := nodC_leaf hnc hlf
    simp only at hs0 hs12 hf0 hfk hse0 hsek
    obtain ⟨s, rfl⟩ := Int.eq_ofNat_of_zero_le hs0
    obtain ⟨fk, rfl⟩ := Int.eq_ofNat_of_zero_le hf0
    obtain ⟨sk, rfl⟩ := Int.eq_ofNat_of_zero_le hse0
    have hn12 : s < 12 := by omega
    have HR := Lib.hid (HRN.out s rfl)
    have hfn : fk < n := by omega
    have hsn : sk < n := by omega
    have hff : fk < f := by omega
    have hsf : sk < f := by omega
    obtain ⟨X1, hX1⟩ : ∃ X1, txtF nodes f (fk : Int) = X1 := ⟨_, rfl⟩
    obtain ⟨X2, hX2⟩ : ∃ X2, txtF nodes f (sk : Int) = X2 := ⟨_, rfl⟩
    rw [hX1, hX2] at HR
    have hxl : X1.length ≤ 1000000 ∧ X2.length ≤ 1000000 := by
      have := HL.out
      rw [HR.out] at this
      simp only [List.length_append, List.length_cons, List.length_nil] at this
      omega
    have HI1 := Lib.hid (fun (v : World) (hv : Below U1.heap.size U1 v) => HIH.out fk v hfn hff (Below.next HB2.out hv) (by rw [hX1]; exact hxl.1))
    have HI2 := Lib.hid (fun (v : World) (hv : Below U1.heap.size U1 v) => HIH.out sk v hsn hsf (Below.next HB2.out hv) (by rw [hX2]; exact hxl.2))
    rw [hX1] at HI1
    rw [hX2] at HI2
    obtain ⟨D, hD⟩ : ∃ D : ByteArray, (⟨#[UInt8.ofNat (48 + s % 10)]⟩ : ByteArray) = D := ⟨_, rfl⟩
    have hDs : D.size = 1 := by rw [← hD]; rfl
    have HND := Lib.hid (show s < 10 → mkB (nbr s) = D ++ (⟨#[40]⟩ : ByteArray) from fun h => by have := nb_lt ⟨s, hn12⟩ h; simp only at this; rw [this, hD])
    have HNG := Lib.hid (show 10 ≤ s → mkB (nbr s) = ((⟨#[49]⟩ : ByteArray) ++ D) ++ (⟨#[40]⟩ : ByteArray) from fun h => by have := nb_ge ⟨s, hn12⟩ h; simp only at this; rw [this, hD])
    have HTX : Hid (txtF nodes (f + 1) (i : Int) = nbr s ++ X1 ++ [44, 32] ++ X2 ++ [41]) := Lib.hid (by rw [HR.out]; rfl)
    obtain ⟨x1, hx1⟩ : ∃ x1, mkB X1 = x1 := ⟨_, rfl⟩
    obtain ⟨x2, hx2⟩ : ∃ x2, mkB X2 = x2 := ⟨_, rfl⟩
    have hz1 : x1.size ≤ 1000000 := by rw [← hx1, mkB_size]; exact hxl.1
    have hz2 : x2.size ≤ 1000000 := by rw [← hx2, mkB_size]; exact hxl.2
    have HFT : Hid (∀ d : ByteArray, mkB (nbr s) = d → mkB (txtF nodes (f + 1) (i : Int)) = d ++ x1 ++ (⟨#[44, 32]⟩ : ByteArray) ++ x2 ++ (⟨#[41]⟩ : ByteArray)) := Lib.hid (fun d hd => by
      rw [HTX.out, ← mkB_app, ← mkB_app, ← mkB_app, ← mkB_app, hd, hx1, hx2]; rfl)
    rw [hx1] at HI1
    rw [hx2] at HI2
    rw [HFT.out _ rfl]
    have hcv : (convert 83 9 (.slice (some ⟨U1.heap.size, 0, none⟩) 1 1)).run Tryd.prog (U1.alloc (.cells #[.int .u8 (48 + (s : Int) % 10)] 5)) = .ok (.string D) (U1.alloc (.cells #[.int .u8 (48 + (s : Int) % 10)] 5)) := by
      have := conv_one (48 + s % 10) U1
      rw [hD, show ((48 + s % 10 : Nat) : Int) = 48 + (s : Int) % 10 by omega] at this
      exact this
    obtain ⟨w5, hw5⟩ : ∃ w5, w5 = U1.alloc (.cells #[.int .u8 (48 + (s : Int) % 10)] 5) := ⟨_, rfl⟩
    have hb5 : Below U1.heap.size U1 w5 := by rw [hw5]; exact (Below.refl _ _).alloc (Nat.le_refl _) _
    have HB5 := Lib.hid hb5
    have hs1 : U1.heap.size = u.heap.size + 1 + 1 := by rw [hU1, World.size_alloc, HSA.out]
    rw [hs1, hU1, hUA] at hcv
    rw [hU1, hUA] at hw5
    have t0 : decide ((s : Int) < 0) = false := decide_eq_false (by omega)
    clear hnc hlf s1 s2 hs0 hf0 hse0 hX1 hX2 HRX HRY HRN HIH hD hx1 hx2 hxl hb5
    have HKS : Hid (∀ y : World, Below w5.heap.size w5 y → (y.cell? ⟨u.heap.size, 0, none⟩ = some (.slice (some ⟨bb, oo, none⟩) n c) ∧ y.cell? ⟨u.heap.size, 1, none⟩ = some (.int .i64 rt)) ∧ y.cell? ⟨u.heap.size + 1, 1, none⟩ = some (.int .i64 fk) ∧ y.cell? ⟨u.heap.size + 1, 2, none⟩ = some (.int .i64 sk)) := Lib.hid (fun y hy => by
      have h1 := Below.next HB5.out hy
      have h2 := heap_below h1 HC1.out
      exact ⟨(open2 (heap_below h1 HG1.out)).1, cell_of_row _ _ 1 _ _ _ h2, cell_of_row _ _ 2 _ _ _ h2⟩)
    by_cases h10 : 10 ≤ s
    · have hd10 : decide ((10 : Int) ≤ (s : Int)) = true := decide_eq_true (by omega)
      rw [HNG.out h10]
      clear h10 hs1 hU1 hUA
      go_enter Tryd.func57, Tryd.ntmps57
      go_wp2_with fail
      rw [← hw5]
      clear hw5 hcv m0 m1 m2 q0 q1
      refine wp_region_quiet (C := fun y => Below w5.heap.size w5 y) (by kernel_rfl) (by kernel_rfl) (below_drew (Below.refl _ _)) ?_
      repeat (refine wpQuiet_step (fun K hK => ?_); go_simp; (first | (refine hK _ ?_; clear hK K) | (apply Exists.intro; refine ⟨fun y hy => ?_, hK _ ?_⟩; (first | (rw [if_neg (by omega)]; exact ⟨rfl, rfl⟩) | with_reducible exact rfl | with_reducible exact ⟨rfl, hy⟩ | with_reducible exact ⟨rfl, rfl⟩ | ((with_reducible refine (HI1.out y (Below.next HB5.out hy)).mono ?_); (rintro e w3 ⟨rfl, h3⟩; exact ⟨rfl, Below.next hy h3⟩)) | ((with_reducible refine (HI2.out y (Below.next HB5.out hy)).mono ?_); (rintro e w3 ⟨rfl, h3⟩; exact ⟨rfl, Below.next hy h3⟩)) | (obtain ⟨⟨q1, q2⟩, q3, q4⟩ := HKS.out y hy; go_simp; first | with_reducible exact rfl | with_reducible exact ⟨rfl, hy⟩ | with_reducible exact ⟨rfl, rfl⟩ | exact hy)); clear hK K)))
      refine wpQuiet_nil ?_
      intro wq hwq
      have HBQ := Lib.hid (Below.next HB1.out (Below.next HB5.out hwq))
      clear hwq
      go_wp2_with fail
      go_ret
      exact ⟨rfl, HBQ.out⟩
    · have hd10 : decide ((10 : Int) ≤ (s : Int)) = false := decide_eq_false (by omega)
      rw [HND.out (by omega)]
      clear h10 hs1 hU1 hUA
      go_enter Tryd.func57, Tryd.ntmps57
      go_wp2_with fail
      rw [← hw5]
      clear hw5 hcv m0 m1 m2 q0 q1
      refine wp_region_quiet (C := fun y => Below w5.heap.size w5 y) (by kernel_rfl) (by kernel_rfl) (below_drew (Below.refl _ _)) ?_
      repeat (refine wpQuiet_step (fun K hK => ?_); go_simp; (first | (refine hK _ ?_; clear hK K) | (apply Exists.intro; refine ⟨fun y hy => ?_, hK _ ?_⟩; (first | (rw [if_neg (by omega)]; exact ⟨rfl, rfl⟩) | with_reducible exact rfl | with_reducible exact ⟨rfl, hy⟩ | with_reducible exact ⟨rfl, rfl⟩ | ((with_reducible refine (HI1.out y (Below.next HB5.out hy)).mono ?_); (rintro e w3 ⟨rfl, h3⟩; exact ⟨rfl, Below.next hy h3⟩)) | ((with_reducible refine (HI2.out y (Below.next HB5.out hy)).mono ?_); (rintro e w3 ⟨rfl, h3⟩; exact ⟨rfl, Below.next hy h3⟩)) | (obtain ⟨⟨q1, q2⟩, q3, q4⟩ := HKS.out y hy; go_simp; first | with_reducible exact rfl | with_reducible exact ⟨rfl, hy⟩ | with_reducible exact ⟨rfl, rfl⟩ | exact hy)); clear hK K)))
      refine wpQuiet_nil ?_
      intro wq hwq
      have HBQ := Lib.hid (Below.next HB1.out (Below.next HB5.out hwq))
      clear hwq
      go_wp2_with fail
      go_ret
      exact ⟨rfl, HBQ.out⟩

set_option maxRecDepth 100000 in
set_option maxHeartbeats 4000000 in
theorem rfmt_c (t : Tre) (a : Option Addr) (n c : Nat) (w : World) (h : TM w a n c t.nodes) :
    Calls Tryd.prog 30 #[.agg #[.slice a n c, .int .i64 t.root]] w fun e w' => e = .returned (.tuple #[.string (mkB (fmtC t).1), .int .i64 (fmtC t).2]) ∧ Below w.heap.size w w' := by
  have H2 := Lib.hid (fun (u : World) (hb : Below w.heap.size w u) => rformed_c t a n c u (RdK.below h hb))
  have HTM := Lib.hid (fun (u : World) (hb : Below w.heap.size w u) => RdK.below h hb)
  have HNL := Lib.hid (TM.len h)
  clear h
  obtain ⟨W2, hW2⟩ : ∃ W2, W2 = w.alloc (.cells #[.slice a n c, .int .i64 t.root] 33) := ⟨_, rfl⟩
  have hb2 : Below w.heap.size w W2 := by rw [hW2]; exact (Below.refl _ w).alloc (Nat.le_refl _) _
  have g2 : W2.heap[w.heap.size]? = some (.cells #[.slice a n c, .int .i64 t.root] 33 (0, 0)) := by rw [hW2]; exact heap_alloc_new _ _
  obtain ⟨⟨q0, q1⟩, _⟩ := open2 g2
  have HB2 := Lib.hid hb2
  have HG2 := Lib.hid g2
  clear hb2 g2
  obtain ⟨F, hF⟩ : ∃ F, formC t = F := ⟨_, rfl⟩
  rw [hF] at H2
  cases F
  · have HV : Hid (fmtC t = ([], 1)) := by show _ = _; unfold fmtC; rw [if_neg (by rw [hF]; decide)]
    clear hF
    go_enter Tryd.func30, Tryd.ntmps30
    go_wp2_with fail
    rw [← hW2]
    with_reducible refine (H2.out W2 HB2.out).mono ?_
    rintro e w1 ⟨rfl, hb1⟩
    have HB1 := Lib.hid (Below.next HB2.out hb1)
    clear hb1
    go_wp2_with fail
    go_ret2
    exact ⟨by rw [HV.out]; rfl, HB1.out⟩
  · have HV : Hid (fmtC t = (txtF t.nodes t.nodes.length t.root, 0)) := by show _ = _; unfold fmtC; rw [if_pos hF]
    obtain ⟨⟨_, _, hr0, hrn⟩, hnods, _⟩ := formC_parts hF
    have hlen := fmt_len hF
    obtain ⟨r, hr⟩ := Int.eq_ofNat_of_zero_le hr0
    have hrn' : r < n := by have := HNL.out; omega
    rw [HNL.out] at HV hlen
    rw [hr] at HV hW2 q1 HG2 H2 hlen
    rw [hr]
    have HP := Lib.hid (fun (u : World) (hb : Below w.heap.size w u) => rtext_p (rt := (r : Int)) (HTM.out u hb) hnods n r u hrn' hrn' (Below.refl _ _) (Nat.le_trans hlen (by decide)))
    obtain ⟨X, hX⟩ : ∃ X, txtF t.nodes n (r : Int) = X := ⟨_, rfl⟩
    rw [hX] at HP HV
    clear hF hr0 hrn hnods hr hlen hX
    go_enter Tryd.func30, Tryd.ntmps30
    go_wp2_with fail
    rw [← hW2]
    with_reducible refine (H2.out W2 HB2.out).mono ?_
    rintro e w1 ⟨rfl, hb1⟩
    obtain ⟨⟨p0, p1⟩, _⟩ := open2 (heap_below hb1 HG2.out)
    have HB1 := Lib.hid (Below.next HB2.out hb1)
    have HW := Lib.hid (HP.out w1 HB1.out)
    clear hb1 q0 q1 hW2
    go_wp2_with fail
    with_reducible refine HW.out.mono ?_
    rintro e w5 ⟨rfl, h1⟩
    have HB5 := Lib.hid (Below.next HB1.out h1)
    clear h1
    go_wp2_with fail
    go_ret2
    exact ⟨by rw [HV.out]; rfl, HB5.out⟩
end Go.Proofs.YtflpkkebampmfaaDoor
namespace Go.Proofs.YtflpkkebampmfaaDoor
open Go.RowKit

inductive IsInts (k : IntKind) (W : World) : Option Addr → Nat → Nat → List Int → Prop
  | nil : IsInts k W none 0 0 []
  | row {a : Addr} {len cap : Nat} {zs : List Int} (hl : len ≤ cap) (hm : cap ≤ maxLen) (hz : zs.length = cap)
      (hcell : ∀ i, i < zs.length → W.cell? (a.add i) = some (.int k (zs.getD i 0))) (hwz : ∀ n ∈ zs, (Lit.int k n).wf = true) : IsInts k W (some a) len cap (zs.take len)

theorem IsInts.rd {k : IntKind} {W : World} {a : Option Addr} {n c : Nat} {l : List Int} (h : IsInts k W a n c l) : Rd W a n c (l.map (Value.int k)) := by
  cases h with
  | nil => exact Rd.none_ W
  | @row a len cap zs hl hm hz hcell hwz =>
    refine ⟨by simp; omega, hl, hm, fun h => (by cases h), fun hn => ?_⟩
    have h0 := hcell 0 (by omega)
    have ha : a = ⟨a.block, a.off, none⟩ := by
      have : a.add 0 = a := by simp [Addr.add]
      rw [this] at h0
      unfold World.cell? at h0
      cases hs : a.spot with
      | none => cases a; simp_all
      | some s => rw [hs] at h0; split at h0 <;> simp at h0
    refine ⟨a.block, a.off, by rw [← ha], fun i v hv => ?_⟩
    have hi := (List.getElem?_eq_some_iff.1 hv).1
    have hi : i < n ∧ i < zs.length := by simp at hi; omega
    have h1 := hcell i (by omega)
    rw [ha] at h1
    rw [Addr.add_lit] at h1
    rw [h1]
    rw [List.getElem?_map, List.getElem?_take_of_lt hi.1, List.getElem?_eq_getElem hi.2] at hv
    simp at hv
    simp [List.getD, List.getElem?_eq_getElem hi.2, hv]
theorem IsInts.wf {k : IntKind} {W : World} {a : Option Addr} {n c : Nat} {l : List Int} (h : IsInts k W a n c l) : ∀ z ∈ l, (Lit.int k z).wf = true := by
  cases h with
  | nil => intro z hz; cases hz
  | row hl hm hz hcell hwz => exact fun z hz => hwz z (List.mem_of_mem_take hz)
theorem IsInts.len {k : IntKind} {W : World} {a : Option Addr} {n c : Nat} {l : List Int} (h : IsInts k W a n c l) : l.length = n := by
  cases h with
  | nil => rfl
  | row hl hm hz hcell hwz => simp; omega
end Go.Proofs.YtflpkkebampmfaaDoor
namespace Go.Proofs.YtflpkkebampmfaaDoor
open Go.RowKit Go.ChangeShapes Go.WideShapes Go.Deep

section
variable {H : Type} {enc : TypeId × Value → H} {P : Program} {w : World} {base : Nat} {spare : Nat → Bool} {held : Bool}
theorem open_slice_fields {t e : TypeId} {fs : Array Field} {fuel : Nat} {cs : List Value} {x : DataW H × List MemPlace} (ht : P.underlying t = some (.slice e)) (he : P.underlying e = some (.struct fs))
    (hone : oneCellFields P fs = true) (hC : P.cellsOf e = fs.size) (h : DataW.trod enc P w base spare held fuel t cs = some x) :
    (cs = [.slice none 0 0] ∧ x = (.nil, [])) ∨
    ∃ (a : Addr) (len cap m : Nat) (D : Nat → DataW H) (Pl : Nat → List MemPlace), cs = [.slice (some a) len cap] ∧ base ≤ a.block ∧ len ≤ cap ∧ cap ≤ maxLen ∧ m = (if spare a.block then cap else len) ∧
      x = (.slice ((List.range len).map D) ((List.range (m - len)).map fun j => D (len + j)), MemPlace.row a (m * fs.size) ++ (List.range m).flatMap Pl) ∧
      ∀ i, i < m → ∃ (ys : List (DataW H × List MemPlace)) (n : Nat), D i = .agg (ys.map (·.1)) ∧ Pl i = ys.flatMap (·.2) ∧ ys.length = fs.size ∧
        ∀ (j : Nat) (f : Field), fs[j]? = some f → ∃ (v : Value) (y : DataW H × List MemPlace), w.cell? (a.add (i * fs.size + j)) = some v ∧ ys[j]? = some y ∧ DataW.trod enc P w base spare held n f.type [v] = some y := by
  rcases open_slice ht h with h0 | ⟨a, len, cap, m, n, D, Pl, hcs, hb, hl, hm, hmm, hx, hi⟩
  · exact .inl h0
  · refine .inr ⟨a, len, cap, m, D, Pl, hcs, hb, hl, hm, hmm, by rw [hC] at hx; exact hx, fun i him => ?_⟩
    obtain ⟨cs', hc, ht'⟩ := hi i him
    rw [hC] at hc
    obtain ⟨ys, n', hn', hy, hlen, hyl, hf⟩ := DataW.trod_struct he ht'
    obtain ⟨_, hcl, hat⟩ := World.cells?_some hc
    simp only [Prod.mk.injEq] at hy
    refine ⟨ys, n', hy.1, hy.2, hyl, fun j f hj => ?_⟩
    obtain ⟨ho, hk⟩ := hone_of hone j f hj
    have hjl : j < fs.size := (Array.getElem?_eq_some_iff.1 hj).1
    have hcell := hat j hjl
    have hv : cs'[j]? = some (cs'[j]'(by omega)) := List.getElem?_eq_getElem (by omega)
    have h1 := hf j f hj
    rw [ho, hk] at h1
    have hone' : (cs'.drop j).take 1 = [cs'[j]'(by omega)] := by
      rw [List.drop_eq_getElem_cons (by omega)]
      rfl
    rw [hone'] at h1
    have hys : ys[j]? = some (ys[j]'(by omega)) := List.getElem?_eq_getElem (by omega)
    refine ⟨_, _, ?_, hys, h1.trans hys⟩
    rw [← Go.Deep.add_add, hcell, hv]
end

theorem list_of {α : Type} {Q : Nat → α → Prop} : ∀ n, (∀ i, i < n → ∃ r, Q i r) → ∃ L : List α, L.length = n ∧ ∀ i r, L[i]? = some r → Q i r := by
  intro n
  induction n with
  | zero => intro _; exact ⟨[], rfl, fun i r h => by simp at h⟩
  | succ n ih =>
    intro h
    obtain ⟨L, hl, hL⟩ := ih (fun i hi => h i (by omega))
    obtain ⟨r, hr⟩ := h n (by omega)
    refine ⟨L ++ [r], by simp [hl], fun i q hq => ?_⟩
    by_cases hi : i < n
    · rw [List.getElem?_append_left (by omega)] at hq; exact hL i q hq
    · have := (List.getElem?_eq_some_iff.1 hq).1
      simp at this
      obtain rfl : i = n := by omega
      rw [List.getElem?_append_right (by omega), hl, Nat.sub_self] at hq
      cases hq; exact hr

theorem addr_plain {W : World} {a : Addr} {v : Value} (h : W.cell? (a.add 0) = some v) : a = ⟨a.block, a.off, none⟩ := by
  have : a.add 0 = a := by simp [Addr.add]
  rw [this] at h
  unfold World.cell? at h
  cases hs : a.spot with
  | none => cases a; simp_all
  | some s => rw [hs] at h; split at h <;> simp at h

theorem u8_bd {z : Int} (h : (Lit.int .u8 z).wf = true) : 0 ≤ z ∧ z < 256 := by
  simp [Lit.wf, IntKind.min, IntKind.max, IntKind.bits, IntKind.signed] at h; omega
set_option maxRecDepth 100000 in
theorem ints_of {H : Type} {enc : TypeId × Value → H} {W : World} {base : Nat} {held : Bool} {fuel : Nat} {cs : List Value} {x : DataW H × List MemPlace} (h : DataW.trod enc Tryd.prog W base (fun _ => true) held fuel 83 cs = some x) :
    ∃ a n c z, cs = [.slice a n c] ∧ IsInts .u8 W a n c z := by
  rcases open_ints Tryd.underlying83 Tryd.underlying5 (by kernel_rfl) h with ⟨hcs, _⟩ | ⟨x, l, c, zs, hcs, _, hl, hm, hz, _, hcell, hwz⟩
  · exact ⟨_, _, _, _, hcs, .nil⟩
  · exact ⟨_, _, _, _, hcs, .row hl hm (by simpa using hz) hcell hwz⟩
theorem open_pieces {H : Type} {enc : TypeId × Value → H} {w : World} {base : Nat} {held : Bool} {fuel : Nat} {cs : List Value} {x : DataW H × List MemPlace} (h : DataW.trod enc Tryd.prog w base (fun _ => true) held fuel 43 cs = some x) :
    ∃ a n c ps, cs = [.slice a n c] ∧ PM w a n c ps ∧ ∀ p ∈ ps, p.ok := by
  rcases open_slice_fields Tryd.underlying43 Tryd.underlying85 (by kernel_rfl) (by kernel_rfl) h with ⟨hcs, _⟩ | ⟨a, len, cap, m, D, Pl, hcs, _, hl, hm, hmm, _, hi⟩
  · exact ⟨none, 0, 0, [], hcs, ⟨rfl, Nat.le_refl _, by unfold maxLen; omega, fun hn => absurd hn (by decide)⟩, fun r hr => by cases hr⟩
  · have hlm : len ≤ m := by rw [hmm]; split <;> omega
    obtain ⟨L, hL1, hL2⟩ := list_of (α := Pce) (Q := fun i r => (w.cell? (a.add (i * 5 + 0)) = some (.int .u8 r.kind) ∧ w.cell? (a.add (i * 5 + 1)) = some (.int .u8 r.server) ∧ w.cell? (a.add (i * 5 + 2)) = some (.int .u8 r.need) ∧ w.cell? (a.add (i * 5 + 3)) = some (.bool r.heavy) ∧ ∃ a4 n4 c4, w.cell? (a.add (i * 5 + 4)) = some (.slice a4 n4 c4) ∧ Rd w a4 n4 c4 (r.kids.map (Value.int .u8))) ∧ r.ok) len (fun i hil => by
      obtain ⟨ys, n, _, _, _, hf⟩ := hi i (by omega)
      obtain ⟨v0, y0, c0, _, t0⟩ := hf 0 _ rfl
      obtain ⟨v1, y1, c1, _, t1⟩ := hf 1 _ rfl
      obtain ⟨v2, y2, c2, _, t2⟩ := hf 2 _ rfl
      obtain ⟨v3, y3, c3, _, t3⟩ := hf 3 _ rfl
      obtain ⟨v4, y4, c4, _, t4⟩ := hf 4 _ rfl
      obtain ⟨z0, e0, _, b0⟩ := DataW.trod_int Tryd.underlying5 t0
      obtain ⟨z1, e1, _, b1⟩ := DataW.trod_int Tryd.underlying5 t1
      obtain ⟨z2, e2, _, b2⟩ := DataW.trod_int Tryd.underlying5 t2
      obtain ⟨z3, e3, _⟩ := DataW.trod_bool Tryd.underlying4 t3
      obtain ⟨a4, n4, k4, z4, e4, i4⟩ := ints_of t4
      cases e0; cases e1; cases e2; cases e3; cases e4
      exact ⟨⟨z0, z1, z2, z3, z4⟩, ⟨c0, c1, c2, c3, a4, n4, k4, c4, i4.rd⟩, ⟨u8_bd b0, u8_bd b1, u8_bd b2⟩, fun z hz => u8_bd (i4.wf z hz)⟩)
    refine ⟨some a, len, cap, L, hcs, ⟨hL1, hl, hm, fun hn0 => ?_⟩, fun r hr => ?_⟩
    · obtain ⟨x0, hx0⟩ : ∃ x, L[0]? = some x := ⟨_, List.getElem?_eq_getElem (by omega)⟩
      have h0 := (hL2 0 x0 hx0).1.1
      rw [Nat.zero_mul, Nat.zero_add] at h0
      have ha := addr_plain h0
      refine ⟨a.block, a.off, by rw [← ha], fun i p hp => ?_⟩
      obtain ⟨⟨d0, d1, d2, d3, a4, n4, c4, d4, r4⟩, _⟩ := hL2 i p hp
      rw [ha, Addr.add_lit] at d0 d1 d2 d3 d4
      exact ⟨d0, by rw [Nat.add_assoc]; exact d1, by rw [Nat.add_assoc]; exact d2, by rw [Nat.add_assoc]; exact d3, a4, n4, c4, by rw [Nat.add_assoc]; exact d4, r4⟩
    · obtain ⟨i, hi⟩ := List.mem_iff_getElem?.1 hr
      exact (hL2 i r hi).2
theorem list3 {α : Type} (l : List α) (h : (⟨l⟩ : Array α).size = 3) : ∃ a b c, l = [a, b, c] := by
  match l, h with
  | [a, b, c], _ => exact ⟨a, b, c, rfl⟩
set_option maxRecDepth 100000 in
theorem open_draft {H : Type} {enc : TypeId × Value → H} {w : World} {base : Nat} {held : Bool} {fuel : Nat} {c : Value} {x : DataW H × List MemPlace} (h : DataW.trod enc Tryd.prog w base (fun _ => true) held fuel 45 [c] = some x) :
    ∃ a n cc ps, c = .slice a n cc ∧ PM w a n cc ps ∧ ∀ p ∈ ps, p.ok := by
  obtain ⟨xs, n, _, _, _, _, hfl⟩ := DataW.trod_struct Tryd.underlying45 h
  have k8 : Tryd.prog.cellsOf 43 = 1 := by kernel_rfl
  have h0 : DataW.trod enc Tryd.prog w base (fun _ => true) held n 43 (List.take (Tryd.prog.cellsOf 43) [c]) = xs[0]? := hfl 0 _ rfl
  rw [k8] at h0
  have hxl : xs.length = 1 := by assumption
  rw [List.getElem?_eq_getElem (by omega)] at h0
  obtain ⟨a, n1, cc, ps, e0, i0, i1⟩ := open_pieces h0
  simp at e0
  exact ⟨a, n1, cc, ps, e0, i0, i1⟩
/-- a case among the arguments -/
structure IsCase (W : World) (v : Value) (xs ys : List Pce) (b : Int) : Prop where
  val : ∃ a n c a2 n2 c2, v = .agg #[.slice a n c, .slice a2 n2 c2, .int .u16 b] ∧ PM W a n c xs ∧ PM W a2 n2 c2 ys
  okx : ∀ p ∈ xs, p.ok
  oky : ∀ p ∈ ys, p.ok
  num : (Lit.int .u16 b).wf = true
set_option maxRecDepth 100000 in
theorem open_case {H : Type} {enc : TypeId × Value → H} {W : World} {base b0 : Nat} {held : Bool} {v : Value} {d : DataW H} {p : List MemPlace} {r : Reach}
    (hv : Value.okWide Tryd.prog W r b0 47 v) (h : DataW.Trod enc Tryd.prog W base (fun _ => true) held 47 v d p) : ∃ xs ys b, IsCase W v xs ys b := by
  obtain ⟨cs, rfl, hsz⟩ := okWide_struct Tryd.underlying47 hv
  rw [show Tryd.prog.cellsOf 47 = 3 by kernel_rfl] at hsz
  obtain ⟨l⟩ := cs
  obtain ⟨c0, c1, c2, rfl⟩ := list3 l hsz
  obtain ⟨fuel, hf⟩ := h
  obtain ⟨xs, n, _, _, _, _, hfl⟩ := DataW.trod_struct Tryd.underlying47 hf
  have k8 : Tryd.prog.cellsOf 45 = 1 := by kernel_rfl
  have ku : Tryd.prog.cellsOf 26 = 1 := by kernel_rfl
  have h0 : DataW.trod enc Tryd.prog W base (fun _ => true) held n 45 (List.take (Tryd.prog.cellsOf 45) [c0, c1, c2]) = xs[0]? := hfl 0 _ rfl
  have h1 : DataW.trod enc Tryd.prog W base (fun _ => true) held n 45 (List.take (Tryd.prog.cellsOf 45) [c1, c2]) = xs[1]? := hfl 1 _ rfl
  have h2 : DataW.trod enc Tryd.prog W base (fun _ => true) held n 26 (List.take (Tryd.prog.cellsOf 26) [c2]) = xs[2]? := hfl 2 _ rfl
  rw [k8] at h0 h1
  rw [ku] at h2
  have hxl : xs.length = 3 := by assumption
  rw [List.getElem?_eq_getElem (by omega)] at h0 h1 h2
  obtain ⟨a, n1, cc, z1, e0, i0, o0⟩ := open_draft h0
  obtain ⟨a2, n2, cc2, z2, e1, i1, o1⟩ := open_draft h1
  obtain ⟨s, e2, _, hs⟩ := DataW.trod_int Tryd.underlying26 h2
  simp at e2
  subst e0 e1 e2
  exact ⟨z1, z2, s, ⟨a, n1, cc, a2, n2, cc2, rfl, i0, i1⟩, o0, o1, hs⟩
end Go.Proofs.YtflpkkebampmfaaDoor
namespace Go.Proofs.YtflpkkebampmfaaDoor
open Go.RowKit Go.ChangeShapes Go.WideShapes Go.Deep

theorem rdK_of {α : Type} (k : Nat) (hk0 : 0 < k) (enc : α → List Value) (hk : ∀ x, (enc x).length = k) {W : World} {a : Addr} {len cap : Nat} (hl : len ≤ cap) (hm : cap ≤ maxLen) (L : List α) (hn : L.length = len)
    (h : ∀ i x, L[i]? = some x → ∀ j, j < k → W.cell? (a.add (i * k + j)) = (enc x)[j]?) : RdK k W (some a) len cap (L.flatMap enc) := by
  refine ⟨by rw [flat_len k enc hk, hn], hl, hm, fun h => (by cases h), fun hn0 => ?_⟩
  obtain ⟨x0, hx0⟩ : ∃ x, L[0]? = some x := ⟨_, List.getElem?_eq_getElem (by omega)⟩
  have h0 := h 0 x0 hx0 0 hk0
  rw [Nat.zero_mul, Nat.zero_add, List.getElem?_eq_getElem (by rw [hk]; exact hk0)] at h0
  have ha := addr_plain h0
  refine ⟨a.block, a.off, by rw [← ha], fun i v hv => ?_⟩
  have hi := (List.getElem?_eq_some_iff.1 hv).1
  rw [flat_len k enc hk, hn] at hi
  have hq : i / k < len := Nat.div_lt_of_lt_mul (by rw [Nat.mul_comm]; exact hi)
  obtain ⟨x, hx⟩ : ∃ x, L[i / k]? = some x := ⟨_, List.getElem?_eq_getElem (by omega)⟩
  have hmod := Nat.mod_lt i hk0
  have h1 := h (i / k) x hx (i % k) hmod
  have h2 := flat_at k enc hk L (i / k) (i % k) x hx hmod
  have e : i / k * k + i % k = i := by rw [Nat.mul_comm]; exact Nat.div_add_mod i k
  rw [e] at h1 h2
  rw [hv] at h2
  rw [ha, Addr.add_lit] at h1
  rw [h1, ← h2]

/-- a description among the arguments -/
structure IsDraft (W : World) (v : Value) (xs : List Pce) : Prop where
  val : ∃ a n c, v = .agg #[.slice a n c] ∧ PM W a n c xs
  okx : ∀ p ∈ xs, p.ok
theorem list1 {α : Type} (l : List α) (h : (⟨l⟩ : Array α).size = 1) : ∃ a, l = [a] := by
  match l, h with
  | [a], _ => exact ⟨a, rfl⟩
theorem list2 {α : Type} (l : List α) (h : (⟨l⟩ : Array α).size = 2) : ∃ a b, l = [a, b] := by
  match l, h with
  | [a, b], _ => exact ⟨a, b, rfl⟩
set_option maxRecDepth 100000 in
theorem open_draftv {H : Type} {enc : TypeId × Value → H} {W : World} {base b0 : Nat} {held : Bool} {v : Value} {d : DataW H} {p : List MemPlace} {r : Reach}
    (hv : Value.okWide Tryd.prog W r b0 45 v) (h : DataW.Trod enc Tryd.prog W base (fun _ => true) held 45 v d p) : ∃ xs, IsDraft W v xs := by
  obtain ⟨cs, rfl, hsz⟩ := okWide_struct Tryd.underlying45 hv
  rw [show Tryd.prog.cellsOf 45 = 1 by kernel_rfl] at hsz
  obtain ⟨l⟩ := cs
  obtain ⟨c0, rfl⟩ := list1 l hsz
  obtain ⟨fuel, hf⟩ := h
  obtain ⟨a, n, cc, ps, e0, h1, h2⟩ := open_draft hf
  subst e0
  exact ⟨ps, ⟨a, n, cc, rfl, h1⟩, h2⟩

theorem open_choices {H : Type} {enc : TypeId × Value → H} {w : World} {base : Nat} {held : Bool} {fuel : Nat} {cs : List Value} {x : DataW H × List MemPlace} (h : DataW.trod enc Tryd.prog w base (fun _ => true) held fuel 31 cs = some x) :
    ∃ a n c ns, cs = [.slice a n c] ∧ TM w a n c ns := by
  rcases open_slice_fields Tryd.underlying31 Tryd.underlying39 (by kernel_rfl) (by kernel_rfl) h with ⟨hcs, _⟩ | ⟨a, len, cap, m, D, Pl, hcs, _, hl, hm, hmm, _, hi⟩
  · exact ⟨none, 0, 0, [], hcs, RdK.none_ _ _⟩
  · have hlm : len ≤ m := by rw [hmm]; split <;> omega
    obtain ⟨L, hL1, hL2⟩ := list_of (α := Cho) (Q := fun i r => ∀ j, j < 3 → w.cell? (a.add (i * 3 + j)) = (choC r)[j]?) len (fun i hil => by
      obtain ⟨ys, n, _, _, _, hf⟩ := hi i (by omega)
      obtain ⟨v0, y0, c0, _, t0⟩ := hf 0 _ rfl
      obtain ⟨v1, y1, c1, _, t1⟩ := hf 1 _ rfl
      obtain ⟨v2, y2, c2, _, t2⟩ := hf 2 _ rfl
      obtain ⟨z0, e0, _, _⟩ := DataW.trod_int Tryd.underlying3 t0
      obtain ⟨z1, e1, _, _⟩ := DataW.trod_int Tryd.underlying3 t1
      obtain ⟨z2, e2, _, _⟩ := DataW.trod_int Tryd.underlying3 t2
      cases e0; cases e1; cases e2
      refine ⟨⟨z0, z1, z2⟩, fun j hj => ?_⟩
      match j, hj with
      | 0, _ => exact c0
      | 1, _ => exact c1
      | 2, _ => exact c2)
    exact ⟨some a, len, cap, L, hcs, rdK_of 3 (by decide) choC choC_len hl hm L hL1 (fun i x hx j hj => hL2 i x hx j hj)⟩
/-- a tree among the arguments -/
structure IsTree (W : World) (v : Value) (t : Tre) : Prop where
  val : ∃ a n c, v = .agg #[.slice a n c, .int .i64 t.root] ∧ TM W a n c t.nodes
set_option maxRecDepth 100000 in
theorem open_tree {H : Type} {enc : TypeId × Value → H} {W : World} {base b0 : Nat} {held : Bool} {v : Value} {d : DataW H} {p : List MemPlace} {r : Reach}
    (hv : Value.okWide Tryd.prog W r b0 33 v) (h : DataW.Trod enc Tryd.prog W base (fun _ => true) held 33 v d p) : ∃ t, IsTree W v t := by
  obtain ⟨cs, rfl, hsz⟩ := okWide_struct Tryd.underlying33 hv
  rw [show Tryd.prog.cellsOf 33 = 2 by kernel_rfl] at hsz
  obtain ⟨l⟩ := cs
  obtain ⟨c0, c1, rfl⟩ := list2 l hsz
  obtain ⟨fuel, hf⟩ := h
  obtain ⟨xs, n, _, _, _, _, hfl⟩ := DataW.trod_struct Tryd.underlying33 hf
  have k8 : Tryd.prog.cellsOf 31 = 1 := by kernel_rfl
  have ku : Tryd.prog.cellsOf 3 = 1 := by kernel_rfl
  have h0 : DataW.trod enc Tryd.prog W base (fun _ => true) held n 31 (List.take (Tryd.prog.cellsOf 31) [c0, c1]) = xs[0]? := hfl 0 _ rfl
  have h1 : DataW.trod enc Tryd.prog W base (fun _ => true) held n 3 (List.take (Tryd.prog.cellsOf 3) [c1]) = xs[1]? := hfl 1 _ rfl
  rw [k8] at h0
  rw [ku] at h1
  have hxl : xs.length = 2 := by assumption
  rw [List.getElem?_eq_getElem (by omega)] at h0 h1
  obtain ⟨a, n1, cc, ns, e0, i0⟩ := open_choices h0
  obtain ⟨z, e1, _, _⟩ := DataW.trod_int Tryd.underlying3 h1
  simp at e0 e1
  subst e0 e1
  exact ⟨⟨ns, z⟩, ⟨a, n1, cc, rfl, i0⟩⟩
/-- a choice among the arguments -/
structure IsChoice (W : World) (v : Value) (q : Cho) : Prop where
  val : v = .agg #[.int .i64 q.server, .int .i64 q.first, .int .i64 q.second]
set_option maxRecDepth 100000 in
theorem open_choice {H : Type} {enc : TypeId × Value → H} {W : World} {base b0 : Nat} {held : Bool} {v : Value} {d : DataW H} {p : List MemPlace} {r : Reach}
    (hv : Value.okWide Tryd.prog W r b0 39 v) (h : DataW.Trod enc Tryd.prog W base (fun _ => true) held 39 v d p) : ∃ q, IsChoice W v q := by
  obtain ⟨cs, rfl, hsz⟩ := okWide_struct Tryd.underlying39 hv
  rw [show Tryd.prog.cellsOf 39 = 3 by kernel_rfl] at hsz
  obtain ⟨l⟩ := cs
  obtain ⟨c0, c1, c2, rfl⟩ := list3 l hsz
  obtain ⟨fuel, hf⟩ := h
  obtain ⟨xs, n, _, _, _, _, hfl⟩ := DataW.trod_struct Tryd.underlying39 hf
  have ku : Tryd.prog.cellsOf 3 = 1 := by kernel_rfl
  have h0 : DataW.trod enc Tryd.prog W base (fun _ => true) held n 3 (List.take (Tryd.prog.cellsOf 3) [c0, c1, c2]) = xs[0]? := hfl 0 _ rfl
  have h1 : DataW.trod enc Tryd.prog W base (fun _ => true) held n 3 (List.take (Tryd.prog.cellsOf 3) [c1, c2]) = xs[1]? := hfl 1 _ rfl
  have h2 : DataW.trod enc Tryd.prog W base (fun _ => true) held n 3 (List.take (Tryd.prog.cellsOf 3) [c2]) = xs[2]? := hfl 2 _ rfl
  rw [ku] at h0 h1 h2
  have hxl : xs.length = 3 := by assumption
  rw [List.getElem?_eq_getElem (by omega)] at h0 h1 h2
  obtain ⟨z0, e0, _, _⟩ := DataW.trod_int Tryd.underlying3 h0
  obtain ⟨z1, e1, _, _⟩ := DataW.trod_int Tryd.underlying3 h1
  obtain ⟨z2, e2, _, _⟩ := DataW.trod_int Tryd.underlying3 h2
  simp at e0 e1 e2
  subst e0 e1 e2
  exact ⟨⟨z0, z1, z2⟩, ⟨rfl⟩⟩

theorem ints64_of {H : Type} {enc : TypeId × Value → H} {W : World} {base : Nat} {held : Bool} {fuel : Nat} {cs : List Value} {x : DataW H × List MemPlace} (h : DataW.trod enc Tryd.prog W base (fun _ => true) held fuel 62 cs = some x) :
    ∃ a n c z, cs = [.slice a n c] ∧ IsInts .i64 W a n c z := by
  rcases open_ints Tryd.underlying62 Tryd.underlying3 (by kernel_rfl) h with ⟨hcs, _⟩ | ⟨x, l, c, zs, hcs, _, hl, hm, hz, _, hcell, hwz⟩
  · exact ⟨_, _, _, _, hcs, .nil⟩
  · exact ⟨_, _, _, _, hcs, .row hl hm (by simpa using hz) hcell hwz⟩
theorem open_nodes {H : Type} {enc : TypeId × Value → H} {w : World} {base : Nat} {held : Bool} {fuel : Nat} {cs : List Value} {x : DataW H × List MemPlace} (h : DataW.trod enc Tryd.prog w base (fun _ => true) held fuel 22 cs = some x) :
    ∃ a n c ns, cs = [.slice a n c] ∧ XM w a n c ns := by
  rcases open_slice_fields Tryd.underlying22 Tryd.underlying64 (by kernel_rfl) (by kernel_rfl) h with ⟨hcs, _⟩ | ⟨a, len, cap, m, D, Pl, hcs, _, hl, hm, hmm, _, hi⟩
  · exact ⟨none, 0, 0, [], hcs, XM.none_ _⟩
  · have hlm : len ≤ m := by rw [hmm]; split <;> omega
    obtain ⟨L, hL1, hL2⟩ := list_of (α := Nod) (Q := fun i r => w.cell? (a.add (i * 5 + 0)) = some (.int .i64 r.kind) ∧ w.cell? (a.add (i * 5 + 1)) = some (.int .i64 r.server) ∧ w.cell? (a.add (i * 5 + 2)) = some (.int .i64 r.need) ∧ (∃ a3 n3 c3, w.cell? (a.add (i * 5 + 3)) = some (.slice a3 n3 c3) ∧ Rd w a3 n3 c3 (r.weights.map (Value.int .i64))) ∧ ∃ a4 n4 c4, w.cell? (a.add (i * 5 + 4)) = some (.slice a4 n4 c4) ∧ Rd w a4 n4 c4 (r.kids.map (Value.int .i64))) len (fun i hil => by
      obtain ⟨ys, n, _, _, _, hf⟩ := hi i (by omega)
      obtain ⟨v0, y0, c0, _, t0⟩ := hf 0 _ rfl
      obtain ⟨v1, y1, c1, _, t1⟩ := hf 1 _ rfl
      obtain ⟨v2, y2, c2, _, t2⟩ := hf 2 _ rfl
      obtain ⟨v3, y3, c3, _, t3⟩ := hf 3 _ rfl
      obtain ⟨v4, y4, c4, _, t4⟩ := hf 4 _ rfl
      obtain ⟨z0, e0, _, _⟩ := DataW.trod_int Tryd.underlying3 t0
      obtain ⟨z1, e1, _, _⟩ := DataW.trod_int Tryd.underlying3 t1
      obtain ⟨z2, e2, _, _⟩ := DataW.trod_int Tryd.underlying3 t2
      obtain ⟨a3, n3, k3, z3, e3, i3⟩ := ints64_of t3
      obtain ⟨a4, n4, k4, z4, e4, i4⟩ := ints64_of t4
      cases e0; cases e1; cases e2; cases e3; cases e4
      exact ⟨⟨z0, z1, z2, z3, z4⟩, c0, c1, c2, ⟨a3, n3, k3, c3, i3.rd⟩, a4, n4, k4, c4, i4.rd⟩)
    refine ⟨some a, len, cap, L, hcs, ⟨hL1, hl, hm, fun h => (by cases h), fun hn0 => ?_⟩⟩
    obtain ⟨x0, hx0⟩ : ∃ x, L[0]? = some x := ⟨_, List.getElem?_eq_getElem (by omega)⟩
    have h0 := (hL2 0 x0 hx0).1
    rw [Nat.zero_mul, Nat.zero_add] at h0
    have ha := addr_plain h0
    refine ⟨a.block, a.off, by rw [← ha], fun i p hp => ?_⟩
    obtain ⟨d0, d1, d2, ⟨a3, n3, c3, d3, r3⟩, a4, n4, c4, d4, r4⟩ := hL2 i p hp
    rw [ha, Addr.add_lit] at d0 d1 d2 d3 d4
    exact ⟨d0, by rw [Nat.add_assoc]; exact d1, by rw [Nat.add_assoc]; exact d2, ⟨a3, n3, c3, by rw [Nat.add_assoc]; exact d3, r3⟩, a4, n4, c4, by rw [Nat.add_assoc]; exact d4, r4⟩
/-- an expression among the arguments -/
structure IsXpr (W : World) (v : Value) (x : Xpr) : Prop where
  val : ∃ a n c, v = .agg #[.slice a n c, .int .i64 x.root] ∧ XM W a n c x.nodes
set_option maxRecDepth 100000 in
theorem open_xpr {H : Type} {enc : TypeId × Value → H} {W : World} {base b0 : Nat} {held : Bool} {v : Value} {d : DataW H} {p : List MemPlace} {r : Reach}
    (hv : Value.okWide Tryd.prog W r b0 24 v) (h : DataW.Trod enc Tryd.prog W base (fun _ => true) held 24 v d p) : ∃ x, IsXpr W v x := by
  obtain ⟨cs, rfl, hsz⟩ := okWide_struct Tryd.underlying24 hv
  rw [show Tryd.prog.cellsOf 24 = 2 by kernel_rfl] at hsz
  obtain ⟨l⟩ := cs
  obtain ⟨c0, c1, rfl⟩ := list2 l hsz
  obtain ⟨fuel, hf⟩ := h
  obtain ⟨xs, n, _, _, _, _, hfl⟩ := DataW.trod_struct Tryd.underlying24 hf
  have k8 : Tryd.prog.cellsOf 22 = 1 := by kernel_rfl
  have ku : Tryd.prog.cellsOf 3 = 1 := by kernel_rfl
  have h0 : DataW.trod enc Tryd.prog W base (fun _ => true) held n 22 (List.take (Tryd.prog.cellsOf 22) [c0, c1]) = xs[0]? := hfl 0 _ rfl
  have h1 : DataW.trod enc Tryd.prog W base (fun _ => true) held n 3 (List.take (Tryd.prog.cellsOf 3) [c1]) = xs[1]? := hfl 1 _ rfl
  rw [k8] at h0
  rw [ku] at h1
  have hxl : xs.length = 2 := by assumption
  rw [List.getElem?_eq_getElem (by omega)] at h0 h1
  obtain ⟨a, n1, cc, ns, e0, i0⟩ := open_nodes h0
  obtain ⟨z, e1, _, _⟩ := DataW.trod_int Tryd.underlying3 h1
  simp at e0 e1
  subst e0 e1
  exact ⟨⟨ns, z⟩, ⟨a, n1, cc, rfl, i0⟩⟩
end Go.Proofs.YtflpkkebampmfaaDoor
namespace Go.Proofs.YtflpkkebampmfaaDoor
open Go.RowKit Go.Shelf

theorem txt_le2 (T : CT) (hT : T.low) : 2 * T.txt.length + 5 ≤ 7 * T.sz := by
  induction T with
  | fx => decide
  | fy => decide
  | nd i l r h1 h2 =>
    obtain ⟨hi, hl, hr⟩ := hT
    have := h1 hl
    have := h2 hr
    have h3 := dec_len12 ⟨i, hi⟩
    simp only [CT.txt, CT.sz, List.length_append, List.length_cons, List.length_nil] at h3 ⊢
    omega
theorem fmt_len2 {t : Tre} (h : formC t = true) (hn : t.nodes.length ≤ 200) : (fmtC t).1.length ≤ 1000 := by
  obtain ⟨⟨_, h8, h0, h1⟩, hnd, _⟩ := formC_parts h
  have hlow := ct_low hnd t.nodes.length t.root h0 (by omega) (by omega)
  have hs := form_sz h
  have := txt_le2 _ hlow
  unfold fmtC
  rw [if_pos h]
  show (txtF _ _ _).length ≤ 1000
  rw [txt_ct]
  omega
theorem fmt_two (t : Tre) : (formC t = true ∧ (fmtC t).2 = 0) ∨ fmtC t = ([], 1) := by
  unfold fmtC
  cases h : formC t
  · right; rfl
  · left; exact ⟨rfl, rfl⟩

set_option maxRecDepth 100000 in
set_option maxHeartbeats 4000000 in
theorem text_w (v : Value) (t : Tre) (w : World) (ht : HasTab w) (hr : HasRng w) (hy : HasSyn w) (w0 : IsTree w v t) :
    Calls Tryd.prog 9 #[v] w fun e w' => e = .returned (.bool true) ∧ Below w.heap.size w w' := by
  have HA := Lib.hid (fun u (hb : Below w.heap.size w u) => awake20_c u (ht.below hb) (hr.below hb) (hy.below hb))
  have HE := Lib.hid (fun u (hb : Below w.heap.size w u) => And.intro (hr.below hb) (hy.below hb))
  obtain ⟨a, n, c, rfl, htm⟩ := w0.val
  have HTM := Lib.hid (fun u (hb : Below w.heap.size w u) => RdK.below htm hb)
  have hnl := TM.len htm
  clear ht hr hy htm w0
  obtain ⟨W2, hW2⟩ : ∃ W2, W2 = w.alloc (.cells #[.slice a n c, .int .i64 t.root] 33) := ⟨_, rfl⟩
  have hb2 : Below w.heap.size w W2 := by rw [hW2]; exact (Below.refl _ w).alloc (Nat.le_refl _) _
  have g2 : W2.heap[w.heap.size]? = some (.cells #[.slice a n c, .int .i64 t.root] 33 (0, 0)) := by rw [hW2]; exact heap_alloc_new _ _
  have HB2 := Lib.hid hb2
  have HK := Lib.hid (fun (u : World) (hu : Below W2.heap.size W2 u) => (open2 (heap_below hu g2)).1)
  clear hb2 g2
  by_cases h1 : (200 : Int) < (n : Int)
  · have d1 : decide ((200 : Int) < (n : Int)) = true := decide_eq_true h1
    clear h1
    go_enter Tryd.func9, Tryd.ntmps9
    go_wp2_with fail
    rw [← hW2]
    with_reducible refine (HA.out W2 HB2.out).mono ?_
    rintro e w1 ⟨rfl, b1⟩
    obtain ⟨k0, k1⟩ := HK.out w1 b1
    have HB1 := Lib.hid (Below.next HB2.out b1)
    clear b1
    go_wp2_with fail
    with_reducible refine (HA.out w1 HB1.out).mono ?_
    rintro e w2 ⟨rfl, b2⟩
    have HB3 := Lib.hid (Below.next HB1.out b2)
    clear b2
    go_wp2_with fail
    go_ret
    exact ⟨rfl, HB3.out⟩
  have d1 : decide ((200 : Int) < (n : Int)) = false := decide_eq_false h1
  have HF := Lib.hid (fun u (hb : Below w.heap.size w u) => fmt_c t a n c u (HTM.out u hb))
  have HR := Lib.hid (fun u (hb : Below w.heap.size w u) => rfmt_c t a n c u (HTM.out u hb))
  have h2 := fmt_two t
  rcases h2 with ⟨hform, hf2⟩ | hbad
  · have hlen := fmt_len2 hform (by omega)
    obtain ⟨u0, hpar, hfu, hul⟩ := text_back hform
    obtain ⟨S, hS⟩ : ∃ S, (fmtC t).1 = S := ⟨_, rfl⟩
    rw [hS] at hlen hpar hfu HF HR
    rw [hf2] at HF HR
    have HP := Lib.hid (fun u (hb : Below w.heap.size w u) => parse_c S hlen u (HE.out u hb).1 (HE.out u hb).2)
    rw [hpar] at HP
    unfold treV at HP
    simp only at HP
    rw [hul, hnl] at HP
    have HU : Hid (∀ a' c' u, TM u a' n c' u0.nodes → Calls Tryd.prog 29 #[.agg #[.slice a' n c', .int .i64 u0.root]] u fun e w' => e = .returned (.tuple #[.string (mkB S), .int .i64 0]) ∧ Below u.heap.size u w') := Lib.hid (fun a' c' u h => by
      have := fmt_c u0 a' n c' u h
      rw [hfu] at this
      exact this)
    obtain ⟨sb, hsb⟩ : ∃ sb, mkB S = sb := ⟨_, rfl⟩
    rw [hsb] at HF HR HP HU
    have he : (sb.toList == sb.toList) = true := by simp
    have hne : (sb.toList != sb.toList) = false := by simp
    clear hform hf2 hlen hpar hfu hul hS hsb hnl h1
    go_enter Tryd.func9, Tryd.ntmps9
    go_wp2_with fail
    rw [← hW2]
    with_reducible refine (HA.out W2 HB2.out).mono ?_
    rintro e w1 ⟨rfl, b1⟩
    obtain ⟨k0, k1⟩ := HK.out w1 b1
    have HK1 := Lib.hid b1
    have HB1 := Lib.hid (Below.next HB2.out b1)
    clear b1
    go_wp2_with fail
    with_reducible refine (HF.out w1 HB1.out).mono ?_
    rintro e w3 ⟨rfl, b3⟩
    have HK3 := Lib.hid (Below.next HK1.out b3)
    have HB3 := Lib.hid (Below.next HB1.out b3)
    obtain ⟨k0, k1⟩ := HK.out w3 HK3.out
    clear b3
    go_wp2_with fail
    with_reducible refine (HR.out w3 HB3.out).mono ?_
    rintro e w4 ⟨rfl, b4⟩
    have HK4 := Lib.hid (Below.next HK3.out b4)
    have HB4 := Lib.hid (Below.next HB3.out b4)
    clear b4 k0 k1
    go_wp2_with fail
    with_reducible refine (HP.out w4 HB4.out).mono ?_
    rintro e w5 ⟨a5, c5, rfl, t5, b5⟩
    obtain ⟨W6, hW6⟩ : ∃ W6, W6 = w5.alloc (.cells #[.slice a5 n c5, .int .i64 u0.root] 33) := ⟨_, rfl⟩
    have b6 : Below w5.heap.size w5 W6 := by rw [hW6]; exact (Below.refl _ _).alloc (Nat.le_refl _) _
    have g6 : W6.heap[w5.heap.size]? = some (.cells #[.slice a5 n c5, .int .i64 u0.root] 33 (0, 0)) := by rw [hW6]; exact heap_alloc_new _ _
    have HK6 := Lib.hid (Below.next HK4.out (Below.next b5 b6))
    have HB6 := Lib.hid (Below.next HB4.out (Below.next b5 b6))
    have HW := Lib.hid (HU.out a5 c5 W6 (RdK.below t5 b6))
    obtain ⟨⟨z0, z1⟩, _⟩ := open2 g6
    have HG6 := Lib.hid g6
    rw [hW6] at z0 z1
    clear b5 b6 t5 g6
    go_wp2_with fail
    rw [← hW6]
    with_reducible refine HW.out.mono ?_
    rintro e w7 ⟨rfl, b7⟩
    obtain ⟨k0, k1⟩ := HK.out w7 (Below.next HK6.out b7)
    obtain ⟨⟨z0, z1⟩, _⟩ := open2 (heap_below b7 HG6.out)
    have HB7 := Lib.hid (Below.next HB6.out b7)
    clear b7 hW6
    go_wp2_with fail
    go_ret
    exact ⟨rfl, HB7.out⟩
  · rw [hbad] at HF HR
    simp only at HF HR
    rw [show mkB [] = ⟨#[]⟩ from rfl] at HF HR
    clear hbad hnl h1
    go_enter Tryd.func9, Tryd.ntmps9
    go_wp2_with fail
    rw [← hW2]
    with_reducible refine (HA.out W2 HB2.out).mono ?_
    rintro e w1 ⟨rfl, b1⟩
    obtain ⟨k0, k1⟩ := HK.out w1 b1
    have HK1 := Lib.hid b1
    have HB1 := Lib.hid (Below.next HB2.out b1)
    clear b1
    go_wp2_with fail
    with_reducible refine (HF.out w1 HB1.out).mono ?_
    rintro e w3 ⟨rfl, b3⟩
    have HK3 := Lib.hid (Below.next HK1.out b3)
    have HB3 := Lib.hid (Below.next HB1.out b3)
    obtain ⟨k0, k1⟩ := HK.out w3 HK3.out
    clear b3
    go_wp2_with fail
    with_reducible refine (HR.out w3 HB3.out).mono ?_
    rintro e w4 ⟨rfl, b4⟩
    have HB4 := Lib.hid (Below.next HB3.out b4)
    clear b4 k0 k1
    go_wp2_with fail
    go_ret
    exact ⟨rfl, HB4.out⟩
end Go.Proofs.YtflpkkebampmfaaDoor
