/- Texts laid together. Bit vectors for Go's unsigned integers: the walk's terms on sets (uint16) and masks (uint32) in BitVec's words. 'U x', 'V x' are the numbers of a set and of a mask (plain definitions, so that the walk's simp does not open them). Plain lemmas, no program. Reading slices of one-cell elements; worlds that only grow. Plain lemmas over the model, no program. Reading slices of elements of k cells. Plain lemmas over the model, no program. Package set: add, Of. Plain arithmetic of sets: the least bit, counting bits. No program. Has and Members of the reference. Comparing, renaming; the reference's Of, Within. The next greater number with as many bits (Gosper). Plain arithmetic, no program. -/
import Derived.Test.YtmjgdnpfgkpaoaaDoorProg
import Derived.WalkKit
import Derived.WalkLawsBesides
import Derived.Lib.Hide
import Derived.WalkSpells
import Derived.Laws.AppendOwnNone
import Derived.Deep.DeepFit
import Derived.Deep.LoopGhost
import Derived.Deep.QuietTactic
import Derived.BigQuiet
import Derived.Maps.AppendAt
import Derived.Lib.BitFns
namespace Go.Proofs.YtmjgdnpfgkpaoaaDoor
open Go.RowKit

def U (x : BitVec 16) : Int := (x.toNat : Int)
def V (x : BitVec 32) : Int := (x.toNat : Int)
/-- is n a member? -/
def hasB (x : BitVec 16) (n : Nat) : Bool := x.getLsbD n
def bitS (n : Nat) : BitVec 16 := 1#16 <<< n
def shrS (x : BitVec 16) (n : Nat) : BitVec 16 := x >>> n
def hasV (x : BitVec 32) (n : Nat) : Bool := x.getLsbD n
def bitV (n : Nat) : BitVec 32 := 1#32 <<< n
def shrV (x : BitVec 32) (n : Nat) : BitVec 32 := x >>> n
/-- 0 or 1 -/
def b01 (b : Bool) : Int := if b then 1 else 0

theorem U_bd (x : BitVec 16) : 0 ≤ U x ∧ U x < 65536 := by have := x.isLt; unfold U; omega
theorem V_bd (x : BitVec 32) : 0 ≤ V x ∧ V x < 4294967296 := by have := x.isLt; unfold V; omega
theorem U_inj {x y : BitVec 16} (h : U x = U y) : x = y := by
  apply BitVec.eq_of_toNat_eq; unfold U at h; omega
theorem V_inj {x y : BitVec 32} (h : V x = V y) : x = y := by
  apply BitVec.eq_of_toNat_eq; unfold V at h; omega
theorem U_wf (x : BitVec 16) : (Lit.int .u16 (U x)).wf = true := by
  have := U_bd x; simp [Lit.wf, IntKind.min, IntKind.max, IntKind.bits, IntKind.signed]; omega
theorem U_of {n : Int} (h : 0 ≤ n ∧ n < 65536) : ∃ x : BitVec 16, n = U x := by
  refine ⟨BitVec.ofNat 16 n.toNat, ?_⟩; simp [U]; omega
theorem U_wrap (x : BitVec 16) : IntKind.u16.wrap (U x) = U x := by
  have := U_bd x; rw [IntKind.wrap_u16]; omega
theorem V_wrap (x : BitVec 32) : IntKind.u32.wrap (V x) = V x := by
  have := V_bd x; rw [IntKind.wrap_u32']; omega
theorem U_ofInt (x : BitVec 16) : BitVec.ofInt 16 (U x) = x := by simp [U]
theorem V_ofInt (x : BitVec 32) : BitVec.ofInt 32 (V x) = x := by simp [V]

@[go_sem] theorem bv16_and (x y : BitVec 16) : bits .and .u16 (U x) (U y) = U (x &&& y) := by
  show IntKind.u16.wrap (U (BitVec.ofInt 16 (U x) &&& BitVec.ofInt 16 (U y))) = _
  rw [U_ofInt, U_ofInt, U_wrap]
@[go_sem] theorem bv16_or (x y : BitVec 16) : bits .or .u16 (U x) (U y) = U (x ||| y) := by
  show IntKind.u16.wrap (U (BitVec.ofInt 16 (U x) ||| BitVec.ofInt 16 (U y))) = _
  rw [U_ofInt, U_ofInt, U_wrap]
@[go_sem] theorem bv16_xor (x y : BitVec 16) : bits .xor .u16 (U x) (U y) = U (x ^^^ y) := by
  show IntKind.u16.wrap (U (BitVec.ofInt 16 (U x) ^^^ BitVec.ofInt 16 (U y))) = _
  rw [U_ofInt, U_ofInt, U_wrap]
@[go_sem] theorem bv16_andNot (x y : BitVec 16) : bits .andNot .u16 (U x) (U y) = U (x &&& ~~~y) := by
  show IntKind.u16.wrap (U (BitVec.ofInt 16 (U x) &&& ~~~BitVec.ofInt 16 (U y))) = _
  rw [U_ofInt, U_ofInt, U_wrap]
@[simp] theorem U_zero : U 0#16 = 0 := rfl
@[simp] theorem V_zero : V 0#32 = 0 := rfl
@[go_sem] theorem bv16_or0 (y : BitVec 16) : bits .or .u16 0 (U y) = U y := by
  rw [← U_zero, bv16_or, BitVec.zero_or]
@[go_sem] theorem bv16_andNot_l (n : Nat) (h : n < 65536) (y : BitVec 16) : bits .andNot .u16 (n : Int) (U y) = U (BitVec.ofNat 16 n &&& ~~~y) := by
  have e : (n : Int) = U (BitVec.ofNat 16 n) := by simp [U]; omega
  rw [e, bv16_andNot]
@[go_sem] theorem bv16_shr (x : BitVec 16) (n : Nat) : (U x) / 2 ^ n = U (shrS x n) := by
  unfold U shrS; rw [BitVec.toNat_ushiftRight, Nat.shiftRight_eq_div_pow]; simp
@[go_sem] theorem bv32_shr (x : BitVec 32) (n : Nat) : (V x) / 2 ^ n = V (shrV x n) := by
  unfold V shrV; rw [BitVec.toNat_ushiftRight, Nat.shiftRight_eq_div_pow]; simp
@[go_sem] theorem bv16_bit (x : BitVec 16) (n : Nat) : bits .and .u16 (U (shrS x n)) 1 = b01 (hasB x n) := by
  rw [show (1 : Int) = U 1#16 from rfl, bv16_and]
  unfold U shrS hasB b01
  have h1 : ((x >>> n) &&& 1#16).toNat = (x.toNat >>> n) % 2 := by
    rw [BitVec.toNat_and, BitVec.toNat_ushiftRight]; exact Nat.and_one_is_mod _
  have h2 : x.getLsbD n = decide ((x.toNat >>> n) % 2 = 1) := by
    show x.toNat.testBit n = _
    rw [Nat.testBit_eq_decide_div_mod_eq, Nat.shiftRight_eq_div_pow]
  rw [h1, h2]
  have h3 : (x.toNat >>> n) % 2 = 0 ∨ (x.toNat >>> n) % 2 = 1 := by omega
  rcases h3 with h3 | h3 <;> rw [h3] <;> rfl
@[go_sem] theorem bv32_and (x y : BitVec 32) : bits .and .u32 (V x) (V y) = V (x &&& y) := by
  show IntKind.u32.wrap (V (BitVec.ofInt 32 (V x) &&& BitVec.ofInt 32 (V y))) = _
  rw [V_ofInt, V_ofInt, V_wrap]
@[go_sem] theorem bv32_or (x y : BitVec 32) : bits .or .u32 (V x) (V y) = V (x ||| y) := by
  show IntKind.u32.wrap (V (BitVec.ofInt 32 (V x) ||| BitVec.ofInt 32 (V y))) = _
  rw [V_ofInt, V_ofInt, V_wrap]
@[go_sem] theorem bv32_xor (x y : BitVec 32) : bits .xor .u32 (V x) (V y) = V (x ^^^ y) := by
  show IntKind.u32.wrap (V (BitVec.ofInt 32 (V x) ^^^ BitVec.ofInt 32 (V y))) = _
  rw [V_ofInt, V_ofInt, V_wrap]
@[go_sem] theorem bv32_bit (x : BitVec 32) (n : Nat) : bits .and .u32 (V (shrV x n)) 1 = b01 (hasV x n) := by
  rw [show (1 : Int) = V 1#32 from rfl, bv32_and]
  unfold V shrV hasV b01
  have h1 : ((x >>> n) &&& 1#32).toNat = (x.toNat >>> n) % 2 := by
    rw [BitVec.toNat_and, BitVec.toNat_ushiftRight]; exact Nat.and_one_is_mod _
  have h2 : x.getLsbD n = decide ((x.toNat >>> n) % 2 = 1) := by
    show x.toNat.testBit n = _
    rw [Nat.testBit_eq_decide_div_mod_eq, Nat.shiftRight_eq_div_pow]
  rw [h1, h2]
  have h3 : (x.toNat >>> n) % 2 = 0 ∨ (x.toNat >>> n) % 2 = 1 := by omega
  rcases h3 with h3 | h3 <;> rw [h3] <;> rfl
@[go_sem] theorem b01_beq (b : Bool) : (b01 b == 1) = b := by cases b <;> rfl
@[go_sem] theorem b01_beq0 (b : Bool) : (b01 b == 0) = !b := by cases b <;> rfl
@[go_sem] theorem bv16_shl1 (n : Nat) : IntKind.u16.wrap (2 ^ n) = U (bitS n) := by
  rw [IntKind.wrap_u16]; unfold U bitS; rw [BitVec.toNat_shiftLeft]; simp [Nat.shiftLeft_eq]
@[go_sem] theorem bv32_shl1 (n : Nat) : IntKind.u32.wrap (2 ^ n) = V (bitV n) := by
  rw [IntKind.wrap_u32']; unfold V bitV; rw [BitVec.toNat_shiftLeft]; simp [Nat.shiftLeft_eq]
@[go_sem] theorem bv16_sub1 (x : BitVec 16) : IntKind.u16.wrap (U x - 1) = U (x - 1#16) := by
  rw [IntKind.wrap_u16]; unfold U; rw [BitVec.toNat_sub]; have := x.isLt; simp; omega
@[go_sem] theorem bv32_sub1 (x : BitVec 32) : IntKind.u32.wrap (V x - 1) = V (x - 1#32) := by
  rw [IntKind.wrap_u32']; unfold V; rw [BitVec.toNat_sub]; have := x.isLt; simp; omega
@[go_sem] theorem bv32_add (x y : BitVec 32) : IntKind.u32.wrap (V x + V y) = V (x + y) := by
  rw [IntKind.wrap_u32']; unfold V; rw [BitVec.toNat_add]; omega
@[go_sem] theorem bv32_neg (x : BitVec 32) : IntKind.u32.wrap (-V x) = V (-x) := by
  rw [IntKind.wrap_u32']; unfold V; rw [BitVec.toNat_neg]; have := x.isLt; omega
@[go_sem] theorem bv16_beq (x y : BitVec 16) : (U x == U y) = (x == y) := by
  rw [Bool.eq_iff_iff]; simp only [beq_iff_eq]; exact ⟨U_inj, fun h => by rw [h]⟩
@[go_sem] theorem bv16_bne (x y : BitVec 16) : (U x != U y) = (x != y) := by
  rw [bne, bv16_beq]; rfl
@[go_sem] theorem bv16_bne0 (x : BitVec 16) : (U x != 0) = (x != 0#16) := by rw [← U_zero, bv16_bne]
@[go_sem] theorem bv16_beq0 (x : BitVec 16) : (U x == 0) = (x == 0#16) := by rw [← U_zero, bv16_beq]
@[go_sem] theorem bv32_beq (x y : BitVec 32) : (V x == V y) = (x == y) := by
  rw [Bool.eq_iff_iff]; simp only [beq_iff_eq]; exact ⟨V_inj, fun h => by rw [h]⟩
@[go_sem] theorem bv32_beq0 (x : BitVec 32) : (V x == 0) = (x == 0#32) := by rw [← V_zero, bv32_beq]
end Go.Proofs.YtmjgdnpfgkpaoaaDoor
namespace Go.Proofs.YtmjgdnpfgkpaoaaDoor
open Go.RowKit

/-- The slice value '.slice a n c' reads, in w, as the list l of one-cell values. -/
structure Rd (w : World) (a : Option Addr) (n c : Nat) (l : List Value) : Prop where
  len : n = l.length
  le : n ≤ c
  max : c ≤ maxLen
  nil : a = none → c = 0
  at' : 0 < n → ∃ b o, a = some ⟨b, o, none⟩ ∧ ∀ i v, l[i]? = some v → w.cell? ⟨b, o + i, none⟩ = some v

theorem Rd.none_ (w : World) : Rd w none 0 0 [] := ⟨rfl, Nat.le_refl _, by simp [maxLen], fun _ => rfl, fun h => absurd h (by decide)⟩

theorem cell_lt {w : World} {b o : Nat} {v : Value} (h : w.cell? ⟨b, o, none⟩ = some v) : b < w.heap.size := World.block_lt_of_cell? w ⟨b, o, none⟩ h

theorem Rd.below {w w' : World} {a : Option Addr} {n c : Nat} {l : List Value} (h : Rd w a n c l) (hb : Below w.heap.size w w') : Rd w' a n c l := by
  refine ⟨h.len, h.le, h.max, h.nil, fun hn => ?_⟩
  obtain ⟨b, o, ha, hc⟩ := h.at' hn
  refine ⟨b, o, ha, fun i v hv => ?_⟩
  have := hc i v hv
  exact (hb.cell (p := ⟨b, o + i, none⟩) (cell_lt this)).trans this

theorem bcell {W w1 : World} (hb : Below W.heap.size W w1) : (∀ b o, b < W.heap.size → w1.cell? ⟨b, o, none⟩ = W.cell? ⟨b, o, none⟩) ∧ (∀ b o, b < W.heap.size → w1.frozen? ⟨b, o, none⟩ = W.frozen? ⟨b, o, none⟩) :=
  ⟨fun b o h => hb.cell (p := ⟨b, o, none⟩) h, fun b o h => hb.frozen (p := ⟨b, o, none⟩) h⟩

/-- What a call owns and hands back: a slice value that lies at the head of a row of its own (or nil). -/
def Own (w w' : World) (e : TypeId) (v : Value) (l : List Value) : Prop := w'.ownsRow w.heap.size e 1 v l.length l

theorem Own.rd {w w' : World} {e : TypeId} {v : Value} {l : List Value} (h : Own w w' e v l) : ∃ a c, v = .slice a l.length c ∧ Rd w' a l.length c l := by
  obtain ⟨h1, h2⟩ := h
  rcases h2 with ⟨rfl, hn⟩ | ⟨g, cap, cur, rfl, hb, hg, hle, hm, hs, ht⟩
  · obtain rfl := List.eq_nil_of_length_eq_zero hn
    exact ⟨none, 0, rfl, Rd.none_ _⟩
  · refine ⟨some ⟨g, 0, none⟩, cap, rfl, rfl, hle, hm, fun h => (by cases h), fun _ => ⟨g, 0, rfl, fun i v hv => ?_⟩⟩
    have := World.ownsRow.cells (w := w') (base := w.heap.size) (e := e) (size := 1) (v := .slice (some ⟨g, 0, none⟩) l.length cap) (n := l.length) (xs := l) ⟨h1, .inr ⟨g, cap, cur, rfl, hb, hg, hle, hm, hs, ht⟩⟩ (g := g) rfl i v hv
    rw [Addr.add_lit] at this; simpa using this

theorem Own.rdn {w w' : World} {e : TypeId} {v : Value} {l : List Value} (h : Own w w' e v l) (n : Nat) (hn : l.length = n) : ∃ a c, v = .slice a n c ∧ Rd w' a n c l := by
  subst hn; exact h.rd
/-- a row of the call's own, read -/
theorem rd_of_row {w : World} {B n : Nat} {e : TypeId} {v : Value} {l : List Value} (h : w.ownsRow B e 1 v n l) : ∃ a c, v = .slice a n c ∧ Rd w a n c l := by
  have hn : n = l.length := by simpa using h.1.symm
  obtain ⟨h1, h2⟩ := h
  rcases h2 with ⟨rfl, h0⟩ | ⟨g, cap, cur, rfl, hb, hg, hle, hm, hs, ht⟩
  · subst h0
    obtain rfl := List.eq_nil_of_length_eq_zero hn.symm
    exact ⟨none, 0, rfl, Rd.none_ _⟩
  · refine ⟨some ⟨g, 0, none⟩, cap, rfl, hn, hle, hm, fun h => (by cases h), fun _ => ⟨g, 0, rfl, fun i v hv => ?_⟩⟩
    have := World.ownsRow.cells (w := w) (base := B) (e := e) (size := 1) (v := .slice (some ⟨g, 0, none⟩) n cap) (n := n) (xs := l) ⟨h1, .inr ⟨g, cap, cur, rfl, hb, hg, hle, hm, hs, ht⟩⟩ (g := g) rfl i v hv
    rw [Addr.add_lit] at this; simpa using this
theorem row_below {w w' : World} {B n : Nat} {e : TypeId} {v : Value} {l : List Value} (h : w.ownsRow B e 1 v n l) (hb : Below w.heap.size w w') : w'.ownsRow B e 1 v n l := by
  obtain ⟨h1, h2⟩ := h
  refine ⟨h1, ?_⟩
  rcases h2 with h2 | ⟨g, cap, cur, hv, hb', hg, r⟩
  · exact .inl h2
  · exact .inr ⟨g, cap, cur, hv, hb', by rw [hb.block g (Array.getElem?_eq_some_iff.1 hg).1]; exact hg, r⟩

theorem Own.below {w w1 w2 : World} {e : TypeId} {v : Value} {l : List Value} (h : Own w w1 e v l) (hb : Below w1.heap.size w1 w2) : Own w w2 e v l := by
  obtain ⟨h1, h2⟩ := h
  refine ⟨h1, ?_⟩
  rcases h2 with h2 | ⟨g, cap, cur, hv, hb', hg, r⟩
  · exact .inl h2
  · exact .inr ⟨g, cap, cur, hv, hb', by rw [hb.block g (Array.getElem?_eq_some_iff.1 hg).1]; exact hg, r⟩

theorem Own.mono {w0 w w1 : World} {e : TypeId} {v : Value} {l : List Value} (h : Own w w1 e v l) (hs : w0.heap.size ≤ w.heap.size) : Own w0 w1 e v l := by
  obtain ⟨h1, h2⟩ := h
  refine ⟨h1, ?_⟩
  rcases h2 with h2 | ⟨g, cap, cur, hv, hb', r⟩
  · exact .inl h2
  · exact .inr ⟨g, cap, cur, hv, Nat.le_trans hs hb', r⟩

theorem cell_new (w : World) (cs : Array Value) (e : TypeId) (i : Nat) (v : Value) (h : cs[i]? = some v) : (w.alloc (.cells cs e)).cell? ⟨w.heap.size, i, none⟩ = some v := by
  rw [cell_of_row _ w.heap.size i cs e (0, 0) (heap_alloc_new w _)]; exact h

/-- a slice literal -/
theorem Rd.lit (w : World) (cs : Array Value) (e : TypeId) (n : Nat) (l : List Value) (hl : cs.toList = l) (hn : n = l.length) (hm : n ≤ 1000000) : Rd (w.alloc (.cells cs e)) (some ⟨w.heap.size, 0, none⟩) n n l := by
  subst hl
  refine ⟨hn, Nat.le_refl _, by unfold maxLen; omega, fun h => (by cases h), fun _ => ⟨_, _, rfl, fun i v hv => ?_⟩⟩
  rw [Nat.zero_add]
  exact cell_new w cs e i v (by simpa using hv)

theorem Rd.lit' (w : World) (cs : Array Value) (e : TypeId) (n : Nat) (l : List Value) (hl : cs.toList = l) (hn : n = l.length) (hm : n ≤ 1000000) {b : Nat} (hb : b = w.heap.size) : Rd (w.alloc (.cells cs e)) (some ⟨b, 0, none⟩) n n l := by
  subst hb; exact Rd.lit w cs e n l hl hn hm
theorem cell_new' (w : World) (cs : Array Value) (e : TypeId) (i : Nat) (v : Value) (h : cs[i]? = some v) {b : Nat} (hb : b = w.heap.size) : (w.alloc (.cells cs e)).cell? ⟨b, i, none⟩ = some v := by
  subst hb; exact cell_new w cs e i v h

theorem below_drewN {B : Nat} {a w : World} {q : Nat} (h : Below B a w) : Below B a (w.drewN q) := ⟨h.os, h.tape, h.output, h.size, h.block⟩
theorem Below.next {w w1 w2 : World} (h : Below w.heap.size w w1) (k : Below w1.heap.size w1 w2) : Below w.heap.size w w2 := h.trans (k.mono h.size)

/-- 'out = append(out, x)' on a slice of the call's own, one cell: the element stands in the last block. -/
theorem wpList_app {P : Program} {ops : Array Oper} {rest : List Oper} {o : Oper} {a : Act} {Q : Exit → Act → World → Prop} {B : Nat} {w0 wr : World} {e : TypeId} {v : Value} {l : List Value} {n : Nat}
    (s xo : Operand) (t : TypeId) (bytes : Nat) (z x : Value) (ty : TypeId)
    (ht : P.underlying t = some (.slice e)) (hi : (P.info? e).map (fun i => (i.zero, i.size, i.bytes)) = some (some z, 1, bytes)) (hz : z.cells.size = 1)
    (hown : wr.ownsRow B e 1 v n l) (hb : Below B w0 wr) (hB : B ≤ w0.heap.size)
    (hg : o.guard = none) (hop : o.op = Op.call { callee := Callee.builtin Builtin.append, args := #[s, xo], argTypes := #[t, t] })
    (hs : a.eval s = v) (hx : a.eval xo = .slice (some ⟨wr.heap.size, 0, none⟩) 1 1) (h1 : x.oneCell' = true)
    (hlen : n + 1 ≤ maxLen) (hby : (n + 1) * bytes ≤ 140737488355328)
    (hK : ∀ v' w1, w1.ownsRow B e 1 v' (n + 1) (l ++ [x]) → Below B w0 w1 → wr.grownBy w1 v.ownBlock → wr.heap.size < w1.heap.size → wpList P ops Q rest (a.put o.dst v') w1) :
    wpList P ops Q (o :: rest) a (wr.alloc (.cells #[x] ty)) := by
  obtain ⟨i, hi1, hi2, hi3, hi4⟩ := info_parts hi
  have hsz := hb.size
  refine wpList_append_own _ hg s xo t hop B e i z 1 bytes ht hi1 hi2 hi3 hi4 hz (by decide) v n l hs (hown.alloc _) ⟨wr.heap.size, 0, none⟩ 1 1 [x] hx rfl ?_ ?_ hlen hby (by simp; omega) ?_
  · intro j u hj
    match j, hj with
    | 0, hj => simp at hj; subst hj; rw [Addr.add_lit]; rw [cell_of_row _ wr.heap.size (0 + 0) #[x] ty (0, 0) (heap_alloc_new wr _)]; rfl
  · intro u hu; simp at hu; subst hu; exact h1
  · intro v' w1 h2 h3 _
    have h4 := h3.size
    simp only [World.size_alloc] at h4
    refine hK v' w1 h2 ((hb.alloc (by omega) _).grown h3 (by simp; omega) fun k hk => (hown.lt k hk).1) ?_ (by omega)
    exact ⟨h3.os, h3.tape, h3.output, by omega, fun k hk hne => (h3.block k (by simp; omega) hne).trans (Below.heap_alloc wr _ k hk)⟩

/-- 'out = append(out, xs...)' on a slice of the call's own, elements of one cell. -/
theorem wpList_apps {P : Program} {ops : Array Oper} {rest : List Oper} {o : Oper} {a : Act} {Q : Exit → Act → World → Prop} {B : Nat} {w0 wr : World} {e : TypeId} {v : Value} {l : List Value} {n : Nat}
    (s xo : Operand) (t : TypeId) (bytes : Nat) (z : Value) (ao : Option Addr) (m c : Nat) (news : List Value)
    (ht : P.underlying t = some (.slice e)) (hi : (P.info? e).map (fun i => (i.zero, i.size, i.bytes)) = some (some z, 1, bytes)) (hz : z.cells.size = 1)
    (hown : wr.ownsRow B e 1 v n l) (hb : Below B w0 wr) (hB : B ≤ w0.heap.size) (hr : Rd wr ao m c news) (h1 : ∀ u ∈ news, u.oneCell' = true)
    (hg : o.guard = none) (hop : o.op = Op.call { callee := Callee.builtin Builtin.append, args := #[s, xo], argTypes := #[t, t] })
    (hs : a.eval s = v) (hx : a.eval xo = .slice ao m c)
    (hlen : n + m ≤ maxLen) (hby : (n + m) * bytes ≤ 140737488355328)
    (hK : ∀ v' w1, w1.ownsRow B e 1 v' (n + m) (l ++ news) → Below B w0 w1 → wr.grownBy w1 v.ownBlock → wpList P ops Q rest (a.put o.dst v') w1) :
    wpList P ops Q (o :: rest) a wr := by
  obtain ⟨i, hi1, hi2, hi3, hi4⟩ := info_parts hi
  have hsz := hb.size
  cases ao with
  | none =>
    have hc := hr.nil rfl
    have hm : m = 0 := by have := hr.le; omega
    subst hc hm
    have hnil : news = [] := List.eq_nil_of_length_eq_zero hr.len.symm
    subst hnil
    exact wpList_append_own_none hg s xo t hop B e i 1 ht hi1 v n l hs hown hx (hK v wr (by simpa using hown) hb (World.grownBy.refl _ _))
  | some ad =>
    refine wpList_append_own _ hg s xo t hop B e i z 1 bytes ht hi1 hi2 hi3 hi4 hz (by decide) v n l hs hown ad m c news hx (by simpa using hr.len.symm) ?_ h1 hlen hby (by omega) ?_
    · intro j u hj
      have hj' := (List.getElem?_eq_some_iff.1 hj).1
      obtain ⟨b, of, ha, hcell⟩ := hr.at' (by have := hr.len; omega)
      cases ha
      rw [Addr.add_lit]
      exact hcell j u hj
    · intro v' w1 h2 h3 _
      exact hK v' w1 h2 (hb.grown h3 (by omega) fun k hk => (hown.lt k hk).1) h3

theorem ret_tup {a b c d : Value} (h1 : a = c) (h2 : b = d) : Ending.returned (.tuple #[a, b]) = .returned (.tuple #[c, d]) := by rw [h1, h2]
theorem ret_int {k : IntKind} {a b : Int} (h : a = b) : Ending.returned (.int k a) = .returned (.int k b) := by rw [h]
theorem ret_bool {a b : Bool} (h : a = b) : Ending.returned (.bool a) = .returned (.bool b) := by rw [h]
end Go.Proofs.YtmjgdnpfgkpaoaaDoor
namespace Go.Proofs.YtmjgdnpfgkpaoaaDoor
open Go.RowKit

/-- The slice value '.slice a n c' reads, in w, as n elements of k cells, these the list l of all cells. -/
structure RdK (k : Nat) (w : World) (a : Option Addr) (n c : Nat) (l : List Value) : Prop where
  len : n * k = l.length
  le : n ≤ c
  max : c ≤ maxLen
  nil : a = none → c = 0
  at' : 0 < n → ∃ b o, a = some ⟨b, o, none⟩ ∧ ∀ i v, l[i]? = some v → w.cell? ⟨b, o + i, none⟩ = some v

theorem RdK.none_ (k : Nat) (w : World) : RdK k w none 0 0 [] := ⟨by simp, Nat.le_refl _, by simp [maxLen], fun _ => rfl, fun h => absurd h (by decide)⟩
theorem RdK.below {k : Nat} {w w' : World} {a : Option Addr} {n c : Nat} {l : List Value} (h : RdK k w a n c l) (hb : Below w.heap.size w w') : RdK k w' a n c l := by
  refine ⟨h.len, h.le, h.max, h.nil, fun hn => ?_⟩
  obtain ⟨b, o, ha, hc⟩ := h.at' hn
  refine ⟨b, o, ha, fun i v hv => ?_⟩
  have := hc i v hv
  exact (hb.cell (p := ⟨b, o + i, none⟩) (cell_lt this)).trans this
/-- a row of the call's own, elements of k cells, read -/
theorem rdK_of_row {k : Nat} {w : World} {B n : Nat} {e : TypeId} {v : Value} {l : List Value} (h : w.ownsRow B e k v n l) : ∃ a c, v = .slice a n c ∧ RdK k w a n c l := by
  have hl := h.1
  obtain ⟨h1, h2⟩ := h
  rcases h2 with ⟨rfl, h0⟩ | ⟨g, cap, cur, rfl, hb, hg, hle, hm, hs, ht⟩
  · subst h0
    obtain rfl := List.eq_nil_of_length_eq_zero (by simpa using h1)
    exact ⟨none, 0, rfl, RdK.none_ _ _⟩
  · refine ⟨some ⟨g, 0, none⟩, cap, rfl, hl.symm, hle, hm, fun h => (by cases h), fun _ => ⟨g, 0, rfl, fun i v hv => ?_⟩⟩
    have := World.ownsRow.cells (w := w) (base := B) (e := e) (size := k) (v := .slice (some ⟨g, 0, none⟩) n cap) (n := n) (xs := l) ⟨h1, .inr ⟨g, cap, cur, rfl, hb, hg, hle, hm, hs, ht⟩⟩ (g := g) rfl i v hv
    rw [Addr.add_lit] at this; simpa using this
theorem rowK_below {k : Nat} {w w' : World} {B n : Nat} {e : TypeId} {v : Value} {l : List Value} (h : w.ownsRow B e k v n l) (hb : Below w.heap.size w w') : w'.ownsRow B e k v n l := by
  obtain ⟨h1, h2⟩ := h
  refine ⟨h1, ?_⟩
  rcases h2 with h2 | ⟨g, cap, cur, hv, hb', hg, r⟩
  · exact .inl h2
  · exact .inr ⟨g, cap, cur, hv, hb', by rw [hb.block g (Array.getElem?_eq_some_iff.1 hg).1]; exact hg, r⟩
theorem rowK_mono {k : Nat} {w : World} {B B' n : Nat} {e : TypeId} {v : Value} {l : List Value} (h : w.ownsRow B e k v n l) (hs : B' ≤ B) : w.ownsRow B' e k v n l := by
  obtain ⟨h1, h2⟩ := h
  refine ⟨h1, ?_⟩
  rcases h2 with h2 | ⟨g, cap, cur, hv, hb', r⟩
  · exact .inl h2
  · exact .inr ⟨g, cap, cur, hv, Nat.le_trans hs hb', r⟩
/-- a slice literal of elements of k cells -/
theorem RdK.lit' (k : Nat) (w : World) (cs : Array Value) (e : TypeId) (n : Nat) (l : List Value) (hl : cs.toList = l) (hn : n * k = l.length) (hm : n ≤ 1000000) {b : Nat} (hb : b = w.heap.size) : RdK k (w.alloc (.cells cs e)) (some ⟨b, 0, none⟩) n n l := by
  subst hl hb
  refine ⟨hn, Nat.le_refl _, by unfold maxLen; omega, fun h => (by cases h), fun _ => ⟨_, _, rfl, fun i v hv => ?_⟩⟩
  rw [Nat.zero_add]
  exact cell_new w cs e i v (by simpa using hv)

/-- the cells of elements, one behind another -/
theorem flat_at {α : Type} (k : Nat) (enc : α → List Value) (hk : ∀ x, (enc x).length = k) : ∀ (L : List α) (i j : Nat) (x : α), L[i]? = some x → j < k → (L.flatMap enc)[i * k + j]? = (enc x)[j]? := by
  intro L
  induction L with
  | nil => intro i j x h; simp at h
  | cons y L ih =>
    intro i j x h hj
    rw [List.flatMap_cons]
    cases i with
    | zero =>
      simp at h; subst h
      rw [Nat.zero_mul, Nat.zero_add, List.getElem?_append_left (by rw [hk]; exact hj)]
    | succ i =>
      have h' : L[i]? = some x := by simpa using h
      rw [List.getElem?_append_right (by rw [hk, Nat.succ_mul]; omega), hk, show (i + 1) * k + j - k = i * k + j by rw [Nat.succ_mul]; omega]
      exact ih i j x h' hj
theorem flat_len {α : Type} (k : Nat) (enc : α → List Value) (hk : ∀ x, (enc x).length = k) (L : List α) : (L.flatMap enc).length = L.length * k := by
  induction L with
  | nil => simp
  | cons y L ih => rw [List.flatMap_cons, List.length_append, ih, hk, List.length_cons, Nat.succ_mul, Nat.add_comm]
/-- the cells of one element -/
theorem RdK.cells {k : Nat} {w : World} {a : Option Addr} {n c : Nat} {α : Type} {enc : α → List Value} {L : List α} (h : RdK k w a n c (L.flatMap enc)) (hk : ∀ x, (enc x).length = k) (hn : 0 < n) :
    ∃ b o, a = some ⟨b, o, none⟩ ∧ ∀ i x, L[i]? = some x → ∀ j, j < k → w.cell? ⟨b, o + i * k + j, none⟩ = (enc x)[j]? := by
  obtain ⟨b, o, ha, hc⟩ := h.at' hn
  refine ⟨b, o, ha, fun i x hx j hj => ?_⟩
  have h1 := flat_at k enc hk L i j x hx hj
  have h2 : (enc x)[j]? = some ((enc x)[j]'(by rw [hk]; exact hj)) := List.getElem?_eq_getElem _
  rw [h2] at h1
  rw [Nat.add_assoc, hc _ _ h1, h2]

theorem heap_set_at {w : World} {B : Nat} {cs : Array Value} {t : TypeId} {f : Nat × Nat} (h : w.heap[B]? = some (.cells cs t f)) (i : Nat) (v : Value) :
    (w.setCell ⟨B, i, none⟩ v).heap[B]? = some (.cells (cs.setIfInBounds i v) t f) := by
  unfold World.setCell; simp [Array.getElem?_modify, h]
theorem heap_alloc_at {w : World} {B : Nat} {ob : Obj} (h : w.heap[B]? = some ob) (o : Obj) : (w.alloc o).heap[B]? = some ob :=
  (Below.heap_alloc w o B (Array.getElem?_eq_some_iff.1 h).1).trans h
theorem heap_set_other {w : World} {B B' : Nat} (hne : B ≠ B') (i : Nat) (v : Value) {ob : Obj} (h : w.heap[B]? = some ob) : (w.setCell ⟨B', i, none⟩ v).heap[B]? = some ob :=
  (Below.heap_setCell _ _ _ _ hne).trans h
theorem heap_below {w w' : World} {B : Nat} {ob : Obj} (hb : Below w.heap.size w w') (h : w.heap[B]? = some ob) : w'.heap[B]? = some ob :=
  (hb.block B (Array.getElem?_eq_some_iff.1 h).1).trans h

theorem below_drew {B : Nat} {a w : World} (h : Below B a w) : Below B a w.drew := ⟨h.os, h.tape, h.output, h.size, h.block⟩
theorem below_undrew {w w' : World} (h : Below w.drew.heap.size w.drew w') : Below w.heap.size w w' := ⟨h.os, h.tape, h.output, h.size, h.block⟩
/-- three cells of an old block, kept -/
theorem keep3 {w w' : World} {B : Nat} {x y z : Value} (hb : Below w.heap.size w w') (h0 : w.cell? ⟨B, 0, none⟩ = some x) (h1 : w.cell? ⟨B, 1, none⟩ = some y) (h2 : w.cell? ⟨B, 2, none⟩ = some z) :
    w'.cell? ⟨B, 0, none⟩ = some x ∧ w'.cell? ⟨B, 1, none⟩ = some y ∧ w'.cell? ⟨B, 2, none⟩ = some z :=
  ⟨(hb.cell (p := ⟨B, 0, none⟩) (cell_lt h0)).trans h0, (hb.cell (p := ⟨B, 1, none⟩) (cell_lt h1)).trans h1, (hb.cell (p := ⟨B, 2, none⟩) (cell_lt h2)).trans h2⟩
theorem open3 {w : World} {B : Nat} {x y z : Value} {t : TypeId} (h : w.heap[B]? = some (.cells #[x, y, z] t (0, 0))) :
    (w.cell? ⟨B, 0, none⟩ = some x ∧ w.cell? ⟨B, 1, none⟩ = some y ∧ w.cell? ⟨B, 2, none⟩ = some z) ∧ w.frozen? ⟨B, 0, none⟩ = false ∧ w.frozen? ⟨B, 1, none⟩ = false ∧ w.frozen? ⟨B, 2, none⟩ = false :=
  ⟨⟨cell_of_row _ _ 0 _ _ _ h, cell_of_row _ _ 1 _ _ _ h, cell_of_row _ _ 2 _ _ _ h⟩, by simp [World.frozen?, h], by simp [World.frozen?, h], by simp [World.frozen?, h]⟩

/-- 'out = append(out, x)' on a slice of the call's own, elements of k cells: the element stands in the last block. -/
theorem wpList_appK {P : Program} {ops : Array Oper} {rest : List Oper} {o : Oper} {a : Act} {Q : Exit → Act → World → Prop} {B : Nat} {w0 wr : World} {e : TypeId} {v : Value} {l : List Value} {n : Nat}
    (k : Nat) (s xo : Operand) (t : TypeId) (bytes : Nat) (z : Value) (x : List Value) (ty : TypeId)
    (ht : P.underlying t = some (.slice e)) (hi : (P.info? e).map (fun i => (i.zero, i.size, i.bytes)) = some (some z, k, bytes)) (hz : z.cells.size = k) (hk : 0 < k)
    (hown : wr.ownsRow B e k v n l) (hb : Below B w0 wr) (hB : B ≤ w0.heap.size)
    (hg : o.guard = none) (hop : o.op = Op.call { callee := Callee.builtin Builtin.append, args := #[s, xo], argTypes := #[t, t] })
    (hs : a.eval s = v) (hx : a.eval xo = .slice (some ⟨wr.heap.size, 0, none⟩) 1 1) (hxl : x.length = k) (h1 : ∀ u ∈ x, u.oneCell' = true)
    (hlen : n + 1 ≤ maxLen) (hby : (n + 1) * bytes ≤ 140737488355328)
    (hK : ∀ v' w1, w1.ownsRow B e k v' (n + 1) (l ++ x) → Below B w0 w1 → wr.grownBy w1 v.ownBlock → wr.heap.size < w1.heap.size → wpList P ops Q rest (a.put o.dst v') w1) :
    wpList P ops Q (o :: rest) a (wr.alloc (.cells x.toArray ty)) := by
  obtain ⟨i, hi1, hi2, hi3, hi4⟩ := info_parts hi
  have hsz := hb.size
  refine wpList_append_own _ hg s xo t hop B e i z k bytes ht hi1 hi2 hi3 hi4 hz hk v n l hs (hown.alloc _) ⟨wr.heap.size, 0, none⟩ 1 1 x hx (by rw [Nat.one_mul]; exact hxl) ?_ h1 hlen hby (by simp; omega) ?_
  · intro j u hj
    rw [Addr.add_lit, Nat.zero_add]
    exact cell_new wr x.toArray ty j u (by simpa using hj)
  · intro v' w1 h2 h3 _
    have h4 := h3.size
    simp only [World.size_alloc] at h4
    refine hK v' w1 h2 ((hb.alloc (by omega) _).grown h3 (by simp; omega) fun k hk => (hown.lt k hk).1) ?_ (by omega)
    exact ⟨h3.os, h3.tape, h3.output, by omega, fun k hk hne => (h3.block k (by simp; omega) hne).trans (Below.heap_alloc wr _ k hk)⟩

/-- 'out = append(out, xs...)', elements of k cells. -/
theorem wpList_appsK {P : Program} {ops : Array Oper} {rest : List Oper} {o : Oper} {a : Act} {Q : Exit → Act → World → Prop} {B : Nat} {w0 wr : World} {e : TypeId} {v : Value} {l : List Value} {n : Nat}
    (k : Nat) (s xo : Operand) (t : TypeId) (bytes : Nat) (z : Value) (ao : Option Addr) (m c : Nat) (news : List Value)
    (ht : P.underlying t = some (.slice e)) (hi : (P.info? e).map (fun i => (i.zero, i.size, i.bytes)) = some (some z, k, bytes)) (hz : z.cells.size = k) (hk : 0 < k)
    (hown : wr.ownsRow B e k v n l) (hb : Below B w0 wr) (hB : B ≤ w0.heap.size) (hr : RdK k wr ao m c news) (h1 : ∀ u ∈ news, u.oneCell' = true)
    (hg : o.guard = none) (hop : o.op = Op.call { callee := Callee.builtin Builtin.append, args := #[s, xo], argTypes := #[t, t] })
    (hs : a.eval s = v) (hx : a.eval xo = .slice ao m c)
    (hlen : n + m ≤ maxLen) (hby : (n + m) * bytes ≤ 140737488355328)
    (hK : ∀ v' w1, w1.ownsRow B e k v' (n + m) (l ++ news) → Below B w0 w1 → wr.grownBy w1 v.ownBlock → wpList P ops Q rest (a.put o.dst v') w1) :
    wpList P ops Q (o :: rest) a wr := by
  obtain ⟨i, hi1, hi2, hi3, hi4⟩ := info_parts hi
  have hsz := hb.size
  cases ao with
  | none =>
    have hc := hr.nil rfl
    have hm : m = 0 := by have := hr.le; omega
    subst hc hm
    have hnil : news = [] := List.eq_nil_of_length_eq_zero (by rw [← hr.len, Nat.zero_mul])
    subst hnil
    exact wpList_append_own_none hg s xo t hop B e i k ht hi1 v n l hs hown hx (hK v wr (by simpa using hown) hb (World.grownBy.refl _ _))
  | some ad =>
    refine wpList_append_own _ hg s xo t hop B e i z k bytes ht hi1 hi2 hi3 hi4 hz hk v n l hs hown ad m c news hx hr.len.symm ?_ h1 hlen hby (by omega) ?_
    · intro j u hj
      have hj' := (List.getElem?_eq_some_iff.1 hj).1
      have hm0 : 0 < m := by
        apply Nat.pos_of_ne_zero
        intro h0
        have := hr.len
        rw [h0, Nat.zero_mul] at this; omega
      obtain ⟨b, of, ha, hcell⟩ := hr.at' hm0
      cases ha
      rw [Addr.add_lit]
      exact hcell j u hj
    · intro v' w1 h2 h3 _
      exact hK v' w1 h2 (hb.grown h3 (by omega) fun k hk => (hown.lt k hk).1) h3
/-- the row of a slice being built does not lie where another is read -/
def Clear (n : Nat) (v : Value) (a : Option Addr) : Prop := 0 < n → ∀ b o, a = some ⟨b, o, none⟩ → v.ownBlock ≠ some b
theorem Rd.grown {w w' : World} {a : Option Addr} {n c : Nat} {l : List Value} {v : Value} (h : Rd w a n c l) (hg : w.grownBy w' v.ownBlock) (hc : Clear n v a) : Rd w' a n c l := by
  refine ⟨h.len, h.le, h.max, h.nil, fun hn => ?_⟩
  obtain ⟨b, o, ha, hcell⟩ := h.at' hn
  exact ⟨b, o, ha, fun i x hx => hg.cell (hcell i x hx) (fun e => hc hn b o ha e.symm)⟩
theorem RdK.grown {k : Nat} {w w' : World} {a : Option Addr} {n c : Nat} {l : List Value} {v : Value} (h : RdK k w a n c l) (hg : w.grownBy w' v.ownBlock) (hc : Clear n v a) : RdK k w' a n c l := by
  refine ⟨h.len, h.le, h.max, h.nil, fun hn => ?_⟩
  obtain ⟨b, o, ha, hcell⟩ := h.at' hn
  exact ⟨b, o, ha, fun i x hx => hg.cell (hcell i x hx) (fun e => hc hn b o ha e.symm)⟩
theorem Clear.step {w : World} {a : Option Addr} {n c : Nat} {l : List Value} {v v' : Value} (h : Clear n v a) (hr : Rd w a n c l) (hv : ∀ g, v'.ownBlock = some g → v.ownBlock = some g ∨ w.heap.size ≤ g) : Clear n v' a := by
  intro hn b o ha e
  rcases hv b e with h1 | h1
  · exact h hn b o ha h1
  · obtain ⟨b', o', ha', hcell⟩ := hr.at' hn
    rw [ha] at ha'; cases ha'
    have hl := hr.len
    have := cell_lt (hcell 0 _ (List.getElem?_eq_getElem (show 0 < l.length by omega)))
    omega
theorem Clear.fresh {w : World} {B k n m _c : Nat} {e : TypeId} {v : Value} {xs : List Value} {b o : Nat} (h : w.ownsRow B e k v m xs) (hb : w.heap.size ≤ b) : Clear n v (some ⟨b, o, none⟩) := by
  intro _ b' o' ha e
  cases ha
  have := (h.lt b e).2
  omega

theorem Clear.own {w w1 : World} {B k m n c : Nat} {e e' : TypeId} {v : Value} {xs l : List Value} {am : Option Addr} (hmo : Own w w1 e (.slice am n c) l) (h : w.ownsRow B e' k v m xs) : Clear n v am := by
  intro hn b o ha he
  rcases hmo.2 with ⟨h0, _⟩ | ⟨g, cap, cur, h0, hg, _⟩
  · injection h0 with h1; rw [ha] at h1; cases h1
  · injection h0 with h1
    rw [ha] at h1
    injection h1 with h1
    injection h1 with h1
    have := (h.lt _ he).2
    omega

/-- 'out = append(out, x)', and where the new row lies. -/
theorem wpList_appK2 {P : Program} {ops : Array Oper} {rest : List Oper} {o : Oper} {a : Act} {Q : Exit → Act → World → Prop} {B : Nat} {w0 wr : World} {e : TypeId} {v : Value} {l : List Value} {n : Nat}
    (k : Nat) (s xo : Operand) (t : TypeId) (bytes : Nat) (z : Value) (x : List Value) (ty : TypeId)
    (ht : P.underlying t = some (.slice e)) (hi : (P.info? e).map (fun i => (i.zero, i.size, i.bytes)) = some (some z, k, bytes)) (hz : z.cells.size = k) (hk : 0 < k)
    (hown : wr.ownsRow B e k v n l) (hb : Below B w0 wr) (hB : B ≤ w0.heap.size)
    (hg : o.guard = none) (hop : o.op = Op.call { callee := Callee.builtin Builtin.append, args := #[s, xo], argTypes := #[t, t] })
    (hs : a.eval s = v) (hx : a.eval xo = .slice (some ⟨wr.heap.size, 0, none⟩) 1 1) (hxl : x.length = k) (h1 : ∀ u ∈ x, u.oneCell' = true)
    (hlen : n + 1 ≤ maxLen) (hby : (n + 1) * bytes ≤ 140737488355328)
    (hK : ∀ v' w1, w1.ownsRow B e k v' (n + 1) (l ++ x) → Below B w0 w1 → wr.grownBy w1 v.ownBlock → wr.heap.size < w1.heap.size → (∀ g, v'.ownBlock = some g → v.ownBlock = some g ∨ wr.heap.size ≤ g) → wpList P ops Q rest (a.put o.dst v') w1) :
    wpList P ops Q (o :: rest) a (wr.alloc (.cells x.toArray ty)) := by
  obtain ⟨i, hi1, hi2, hi3, hi4⟩ := info_parts hi
  have hsz := hb.size
  refine wpList_append_own_at _ hg s xo t hop B e i z k bytes ht hi1 hi2 hi3 hi4 hz hk v n l hs (hown.alloc _) ⟨wr.heap.size, 0, none⟩ 1 1 x hx (by rw [Nat.one_mul]; exact hxl) ?_ h1 hlen hby (by simp; omega) ?_
  · intro j u hj
    rw [Addr.add_lit, Nat.zero_add]
    exact cell_new wr x.toArray ty j u (by simpa using hj)
  · intro v' w1 h2 h3 _ h5
    have h4 := h3.size
    simp only [World.size_alloc] at h4
    refine hK v' w1 h2 ((hb.alloc (by omega) _).grown h3 (by simp; omega) fun k hk => (hown.lt k hk).1) ?_ (by omega) ?_
    · exact ⟨h3.os, h3.tape, h3.output, by omega, fun k hk hne => (h3.block k (by simp; omega) hne).trans (Below.heap_alloc wr _ k hk)⟩
    · intro g hg
      rcases h5 with h5 | h5
      · exact .inl (h5 ▸ hg)
      · rw [h5] at hg; simp at hg; omega
end Go.Proofs.YtmjgdnpfgkpaoaaDoor
namespace Go.Proofs.YtmjgdnpfgkpaoaaDoor
open Go.RowKit

/-- set.add: the new set and the error's number. -/
def addS (s : BitVec 16) (i : Int) : BitVec 16 × Int :=
  if i < 0 ∨ 12 ≤ i then (0#16, 7) else if hasB s i.toNat then (0#16, 5) else (s ||| bitS i.toNat, 0)

/-- set.Of on a list of numbers, from a set on. -/
def ofS : BitVec 16 → List Int → BitVec 16 × Int
  | s, [] => (s, 0)
  | s, i :: l => if (addS s i).2 = 0 then ofS (addS s i).1 l else (0#16, (addS s i).2)

theorem ofS_take {l : List Int} {k : Nat} {x : Int} (s0 : BitVec 16) (h : l[k]? = some x) (s : BitVec 16) (hs : ofS s0 (l.take k) = (s, 0)) (ho : ofS s0 l = ofS s (l.drop k)) :
    (((addS s x).2 = 0 → ofS s0 (l.take (k + 1)) = ((addS s x).1, 0) ∧ ofS s0 l = ofS (addS s x).1 (l.drop (k + 1))) ∧ ((addS s x).2 ≠ 0 → ofS s0 l = (0#16, (addS s x).2))) := by
  have hd : l.drop k = x :: l.drop (k + 1) := by
    obtain ⟨hk, e⟩ := List.getElem?_eq_some_iff.1 h
    rw [List.drop_eq_getElem_cons hk, e]
  rw [hd] at ho
  have happ : ∀ (p : List Int) (s0 s : BitVec 16), ofS s0 p = (s, 0) → ∀ q, ofS s0 (p ++ q) = ofS s q := by
    intro p
    induction p with
    | nil => intro s0 s h q; simp [ofS] at h; simp [h]
    | cons i p ih =>
      intro s0 s h q
      by_cases h0 : (addS s0 i).2 = 0
      · simp only [List.cons_append, ofS, if_pos h0] at h ⊢; exact ih _ _ h q
      · simp only [ofS, if_neg h0] at h; exact absurd (Prod.mk.inj h).2 h0
  refine ⟨fun h0 => ⟨?_, ?_⟩, fun h0 => ?_⟩
  · rw [List.take_add_one, h, happ _ _ _ hs]; simp [ofS, h0]
  · rw [ho, ofS, if_pos h0]
  · rw [ho, ofS, if_neg h0]

end Go.Proofs.YtmjgdnpfgkpaoaaDoor
namespace Go.Proofs.YtmjgdnpfgkpaoaaDoor

theorem bit_and (a b : Nat) (p q : Bool) : (2 * a + p.toNat) &&& (2 * b + q.toNat) = 2 * (a &&& b) + (p && q).toNat := by
  have d : ∀ (m : Nat) (r : Bool), (2 * m + r.toNat) / 2 = m ∧ (2 * m + r.toNat) % 2 = r.toNat := by
    intro m r; cases r <;> simp <;> omega
  apply Nat.eq_of_testBit_eq
  intro i
  cases i with
  | zero =>
    rw [Nat.testBit_and, Nat.testBit_zero, Nat.testBit_zero, Nat.testBit_zero, (d a p).2, (d b q).2, (d (a &&& b) (p && q)).2]
    cases p <;> cases q <;> rfl
  | succ i =>
    rw [Nat.testBit_and, Nat.testBit_succ, Nat.testBit_succ, Nat.testBit_succ, (d a p).1, (d b q).1, (d (a &&& b) (p && q)).1, Nat.testBit_and]

theorem and_compl (w : Nat) : ∀ m, m < 2 ^ w → m &&& (2 ^ w - 1 - m) = 0 := by
  induction w with
  | zero => intro m hm; simp at hm; subst hm; rfl
  | succ w ih =>
    intro m hm
    have h2 : 2 ^ (w + 1) = 2 * 2 ^ w := by rw [Nat.pow_succ]; omega
    have hp : 0 < 2 ^ w := Nat.two_pow_pos w
    have := ih (m / 2) (by omega)
    have hb := Nat.mod_two_eq_zero_or_one m
    rcases hb with hb | hb
    · have e1 : m = 2 * (m / 2) + false.toNat := by simp; omega
      have e2 : 2 ^ (w + 1) - 1 - m = 2 * (2 ^ w - 1 - m / 2) + true.toNat := by simp; omega
      rw [e2]; rw [e1]; rw [show (2 * (m / 2) + false.toNat) / 2 = m / 2 by simp]; rw [bit_and, this]; rfl
    · have e1 : m = 2 * (m / 2) + true.toNat := by simp; omega
      have e2 : 2 ^ (w + 1) - 1 - m = 2 * (2 ^ w - 1 - m / 2) + false.toNat := by simp; omega
      rw [e2]
      have e3 : m &&& (2 * (2 ^ w - 1 - m / 2) + false.toNat) = (2 * (m / 2) + true.toNat) &&& (2 * (2 ^ w - 1 - m / 2) + false.toNat) := by rw [← e1]
      rw [e3, bit_and, this]; rfl

theorem low_bit (w : Nat) : ∀ n, n ≠ 0 → n < 2 ^ w → ∃ k, k < w ∧ (∀ j, j < k → n.testBit j = false) ∧ n.testBit k = true ∧ (∀ i, (n &&& (n - 1)).testBit i = (n.testBit i && decide (i ≠ k))) ∧ n &&& (2 ^ w - n) = 2 ^ k := by
  induction w with
  | zero => intro n h0 h1; simp at h1; exact absurd h1 h0
  | succ w ih =>
    intro n h0 h1
    have h2 : 2 ^ (w + 1) = 2 * 2 ^ w := by rw [Nat.pow_succ]; omega
    have hp : 0 < 2 ^ w := Nat.two_pow_pos w
    rcases Nat.mod_two_eq_zero_or_one n with hb | hb
    · obtain ⟨m, rfl⟩ : ∃ m, n = 2 * m := ⟨n / 2, by omega⟩
      obtain ⟨k, hk, hlo, hat, hand, hneg⟩ := ih m (by omega) (by omega)
      refine ⟨k + 1, by omega, ?_, ?_, ?_, ?_⟩
      · intro j hj
        cases j with
        | zero => rw [Nat.testBit_zero]; simp
        | succ j => rw [Nat.testBit_succ, show 2 * m / 2 = m by omega]; exact hlo j (by omega)
      · rw [Nat.testBit_succ, show 2 * m / 2 = m by omega]; exact hat
      · intro i
        have e : 2 * m &&& (2 * m - 1) = 2 * (m &&& (m - 1)) := by
          have := bit_and m (m - 1) false true
          rw [show 2 * m - 1 = 2 * (m - 1) + true.toNat by simp; omega]
          simpa using this
        rw [e]
        cases i with
        | zero => rw [Nat.testBit_zero, Nat.testBit_zero]; simp
        | succ i =>
          rw [Nat.testBit_succ, Nat.testBit_succ, show 2 * (m &&& (m - 1)) / 2 = m &&& (m - 1) by omega, show 2 * m / 2 = m by omega, hand]
          simp
      · have e : 2 * m &&& (2 ^ (w + 1) - 2 * m) = 2 * (m &&& (2 ^ w - m)) := by
          have := bit_and m (2 ^ w - m) false false
          rw [show 2 ^ (w + 1) - 2 * m = 2 * (2 ^ w - m) + false.toNat by simp; omega]
          simpa using this
        rw [e, hneg, Nat.pow_succ]; omega
    · obtain ⟨m, rfl⟩ : ∃ m, n = 2 * m + 1 := ⟨n / 2, by omega⟩
      refine ⟨0, by omega, fun j hj => absurd hj (by omega), by rw [Nat.testBit_zero]; simp, ?_, ?_⟩
      · intro i
        have e : (2 * m + 1) &&& (2 * m + 1 - 1) = 2 * m := by
          have := bit_and m m true false
          simp at this
          simpa using this
        rw [e]
        cases i with
        | zero => rw [Nat.testBit_zero]; simp
        | succ i => rw [Nat.testBit_succ, Nat.testBit_succ, show 2 * m / 2 = m by omega, show (2 * m + 1) / 2 = m by omega]; simp
      · have e := bit_and m (2 ^ w - 1 - m) true true
        have c := and_compl w m (by omega)
        rw [c] at e
        rw [show 2 ^ (w + 1) - (2 * m + 1) = 2 * (2 ^ w - 1 - m) + true.toNat by simp; omega]
        simpa using e

/-- the members, ascending -/
def memS (x : BitVec 16) : List Nat := (List.range 16).filter (hasB x)
def cnt (x : BitVec 16) : Nat := (memS x).length

theorem hasB_nat (x : BitVec 16) (i : Nat) : hasB x i = x.toNat.testBit i := rfl

theorem filter_low (p : Nat → Bool) (k N : Nat) (hk : k < N) (h1 : p k = true) (h0 : ∀ j, j < k → p j = false) :
    (List.range N).filter p = k :: (List.range N).filter (fun i => p i && decide (i ≠ k)) := by
  have e : List.range N = List.range k ++ k :: List.range' (k + 1) (N - k - 1) := by
    rw [List.range_eq_range', List.range_eq_range']
    have a := List.range'_append_1 (s := 0) (m := k) (n := N - k)
    rw [show k + (N - k) = N by omega, Nat.zero_add] at a
    rw [← a]
    congr 1
    rw [show N - k = (N - k - 1) + 1 by omega, List.range'_succ]
    simp
  have n1 : (List.range k).filter p = [] := by
    rw [List.filter_eq_nil_iff]; intro j hj; simp at hj; simp [h0 j hj]
  have n2 : (List.range k).filter (fun i => p i && decide (i ≠ k)) = [] := by
    rw [List.filter_eq_nil_iff]; intro j hj; simp at hj; simp [h0 j hj]
  have n3 : (List.range' (k + 1) (N - k - 1)).filter (fun i => p i && decide (i ≠ k)) = (List.range' (k + 1) (N - k - 1)).filter p := by
    apply List.filter_congr
    intro i hi
    have := (List.mem_range'_1.1 hi).1
    have : i ≠ k := by omega
    simp [this]
  rw [e, List.filter_append, List.filter_append, n1, n2, List.filter_cons, List.filter_cons, n3]
  simp [h1]

/-- a set with a member: the least one, and the rest. -/
theorem memS_step (x : BitVec 16) (h : x ≠ 0#16) : ∃ k, k < 16 ∧ x &&& -x = bitS k ∧ hasB x k = true ∧ memS x = k :: memS (x &&& (x - 1#16)) := by
  have h0 : x.toNat ≠ 0 := fun e => h (BitVec.eq_of_toNat_eq (by simpa using e))
  have hlt := x.isLt
  obtain ⟨k, hk, hlo, hat, hand, hneg⟩ := low_bit 16 x.toNat h0 hlt
  have es : (x - 1#16).toNat = x.toNat - 1 := by rw [BitVec.toNat_sub]; simp; omega
  have en : (-x).toNat = 2 ^ 16 - x.toNat := by rw [BitVec.toNat_neg]; omega
  refine ⟨k, hk, ?_, hat, ?_⟩
  · apply BitVec.eq_of_toNat_eq
    rw [BitVec.toNat_and, en, hneg, bitS, BitVec.toNat_shiftLeft]
    simp only [BitVec.toNat_ofNat, Nat.shiftLeft_eq]
    have : 2 ^ k < 2 ^ 16 := Nat.pow_lt_pow_right (by decide) hk
    omega
  · unfold memS
    rw [filter_low (hasB x) k 16 hk hat (fun j hj => hlo j hj)]
    congr 1
    apply List.filter_congr
    intro i _
    rw [hasB_nat, hasB_nat, BitVec.toNat_and, es, hand]

theorem memS_zero : memS 0#16 = [] := by decide
theorem cnt_step (x : BitVec 16) (h : x ≠ 0#16) : cnt x = cnt (x &&& (x - 1#16)) + 1 := by
  obtain ⟨k, _, _, _, e⟩ := memS_step x h
  unfold cnt; rw [e]; rfl
theorem cnt_le (x : BitVec 16) : cnt x ≤ 16 := Nat.le_trans (List.length_filter_le _ _) (by simp)

/-! counting by two tables -/
theorem pop8_bits : ∀ n : Fin 256, Lib.pop8 (n.val : Int) = (((List.range 8).filter n.val.testBit).length : Int) := by decide +kernel

theorem filter_range_len (p : Nat → Bool) (a b : Nat) : ((List.range (a + b)).filter p).length = ((List.range a).filter p).length + ((List.range b).filter (fun i => p (a + i))).length := by
  rw [List.range_add, List.filter_append, List.length_append, List.filter_map, List.length_map]
  rfl

theorem cnt_tables (x : BitVec 16) : ∃ hi lo : Nat, hi < 256 ∧ lo < 256 ∧ U (shrS x 8) = hi ∧ bits .and .u16 (U x) 255 = lo ∧ Lib.pop8 hi + Lib.pop8 lo = cnt x := by
  have hlt := x.isLt
  refine ⟨(x >>> 8).toNat, (x &&& 255#16).toNat, ?_, ?_, rfl, bv16_and x 255#16, ?_⟩
  · rw [BitVec.toNat_ushiftRight, Nat.shiftRight_eq_div_pow]; omega
  · rw [BitVec.toNat_and]; exact Nat.lt_of_le_of_lt Nat.and_le_right (by decide)
  · have h1 : (x >>> 8).toNat < 256 := by rw [BitVec.toNat_ushiftRight, Nat.shiftRight_eq_div_pow]; omega
    have h2 : (x &&& 255#16).toNat < 256 := by rw [BitVec.toNat_and]; exact Nat.lt_of_le_of_lt Nat.and_le_right (by decide)
    have a1 := pop8_bits ⟨_, h1⟩
    have a2 := pop8_bits ⟨_, h2⟩
    simp only at a1 a2
    rw [a1, a2]
    have e := filter_range_len (hasB x) 8 8
    have e1 : (List.range 8).filter (x &&& 255#16).toNat.testBit = (List.range 8).filter (hasB x) := by
      apply List.filter_congr
      intro i hi
      simp only [List.mem_range] at hi
      rw [hasB_nat, BitVec.toNat_and, Nat.testBit_and]
      have : (255#16).toNat.testBit i = true := by
        have : ∀ i : Fin 8, (255#16).toNat.testBit i.val = true := by decide
        exact this ⟨i, hi⟩
      rw [this, Bool.and_true]
    have e2 : (List.range 8).filter (x >>> 8).toNat.testBit = (List.range 8).filter (fun i => hasB x (8 + i)) := by
      apply List.filter_congr
      intro i _
      rw [hasB_nat, BitVec.toNat_ushiftRight, Nat.testBit_shiftRight]
    have e3 : cnt x = ((List.range (8 + 8)).filter (hasB x)).length := rfl
    rw [e3, e, e1, e2]
    omega
end Go.Proofs.YtmjgdnpfgkpaoaaDoor
namespace Go.Proofs.YtmjgdnpfgkpaoaaDoor
open Go.RowKit

def memTo (x : BitVec 16) (k : Nat) : List Nat := (List.range k).filter (hasB x)
def intV (i : Nat) : Value := .int .i64 i
theorem memTo_succ (x : BitVec 16) (k : Nat) : memTo x (k + 1) = if hasB x k then memTo x k ++ [k] else memTo x k := by
  rw [memTo, List.range_succ, List.filter_append]; cases h : hasB x k <;> simp [memTo, h]
theorem memTo_le (x : BitVec 16) (k : Nat) : (memTo x k).length ≤ k := Nat.le_trans (List.length_filter_le _ _) (by simp)

/-- the reference's Has -/
def hasI (x : BitVec 16) (i : Int) : Bool := decide (0 ≤ i) && decide (i < 16) && hasB x i.toNat

theorem Tryd.infoInt : (Tryd.prog.info? 3).map (fun i => (i.zero, i.size, i.bytes)) = some (some (.int .i64 0), 1, 8) := by kernel_rfl

set_option maxRecDepth 100000 in
set_option maxHeartbeats 1000000 in
theorem ones_c (x : BitVec 16) (s : Int) (w : World) (hs : s = U x) :
    Calls Tryd.prog 75 #[.int .u16 s] w fun e w' => e = .returned (.int .i64 (cnt x)) ∧ ∃ q, w' = w.drewN q := by
  subst hs
  obtain ⟨hi, lo, h1, h2, hh, hl, hp⟩ := cnt_tables x
  have hle := cnt_le x
  have HP := Lib.hid hp
  clear hp
  have h3 : (hi : Int) ≤ 255 := by omega
  have h4 : (lo : Int) ≤ 255 := by omega
  have h8 := bv16_shr x 8
  simp only [Int.reducePow] at h8
  go_enter Tryd.func75, Tryd.ntmps75
  go_wp2
  go_quiet (fail)
  go_wp2
  go_ret
  exact ⟨ret_int (by rw [HP.out]; omega), _, rfl⟩

set_option maxRecDepth 100000 in
set_option maxHeartbeats 1000000 in
theorem count_c (x : BitVec 16) (s : Int) (w : World) (hs : s = U x) :
    Calls Tryd.prog 49 #[.int .u16 s] w fun e w' => e = .returned (.int .i64 (cnt x)) ∧ ∃ q, w' = w.drewN q := by
  subst hs
  go_enter Tryd.func49, Tryd.ntmps49
  go_wp2_with (go_at_call 75; refine (ones_c x _ _ rfl).mono ?_; rintro e w' ⟨rfl, q, rfl⟩)
  go_ret
  exact ⟨rfl, _, rfl⟩

/-- the table that TrailingZeros16 reads -/
def deB : List Int := [0, 1, 28, 2, 29, 14, 24, 3, 30, 22, 20, 15, 25, 17, 4, 8, 31, 27, 13, 23, 21, 19, 16, 7, 26, 12, 18, 6, 11, 5, 10, 9]
def HasTab (w : World) : Prop := ∀ i, i < 32 → w.cell? ⟨0, i, none⟩ = some (.int .u8 (deB.getD i 0))
theorem HasTab.below {w w' : World} (h : HasTab w) (hb : Below w.heap.size w w') : HasTab w' := fun i hi => by
  have := h i hi
  exact (hb.cell (p := ⟨0, i, none⟩) (cell_lt this)).trans this

@[go_sem] theorem bv16_neg (x : BitVec 16) : IntKind.u16.wrap (-(U x)) = U (-x) := by
  rw [IntKind.wrap_u16]; unfold U; rw [BitVec.toNat_neg]; have := x.isLt; omega

set_option maxRecDepth 100000 in
set_option maxHeartbeats 1000000 in
theorem tz_k (k : Nat) (hk : k < 16) (x : BitVec 16) (w : World) (h0 : (x == 0#16) = false) (he : x &&& -x = bitS k) (ht : HasTab w) :
    Calls Tryd.prog 56 #[.int .u16 (U x)] w fun e w' => e = .returned (.int .i64 k) ∧ w = w' := by
  match k, hk with
  | 0, _ =>
    have hc : w.cell? ⟨0, 0, none⟩ = some (.int .u8 0) := ht 0 (by decide)
    have hu : U (bitS 0) = 1 := by decide
    clear ht
    go_enter Tryd.func56, Tryd.ntmps56
    go_wp2
    go_ret
    exact ⟨rfl, rfl⟩
  | 1, _ =>
    have hc : w.cell? ⟨0, 1, none⟩ = some (.int .u8 1) := ht 1 (by decide)
    have hu : U (bitS 1) = 2 := by decide
    clear ht
    go_enter Tryd.func56, Tryd.ntmps56
    go_wp2
    go_ret
    exact ⟨rfl, rfl⟩
  | 2, _ =>
    have hc : w.cell? ⟨0, 3, none⟩ = some (.int .u8 2) := ht 3 (by decide)
    have hu : U (bitS 2) = 4 := by decide
    clear ht
    go_enter Tryd.func56, Tryd.ntmps56
    go_wp2
    go_ret
    exact ⟨rfl, rfl⟩
  | 3, _ =>
    have hc : w.cell? ⟨0, 7, none⟩ = some (.int .u8 3) := ht 7 (by decide)
    have hu : U (bitS 3) = 8 := by decide
    clear ht
    go_enter Tryd.func56, Tryd.ntmps56
    go_wp2
    go_ret
    exact ⟨rfl, rfl⟩
  | 4, _ =>
    have hc : w.cell? ⟨0, 14, none⟩ = some (.int .u8 4) := ht 14 (by decide)
    have hu : U (bitS 4) = 16 := by decide
    clear ht
    go_enter Tryd.func56, Tryd.ntmps56
    go_wp2
    go_ret
    exact ⟨rfl, rfl⟩
  | 5, _ =>
    have hc : w.cell? ⟨0, 29, none⟩ = some (.int .u8 5) := ht 29 (by decide)
    have hu : U (bitS 5) = 32 := by decide
    clear ht
    go_enter Tryd.func56, Tryd.ntmps56
    go_wp2
    go_ret
    exact ⟨rfl, rfl⟩
  | 6, _ =>
    have hc : w.cell? ⟨0, 27, none⟩ = some (.int .u8 6) := ht 27 (by decide)
    have hu : U (bitS 6) = 64 := by decide
    clear ht
    go_enter Tryd.func56, Tryd.ntmps56
    go_wp2
    go_ret
    exact ⟨rfl, rfl⟩
  | 7, _ =>
    have hc : w.cell? ⟨0, 23, none⟩ = some (.int .u8 7) := ht 23 (by decide)
    have hu : U (bitS 7) = 128 := by decide
    clear ht
    go_enter Tryd.func56, Tryd.ntmps56
    go_wp2
    go_ret
    exact ⟨rfl, rfl⟩
  | 8, _ =>
    have hc : w.cell? ⟨0, 15, none⟩ = some (.int .u8 8) := ht 15 (by decide)
    have hu : U (bitS 8) = 256 := by decide
    clear ht
    go_enter Tryd.func56, Tryd.ntmps56
    go_wp2
    go_ret
    exact ⟨rfl, rfl⟩
  | 9, _ =>
    have hc : w.cell? ⟨0, 31, none⟩ = some (.int .u8 9) := ht 31 (by decide)
    have hu : U (bitS 9) = 512 := by decide
    clear ht
    go_enter Tryd.func56, Tryd.ntmps56
    go_wp2
    go_ret
    exact ⟨rfl, rfl⟩
  | 10, _ =>
    have hc : w.cell? ⟨0, 30, none⟩ = some (.int .u8 10) := ht 30 (by decide)
    have hu : U (bitS 10) = 1024 := by decide
    clear ht
    go_enter Tryd.func56, Tryd.ntmps56
    go_wp2
    go_ret
    exact ⟨rfl, rfl⟩
  | 11, _ =>
    have hc : w.cell? ⟨0, 28, none⟩ = some (.int .u8 11) := ht 28 (by decide)
    have hu : U (bitS 11) = 2048 := by decide
    clear ht
    go_enter Tryd.func56, Tryd.ntmps56
    go_wp2
    go_ret
    exact ⟨rfl, rfl⟩
  | 12, _ =>
    have hc : w.cell? ⟨0, 25, none⟩ = some (.int .u8 12) := ht 25 (by decide)
    have hu : U (bitS 12) = 4096 := by decide
    clear ht
    go_enter Tryd.func56, Tryd.ntmps56
    go_wp2
    go_ret
    exact ⟨rfl, rfl⟩
  | 13, _ =>
    have hc : w.cell? ⟨0, 18, none⟩ = some (.int .u8 13) := ht 18 (by decide)
    have hu : U (bitS 13) = 8192 := by decide
    clear ht
    go_enter Tryd.func56, Tryd.ntmps56
    go_wp2
    go_ret
    exact ⟨rfl, rfl⟩
  | 14, _ =>
    have hc : w.cell? ⟨0, 5, none⟩ = some (.int .u8 14) := ht 5 (by decide)
    have hu : U (bitS 14) = 16384 := by decide
    clear ht
    go_enter Tryd.func56, Tryd.ntmps56
    go_wp2
    go_ret
    exact ⟨rfl, rfl⟩
  | 15, _ =>
    have hc : w.cell? ⟨0, 11, none⟩ = some (.int .u8 15) := ht 11 (by decide)
    have hu : U (bitS 15) = 32768 := by decide
    clear ht
    go_enter Tryd.func56, Tryd.ntmps56
    go_wp2
    go_ret
    exact ⟨rfl, rfl⟩  | k + 16, hk => exact absurd hk (by omega)

set_option maxRecDepth 100000 in
set_option maxHeartbeats 1000000 in
theorem members_c (x0 : BitVec 16) (s : Int) (w : World) (hs : s = U x0) (ht : HasTab w) :
    Calls Tryd.prog 26 #[.int .u16 s] w fun e w' => ∃ v, e = .returned v ∧ Own w w' 3 v ((memS x0).map intV) ∧ Below w.heap.size w w' := by
  subst hs
  go_enter Tryd.func26, Tryd.ntmps26
  go_wp2
  go_loopw [0, 3] (fun s v wr => ∃ (x : BitVec 16) (l : List Nat), s = .int .u16 (U x) ∧ wr.ownsRow w.heap.size 3 1 v l.length (l.map intV) ∧ Below w.heap.size w wr ∧ Hid (memS x0 = l ++ memS x)) (fun s _ _ => cnt (BitVec.ofInt 16 (intOf s)))
  case atStart => exact ⟨x0, [], rfl, World.ownsRow_nil _ _ _ _, Below.refl _ _, rfl⟩
  case round =>
    obtain ⟨x, l, rfl, hown, hb, hm⟩ := hrel
    have hlen : l.length ≤ 16 := by have := cnt_le x0; unfold cnt at this; rw [hm.out, List.length_append] at this; omega
    by_cases h0 : x = 0#16
    · subst h0
      go_wp2
      go_ret
      exact ⟨_, rfl, by unfold Own; rw [hm.out, memS_zero, List.append_nil, List.length_map]; exact hown, hb⟩
    · have hx : (x != 0#16) = true := by simpa using h0
      have hx' : (x == 0#16) = false := by simpa using h0
      have h0' := Lib.hid h0
      clear h0
      obtain ⟨k, hk, he, hbit, hstep⟩ := memS_step x h0'.out
      have hc := Lib.hid (cnt_step x h0'.out)
      have HT := Lib.hid (ht.below hb)
      have HE := Lib.hid he
      have HS := Lib.hid hstep
      clear he hbit hstep
      go_wp2_with (first | (go_at_call 56; refine (tz_k k hk x _ hx' HE.out HT.out).mono ?_; rintro e w' ⟨rfl, rfl⟩) | (at_builtin; go_must (refine wpList_app _ _ 56 8 (.int .i64 0) (intV k) _ Tryd.underlying56 Tryd.infoInt rfl hown hb (Nat.le_refl _) rfl rfl rfl rfl rfl (by unfold maxLen; omega) (by omega) ?_)))
      intro v' w1 hown1 hb1 _ _
      clear hown hb HT
      go_wp2
      go_roundw
      case rel => exact ⟨_, l ++ [k], rfl, by simpa using hown1, hb1, by rw [Hid, hm.out, HS.out]; simp⟩
      case measure => show cnt (BitVec.ofInt 16 (U (x &&& (x - 1#16)))) < cnt (BitVec.ofInt 16 (U x)); rw [U_ofInt, U_ofInt, hc.out]; omega

/-- set.Full -/
def fullS (n : Int) : BitVec 16 × Int := if n < 0 ∨ 12 < n then (0#16, 7) else (bitS n.toNat - 1#16, 0)

end Go.Proofs.YtmjgdnpfgkpaoaaDoor
namespace Go.Proofs.YtmjgdnpfgkpaoaaDoor
open Go.RowKit

def cmpI (a b : Int) : Int := if a < b then -1 else if b < a then 1 else 0

set_option maxHeartbeats 400000 in
theorem cmpi_c (a b : Int) (w : World) :
    Calls Tryd.prog 78 #[.int .i64 a, .int .i64 b] w fun e w' => e = .returned (.int .i64 (cmpI a b)) ∧ w = w' := by
  by_cases h1 : a < b
  · go_enter Tryd.func78, Tryd.ntmps78
    go_wp2
    go_ret
    exact ⟨ret_int (by simp [cmpI, h1]), rfl⟩
  · by_cases h2 : b < a
    · go_enter Tryd.func78, Tryd.ntmps78
      go_wp2
      go_ret
      exact ⟨ret_int (by rw [cmpI, if_neg (by omega), if_pos (by omega)]), rfl⟩
    · go_enter Tryd.func78, Tryd.ntmps78
      go_wp2
      go_ret
      exact ⟨ret_int (by rw [cmpI, if_neg (by omega), if_neg (by omega)]), rfl⟩

set_option maxHeartbeats 400000 in
theorem cmpu_c (a b : Int) (w : World) :
    Calls Tryd.prog 79 #[.int .u16 a, .int .u16 b] w fun e w' => e = .returned (.int .i64 (cmpI a b)) ∧ w = w' := by
  by_cases h1 : a < b
  · go_enter Tryd.func79, Tryd.ntmps79
    go_wp2
    go_ret
    exact ⟨ret_int (by simp [cmpI, h1]), rfl⟩
  · by_cases h2 : b < a
    · go_enter Tryd.func79, Tryd.ntmps79
      go_wp2
      go_ret
      exact ⟨ret_int (by rw [cmpI, if_neg (by omega), if_pos (by omega)]), rfl⟩
    · go_enter Tryd.func79, Tryd.ntmps79
      go_wp2
      go_ret
      exact ⟨ret_int (by rw [cmpI, if_neg (by omega), if_neg (by omega)]), rfl⟩

/-- the first of two numbers, if it is not 0, else the second -/
def orI (a b : Int) : Int := if a = 0 then b else a

set_option maxHeartbeats 1000000 in
theorem or2_c (x y : Int) (b o : Nat) (w : World) (h0 : w.cell? ⟨b, o, none⟩ = some (.int .i64 x)) (h1 : w.cell? ⟨b, o + 1, none⟩ = some (.int .i64 y)) :
    Calls Tryd.prog 77 #[.slice (some ⟨b, o, none⟩) 2 2] w fun e w' => e = .returned (.int .i64 (orI x y)) ∧ w = w' := by
  go_enter Tryd.func77, Tryd.ntmps77
  go_wp2
  go_loop [8] (fun i => ∃ (k : Nat), k ≤ 2 ∧ i = .int .i64 k ∧ Hid ((1 ≤ k → x = 0) ∧ (2 ≤ k → y = 0))) (fun i => 2 - (intOf i).toNat)
  case atStart => exact ⟨0, by omega, rfl, ⟨by omega, by omega⟩⟩
  case round =>
    obtain ⟨k, hk, rfl, hh⟩ := hrel
    match k, hk, hh with
    | 0, _, hh =>
      by_cases hx : x = 0
      · have hx' : (x != 0) = false := by simp [hx]
        have HX := Lib.hid hx
        clear hx
        go_wp2
        go_round
        case rel => exact ⟨1, by omega, rfl, fun _ => HX.out, by omega⟩
        case measure => simp [intOf]
      · have hx' : (x != 0) = true := by simp [hx]
        have HX := Lib.hid hx
        clear hx
        go_wp2
        go_ret
        exact ⟨ret_int (by rw [orI, if_neg HX.out]), rfl⟩
    | 1, _, hh =>
      by_cases hy : y = 0
      · have hy' : (y != 0) = false := by simp [hy]
        have HY := Lib.hid hy
        clear hy
        go_wp2
        go_round
        case rel => exact ⟨2, by omega, rfl, fun _ => hh.out.1 (by omega), fun _ => HY.out⟩
        case measure => simp [intOf]
      · have hy' : (y != 0) = true := by simp [hy]
        have HY := Lib.hid hy
        clear hy
        go_wp2
        go_ret
        exact ⟨ret_int (by rw [orI, if_pos (hh.out.1 (by omega))]), rfl⟩
    | 2, _, hh =>
      go_wp2
      go_ret
      exact ⟨ret_int (by rw [orI, if_pos (hh.out.1 (by omega)), hh.out.2 (by omega)]), rfl⟩

/-- the order of sets -/
def cmpS (x y : BitVec 16) : Int := orI (cmpI (cnt x) (cnt y)) (cmpI (U x) (U y))

set_option maxRecDepth 100000 in
set_option maxHeartbeats 1000000 in
theorem compare_c (x y : BitVec 16) (s t : Int) (w : World) (hs : s = U x) (ht : t = U y) :
    Calls Tryd.prog 55 #[.int .u16 s, .int .u16 t] w fun e w' => e = .returned (.int .i64 (cmpS x y)) ∧ Below w.heap.size w w' := by
  subst hs ht
  go_enter Tryd.func55, Tryd.ntmps55
  go_wp2_with fail
  refine (count_c x _ _ rfl).mono ?_
  rintro e w1 ⟨rfl, q, rfl⟩
  go_wp2_with fail
  refine (count_c y _ _ rfl).mono ?_
  rintro e w2 ⟨rfl, q2, rfl⟩
  go_wp2_with fail
  refine (cmpi_c _ _ _).mono ?_
  rintro e w3 ⟨rfl, rfl⟩
  go_wp2_with fail
  refine (cmpu_c _ _ _).mono ?_
  rintro e w3 ⟨rfl, rfl⟩
  go_wp2_with fail
  refine (or2_c (cmpI (cnt x) (cnt y)) (cmpI (U x) (U y)) _ _ _ ?h0 ?h1).mono ?_
  case h0 => exact cell_new _ _ _ 0 _ rfl
  case h1 => exact cell_new _ _ _ 1 _ rfl
  rintro e w3 ⟨rfl, rfl⟩
  go_wp2_with fail
  go_ret
  exact ⟨rfl, (below_drewN (q := q + q2) (Below.refl w.heap.size w)).alloc (Nat.le_refl _) _⟩

theorem cmpS_self (x : BitVec 16) : cmpS x x = 0 := by simp [cmpS, cmpI, orI]
theorem cmpS_lt (x y : BitVec 16) (h : cnt x < cnt y) : cmpS x y = -1 := by
  have : cmpI (cnt x) (cnt y) = -1 := by rw [cmpI, if_pos (by omega)]
  unfold cmpS; rw [this]; rfl
theorem cmpS_eq_lt (x y : BitVec 16) (h : cnt x = cnt y) (h2 : U x < U y) : cmpS x y = -1 := by
  have e : cmpI (cnt x) (cnt y) = 0 := by rw [cmpI, if_neg (by omega), if_neg (by omega)]
  unfold cmpS; rw [e]; simp [orI, cmpI, h2]
theorem cmpS_gt (x y : BitVec 16) (h : x ≠ y) (h1 : ¬ cnt x < cnt y) (h2 : cnt x = cnt y → ¬ U x < U y) : cmpS x y = 1 := by
  by_cases h3 : cnt x = cnt y
  · have e : cmpI (cnt x) (cnt y) = 0 := by rw [cmpI, if_neg (by omega), if_neg (by omega)]
    have h4 := h2 h3
    have h5 : U x ≠ U y := fun h' => h (U_inj h')
    have e2 : cmpI (U x) (U y) = 1 := by rw [cmpI, if_neg h4, if_pos (by omega)]
    unfold cmpS; rw [e, e2]; rfl
  · have e : cmpI (cnt x) (cnt y) = 1 := by rw [cmpI, if_neg (by omega), if_pos (by omega)]
    unfold cmpS; rw [e]; rfl

end Go.Proofs.YtmjgdnpfgkpaoaaDoor
namespace Go.Proofs.YtmjgdnpfgkpaoaaDoor

/-- the number of bits of n below N -/
def popR (N n : Nat) : Nat := ((List.range N).filter n.testBit).length
theorem popR_le (N n : Nat) : popR N n ≤ N := Nat.le_trans (List.length_filter_le _ _) (by simp)
theorem popR_add (i M a s : Nat) (hs : s < 2 ^ i) : popR (i + M) (2 ^ i * a + s) = popR i s + popR M a := by
  unfold popR
  rw [filter_range_len]
  congr 2
  · apply List.filter_congr
    intro t ht
    simp only [List.mem_range] at ht
    rw [Nat.testBit_two_pow_mul_add _ hs, if_pos ht]
  · apply List.filter_congr
    intro t _
    rw [Nat.testBit_two_pow_mul_add _ hs, if_neg (by omega), Nat.add_sub_cancel_left]
theorem popR_ones (i : Nat) : popR i (2 ^ i - 1) = i := by
  unfold popR
  rw [List.filter_eq_self.2, List.length_range]
  intro t ht
  simp only [List.mem_range] at ht
  rw [Nat.testBit_two_pow_sub_one]; simpa using ht
theorem popR_lt (i s : Nat) (h : s < 2 ^ i - 1) : popR i s < i := by
  have hle := popR_le i s
  rcases Nat.lt_or_ge (popR i s) i with h1 | h1
  · exact h1
  · exfalso
    have e : popR i s = i := by omega
    have hall : (List.range i).filter s.testBit = List.range i := by
      apply List.filter_eq_self.2
      have hl : ((List.range i).filter s.testBit).length = (List.range i).length := by rw [List.length_range]; exact e
      exact List.length_filter_eq_length_iff.1 hl
    have hs : s = 2 ^ i - 1 := by
      apply Nat.eq_of_testBit_eq
      intro t
      rw [Nat.testBit_two_pow_sub_one]
      by_cases ht : t < i
      · have : t ∈ (List.range i).filter s.testBit := by rw [hall]; simpa using ht
        simp at this
        simp [ht, this.2]
      · have : s < 2 ^ t := Nat.lt_of_lt_of_le (by omega) (Nat.pow_le_pow_right (by decide) (by omega : i ≤ t))
        rw [Nat.testBit_lt_two_pow this]; simp [ht]
    omega
theorem popR_zero (N : Nat) : popR N 0 = 0 := by
  unfold popR; rw [List.filter_eq_nil_iff.2]; rfl
  intro t _; simp
theorem popR_pos (i s : Nat) (h : s < 2 ^ i) (h0 : s ≠ 0) : 0 < popR i s := by
  obtain ⟨k, hk, _, hat, _⟩ := low_bit i s h0 h
  unfold popR
  apply List.length_pos_of_mem (a := k)
  simp [hk, hat]

theorem ones_form : ∀ q : Nat, ∃ j B, q = 2 ^ (j + 1) * B + (2 ^ j - 1) := by
  intro q
  induction q using Nat.strongRecOn with
  | _ q ih =>
    rcases Nat.mod_two_eq_zero_or_one q with h | h
    · exact ⟨0, q / 2, by simp; omega⟩
    · obtain ⟨j, B, e⟩ := ih (q / 2) (by omega)
      refine ⟨j + 1, B, ?_⟩
      have hp : 0 < 2 ^ j := Nat.two_pow_pos j
      have e1 : 2 ^ (j + 1) = 2 * 2 ^ j := by rw [Nat.pow_succ]; omega
      have e2 : 2 ^ (j + 1 + 1) * B = 2 * (2 ^ (j + 1) * B) := by rw [Nat.pow_succ 2 (j + 1), Nat.mul_comm _ 2, Nat.mul_assoc]
      omega
theorem run_form (n : Nat) (h : n ≠ 0) : ∃ i j A, n = 2 ^ (i + j + 2) * A + (2 ^ (j + 1) - 1) * 2 ^ i := by
  induction n using Nat.strongRecOn with
  | _ n ih =>
    rcases Nat.mod_two_eq_zero_or_one n with h2 | h2
    · obtain ⟨i, j, A, e⟩ := ih (n / 2) (by omega) (by omega)
      refine ⟨i + 1, j, A, ?_⟩
      have e1 : n = 2 * (n / 2) := by omega
      rw [e1, e, show i + 1 + j + 2 = (i + j + 2) + 1 by omega, Nat.pow_succ 2 (i + j + 2), Nat.pow_succ 2 i, Nat.mul_add]
      congr 1
      · rw [Nat.mul_comm _ 2, Nat.mul_assoc]
      · rw [Nat.mul_comm (2 ^ i) 2, ← Nat.mul_assoc, Nat.mul_comm 2, Nat.mul_assoc]
    · obtain ⟨j, B, e⟩ := ones_form n
      cases j with
      | zero => simp at e; omega
      | succ j => exact ⟨0, j, B, by rw [Nat.pow_zero, Nat.mul_one, Nat.zero_add]; exact e⟩

/-- the next number -/
def nextV (n : BitVec 32) : BitVec 32 := (n + (n &&& -n)) ||| (((n ^^^ (n + (n &&& -n))) / (n &&& -n)) >>> 2)

theorem xor_high (t A a b : Nat) (ha : a < 2 ^ t) (hb : b < 2 ^ t) : (2 ^ t * A + a) ^^^ (2 ^ t * A + b) = a ^^^ b := by
  apply Nat.eq_of_testBit_eq
  intro i
  rw [Nat.testBit_xor, Nat.testBit_two_pow_mul_add _ ha, Nat.testBit_two_pow_mul_add _ hb, Nat.testBit_xor]
  by_cases h : i < t
  · simp [h]
  · have h1 : a < 2 ^ i := Nat.lt_of_lt_of_le ha (Nat.pow_le_pow_right (by decide) (by omega))
    have h2 : b < 2 ^ i := Nat.lt_of_lt_of_le hb (Nat.pow_le_pow_right (by decide) (by omega))
    simp [h, Nat.testBit_lt_two_pow h1, Nat.testBit_lt_two_pow h2]

theorem xor_run (i j : Nat) : ((2 ^ j - 1) * 2 ^ i) ^^^ (2 ^ (i + j)) = (2 ^ (j + 1) - 1) * 2 ^ i := by
  apply Nat.eq_of_testBit_eq
  intro t
  rw [Nat.testBit_xor, Nat.mul_comm, Nat.mul_comm _ (2 ^ i), Nat.testBit_two_pow_mul, Nat.testBit_two_pow_mul, Nat.testBit_two_pow, Nat.testBit_two_pow_sub_one, Nat.testBit_two_pow_sub_one]
  by_cases h : i ≤ t
  · simp only [h, decide_true, Bool.true_and]
    by_cases h1 : t - i < j
    · have : ¬ i + j = t := by omega
      have h2 : t - i < j + 1 := by omega
      simp [h1, this, h2]
    · by_cases h2 : i + j = t
      · have h3 : t - i < j + 1 := by omega
        simp [h1, h2, h3]
      · have h3 : ¬ t - i < j + 1 := by omega
        simp [h1, h2, h3]
  · have : ¬ i + j = t := by omega
    simp [h, this]

theorem next_nat (n : BitVec 32) (hlt : n.toNat < 2 ^ 16) (i j A : Nat) (e : n.toNat = 2 ^ (i + j + 2) * A + (2 ^ (j + 1) - 1) * 2 ^ i) :
    (n &&& -n) = BitVec.ofNat 32 (2 ^ i) ∧ i < 16 ∧ (nextV n).toNat = 2 ^ (i + j + 2) * A + 2 ^ (i + j + 1) + (2 ^ j - 1) := by
  have hpi : 0 < 2 ^ i := Nat.two_pow_pos i
  have hpj : 0 < 2 ^ j := Nat.two_pow_pos j
  have ej : 2 ^ (j + 1) = 2 * 2 ^ j := by rw [Nat.pow_succ]; omega
  have eij : 2 ^ (i + j + 1) = 2 * 2 ^ j * 2 ^ i := by rw [show i + j + 1 = (j + 1) + i by omega, Nat.pow_add, ej]
  have eij2 : 2 ^ (i + j + 2) = 2 * (2 * 2 ^ j * 2 ^ i) := by rw [show i + j + 2 = (i + j + 1) + 1 by omega, Nat.pow_succ, eij]; omega
  have em : (2 ^ (j + 1) - 1) * 2 ^ i = 2 * 2 ^ j * 2 ^ i - 2 ^ i := by rw [ej, Nat.sub_mul, Nat.one_mul]
  have hge : 2 ^ i ≤ 2 * 2 ^ j * 2 ^ i := by
    have : 1 * 2 ^ i ≤ 2 * 2 ^ j * 2 ^ i := Nat.mul_le_mul_right _ (by omega)
    omega
  have hge2 : 2 * 2 ^ i ≤ 2 * 2 ^ j * 2 ^ i := Nat.mul_le_mul_right _ (by omega)
  -- the least bit
  have hn0 : n.toNat ≠ 0 := by rw [e, em]; omega
  obtain ⟨k, hk, hlo, hat, _, hneg⟩ := low_bit 32 n.toNat hn0 n.isLt
  have hbit : ∀ t, n.toNat.testBit t = (decide (i ≤ t) && (2 ^ (j + 2) * A + (2 ^ (j + 1) - 1)).testBit (t - i)) := by
    intro t
    have : n.toNat = 2 ^ i * (2 ^ (j + 2) * A + (2 ^ (j + 1) - 1)) := by
      rw [e, Nat.mul_add, show i + j + 2 = i + (j + 2) by omega, Nat.pow_add 2 i (j + 2), Nat.mul_assoc, Nat.mul_comm _ (2 ^ i)]
    rw [this, Nat.testBit_two_pow_mul]
  have hk1 : k = i := by
    have hi : n.toNat.testBit i = true := by
      rw [hbit, Nat.sub_self, Nat.testBit_zero]
      have : 2 ^ (j + 2) * A = 2 * (2 ^ (j + 1) * A) := by rw [Nat.pow_succ 2 (j + 1), Nat.mul_comm _ 2, Nat.mul_assoc]
      simp; omega
    have h1 : ¬ i < k := fun h => by rw [hlo i h] at hi; exact absurd hi (by decide)
    have h2 : ¬ k < i := fun h => by rw [hbit] at hat; simp [show ¬ i ≤ k by omega] at hat
    omega
  rw [hk1] at hneg
  have hi16 : i < 16 := by
    have : 2 ^ i ≤ n.toNat := by rw [e, em]; omega
    exact (Nat.pow_lt_pow_iff_right (by decide : 1 < 2)).1 (Nat.lt_of_le_of_lt this hlt)
  have hi16' : 2 ^ i < 2 ^ 16 := Nat.pow_lt_pow_right (by decide) hi16
  have hlow : (n &&& -n) = BitVec.ofNat 32 (2 ^ i) := by
    apply BitVec.eq_of_toNat_eq
    have en : (-n).toNat = 2 ^ 32 - n.toNat := by rw [BitVec.toNat_neg]; omega
    rw [BitVec.toNat_and, en, hneg, BitVec.toNat_ofNat]
    omega
  refine ⟨hlow, hi16, ?_⟩
  unfold nextV
  rw [hlow]
  have hup : (n + BitVec.ofNat 32 (2 ^ i)).toNat = 2 ^ (i + j + 2) * A + 2 ^ (i + j + 1) := by
    rw [BitVec.toNat_add, BitVec.toNat_ofNat, e, em, eij]
    have hb : 2 ^ (i + j + 2) * A + (2 * 2 ^ j * 2 ^ i - 2 ^ i) < 2 ^ 16 := by rw [← em, ← e]; exact hlt
    omega
  have hx : (n ^^^ (n + BitVec.ofNat 32 (2 ^ i))).toNat = (2 ^ (j + 2) - 1) * 2 ^ i := by
    rw [BitVec.toNat_xor, hup, e, xor_high _ _ _ _ (by rw [em, eij2]; omega) (by rw [eij2, eij]; omega)]
    have := xor_run i (j + 1)
    rw [show i + (j + 1) = i + j + 1 by omega] at this
    exact this
  have hd : ((n ^^^ (n + BitVec.ofNat 32 (2 ^ i))) / BitVec.ofNat 32 (2 ^ i)).toNat = 2 ^ (j + 2) - 1 := by
    rw [BitVec.toNat_udiv, hx, BitVec.toNat_ofNat, Nat.mod_eq_of_lt (by omega), Nat.mul_div_cancel _ hpi]
  have hs : (((n ^^^ (n + BitVec.ofNat 32 (2 ^ i))) / BitVec.ofNat 32 (2 ^ i)) >>> 2).toNat = 2 ^ j - 1 := by
    rw [BitVec.toNat_ushiftRight, hd, Nat.shiftRight_eq_div_pow, Nat.pow_add]
    omega
  rw [BitVec.toNat_or, hup, hs]
  have e3 : 2 ^ (i + j + 2) * A + 2 ^ (i + j + 1) = 2 ^ (i + j + 1) * (2 * A + 1) := by
    rw [Nat.mul_add, Nat.mul_one, ← Nat.mul_assoc, show i + j + 2 = (i + j + 1) + 1 by omega, Nat.pow_succ]
  have hjle : 2 ^ j ≤ 2 ^ (i + j + 1) := Nat.pow_le_pow_right (by decide) (by omega)
  rw [e3, Nat.two_pow_add_eq_or_of_lt (by omega)]

/-- Gosper's law: as many bits, and none between. -/
theorem next_spec (n : BitVec 32) (h0 : n ≠ 0#32) (hlt : n.toNat < 2 ^ 16) :
    n.toNat < (nextV n).toNat ∧ popR 32 (nextV n).toNat = popR 32 n.toNat ∧ ∀ m, n.toNat < m → m < (nextV n).toNat → popR 32 m ≠ popR 32 n.toNat := by
  have hn0 : n.toNat ≠ 0 := fun e => h0 (BitVec.eq_of_toNat_eq (by simpa using e))
  obtain ⟨i, j, A, e⟩ := run_form n.toNat hn0
  obtain ⟨_, hi16, hnext⟩ := next_nat n hlt i j A e
  have hpi : 0 < 2 ^ i := Nat.two_pow_pos i
  have hpj : 0 < 2 ^ j := Nat.two_pow_pos j
  have ej : 2 ^ (j + 1) = 2 * 2 ^ j := by rw [Nat.pow_succ]; omega
  have eij : 2 ^ (i + j + 1) = 2 * 2 ^ j * 2 ^ i := by rw [show i + j + 1 = (j + 1) + i by omega, Nat.pow_add, ej]
  have eij2 : 2 ^ (i + j + 2) = 2 * (2 * 2 ^ j * 2 ^ i) := by rw [show i + j + 2 = (i + j + 1) + 1 by omega, Nat.pow_succ, eij]; omega
  have em : (2 ^ (j + 1) - 1) * 2 ^ i = 2 * 2 ^ j * 2 ^ i - 2 ^ i := by rw [ej, Nat.sub_mul, Nat.one_mul]
  have hge2 : 2 * 2 ^ i ≤ 2 * 2 ^ j * 2 ^ i := Nat.mul_le_mul_right _ (by omega)
  have hjle : 2 ^ j ≤ 2 ^ (i + j + 1) := Nat.pow_le_pow_right (by decide) (by omega)
  have hsmall : i + j + 2 ≤ 32 := by
    have h1 : 2 ^ (i + j) ≤ n.toNat := by
      rw [e, em]
      have : 2 ^ (i + j) = 2 ^ j * 2 ^ i := by rw [Nat.add_comm, Nat.pow_add]
      have : 2 * 2 ^ j * 2 ^ i = 2 ^ j * 2 ^ i + 2 ^ j * 2 ^ i := by rw [Nat.mul_assoc]; omega
      have : 1 * 2 ^ i ≤ 2 ^ j * 2 ^ i := Nat.mul_le_mul_right _ (by omega)
      omega
    have := (Nat.pow_lt_pow_iff_right (by decide : 1 < 2)).1 (Nat.lt_of_le_of_lt h1 hlt)
    omega
  obtain ⟨M, hM⟩ : ∃ M, 32 = i + j + 2 + M := ⟨32 - (i + j + 2), by omega⟩
  -- the bits of the parts
  have pn : popR 32 n.toNat = (j + 1) + popR M A := by
    rw [e, hM, popR_add _ _ _ _ (by rw [em, eij2]; omega)]
    congr 1
    have := popR_add i (j + 2) (2 ^ (j + 1) - 1) 0 hpi
    simp only [Nat.add_zero] at this
    rw [popR_zero, Nat.zero_add, Nat.mul_comm, show i + (j + 2) = i + j + 2 by omega] at this
    rw [this]
    have h2 := popR_add (j + 1) 1 0 (2 ^ (j + 1) - 1) (by omega)
    rw [Nat.mul_zero, Nat.zero_add, popR_zero, popR_ones] at h2
    exact h2
  have pm : ∀ s, s < 2 ^ (i + j + 1) → popR 32 (2 ^ (i + j + 2) * A + 2 ^ (i + j + 1) + s) = popR (i + j + 1) s + 1 + popR M A := by
    intro s hs
    have h9 := popR_add (i + j + 2) M A (2 ^ (i + j + 1) + s) (by rw [eij2, ← eij]; omega)
    rw [← hM, ← Nat.add_assoc] at h9
    rw [h9]
    congr 1
    have h2 := popR_add (i + j + 1) 1 1 s hs
    rw [Nat.mul_one] at h2
    rw [h2]
    congr 1
  have pj : popR (i + j + 1) (2 ^ j - 1) = j := by
    have h2 := popR_add j (i + 1) 0 (2 ^ j - 1) (by omega)
    rw [Nat.mul_zero, Nat.zero_add, popR_zero, popR_ones, show j + (i + 1) = i + j + 1 by omega] at h2
    exact h2
  refine ⟨?_, ?_, ?_⟩
  · rw [hnext, e, em, eij]; omega
  · rw [hnext, pm _ (by omega), pj, pn, Nat.add_assoc]
  · intro m h1 h2
    rw [hnext] at h2
    rw [pn]
    by_cases hm : m < 2 ^ (i + j + 2) * A + 2 ^ (i + j + 1)
    · -- more bits
      obtain ⟨s, hs⟩ : ∃ s, m = 2 ^ (i + j + 2) * A + ((2 ^ (j + 1) - 1) * 2 ^ i + s) := ⟨m - n.toNat, by omega⟩
      have hs0 : s ≠ 0 := by omega
      have hs1 : s < 2 ^ i := by rw [hs, em, eij] at hm; omega
      rw [hs, hM, popR_add _ _ _ _ (by rw [em, eij2]; omega)]
      have h3 := popR_add i (j + 2) (2 ^ (j + 1) - 1) s hs1
      rw [Nat.mul_comm, show i + (j + 2) = i + j + 2 by omega] at h3
      have h4 := popR_add (j + 1) 1 0 (2 ^ (j + 1) - 1) (by omega)
      rw [Nat.mul_zero, Nat.zero_add, popR_zero, popR_ones, show j + 1 + 1 = j + 2 by omega] at h4
      have h5 := popR_pos i s hs1 hs0
      rw [h3, h4]
      omega
    · obtain ⟨s, hs⟩ : ∃ s, m = 2 ^ (i + j + 2) * A + 2 ^ (i + j + 1) + s := ⟨m - (2 ^ (i + j + 2) * A + 2 ^ (i + j + 1)), by omega⟩
      have hs1 : s < 2 ^ j - 1 := by omega
      rw [hs, pm s (by omega)]
      have h2 := popR_add j (i + 1) 0 s (by omega)
      rw [Nat.mul_zero, Nat.zero_add, popR_zero, show j + (i + 1) = i + j + 1 by omega] at h2
      have h3 := popR_lt j s hs1
      omega
end Go.Proofs.YtmjgdnpfgkpaoaaDoor
