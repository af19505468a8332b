/- Bit vectors for Go's unsigned integers: the walk's terms on sets (uint16) and masks (uint32) in BitVec's words. 'U x', 'V x' are the numbers of a set and of a mask (plain definitions, so that the walk's simp does not open them). Plain lemmas, no program. -/
import Derived.WalkKit
import Derived.WalkLawsBesides
namespace Go.Proofs.Ytopcejcfghdeeaa
open Go.RowKit

def U (x : BitVec 16) : Int := (x.toNat : Int)
def V (x : BitVec 32) : Int := (x.toNat : Int)
/-- is n a member? -/
def hasB (x : BitVec 16) (n : Nat) : Bool := x.getLsbD n
def bitS (n : Nat) : BitVec 16 := 1#16 <<< n
def shrS (x : BitVec 16) (n : Nat) : BitVec 16 := x >>> n
def hasV (x : BitVec 32) (n : Nat) : Bool := x.getLsbD n
def bitV (n : Nat) : BitVec 32 := 1#32 <<< n
def shrV (x : BitVec 32) (n : Nat) : BitVec 32 := x >>> n
/-- 0 or 1 -/
def b01 (b : Bool) : Int := if b then 1 else 0

theorem U_bd (x : BitVec 16) : 0 ≤ U x ∧ U x < 65536 := by have := x.isLt; unfold U; omega
theorem V_bd (x : BitVec 32) : 0 ≤ V x ∧ V x < 4294967296 := by have := x.isLt; unfold V; omega
theorem U_inj {x y : BitVec 16} (h : U x = U y) : x = y := by
  apply BitVec.eq_of_toNat_eq; unfold U at h; omega
theorem V_inj {x y : BitVec 32} (h : V x = V y) : x = y := by
  apply BitVec.eq_of_toNat_eq; unfold V at h; omega
theorem U_wf (x : BitVec 16) : (Lit.int .u16 (U x)).wf = true := by
  have := U_bd x; simp [Lit.wf, IntKind.min, IntKind.max, IntKind.bits, IntKind.signed]; omega
theorem U_of {n : Int} (h : 0 ≤ n ∧ n < 65536) : ∃ x : BitVec 16, n = U x := by
  refine ⟨BitVec.ofNat 16 n.toNat, ?_⟩; simp [U]; omega
theorem U_wrap (x : BitVec 16) : IntKind.u16.wrap (U x) = U x := by
  have := U_bd x; rw [IntKind.wrap_u16]; omega
theorem V_wrap (x : BitVec 32) : IntKind.u32.wrap (V x) = V x := by
  have := V_bd x; rw [IntKind.wrap_u32']; omega
theorem U_ofInt (x : BitVec 16) : BitVec.ofInt 16 (U x) = x := by simp [U]
theorem V_ofInt (x : BitVec 32) : BitVec.ofInt 32 (V x) = x := by simp [V]

@[go_sem] theorem bv16_and (x y : BitVec 16) : bits .and .u16 (U x) (U y) = U (x &&& y) := by
  show IntKind.u16.wrap (U (BitVec.ofInt 16 (U x) &&& BitVec.ofInt 16 (U y))) = _
  rw [U_ofInt, U_ofInt, U_wrap]
@[go_sem] theorem bv16_or (x y : BitVec 16) : bits .or .u16 (U x) (U y) = U (x ||| y) := by
  show IntKind.u16.wrap (U (BitVec.ofInt 16 (U x) ||| BitVec.ofInt 16 (U y))) = _
  rw [U_ofInt, U_ofInt, U_wrap]
@[go_sem] theorem bv16_xor (x y : BitVec 16) : bits .xor .u16 (U x) (U y) = U (x ^^^ y) := by
  show IntKind.u16.wrap (U (BitVec.ofInt 16 (U x) ^^^ BitVec.ofInt 16 (U y))) = _
  rw [U_ofInt, U_ofInt, U_wrap]
@[go_sem] theorem bv16_andNot (x y : BitVec 16) : bits .andNot .u16 (U x) (U y) = U (x &&& ~~~y) := by
  show IntKind.u16.wrap (U (BitVec.ofInt 16 (U x) &&& ~~~BitVec.ofInt 16 (U y))) = _
  rw [U_ofInt, U_ofInt, U_wrap]
@[simp] theorem U_zero : U 0#16 = 0 := rfl
@[simp] theorem V_zero : V 0#32 = 0 := rfl
@[go_sem] theorem bv16_or0 (y : BitVec 16) : bits .or .u16 0 (U y) = U y := by
  rw [← U_zero, bv16_or, BitVec.zero_or]
@[go_sem] theorem bv16_andNot_l (n : Nat) (h : n < 65536) (y : BitVec 16) : bits .andNot .u16 (n : Int) (U y) = U (BitVec.ofNat 16 n &&& ~~~y) := by
  have e : (n : Int) = U (BitVec.ofNat 16 n) := by simp [U]; omega
  rw [e, bv16_andNot]
@[go_sem] theorem bv16_shr (x : BitVec 16) (n : Nat) : (U x) / 2 ^ n = U (shrS x n) := by
  unfold U shrS; rw [BitVec.toNat_ushiftRight, Nat.shiftRight_eq_div_pow]; simp
@[go_sem] theorem bv32_shr (x : BitVec 32) (n : Nat) : (V x) / 2 ^ n = V (shrV x n) := by
  unfold V shrV; rw [BitVec.toNat_ushiftRight, Nat.shiftRight_eq_div_pow]; simp
@[go_sem] theorem bv16_bit (x : BitVec 16) (n : Nat) : bits .and .u16 (U (shrS x n)) 1 = b01 (hasB x n) := by
  rw [show (1 : Int) = U 1#16 from rfl, bv16_and]
  unfold U shrS hasB b01
  have h1 : ((x >>> n) &&& 1#16).toNat = (x.toNat >>> n) % 2 := by
    rw [BitVec.toNat_and, BitVec.toNat_ushiftRight]; exact Nat.and_one_is_mod _
  have h2 : x.getLsbD n = decide ((x.toNat >>> n) % 2 = 1) := by
    show x.toNat.testBit n = _
    rw [Nat.testBit_eq_decide_div_mod_eq, Nat.shiftRight_eq_div_pow]
  rw [h1, h2]
  have h3 : (x.toNat >>> n) % 2 = 0 ∨ (x.toNat >>> n) % 2 = 1 := by omega
  rcases h3 with h3 | h3 <;> rw [h3] <;> rfl
@[go_sem] theorem bv32_and (x y : BitVec 32) : bits .and .u32 (V x) (V y) = V (x &&& y) := by
  show IntKind.u32.wrap (V (BitVec.ofInt 32 (V x) &&& BitVec.ofInt 32 (V y))) = _
  rw [V_ofInt, V_ofInt, V_wrap]
@[go_sem] theorem bv32_or (x y : BitVec 32) : bits .or .u32 (V x) (V y) = V (x ||| y) := by
  show IntKind.u32.wrap (V (BitVec.ofInt 32 (V x) ||| BitVec.ofInt 32 (V y))) = _
  rw [V_ofInt, V_ofInt, V_wrap]
@[go_sem] theorem bv32_xor (x y : BitVec 32) : bits .xor .u32 (V x) (V y) = V (x ^^^ y) := by
  show IntKind.u32.wrap (V (BitVec.ofInt 32 (V x) ^^^ BitVec.ofInt 32 (V y))) = _
  rw [V_ofInt, V_ofInt, V_wrap]
@[go_sem] theorem bv32_bit (x : BitVec 32) (n : Nat) : bits .and .u32 (V (shrV x n)) 1 = b01 (hasV x n) := by
  rw [show (1 : Int) = V 1#32 from rfl, bv32_and]
  unfold V shrV hasV b01
  have h1 : ((x >>> n) &&& 1#32).toNat = (x.toNat >>> n) % 2 := by
    rw [BitVec.toNat_and, BitVec.toNat_ushiftRight]; exact Nat.and_one_is_mod _
  have h2 : x.getLsbD n = decide ((x.toNat >>> n) % 2 = 1) := by
    show x.toNat.testBit n = _
    rw [Nat.testBit_eq_decide_div_mod_eq, Nat.shiftRight_eq_div_pow]
  rw [h1, h2]
  have h3 : (x.toNat >>> n) % 2 = 0 ∨ (x.toNat >>> n) % 2 = 1 := by omega
  rcases h3 with h3 | h3 <;> rw [h3] <;> rfl
@[go_sem] theorem b01_beq (b : Bool) : (b01 b == 1) = b := by cases b <;> rfl
@[go_sem] theorem b01_beq0 (b : Bool) : (b01 b == 0) = !b := by cases b <;> rfl
@[go_sem] theorem bv16_shl1 (n : Nat) : IntKind.u16.wrap (2 ^ n) = U (bitS n) := by
  rw [IntKind.wrap_u16]; unfold U bitS; rw [BitVec.toNat_shiftLeft]; simp [Nat.shiftLeft_eq]
@[go_sem] theorem bv32_shl1 (n : Nat) : IntKind.u32.wrap (2 ^ n) = V (bitV n) := by
  rw [IntKind.wrap_u32']; unfold V bitV; rw [BitVec.toNat_shiftLeft]; simp [Nat.shiftLeft_eq]
@[go_sem] theorem bv16_sub1 (x : BitVec 16) : IntKind.u16.wrap (U x - 1) = U (x - 1#16) := by
  rw [IntKind.wrap_u16]; unfold U; rw [BitVec.toNat_sub]; have := x.isLt; simp; omega
@[go_sem] theorem bv32_sub1 (x : BitVec 32) : IntKind.u32.wrap (V x - 1) = V (x - 1#32) := by
  rw [IntKind.wrap_u32']; unfold V; rw [BitVec.toNat_sub]; have := x.isLt; simp; omega
@[go_sem] theorem bv32_add (x y : BitVec 32) : IntKind.u32.wrap (V x + V y) = V (x + y) := by
  rw [IntKind.wrap_u32']; unfold V; rw [BitVec.toNat_add]; omega
@[go_sem] theorem bv32_neg (x : BitVec 32) : IntKind.u32.wrap (-V x) = V (-x) := by
  rw [IntKind.wrap_u32']; unfold V; rw [BitVec.toNat_neg]; have := x.isLt; omega
@[go_sem] theorem bv16_beq (x y : BitVec 16) : (U x == U y) = (x == y) := by
  rw [Bool.eq_iff_iff]; simp only [beq_iff_eq]; exact ⟨U_inj, fun h => by rw [h]⟩
@[go_sem] theorem bv16_bne (x y : BitVec 16) : (U x != U y) = (x != y) := by
  rw [bne, bv16_beq]; rfl
@[go_sem] theorem bv16_bne0 (x : BitVec 16) : (U x != 0) = (x != 0#16) := by rw [← U_zero, bv16_bne]
@[go_sem] theorem bv16_beq0 (x : BitVec 16) : (U x == 0) = (x == 0#16) := by rw [← U_zero, bv16_beq]
@[go_sem] theorem bv32_beq (x y : BitVec 32) : (V x == V y) = (x == y) := by
  rw [Bool.eq_iff_iff]; simp only [beq_iff_eq]; exact ⟨V_inj, fun h => by rw [h]⟩
@[go_sem] theorem bv32_beq0 (x : BitVec 32) : (V x == 0) = (x == 0#32) := by rw [← V_zero, bv32_beq]
end Go.Proofs.Ytopcejcfghdeeaa
