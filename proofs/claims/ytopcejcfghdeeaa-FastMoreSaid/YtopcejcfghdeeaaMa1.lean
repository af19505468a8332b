/- Plain arithmetic of sets: the least bit, counting bits. No program. -/
import Derived.Test.YtopcejcfghdeeaaBv
import Derived.Lib.BitFns
namespace Go.Proofs.Ytopcejcfghdeeaa

theorem bit_and (a b : Nat) (p q : Bool) : (2 * a + p.toNat) &&& (2 * b + q.toNat) = 2 * (a &&& b) + (p && q).toNat := by
  have d : ∀ (m : Nat) (r : Bool), (2 * m + r.toNat) / 2 = m ∧ (2 * m + r.toNat) % 2 = r.toNat := by
    intro m r; cases r <;> simp <;> omega
  apply Nat.eq_of_testBit_eq
  intro i
  cases i with
  | zero =>
    rw [Nat.testBit_and, Nat.testBit_zero, Nat.testBit_zero, Nat.testBit_zero, (d a p).2, (d b q).2, (d (a &&& b) (p && q)).2]
    cases p <;> cases q <;> rfl
  | succ i =>
    rw [Nat.testBit_and, Nat.testBit_succ, Nat.testBit_succ, Nat.testBit_succ, (d a p).1, (d b q).1, (d (a &&& b) (p && q)).1, Nat.testBit_and]

theorem and_compl (w : Nat) : ∀ m, m < 2 ^ w → m &&& (2 ^ w - 1 - m) = 0 := by
  induction w with
  | zero => intro m hm; simp at hm; subst hm; rfl
  | succ w ih =>
    intro m hm
    have h2 : 2 ^ (w + 1) = 2 * 2 ^ w := by rw [Nat.pow_succ]; omega
    have hp : 0 < 2 ^ w := Nat.two_pow_pos w
    have := ih (m / 2) (by omega)
    have hb := Nat.mod_two_eq_zero_or_one m
    rcases hb with hb | hb
    · have e1 : m = 2 * (m / 2) + false.toNat := by simp; omega
      have e2 : 2 ^ (w + 1) - 1 - m = 2 * (2 ^ w - 1 - m / 2) + true.toNat := by simp; omega
      rw [e2]; rw [e1]; rw [show (2 * (m / 2) + false.toNat) / 2 = m / 2 by simp]; rw [bit_and, this]; rfl
    · have e1 : m = 2 * (m / 2) + true.toNat := by simp; omega
      have e2 : 2 ^ (w + 1) - 1 - m = 2 * (2 ^ w - 1 - m / 2) + false.toNat := by simp; omega
      rw [e2]
      have e3 : m &&& (2 * (2 ^ w - 1 - m / 2) + false.toNat) = (2 * (m / 2) + true.toNat) &&& (2 * (2 ^ w - 1 - m / 2) + false.toNat) := by rw [← e1]
      rw [e3, bit_and, this]; rfl

theorem low_bit (w : Nat) : ∀ n, n ≠ 0 → n < 2 ^ w → ∃ k, k < w ∧ (∀ j, j < k → n.testBit j = false) ∧ n.testBit k = true ∧ (∀ i, (n &&& (n - 1)).testBit i = (n.testBit i && decide (i ≠ k))) ∧ n &&& (2 ^ w - n) = 2 ^ k := by
  induction w with
  | zero => intro n h0 h1; simp at h1; exact absurd h1 h0
  | succ w ih =>
    intro n h0 h1
    have h2 : 2 ^ (w + 1) = 2 * 2 ^ w := by rw [Nat.pow_succ]; omega
    have hp : 0 < 2 ^ w := Nat.two_pow_pos w
    rcases Nat.mod_two_eq_zero_or_one n with hb | hb
    · obtain ⟨m, rfl⟩ : ∃ m, n = 2 * m := ⟨n / 2, by omega⟩
      obtain ⟨k, hk, hlo, hat, hand, hneg⟩ := ih m (by omega) (by omega)
      refine ⟨k + 1, by omega, ?_, ?_, ?_, ?_⟩
      · intro j hj
        cases j with
        | zero => rw [Nat.testBit_zero]; simp
        | succ j => rw [Nat.testBit_succ, show 2 * m / 2 = m by omega]; exact hlo j (by omega)
      · rw [Nat.testBit_succ, show 2 * m / 2 = m by omega]; exact hat
      · intro i
        have e : 2 * m &&& (2 * m - 1) = 2 * (m &&& (m - 1)) := by
          have := bit_and m (m - 1) false true
          rw [show 2 * m - 1 = 2 * (m - 1) + true.toNat by simp; omega]
          simpa using this
        rw [e]
        cases i with
        | zero => rw [Nat.testBit_zero, Nat.testBit_zero]; simp
        | succ i =>
          rw [Nat.testBit_succ, Nat.testBit_succ, show 2 * (m &&& (m - 1)) / 2 = m &&& (m - 1) by omega, show 2 * m / 2 = m by omega, hand]
          simp
      · have e : 2 * m &&& (2 ^ (w + 1) - 2 * m) = 2 * (m &&& (2 ^ w - m)) := by
          have := bit_and m (2 ^ w - m) false false
          rw [show 2 ^ (w + 1) - 2 * m = 2 * (2 ^ w - m) + false.toNat by simp; omega]
          simpa using this
        rw [e, hneg, Nat.pow_succ]; omega
    · obtain ⟨m, rfl⟩ : ∃ m, n = 2 * m + 1 := ⟨n / 2, by omega⟩
      refine ⟨0, by omega, fun j hj => absurd hj (by omega), by rw [Nat.testBit_zero]; simp, ?_, ?_⟩
      · intro i
        have e : (2 * m + 1) &&& (2 * m + 1 - 1) = 2 * m := by
          have := bit_and m m true false
          simp at this
          simpa using this
        rw [e]
        cases i with
        | zero => rw [Nat.testBit_zero]; simp
        | succ i => rw [Nat.testBit_succ, Nat.testBit_succ, show 2 * m / 2 = m by omega, show (2 * m + 1) / 2 = m by omega]; simp
      · have e := bit_and m (2 ^ w - 1 - m) true true
        have c := and_compl w m (by omega)
        rw [c] at e
        rw [show 2 ^ (w + 1) - (2 * m + 1) = 2 * (2 ^ w - 1 - m) + true.toNat by simp; omega]
        simpa using e

/-- the members, ascending -/
def memS (x : BitVec 16) : List Nat := (List.range 16).filter (hasB x)
def cnt (x : BitVec 16) : Nat := (memS x).length

theorem hasB_nat (x : BitVec 16) (i : Nat) : hasB x i = x.toNat.testBit i := rfl

theorem filter_low (p : Nat → Bool) (k N : Nat) (hk : k < N) (h1 : p k = true) (h0 : ∀ j, j < k → p j = false) :
    (List.range N).filter p = k :: (List.range N).filter (fun i => p i && decide (i ≠ k)) := by
  have e : List.range N = List.range k ++ k :: List.range' (k + 1) (N - k - 1) := by
    rw [List.range_eq_range', List.range_eq_range']
    have a := List.range'_append_1 (s := 0) (m := k) (n := N - k)
    rw [show k + (N - k) = N by omega, Nat.zero_add] at a
    rw [← a]
    congr 1
    rw [show N - k = (N - k - 1) + 1 by omega, List.range'_succ]
    simp
  have n1 : (List.range k).filter p = [] := by
    rw [List.filter_eq_nil_iff]; intro j hj; simp at hj; simp [h0 j hj]
  have n2 : (List.range k).filter (fun i => p i && decide (i ≠ k)) = [] := by
    rw [List.filter_eq_nil_iff]; intro j hj; simp at hj; simp [h0 j hj]
  have n3 : (List.range' (k + 1) (N - k - 1)).filter (fun i => p i && decide (i ≠ k)) = (List.range' (k + 1) (N - k - 1)).filter p := by
    apply List.filter_congr
    intro i hi
    have := (List.mem_range'_1.1 hi).1
    have : i ≠ k := by omega
    simp [this]
  rw [e, List.filter_append, List.filter_append, n1, n2, List.filter_cons, List.filter_cons, n3]
  simp [h1]

/-- a set with a member: the least one, and the rest. -/
theorem memS_step (x : BitVec 16) (h : x ≠ 0#16) : ∃ k, k < 16 ∧ x &&& -x = bitS k ∧ hasB x k = true ∧ memS x = k :: memS (x &&& (x - 1#16)) := by
  have h0 : x.toNat ≠ 0 := fun e => h (BitVec.eq_of_toNat_eq (by simpa using e))
  have hlt := x.isLt
  obtain ⟨k, hk, hlo, hat, hand, hneg⟩ := low_bit 16 x.toNat h0 hlt
  have es : (x - 1#16).toNat = x.toNat - 1 := by rw [BitVec.toNat_sub]; simp; omega
  have en : (-x).toNat = 2 ^ 16 - x.toNat := by rw [BitVec.toNat_neg]; omega
  refine ⟨k, hk, ?_, hat, ?_⟩
  · apply BitVec.eq_of_toNat_eq
    rw [BitVec.toNat_and, en, hneg, bitS, BitVec.toNat_shiftLeft]
    simp only [BitVec.toNat_ofNat, Nat.shiftLeft_eq]
    have : 2 ^ k < 2 ^ 16 := Nat.pow_lt_pow_right (by decide) hk
    omega
  · unfold memS
    rw [filter_low (hasB x) k 16 hk hat (fun j hj => hlo j hj)]
    congr 1
    apply List.filter_congr
    intro i _
    rw [hasB_nat, hasB_nat, BitVec.toNat_and, es, hand]

theorem memS_zero : memS 0#16 = [] := by decide
theorem cnt_step (x : BitVec 16) (h : x ≠ 0#16) : cnt x = cnt (x &&& (x - 1#16)) + 1 := by
  obtain ⟨k, _, _, _, e⟩ := memS_step x h
  unfold cnt; rw [e]; rfl
theorem cnt_le (x : BitVec 16) : cnt x ≤ 16 := Nat.le_trans (List.length_filter_le _ _) (by simp)

/-! counting by two tables -/
theorem pop8_bits : ∀ n : Fin 256, Lib.pop8 (n.val : Int) = (((List.range 8).filter n.val.testBit).length : Int) := by decide +kernel

theorem filter_range_len (p : Nat → Bool) (a b : Nat) : ((List.range (a + b)).filter p).length = ((List.range a).filter p).length + ((List.range b).filter (fun i => p (a + i))).length := by
  rw [List.range_add, List.filter_append, List.length_append, List.filter_map, List.length_map]
  rfl

theorem cnt_tables (x : BitVec 16) : ∃ hi lo : Nat, hi < 256 ∧ lo < 256 ∧ U (shrS x 8) = hi ∧ bits .and .u16 (U x) 255 = lo ∧ Lib.pop8 hi + Lib.pop8 lo = cnt x := by
  have hlt := x.isLt
  refine ⟨(x >>> 8).toNat, (x &&& 255#16).toNat, ?_, ?_, rfl, bv16_and x 255#16, ?_⟩
  · rw [BitVec.toNat_ushiftRight, Nat.shiftRight_eq_div_pow]; omega
  · rw [BitVec.toNat_and]; exact Nat.lt_of_le_of_lt Nat.and_le_right (by decide)
  · have h1 : (x >>> 8).toNat < 256 := by rw [BitVec.toNat_ushiftRight, Nat.shiftRight_eq_div_pow]; omega
    have h2 : (x &&& 255#16).toNat < 256 := by rw [BitVec.toNat_and]; exact Nat.lt_of_le_of_lt Nat.and_le_right (by decide)
    have a1 := pop8_bits ⟨_, h1⟩
    have a2 := pop8_bits ⟨_, h2⟩
    simp only at a1 a2
    rw [a1, a2]
    have e := filter_range_len (hasB x) 8 8
    have e1 : (List.range 8).filter (x &&& 255#16).toNat.testBit = (List.range 8).filter (hasB x) := by
      apply List.filter_congr
      intro i hi
      simp only [List.mem_range] at hi
      rw [hasB_nat, BitVec.toNat_and, Nat.testBit_and]
      have : (255#16).toNat.testBit i = true := by
        have : ∀ i : Fin 8, (255#16).toNat.testBit i.val = true := by decide
        exact this ⟨i, hi⟩
      rw [this, Bool.and_true]
    have e2 : (List.range 8).filter (x >>> 8).toNat.testBit = (List.range 8).filter (fun i => hasB x (8 + i)) := by
      apply List.filter_congr
      intro i _
      rw [hasB_nat, BitVec.toNat_ushiftRight, Nat.testBit_shiftRight]
    have e3 : cnt x = ((List.range (8 + 8)).filter (hasB x)).length := rfl
    rw [e3, e, e1, e2]
    omega
end Go.Proofs.Ytopcejcfghdeeaa
