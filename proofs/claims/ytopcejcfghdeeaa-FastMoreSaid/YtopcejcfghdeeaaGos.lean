/- The next greater number with as many bits (Gosper). Plain arithmetic, no program. -/
import Derived.Test.YtopcejcfghdeeaaMa1
namespace Go.Proofs.Ytopcejcfghdeeaa

/-- the number of bits of n below N -/
def popR (N n : Nat) : Nat := ((List.range N).filter n.testBit).length
theorem popR_le (N n : Nat) : popR N n ≤ N := Nat.le_trans (List.length_filter_le _ _) (by simp)
theorem popR_add (i M a s : Nat) (hs : s < 2 ^ i) : popR (i + M) (2 ^ i * a + s) = popR i s + popR M a := by
  unfold popR
  rw [filter_range_len]
  congr 2
  · apply List.filter_congr
    intro t ht
    simp only [List.mem_range] at ht
    rw [Nat.testBit_two_pow_mul_add _ hs, if_pos ht]
  · apply List.filter_congr
    intro t _
    rw [Nat.testBit_two_pow_mul_add _ hs, if_neg (by omega), Nat.add_sub_cancel_left]
theorem popR_ones (i : Nat) : popR i (2 ^ i - 1) = i := by
  unfold popR
  rw [List.filter_eq_self.2, List.length_range]
  intro t ht
  simp only [List.mem_range] at ht
  rw [Nat.testBit_two_pow_sub_one]; simpa using ht
theorem popR_lt (i s : Nat) (h : s < 2 ^ i - 1) : popR i s < i := by
  have hle := popR_le i s
  rcases Nat.lt_or_ge (popR i s) i with h1 | h1
  · exact h1
  · exfalso
    have e : popR i s = i := by omega
    have hall : (List.range i).filter s.testBit = List.range i := by
      apply List.filter_eq_self.2
      have hl : ((List.range i).filter s.testBit).length = (List.range i).length := by rw [List.length_range]; exact e
      exact List.length_filter_eq_length_iff.1 hl
    have hs : s = 2 ^ i - 1 := by
      apply Nat.eq_of_testBit_eq
      intro t
      rw [Nat.testBit_two_pow_sub_one]
      by_cases ht : t < i
      · have : t ∈ (List.range i).filter s.testBit := by rw [hall]; simpa using ht
        simp at this
        simp [ht, this.2]
      · have : s < 2 ^ t := Nat.lt_of_lt_of_le (by omega) (Nat.pow_le_pow_right (by decide) (by omega : i ≤ t))
        rw [Nat.testBit_lt_two_pow this]; simp [ht]
    omega
theorem popR_zero (N : Nat) : popR N 0 = 0 := by
  unfold popR; rw [List.filter_eq_nil_iff.2]; rfl
  intro t _; simp
theorem popR_pos (i s : Nat) (h : s < 2 ^ i) (h0 : s ≠ 0) : 0 < popR i s := by
  obtain ⟨k, hk, _, hat, _⟩ := low_bit i s h0 h
  unfold popR
  apply List.length_pos_of_mem (a := k)
  simp [hk, hat]

theorem ones_form : ∀ q : Nat, ∃ j B, q = 2 ^ (j + 1) * B + (2 ^ j - 1) := by
  intro q
  induction q using Nat.strongRecOn with
  | _ q ih =>
    rcases Nat.mod_two_eq_zero_or_one q with h | h
    · exact ⟨0, q / 2, by simp; omega⟩
    · obtain ⟨j, B, e⟩ := ih (q / 2) (by omega)
      refine ⟨j + 1, B, ?_⟩
      have hp : 0 < 2 ^ j := Nat.two_pow_pos j
      have e1 : 2 ^ (j + 1) = 2 * 2 ^ j := by rw [Nat.pow_succ]; omega
      have e2 : 2 ^ (j + 1 + 1) * B = 2 * (2 ^ (j + 1) * B) := by rw [Nat.pow_succ 2 (j + 1), Nat.mul_comm _ 2, Nat.mul_assoc]
      omega
theorem run_form (n : Nat) (h : n ≠ 0) : ∃ i j A, n = 2 ^ (i + j + 2) * A + (2 ^ (j + 1) - 1) * 2 ^ i := by
  induction n using Nat.strongRecOn with
  | _ n ih =>
    rcases Nat.mod_two_eq_zero_or_one n with h2 | h2
    · obtain ⟨i, j, A, e⟩ := ih (n / 2) (by omega) (by omega)
      refine ⟨i + 1, j, A, ?_⟩
      have e1 : n = 2 * (n / 2) := by omega
      rw [e1, e, show i + 1 + j + 2 = (i + j + 2) + 1 by omega, Nat.pow_succ 2 (i + j + 2), Nat.pow_succ 2 i, Nat.mul_add]
      congr 1
      · rw [Nat.mul_comm _ 2, Nat.mul_assoc]
      · rw [Nat.mul_comm (2 ^ i) 2, ← Nat.mul_assoc, Nat.mul_comm 2, Nat.mul_assoc]
    · obtain ⟨j, B, e⟩ := ones_form n
      cases j with
      | zero => simp at e; omega
      | succ j => exact ⟨0, j, B, by rw [Nat.pow_zero, Nat.mul_one, Nat.zero_add]; exact e⟩

/-- the next number -/
def nextV (n : BitVec 32) : BitVec 32 := (n + (n &&& -n)) ||| (((n ^^^ (n + (n &&& -n))) / (n &&& -n)) >>> 2)

theorem xor_high (t A a b : Nat) (ha : a < 2 ^ t) (hb : b < 2 ^ t) : (2 ^ t * A + a) ^^^ (2 ^ t * A + b) = a ^^^ b := by
  apply Nat.eq_of_testBit_eq
  intro i
  rw [Nat.testBit_xor, Nat.testBit_two_pow_mul_add _ ha, Nat.testBit_two_pow_mul_add _ hb, Nat.testBit_xor]
  by_cases h : i < t
  · simp [h]
  · have h1 : a < 2 ^ i := Nat.lt_of_lt_of_le ha (Nat.pow_le_pow_right (by decide) (by omega))
    have h2 : b < 2 ^ i := Nat.lt_of_lt_of_le hb (Nat.pow_le_pow_right (by decide) (by omega))
    simp [h, Nat.testBit_lt_two_pow h1, Nat.testBit_lt_two_pow h2]

theorem xor_run (i j : Nat) : ((2 ^ j - 1) * 2 ^ i) ^^^ (2 ^ (i + j)) = (2 ^ (j + 1) - 1) * 2 ^ i := by
  apply Nat.eq_of_testBit_eq
  intro t
  rw [Nat.testBit_xor, Nat.mul_comm, Nat.mul_comm _ (2 ^ i), Nat.testBit_two_pow_mul, Nat.testBit_two_pow_mul, Nat.testBit_two_pow, Nat.testBit_two_pow_sub_one, Nat.testBit_two_pow_sub_one]
  by_cases h : i ≤ t
  · simp only [h, decide_true, Bool.true_and]
    by_cases h1 : t - i < j
    · have : ¬ i + j = t := by omega
      have h2 : t - i < j + 1 := by omega
      simp [h1, this, h2]
    · by_cases h2 : i + j = t
      · have h3 : t - i < j + 1 := by omega
        simp [h1, h2, h3]
      · have h3 : ¬ t - i < j + 1 := by omega
        simp [h1, h2, h3]
  · have : ¬ i + j = t := by omega
    simp [h, this]

theorem next_nat (n : BitVec 32) (hlt : n.toNat < 2 ^ 16) (i j A : Nat) (e : n.toNat = 2 ^ (i + j + 2) * A + (2 ^ (j + 1) - 1) * 2 ^ i) :
    (n &&& -n) = BitVec.ofNat 32 (2 ^ i) ∧ i < 16 ∧ (nextV n).toNat = 2 ^ (i + j + 2) * A + 2 ^ (i + j + 1) + (2 ^ j - 1) := by
  have hpi : 0 < 2 ^ i := Nat.two_pow_pos i
  have hpj : 0 < 2 ^ j := Nat.two_pow_pos j
  have ej : 2 ^ (j + 1) = 2 * 2 ^ j := by rw [Nat.pow_succ]; omega
  have eij : 2 ^ (i + j + 1) = 2 * 2 ^ j * 2 ^ i := by rw [show i + j + 1 = (j + 1) + i by omega, Nat.pow_add, ej]
  have eij2 : 2 ^ (i + j + 2) = 2 * (2 * 2 ^ j * 2 ^ i) := by rw [show i + j + 2 = (i + j + 1) + 1 by omega, Nat.pow_succ, eij]; omega
  have em : (2 ^ (j + 1) - 1) * 2 ^ i = 2 * 2 ^ j * 2 ^ i - 2 ^ i := by rw [ej, Nat.sub_mul, Nat.one_mul]
  have hge : 2 ^ i ≤ 2 * 2 ^ j * 2 ^ i := by
    have : 1 * 2 ^ i ≤ 2 * 2 ^ j * 2 ^ i := Nat.mul_le_mul_right _ (by omega)
    omega
  have hge2 : 2 * 2 ^ i ≤ 2 * 2 ^ j * 2 ^ i := Nat.mul_le_mul_right _ (by omega)
  -- the least bit
  have hn0 : n.toNat ≠ 0 := by rw [e, em]; omega
  obtain ⟨k, hk, hlo, hat, _, hneg⟩ := low_bit 32 n.toNat hn0 n.isLt
  have hbit : ∀ t, n.toNat.testBit t = (decide (i ≤ t) && (2 ^ (j + 2) * A + (2 ^ (j + 1) - 1)).testBit (t - i)) := by
    intro t
    have : n.toNat = 2 ^ i * (2 ^ (j + 2) * A + (2 ^ (j + 1) - 1)) := by
      rw [e, Nat.mul_add, show i + j + 2 = i + (j + 2) by omega, Nat.pow_add 2 i (j + 2), Nat.mul_assoc, Nat.mul_comm _ (2 ^ i)]
    rw [this, Nat.testBit_two_pow_mul]
  have hk1 : k = i := by
    have hi : n.toNat.testBit i = true := by
      rw [hbit, Nat.sub_self, Nat.testBit_zero]
      have : 2 ^ (j + 2) * A = 2 * (2 ^ (j + 1) * A) := by rw [Nat.pow_succ 2 (j + 1), Nat.mul_comm _ 2, Nat.mul_assoc]
      simp; omega
    have h1 : ¬ i < k := fun h => by rw [hlo i h] at hi; exact absurd hi (by decide)
    have h2 : ¬ k < i := fun h => by rw [hbit] at hat; simp [show ¬ i ≤ k by omega] at hat
    omega
  rw [hk1] at hneg
  have hi16 : i < 16 := by
    have : 2 ^ i ≤ n.toNat := by rw [e, em]; omega
    exact (Nat.pow_lt_pow_iff_right (by decide : 1 < 2)).1 (Nat.lt_of_le_of_lt this hlt)
  have hi16' : 2 ^ i < 2 ^ 16 := Nat.pow_lt_pow_right (by decide) hi16
  have hlow : (n &&& -n) = BitVec.ofNat 32 (2 ^ i) := by
    apply BitVec.eq_of_toNat_eq
    have en : (-n).toNat = 2 ^ 32 - n.toNat := by rw [BitVec.toNat_neg]; omega
    rw [BitVec.toNat_and, en, hneg, BitVec.toNat_ofNat]
    omega
  refine ⟨hlow, hi16, ?_⟩
  unfold nextV
  rw [hlow]
  have hup : (n + BitVec.ofNat 32 (2 ^ i)).toNat = 2 ^ (i + j + 2) * A + 2 ^ (i + j + 1) := by
    rw [BitVec.toNat_add, BitVec.toNat_ofNat, e, em, eij]
    have hb : 2 ^ (i + j + 2) * A + (2 * 2 ^ j * 2 ^ i - 2 ^ i) < 2 ^ 16 := by rw [← em, ← e]; exact hlt
    omega
  have hx : (n ^^^ (n + BitVec.ofNat 32 (2 ^ i))).toNat = (2 ^ (j + 2) - 1) * 2 ^ i := by
    rw [BitVec.toNat_xor, hup, e, xor_high _ _ _ _ (by rw [em, eij2]; omega) (by rw [eij2, eij]; omega)]
    have := xor_run i (j + 1)
    rw [show i + (j + 1) = i + j + 1 by omega] at this
    exact this
  have hd : ((n ^^^ (n + BitVec.ofNat 32 (2 ^ i))) / BitVec.ofNat 32 (2 ^ i)).toNat = 2 ^ (j + 2) - 1 := by
    rw [BitVec.toNat_udiv, hx, BitVec.toNat_ofNat, Nat.mod_eq_of_lt (by omega), Nat.mul_div_cancel _ hpi]
  have hs : (((n ^^^ (n + BitVec.ofNat 32 (2 ^ i))) / BitVec.ofNat 32 (2 ^ i)) >>> 2).toNat = 2 ^ j - 1 := by
    rw [BitVec.toNat_ushiftRight, hd, Nat.shiftRight_eq_div_pow, Nat.pow_add]
    omega
  rw [BitVec.toNat_or, hup, hs]
  have e3 : 2 ^ (i + j + 2) * A + 2 ^ (i + j + 1) = 2 ^ (i + j + 1) * (2 * A + 1) := by
    rw [Nat.mul_add, Nat.mul_one, ← Nat.mul_assoc, show i + j + 2 = (i + j + 1) + 1 by omega, Nat.pow_succ]
  have hjle : 2 ^ j ≤ 2 ^ (i + j + 1) := Nat.pow_le_pow_right (by decide) (by omega)
  rw [e3, Nat.two_pow_add_eq_or_of_lt (by omega)]

/-- Gosper's law: as many bits, and none between. -/
theorem next_spec (n : BitVec 32) (h0 : n ≠ 0#32) (hlt : n.toNat < 2 ^ 16) :
    n.toNat < (nextV n).toNat ∧ popR 32 (nextV n).toNat = popR 32 n.toNat ∧ ∀ m, n.toNat < m → m < (nextV n).toNat → popR 32 m ≠ popR 32 n.toNat := by
  have hn0 : n.toNat ≠ 0 := fun e => h0 (BitVec.eq_of_toNat_eq (by simpa using e))
  obtain ⟨i, j, A, e⟩ := run_form n.toNat hn0
  obtain ⟨_, hi16, hnext⟩ := next_nat n hlt i j A e
  have hpi : 0 < 2 ^ i := Nat.two_pow_pos i
  have hpj : 0 < 2 ^ j := Nat.two_pow_pos j
  have ej : 2 ^ (j + 1) = 2 * 2 ^ j := by rw [Nat.pow_succ]; omega
  have eij : 2 ^ (i + j + 1) = 2 * 2 ^ j * 2 ^ i := by rw [show i + j + 1 = (j + 1) + i by omega, Nat.pow_add, ej]
  have eij2 : 2 ^ (i + j + 2) = 2 * (2 * 2 ^ j * 2 ^ i) := by rw [show i + j + 2 = (i + j + 1) + 1 by omega, Nat.pow_succ, eij]; omega
  have em : (2 ^ (j + 1) - 1) * 2 ^ i = 2 * 2 ^ j * 2 ^ i - 2 ^ i := by rw [ej, Nat.sub_mul, Nat.one_mul]
  have hge2 : 2 * 2 ^ i ≤ 2 * 2 ^ j * 2 ^ i := Nat.mul_le_mul_right _ (by omega)
  have hjle : 2 ^ j ≤ 2 ^ (i + j + 1) := Nat.pow_le_pow_right (by decide) (by omega)
  have hsmall : i + j + 2 ≤ 32 := by
    have h1 : 2 ^ (i + j) ≤ n.toNat := by
      rw [e, em]
      have : 2 ^ (i + j) = 2 ^ j * 2 ^ i := by rw [Nat.add_comm, Nat.pow_add]
      have : 2 * 2 ^ j * 2 ^ i = 2 ^ j * 2 ^ i + 2 ^ j * 2 ^ i := by rw [Nat.mul_assoc]; omega
      have : 1 * 2 ^ i ≤ 2 ^ j * 2 ^ i := Nat.mul_le_mul_right _ (by omega)
      omega
    have := (Nat.pow_lt_pow_iff_right (by decide : 1 < 2)).1 (Nat.lt_of_le_of_lt h1 hlt)
    omega
  obtain ⟨M, hM⟩ : ∃ M, 32 = i + j + 2 + M := ⟨32 - (i + j + 2), by omega⟩
  -- the bits of the parts
  have pn : popR 32 n.toNat = (j + 1) + popR M A := by
    rw [e, hM, popR_add _ _ _ _ (by rw [em, eij2]; omega)]
    congr 1
    have := popR_add i (j + 2) (2 ^ (j + 1) - 1) 0 hpi
    simp only [Nat.add_zero] at this
    rw [popR_zero, Nat.zero_add, Nat.mul_comm, show i + (j + 2) = i + j + 2 by omega] at this
    rw [this]
    have h2 := popR_add (j + 1) 1 0 (2 ^ (j + 1) - 1) (by omega)
    rw [Nat.mul_zero, Nat.zero_add, popR_zero, popR_ones] at h2
    exact h2
  have pm : ∀ s, s < 2 ^ (i + j + 1) → popR 32 (2 ^ (i + j + 2) * A + 2 ^ (i + j + 1) + s) = popR (i + j + 1) s + 1 + popR M A := by
    intro s hs
    have h9 := popR_add (i + j + 2) M A (2 ^ (i + j + 1) + s) (by rw [eij2, ← eij]; omega)
    rw [← hM, ← Nat.add_assoc] at h9
    rw [h9]
    congr 1
    have h2 := popR_add (i + j + 1) 1 1 s hs
    rw [Nat.mul_one] at h2
    rw [h2]
    congr 1
  have pj : popR (i + j + 1) (2 ^ j - 1) = j := by
    have h2 := popR_add j (i + 1) 0 (2 ^ j - 1) (by omega)
    rw [Nat.mul_zero, Nat.zero_add, popR_zero, popR_ones, show j + (i + 1) = i + j + 1 by omega] at h2
    exact h2
  refine ⟨?_, ?_, ?_⟩
  · rw [hnext, e, em, eij]; omega
  · rw [hnext, pm _ (by omega), pj, pn, Nat.add_assoc]
  · intro m h1 h2
    rw [hnext] at h2
    rw [pn]
    by_cases hm : m < 2 ^ (i + j + 2) * A + 2 ^ (i + j + 1)
    · -- more bits
      obtain ⟨s, hs⟩ : ∃ s, m = 2 ^ (i + j + 2) * A + ((2 ^ (j + 1) - 1) * 2 ^ i + s) := ⟨m - n.toNat, by omega⟩
      have hs0 : s ≠ 0 := by omega
      have hs1 : s < 2 ^ i := by rw [hs, em, eij] at hm; omega
      rw [hs, hM, popR_add _ _ _ _ (by rw [em, eij2]; omega)]
      have h3 := popR_add i (j + 2) (2 ^ (j + 1) - 1) s hs1
      rw [Nat.mul_comm, show i + (j + 2) = i + j + 2 by omega] at h3
      have h4 := popR_add (j + 1) 1 0 (2 ^ (j + 1) - 1) (by omega)
      rw [Nat.mul_zero, Nat.zero_add, popR_zero, popR_ones, show j + 1 + 1 = j + 2 by omega] at h4
      have h5 := popR_pos i s hs1 hs0
      rw [h3, h4]
      omega
    · obtain ⟨s, hs⟩ : ∃ s, m = 2 ^ (i + j + 2) * A + 2 ^ (i + j + 1) + s := ⟨m - (2 ^ (i + j + 2) * A + 2 ^ (i + j + 1)), by omega⟩
      have hs1 : s < 2 ^ j - 1 := by omega
      rw [hs, pm s (by omega)]
      have h2 := popR_add j (i + 1) 0 s (by omega)
      rw [Nat.mul_zero, Nat.zero_add, popR_zero, show j + (i + 1) = i + j + 1 by omega] at h2
      have h3 := popR_lt j s hs1
      omega
end Go.Proofs.Ytopcejcfghdeeaa
