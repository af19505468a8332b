/- Laying the bits of a number over the members of a set: the subsets in order. Plain, no program. -/
import Derived.Test.YtopcejcfghdeeaaGos
namespace Go.Proofs.Ytopcejcfghdeeaa

theorem ext_sorted {α : Type} (f : α → Nat) : ∀ l m : List α, l.Pairwise (fun a b => f a < f b) → m.Pairwise (fun a b => f a < f b) → (∀ y, y ∈ l ↔ y ∈ m) → l = m := by
  intro l
  induction l with
  | nil =>
    intro m _ _ h
    cases m with
    | nil => rfl
    | cons b m => exact absurd ((h b).2 (by simp)) (by simp)
  | cons a l ih =>
    intro m hl hm h
    cases m with
    | nil => exact absurd ((h a).1 (by simp)) (by simp)
    | cons b m =>
      rw [List.pairwise_cons] at hl hm
      have ha : a = b := by
        rcases List.mem_cons.1 ((h a).1 (by simp)) with e | e
        · exact e
        · rcases List.mem_cons.1 ((h b).2 (by simp)) with e2 | e2
          · exact e2.symm
          · have := hm.1 a e; have := hl.1 b e2; omega
      subst ha
      congr 1
      refine ih m hl.2 hm.2 fun y => ⟨fun hy => ?_, fun hy => ?_⟩
      · rcases List.mem_cons.1 ((h y).1 (List.mem_cons_of_mem _ hy)) with e | e
        · have := hl.1 y hy; rw [e] at this; omega
        · exact e
      · rcases List.mem_cons.1 ((h y).2 (List.mem_cons_of_mem _ hy)) with e | e
        · have := hm.1 y hy; rw [e] at this; omega
        · exact e

theorem hasB_or (x y : BitVec 16) (p : Nat) : hasB (x ||| y) p = (hasB x p || hasB y p) := by simp [hasB]
theorem hasB_and (x y : BitVec 16) (p : Nat) : hasB (x &&& y) p = (hasB x p && hasB y p) := by simp [hasB]
theorem hasB_zero (p : Nat) : hasB 0#16 p = false := by simp [hasB]
theorem hasB_bit (i p : Nat) (hi : i < 16) : hasB (bitS i) p = decide (p = i) := by
  rw [hasB_nat, bitS, BitVec.toNat_shiftLeft]
  have : 2 ^ i < 2 ^ 16 := Nat.pow_lt_pow_right (by decide) hi
  rw [show (1#16).toNat = 1 from rfl, Nat.shiftLeft_eq, Nat.one_mul, Nat.mod_eq_of_lt this, Nat.testBit_two_pow]
  simp [eq_comm]
theorem hasB_lt {x : BitVec 16} {p : Nat} (h : hasB x p = true) : p < 16 := by
  rcases Nat.lt_or_ge p 16 with h1 | h1
  · exact h1
  · rw [hasB, BitVec.getLsbD_of_ge _ _ h1] at h; cases h
theorem hasB_ext {x y : BitVec 16} (h : ∀ p, p < 16 → hasB x p = hasB y p) : x = y := BitVec.eq_of_getLsbD_eq fun p hp => h p hp
theorem mem_memS {x : BitVec 16} {p : Nat} : p ∈ memS x ↔ hasB x p = true := by
  simp only [memS, List.mem_filter, List.mem_range]
  exact ⟨fun h => h.2, fun h => ⟨hasB_lt h, h⟩⟩
theorem memS_sorted (x : BitVec 16) : (memS x).Pairwise (· < ·) := List.Pairwise.filter _ (List.pairwise_lt_range)

/-- the set of those members whose place has its bit in n -/
def dep : List Nat → Nat → BitVec 16
  | [], _ => 0#16
  | x :: l, n => (if n.testBit 0 then bitS x else 0#16) ||| dep l (n / 2)
/-- these members -/
def sel : List Nat → Nat → List Nat
  | [], _ => []
  | x :: l, n => if n.testBit 0 then x :: sel l (n / 2) else sel l (n / 2)
/-- the number of a subset -/
def inv : List Nat → BitVec 16 → Nat
  | [], _ => 0
  | x :: l, y => (hasB y x).toNat + 2 * inv l y

theorem dep_snoc (x : Nat) (l : List Nat) : ∀ n, dep (l ++ [x]) n = dep l n ||| (if n.testBit l.length then bitS x else 0#16) := by
  induction l with
  | nil => intro n; simp [dep]
  | cons a l ih => intro n; simp only [List.cons_append, dep, ih, List.length_cons, Nat.testBit_succ, BitVec.or_assoc]

theorem hasB_dep (l : List Nat) (hl : ∀ x ∈ l, x < 16) : ∀ n p, hasB (dep l n) p = true ↔ p ∈ sel l n := by
  induction l with
  | nil => intro n p; simp [dep, sel, hasB_zero]
  | cons x l ih =>
    intro n p
    have h1 := ih (fun y hy => hl y (List.mem_cons_of_mem _ hy)) (n / 2) p
    have h2 := hasB_bit x p (hl x (by simp))
    simp only [dep, sel, hasB_or]
    cases hb : n.testBit 0
    · simp [hasB_zero, h1]
    · simp [h2, h1]
theorem sel_mem (l : List Nat) : ∀ n p, p ∈ sel l n → p ∈ l := by
  induction l with
  | nil => intro n p h; simp [sel] at h
  | cons x l ih =>
    intro n p h
    simp only [sel] at h
    cases hb : n.testBit 0
    · rw [hb] at h; exact List.mem_cons_of_mem _ (ih _ _ (by simpa using h))
    · rw [hb] at h
      rcases List.mem_cons.1 (by simpa using h) with e | e
      · rw [e]; simp
      · exact List.mem_cons_of_mem _ (ih _ _ e)
theorem sel_sorted (l : List Nat) : ∀ n, l.Pairwise (· < ·) → (sel l n).Pairwise (· < ·) := by
  induction l with
  | nil => intro n _; simp [sel]
  | cons x l ih =>
    intro n h
    rw [List.pairwise_cons] at h
    simp only [sel]
    cases hb : n.testBit 0
    · simpa using ih _ h.2
    · simp only [if_true, List.pairwise_cons]
      exact ⟨fun y hy => h.1 y (sel_mem l _ _ hy), ih _ h.2⟩
theorem sel_length (l : List Nat) : ∀ n, (sel l n).length = popR l.length n := by
  induction l with
  | nil => intro n; simp [sel, popR]
  | cons x l ih =>
    intro n
    have e : n = 2 ^ 1 * (n / 2) + n % 2 := by omega
    have h := popR_add 1 l.length (n / 2) (n % 2) (by omega)
    rw [← e, Nat.add_comm] at h
    rw [List.length_cons, h]
    simp only [sel]
    have hb := Nat.testBit_zero n
    rcases Nat.mod_two_eq_zero_or_one n with h2 | h2
    · rw [hb, h2]; simp [ih, popR_zero]
    · rw [hb, h2]; simp [ih, popR]; omega
theorem popR_pad (M N n : Nat) (h : n < 2 ^ N) : popR (N + M) n = popR N n := by
  have := popR_add N M 0 n h
  rw [Nat.mul_zero, Nat.zero_add, popR_zero] at this
  exact this

theorem cnt_dep (l : List Nat) (hl : ∀ x ∈ l, x < 16) (hs : l.Pairwise (· < ·)) (n : Nat) : cnt (dep l n) = popR l.length n := by
  have e : memS (dep l n) = sel l n := by
    refine ext_sorted (fun x => x) _ _ (memS_sorted _) (sel_sorted l n hs) fun y => ?_
    rw [mem_memS, hasB_dep l hl]
  unfold cnt
  rw [e, sel_length]

theorem dep_toNat (l : List Nat) (hl : ∀ x ∈ l, x < 16) (hs : l.Pairwise (· < ·)) (b : Nat) (hb : ∀ x ∈ l, b ≤ x) : ∀ n, ∃ q, (dep l n).toNat = 2 ^ b * q := by
  intro n
  refine ⟨(dep l n).toNat / 2 ^ b, ?_⟩
  apply Nat.eq_of_testBit_eq
  intro t
  rw [Nat.testBit_two_pow_mul, Nat.testBit_div_two_pow]
  by_cases ht : b ≤ t
  · simp [ht]
  · simp only [ht, decide_false, Bool.false_and]
    rw [← hasB_nat]
    cases h : hasB (dep l n) t
    · rfl
    · have := hb t (sel_mem l n t ((hasB_dep l hl n t).1 h)); omega

theorem dep_cons_nat (x : Nat) (l : List Nat) (hl : ∀ y ∈ x :: l, y < 16) (hs : (x :: l).Pairwise (· < ·)) (n : Nat) :
    (dep (x :: l) n).toNat = (n % 2) * 2 ^ x + (dep l (n / 2)).toNat := by
  rw [List.pairwise_cons] at hs
  obtain ⟨q, hq⟩ := dep_toNat l (fun y hy => hl y (List.mem_cons_of_mem _ hy)) hs.2 (x + 1) (fun y hy => hs.1 y hy) (n / 2)
  have hx : 2 ^ x < 2 ^ 16 := Nat.pow_lt_pow_right (by decide) (hl x (by simp))
  have hbx : (bitS x).toNat = 2 ^ x := by rw [bitS, BitVec.toNat_shiftLeft]; simp [Nat.shiftLeft_eq]; omega
  simp only [dep]
  rw [BitVec.toNat_or, Nat.testBit_zero]
  rcases Nat.mod_two_eq_zero_or_one n with h2 | h2
  · rw [h2]; simp
  · rw [h2]
    simp only [decide_true, if_true, hbx, Nat.one_mul]
    rw [hq, Nat.or_comm, ← Nat.two_pow_add_eq_or_of_lt (by rw [Nat.pow_succ]; have := Nat.two_pow_pos x; omega), Nat.add_comm]

theorem dep_mono (l : List Nat) : (∀ x ∈ l, x < 16) → l.Pairwise (· < ·) → ∀ n m, n < m → m < 2 ^ l.length → (dep l n).toNat < (dep l m).toNat := by
  induction l with
  | nil => intro _ _ n m h1 h2; simp at h2; omega
  | cons x l ih =>
    intro hl hs n m h1 h2
    rw [dep_cons_nat x l hl hs, dep_cons_nat x l hl hs]
    have hs' := (List.pairwise_cons.1 hs)
    have hl' : ∀ y ∈ l, y < 16 := fun y hy => hl y (List.mem_cons_of_mem _ hy)
    obtain ⟨q, hq⟩ := dep_toNat l hl' hs'.2 (x + 1) (fun y hy => hs'.1 y hy) (n / 2)
    obtain ⟨r, hr⟩ := dep_toNat l hl' hs'.2 (x + 1) (fun y hy => hs'.1 y hy) (m / 2)
    have hp : 0 < 2 ^ x := Nat.two_pow_pos x
    rw [List.length_cons, Nat.pow_succ] at h2
    rcases Nat.lt_or_ge (n / 2) (m / 2) with h | h
    · have := ih hl' hs'.2 (n / 2) (m / 2) h (by omega)
      rw [hq, hr] at this ⊢
      have hqr : q < r := Nat.lt_of_mul_lt_mul_left this
      have h3 : 2 ^ (x + 1) * (q + 1) ≤ 2 ^ (x + 1) * r := Nat.mul_le_mul_left _ hqr
      rw [Nat.mul_add, Nat.mul_one] at h3
      have e2 : 2 ^ (x + 1) = 2 * 2 ^ x := by rw [Nat.pow_succ]; omega
      have h4 : n % 2 * 2 ^ x ≤ 1 * 2 ^ x := Nat.mul_le_mul_right _ (by omega)
      omega
    · have e : n / 2 = m / 2 := by omega
      have h5 : n % 2 = 0 ∧ m % 2 = 1 := by omega
      rw [e, h5.1, h5.2]
      omega

theorem inv_lt (l : List Nat) (y : BitVec 16) : inv l y < 2 ^ l.length := by
  induction l with
  | nil => simp [inv]
  | cons x l ih =>
    simp only [inv, List.length_cons, Nat.pow_succ]
    cases hasB y x <;> simp <;> omega
theorem sel_inv (l : List Nat) (y : BitVec 16) : sel l (inv l y) = l.filter (hasB y) := by
  induction l with
  | nil => rfl
  | cons x l ih =>
    have e : inv (x :: l) y / 2 = inv l y ∧ (inv (x :: l) y).testBit 0 = hasB y x := by
      have key : ∀ (b : Bool) (m : Nat), (b.toNat + 2 * m) / 2 = m ∧ (b.toNat + 2 * m).testBit 0 = b := by
        intro b m; rw [Nat.testBit_zero]; cases b <;> simp <;> omega
      exact key _ _
    simp only [sel, e.1, e.2, ih, List.filter_cons]

/-- subsets in BitVec's words -/
theorem sub_iff (x y : BitVec 16) : (y &&& ~~~x == 0#16) = true ↔ ∀ p, hasB y p = true → hasB x p = true := by
  rw [beq_iff_eq]
  constructor
  · intro h p hp
    have h1 := congrArg (fun z => hasB z p) h
    have hlt := hasB_lt hp
    simp only [hasB, BitVec.getLsbD_and, BitVec.getLsbD_not, BitVec.getLsbD_zero] at h1 hp ⊢
    rw [hp] at h1
    simpa [hlt] using h1
  · intro h
    apply hasB_ext
    intro p hp
    have h1 := h p
    simp only [hasB, BitVec.getLsbD_and, BitVec.getLsbD_not, BitVec.getLsbD_zero] at h1 ⊢
    cases h2 : y.getLsbD p
    · simp
    · simp [h1 h2]

theorem memS_16 (x : BitVec 16) : ∀ p ∈ memS x, p < 16 := fun p hp => hasB_lt (mem_memS.1 hp)

theorem dep_sub (x : BitVec 16) (n p : Nat) (h : hasB (dep (memS x) n) p = true) : hasB x p = true :=
  mem_memS.1 (sel_mem _ _ _ ((hasB_dep _ (memS_16 x) n p).1 h))
theorem dep_inv (x y : BitVec 16) (h : ∀ p, hasB y p = true → hasB x p = true) : dep (memS x) (inv (memS x) y) = y := by
  apply hasB_ext
  intro p _
  rw [Bool.eq_iff_iff, hasB_dep _ (memS_16 x), sel_inv, List.mem_filter, mem_memS]
  exact ⟨fun h => h.2, fun hp => ⟨h p hp, hp⟩⟩
end Go.Proofs.Ytopcejcfghdeeaa
