/- Texts laid together. Laying the bits of a number over the members of a set: the subsets in order. Plain, no program. Families: the error of a list of sets; plain laws. Layer 10, plain: expressions, what satisfies them, their families. No program. Layer 20, plain: decision trees, certificates. No program. Expressions and trees in memory. Plain lemmas over the model, no program. Package family: Accepts, Support, Valid; slices.Contains, ContainsFunc of sets. family.Valid. -/
import Derived.Test.YtmjgdnpfgkpaoaaDoorGTopSimplified1
import Derived.Shelf.GgClosure.Gives
namespace Go.Proofs.YtmjgdnpfgkpaoaaDoor

theorem ext_sorted {α : Type} (f : α → Nat) : ∀ l m : List α, l.Pairwise (fun a b => f a < f b) → m.Pairwise (fun a b => f a < f b) → (∀ y, y ∈ l ↔ y ∈ m) → l = m := by
  intro l
  induction l with
  | nil =>
    intro m _ _ h
    cases m with
    | nil => rfl
    | cons b m => exact absurd ((h b).2 (by simp)) (by simp)
  | cons a l ih =>
    intro m hl hm h
    cases m with
    | nil => exact absurd ((h a).1 (by simp)) (by simp)
    | cons b m =>
      rw [List.pairwise_cons] at hl hm
      have ha : a = b := by
        rcases List.mem_cons.1 ((h a).1 (by simp)) with e | e
        · exact e
        · rcases List.mem_cons.1 ((h b).2 (by simp)) with e2 | e2
          · exact e2.symm
          · have := hm.1 a e; have := hl.1 b e2; omega
      subst ha
      congr 1
      refine ih m hl.2 hm.2 fun y => ⟨fun hy => ?_, fun hy => ?_⟩
      · rcases List.mem_cons.1 ((h y).1 (List.mem_cons_of_mem _ hy)) with e | e
        · have := hl.1 y hy; rw [e] at this; omega
        · exact e
      · rcases List.mem_cons.1 ((h y).2 (List.mem_cons_of_mem _ hy)) with e | e
        · have := hm.1 y hy; rw [e] at this; omega
        · exact e

theorem hasB_or (x y : BitVec 16) (p : Nat) : hasB (x ||| y) p = (hasB x p || hasB y p) := by simp [hasB]
theorem hasB_and (x y : BitVec 16) (p : Nat) : hasB (x &&& y) p = (hasB x p && hasB y p) := by simp [hasB]
theorem hasB_zero (p : Nat) : hasB 0#16 p = false := by simp [hasB]
theorem hasB_bit (i p : Nat) (hi : i < 16) : hasB (bitS i) p = decide (p = i) := by
  rw [hasB_nat, bitS, BitVec.toNat_shiftLeft]
  have : 2 ^ i < 2 ^ 16 := Nat.pow_lt_pow_right (by decide) hi
  rw [show (1#16).toNat = 1 from rfl, Nat.shiftLeft_eq, Nat.one_mul, Nat.mod_eq_of_lt this, Nat.testBit_two_pow]
  simp [eq_comm]
theorem hasB_lt {x : BitVec 16} {p : Nat} (h : hasB x p = true) : p < 16 := by
  rcases Nat.lt_or_ge p 16 with h1 | h1
  · exact h1
  · rw [hasB, BitVec.getLsbD_of_ge _ _ h1] at h; cases h
theorem hasB_ext {x y : BitVec 16} (h : ∀ p, p < 16 → hasB x p = hasB y p) : x = y := BitVec.eq_of_getLsbD_eq fun p hp => h p hp
theorem mem_memS {x : BitVec 16} {p : Nat} : p ∈ memS x ↔ hasB x p = true := by
  simp only [memS, List.mem_filter, List.mem_range]
  exact ⟨fun h => h.2, fun h => ⟨hasB_lt h, h⟩⟩
theorem memS_sorted (x : BitVec 16) : (memS x).Pairwise (· < ·) := List.Pairwise.filter _ (List.pairwise_lt_range)

/-- the set of those members whose place has its bit in n -/
def dep : List Nat → Nat → BitVec 16
  | [], _ => 0#16
  | x :: l, n => (if n.testBit 0 then bitS x else 0#16) ||| dep l (n / 2)
/-- these members -/
def sel : List Nat → Nat → List Nat
  | [], _ => []
  | x :: l, n => if n.testBit 0 then x :: sel l (n / 2) else sel l (n / 2)
/-- the number of a subset -/
def inv : List Nat → BitVec 16 → Nat
  | [], _ => 0
  | x :: l, y => (hasB y x).toNat + 2 * inv l y

theorem dep_snoc (x : Nat) (l : List Nat) : ∀ n, dep (l ++ [x]) n = dep l n ||| (if n.testBit l.length then bitS x else 0#16) := by
  induction l with
  | nil => intro n; simp [dep]
  | cons a l ih => intro n; simp only [List.cons_append, dep, ih, List.length_cons, Nat.testBit_succ, BitVec.or_assoc]

theorem hasB_dep (l : List Nat) (hl : ∀ x ∈ l, x < 16) : ∀ n p, hasB (dep l n) p = true ↔ p ∈ sel l n := by
  induction l with
  | nil => intro n p; simp [dep, sel, hasB_zero]
  | cons x l ih =>
    intro n p
    have h1 := ih (fun y hy => hl y (List.mem_cons_of_mem _ hy)) (n / 2) p
    have h2 := hasB_bit x p (hl x (by simp))
    simp only [dep, sel, hasB_or]
    cases hb : n.testBit 0
    · simp [hasB_zero, h1]
    · simp [h2, h1]
theorem sel_mem (l : List Nat) : ∀ n p, p ∈ sel l n → p ∈ l := by
  induction l with
  | nil => intro n p h; simp [sel] at h
  | cons x l ih =>
    intro n p h
    simp only [sel] at h
    cases hb : n.testBit 0
    · rw [hb] at h; exact List.mem_cons_of_mem _ (ih _ _ (by simpa using h))
    · rw [hb] at h
      rcases List.mem_cons.1 (by simpa using h) with e | e
      · rw [e]; simp
      · exact List.mem_cons_of_mem _ (ih _ _ e)
theorem sel_sorted (l : List Nat) : ∀ n, l.Pairwise (· < ·) → (sel l n).Pairwise (· < ·) := by
  induction l with
  | nil => intro n _; simp [sel]
  | cons x l ih =>
    intro n h
    rw [List.pairwise_cons] at h
    simp only [sel]
    cases hb : n.testBit 0
    · simpa using ih _ h.2
    · simp only [if_true, List.pairwise_cons]
      exact ⟨fun y hy => h.1 y (sel_mem l _ _ hy), ih _ h.2⟩
theorem sel_length (l : List Nat) : ∀ n, (sel l n).length = popR l.length n := by
  induction l with
  | nil => intro n; simp [sel, popR]
  | cons x l ih =>
    intro n
    have e : n = 2 ^ 1 * (n / 2) + n % 2 := by omega
    have h := popR_add 1 l.length (n / 2) (n % 2) (by omega)
    rw [← e, Nat.add_comm] at h
    rw [List.length_cons, h]
    simp only [sel]
    have hb := Nat.testBit_zero n
    rcases Nat.mod_two_eq_zero_or_one n with h2 | h2
    · rw [hb, h2]; simp [ih, popR_zero]
    · rw [hb, h2]; simp [ih, popR]; omega
theorem popR_pad (M N n : Nat) (h : n < 2 ^ N) : popR (N + M) n = popR N n := by
  have := popR_add N M 0 n h
  rw [Nat.mul_zero, Nat.zero_add, popR_zero] at this
  exact this

theorem cnt_dep (l : List Nat) (hl : ∀ x ∈ l, x < 16) (hs : l.Pairwise (· < ·)) (n : Nat) : cnt (dep l n) = popR l.length n := by
  have e : memS (dep l n) = sel l n := by
    refine ext_sorted (fun x => x) _ _ (memS_sorted _) (sel_sorted l n hs) fun y => ?_
    rw [mem_memS, hasB_dep l hl]
  unfold cnt
  rw [e, sel_length]

theorem dep_toNat (l : List Nat) (hl : ∀ x ∈ l, x < 16) (_hs : l.Pairwise (· < ·)) (b : Nat) (hb : ∀ x ∈ l, b ≤ x) : ∀ n, ∃ q, (dep l n).toNat = 2 ^ b * q := by
  intro n
  refine ⟨(dep l n).toNat / 2 ^ b, ?_⟩
  apply Nat.eq_of_testBit_eq
  intro t
  rw [Nat.testBit_two_pow_mul, Nat.testBit_div_two_pow]
  by_cases ht : b ≤ t
  · simp [ht]
  · simp only [ht, decide_false, Bool.false_and]
    rw [← hasB_nat]
    cases h : hasB (dep l n) t
    · rfl
    · have := hb t (sel_mem l n t ((hasB_dep l hl n t).1 h)); omega

theorem dep_cons_nat (x : Nat) (l : List Nat) (hl : ∀ y ∈ x :: l, y < 16) (hs : (x :: l).Pairwise (· < ·)) (n : Nat) :
    (dep (x :: l) n).toNat = (n % 2) * 2 ^ x + (dep l (n / 2)).toNat := by
  rw [List.pairwise_cons] at hs
  obtain ⟨q, hq⟩ := dep_toNat l (fun y hy => hl y (List.mem_cons_of_mem _ hy)) hs.2 (x + 1) (fun y hy => hs.1 y hy) (n / 2)
  have hx : 2 ^ x < 2 ^ 16 := Nat.pow_lt_pow_right (by decide) (hl x (by simp))
  have hbx : (bitS x).toNat = 2 ^ x := by rw [bitS, BitVec.toNat_shiftLeft]; simp [Nat.shiftLeft_eq]; omega
  simp only [dep]
  rw [BitVec.toNat_or, Nat.testBit_zero]
  rcases Nat.mod_two_eq_zero_or_one n with h2 | h2
  · rw [h2]; simp
  · rw [h2]
    simp only [decide_true, if_true, hbx, Nat.one_mul]
    rw [hq, Nat.or_comm, ← Nat.two_pow_add_eq_or_of_lt (by rw [Nat.pow_succ]; have := Nat.two_pow_pos x; omega), Nat.add_comm]

theorem dep_mono (l : List Nat) : (∀ x ∈ l, x < 16) → l.Pairwise (· < ·) → ∀ n m, n < m → m < 2 ^ l.length → (dep l n).toNat < (dep l m).toNat := by
  induction l with
  | nil => intro _ _ n m h1 h2; simp at h2; omega
  | cons x l ih =>
    intro hl hs n m h1 h2
    rw [dep_cons_nat x l hl hs, dep_cons_nat x l hl hs]
    have hs' := (List.pairwise_cons.1 hs)
    have hl' : ∀ y ∈ l, y < 16 := fun y hy => hl y (List.mem_cons_of_mem _ hy)
    obtain ⟨q, hq⟩ := dep_toNat l hl' hs'.2 (x + 1) (fun y hy => hs'.1 y hy) (n / 2)
    obtain ⟨r, hr⟩ := dep_toNat l hl' hs'.2 (x + 1) (fun y hy => hs'.1 y hy) (m / 2)
    have hp : 0 < 2 ^ x := Nat.two_pow_pos x
    rw [List.length_cons, Nat.pow_succ] at h2
    rcases Nat.lt_or_ge (n / 2) (m / 2) with h | h
    · have := ih hl' hs'.2 (n / 2) (m / 2) h (by omega)
      rw [hq, hr] at this ⊢
      have hqr : q < r := Nat.lt_of_mul_lt_mul_left this
      have h3 : 2 ^ (x + 1) * (q + 1) ≤ 2 ^ (x + 1) * r := Nat.mul_le_mul_left _ hqr
      rw [Nat.mul_add, Nat.mul_one] at h3
      have e2 : 2 ^ (x + 1) = 2 * 2 ^ x := by rw [Nat.pow_succ]; omega
      have h4 : n % 2 * 2 ^ x ≤ 1 * 2 ^ x := Nat.mul_le_mul_right _ (by omega)
      omega
    · have e : n / 2 = m / 2 := by omega
      have h5 : n % 2 = 0 ∧ m % 2 = 1 := by omega
      rw [e, h5.1, h5.2]
      omega

theorem inv_lt (l : List Nat) (y : BitVec 16) : inv l y < 2 ^ l.length := by
  induction l with
  | nil => simp [inv]
  | cons x l ih =>
    simp only [inv, List.length_cons, Nat.pow_succ]
    cases hasB y x <;> simp <;> omega
theorem sel_inv (l : List Nat) (y : BitVec 16) : sel l (inv l y) = l.filter (hasB y) := by
  induction l with
  | nil => rfl
  | cons x l ih =>
    have e : inv (x :: l) y / 2 = inv l y ∧ (inv (x :: l) y).testBit 0 = hasB y x := by
      have key : ∀ (b : Bool) (m : Nat), (b.toNat + 2 * m) / 2 = m ∧ (b.toNat + 2 * m).testBit 0 = b := by
        intro b m; rw [Nat.testBit_zero]; cases b <;> simp <;> omega
      exact key _ _
    simp only [sel, e.1, e.2, ih, List.filter_cons]

/-- subsets in BitVec's words -/
theorem sub_iff (x y : BitVec 16) : (y &&& ~~~x == 0#16) = true ↔ ∀ p, hasB y p = true → hasB x p = true := by
  rw [beq_iff_eq]
  constructor
  · intro h p hp
    have h1 := congrArg (fun z => hasB z p) h
    have hlt := hasB_lt hp
    simp only [hasB, BitVec.getLsbD_and, BitVec.getLsbD_not, BitVec.getLsbD_zero] at h1 hp ⊢
    rw [hp] at h1
    simpa [hlt] using h1
  · intro h
    apply hasB_ext
    intro p hp
    have h1 := h p
    simp only [hasB, BitVec.getLsbD_and, BitVec.getLsbD_not, BitVec.getLsbD_zero] at h1 ⊢
    cases h2 : y.getLsbD p
    · simp
    · simp [h1 h2]

theorem memS_16 (x : BitVec 16) : ∀ p ∈ memS x, p < 16 := fun _p hp => hasB_lt (mem_memS.1 hp)

theorem dep_sub (x : BitVec 16) (n p : Nat) (h : hasB (dep (memS x) n) p = true) : hasB x p = true :=
  mem_memS.1 (sel_mem _ _ _ ((hasB_dep _ (memS_16 x) n p).1 h))
theorem dep_inv (x y : BitVec 16) (h : ∀ p, hasB y p = true → hasB x p = true) : dep (memS x) (inv (memS x) y) = y := by
  apply hasB_ext
  intro p _
  rw [Bool.eq_iff_iff, hasB_dep _ (memS_16 x), sel_inv, List.mem_filter, mem_memS]
  exact ⟨fun h => h.2, fun hp => ⟨h p hp, hp⟩⟩
end Go.Proofs.YtmjgdnpfgkpaoaaDoor
namespace Go.Proofs.YtmjgdnpfgkpaoaaDoor

/-- b is a part of a -/
def subB (a b : BitVec 16) : Bool := b &&& ~~~a == 0#16
/-- a list accepts a set -/
def accS (l : List (BitVec 16)) (s : BitVec 16) : Bool := l.any fun x => subB s x

theorem subB_iff (a b : BitVec 16) : subB a b = true ↔ ∀ i, hasB b i = true → hasB a i = true := by
  unfold subB
  rw [beq_iff_eq]
  constructor
  · intro h i hi
    have := congrArg (fun x => hasB x i) h
    simp only [hasB, BitVec.getLsbD_and, BitVec.getLsbD_not, BitVec.getLsbD_zero] at this hi ⊢
    rw [hi, Bool.true_and] at this
    have hlt : i < 16 := by
      apply Classical.byContradiction
      intro hc
      rw [BitVec.getLsbD_of_ge _ _ (by omega)] at hi
      cases hi
    simpa [hlt] using this
  · intro h
    apply BitVec.eq_of_getLsbD_eq
    intro i hi
    have := h i
    simp only [hasB] at this
    simp only [BitVec.getLsbD_and, BitVec.getLsbD_not, BitVec.getLsbD_zero, hi, decide_true, Bool.true_and]
    cases hb : b.getLsbD i
    · rfl
    · rw [this hb]; rfl

theorem sub_mem {a b : BitVec 16} (h : subB a b = true) : memS b = (memS a).filter (hasB b) := by
  unfold memS
  rw [List.filter_filter]
  apply List.filter_congr
  intro i _
  cases hb : hasB b i
  · simp
  · rw [(subB_iff a b).1 h i hb]; rfl
theorem sub_cnt {a b : BitVec 16} (h : subB a b = true) : cnt b ≤ cnt a := by
  unfold cnt; rw [sub_mem h]; exact List.length_filter_le _ _
theorem memS_inj1 {x y : BitVec 16} (h : memS x = memS y) : x = y := by
  apply BitVec.eq_of_getLsbD_eq
  intro i hi
  have h1 := mem_memS (x := x) (p := i)
  rw [h, mem_memS] at h1
  show hasB x i = hasB y i
  rw [Bool.eq_iff_iff]
  exact h1.symm
theorem sub_eq {a b : BitVec 16} (h : subB a b = true) (hc : cnt a ≤ cnt b) : a = b := by
  apply memS_inj1
  rw [sub_mem h]
  symm
  apply List.filter_eq_self.2
  have hl : ((memS a).filter (hasB b)).length = (memS a).length := by
    have h1 := List.length_filter_le (hasB b) (memS a)
    have h2 := sub_mem h
    unfold cnt at hc
    rw [h2] at hc
    omega
  exact List.length_filter_eq_length_iff.1 hl

/-- the place in the order of sets -/
def keyS (a : BitVec 16) : Nat := cnt a * 65536 + a.toNat
theorem keyS_inj {a b : BitVec 16} (h : keyS a = keyS b) : a = b := by
  unfold keyS at h
  have h1 := a.isLt; have h2 := b.isLt
  exact BitVec.eq_of_toNat_eq (by omega)
theorem cmpS_key (a b : BitVec 16) : (0 ≤ cmpS a b ↔ keyS b ≤ keyS a) ∧ (cmpS a b < 0 ↔ keyS a < keyS b) := by
  have h1 := a.isLt; have h2 := b.isLt
  by_cases hab : a = b
  · subst hab; rw [cmpS_self]; omega
  · by_cases hc : cnt a < cnt b
    · rw [cmpS_lt a b hc]; unfold keyS; omega
    · by_cases he : cnt a = cnt b ∧ U a < U b
      · rw [cmpS_eq_lt a b he.1 he.2]
        have := he.2; unfold U at this; unfold keyS; omega
      · rw [cmpS_gt a b hab hc (fun e h => he ⟨e, h⟩)]
        have hne : a.toNat ≠ b.toNat := fun e => hab (BitVec.eq_of_toNat_eq e)
        have : ¬ (cnt a = cnt b ∧ (a.toNat : Int) < b.toNat) := he
        unfold keyS; omega

/-- the first number that is not 0 -/
def firstE (f : Nat → Int) (n : Nat) : Int := (((List.range n).map f).find? (fun x => x != 0)).getD 0
theorem firstE_none (f : Nat → Int) (n : Nat) (h : ∀ j, j < n → f j = 0) : firstE f n = 0 := by
  unfold firstE
  rw [List.find?_eq_none.2]
  · rfl
  · intro x hx
    obtain ⟨j, hj, rfl⟩ := List.mem_map.1 hx
    simp [h j (List.mem_range.1 hj)]
theorem firstE_hit (f : Nat → Int) (n k : Nat) (hk : k < n) (h : ∀ j, j < k → f j = 0) (hf : f k ≠ 0) : firstE f n = f k := by
  obtain ⟨d, rfl⟩ : ∃ d, n = k + (1 + d) := ⟨n - k - 1, by omega⟩
  unfold firstE
  rw [List.range_add, List.map_append, List.find?_append, List.range_add, List.map_append, List.map_append]
  rw [List.find?_eq_none.2]
  · have e1 : List.map (fun x => k + x) (List.range 1) = [k] := by simp [List.range_succ]
    rw [e1]
    simp [hf]
  · intro x hx
    obtain ⟨j, hj, rfl⟩ := List.mem_map.1 hx
    simp [h j (List.mem_range.1 hj)]
theorem firstE_zero (f : Nat → Int) (n : Nat) (h : firstE f n = 0) : ∀ j, j < n → f j = 0 := by
  intro j hj
  apply Classical.byContradiction
  intro hc
  have hex : ∃ k, f k ≠ 0 := ⟨j, hc⟩
  -- the least such place
  have hmin : ∀ m, (∃ k, k < m ∧ f k ≠ 0) → ∃ k, k < m ∧ f k ≠ 0 ∧ ∀ i, i < k → f i = 0 := by
    intro m
    induction m with
    | zero => rintro ⟨k, hk, _⟩; omega
    | succ m ih =>
      rintro ⟨k, hk, hf⟩
      by_cases hm : ∃ k, k < m ∧ f k ≠ 0
      · obtain ⟨k, h1, h2, h3⟩ := ih hm; exact ⟨k, by omega, h2, h3⟩
      · have hkm : k = m := by
          apply Classical.byContradiction; intro hne; exact hm ⟨k, by omega, hf⟩
        exact ⟨k, hk, hf, fun i hi => Classical.byContradiction fun hne => hm ⟨i, by omega, hne⟩⟩
  obtain ⟨k, h1, h2, h3⟩ := hmin (j + 1) ⟨j, by omega, hc⟩
  rw [firstE_hit f n k (by omega) h3 h2] at h
  exact h2 h

/-- the error at one place of a list: 7: out of range, 1: out of order -/
def e1 (l : List (BitVec 16)) (k : Nat) : Int := if 4096 ≤ U (l.getD k 0#16) then 7 else if 0 < k ∧ 0 ≤ cmpS (l.getD (k - 1) 0#16) (l.getD k 0#16) then 1 else 0
/-- some set contains an earlier one -/
def overB (l : List (BitVec 16)) : Bool := (List.range l.length).any fun i => accS (l.take i) (l.getD i 0#16)
/-- the error of a family -/
def valS (l : List (BitVec 16)) : Int := if 400 < l.length then 3 else if firstE (e1 l) l.length ≠ 0 then firstE (e1 l) l.length else if overB l then 1 else 0

theorem e1_zero {l : List (BitVec 16)} {k : Nat} (h : e1 l k = 0) : U (l.getD k 0#16) < 4096 ∧ (0 < k → keyS (l.getD (k - 1) 0#16) < keyS (l.getD k 0#16)) := by
  unfold e1 at h
  split at h
  · cases h
  · split at h
    · cases h
    · rename_i h1 h2
      refine ⟨by omega, fun hk => ?_⟩
      have := (cmpS_key (l.getD (k - 1) 0#16) (l.getD k 0#16)).1
      omega
theorem sorted_mono {l : List (BitVec 16)} (h : ∀ j, j < l.length → e1 l j = 0) : ∀ i k, i < k → k < l.length → keyS (l.getD i 0#16) < keyS (l.getD k 0#16) := by
  intro i k hik hk
  obtain ⟨d, rfl⟩ : ∃ d, k = i + 1 + d := ⟨k - i - 1, by omega⟩
  clear hik
  induction d with
  | zero => exact (e1_zero (h _ hk)).2 (by omega)
  | succ d ih =>
    have h1 := ih (by omega)
    have h2 := (e1_zero (h _ hk)).2 (by omega)
    rw [show i + 1 + (d + 1) - 1 = i + 1 + d by omega] at h2
    omega

theorem getD_at {l : List (BitVec 16)} {k : Nat} (h : k < l.length) : l.getD k 0#16 = l[k] := by simp [List.getD, h]
theorem acc_take {l : List (BitVec 16)} {i : Nat} {s : BitVec 16} (hi : i ≤ l.length) : accS (l.take i) s = true ↔ ∃ k, k < i ∧ subB s (l.getD k 0#16) = true := by
  unfold accS
  rw [List.any_eq_true]
  constructor
  · rintro ⟨x, hx, hs⟩
    obtain ⟨k, hk, e⟩ := List.mem_iff_getElem.1 hx
    rw [List.length_take] at hk
    rw [List.getElem_take] at e
    refine ⟨k, by omega, ?_⟩
    rw [getD_at (by omega), e]; exact hs
  · rintro ⟨k, hk, hs⟩
    refine ⟨l.getD k 0#16, ?_, hs⟩
    rw [getD_at (by omega)]
    exact List.mem_iff_getElem.2 ⟨k, by rw [List.length_take]; omega, by rw [List.getElem_take]⟩
theorem overB_iff (l : List (BitVec 16)) : overB l = true ↔ ∃ i k, i < l.length ∧ k < i ∧ subB (l.getD i 0#16) (l.getD k 0#16) = true := by
  unfold overB
  rw [List.any_eq_true]
  constructor
  · rintro ⟨i, hi, h⟩
    have hi' := List.mem_range.1 hi
    obtain ⟨k, hk, hs⟩ := (acc_take (Nat.le_of_lt hi')).1 h
    exact ⟨i, k, hi', hk, hs⟩
  · rintro ⟨i, k, hi, hk, hs⟩
    exact ⟨i, List.mem_range.2 hi, (acc_take (Nat.le_of_lt hi)).2 ⟨k, hk, hs⟩⟩
/-- in a sorted list only later sets can contain others -/
theorem overB_any {l : List (BitVec 16)} (h : ∀ j, j < l.length → e1 l j = 0) : overB l = true ↔ ∃ i k, i < l.length ∧ k < l.length ∧ i ≠ k ∧ subB (l.getD i 0#16) (l.getD k 0#16) = true := by
  rw [overB_iff]
  constructor
  · rintro ⟨i, k, hi, hk, hs⟩
    exact ⟨i, k, hi, by omega, by omega, hs⟩
  · rintro ⟨i, k, hi, hk, hne, hs⟩
    by_cases hki : k < i
    · exact ⟨i, k, hi, hki, hs⟩
    · have hm := sorted_mono h i k (by omega) hk
      have hc := sub_cnt hs
      have : cnt (l.getD i 0#16) ≤ cnt (l.getD k 0#16) := by
        have h1 := (l.getD i 0#16).isLt; have h2 := (l.getD k 0#16).isLt
        unfold keyS at hm; omega
      have e := sub_eq hs this
      rw [e] at hm; omega
end Go.Proofs.YtmjgdnpfgkpaoaaDoor
namespace Go.Proofs.YtmjgdnpfgkpaoaaDoor

structure Nod where
  kind : Int
  server : Int
  need : Int
  weights : List Int
  kids : List Int
structure Xpr where
  nodes : List Nod
  root : Int
def nod0 : Nod := ⟨0, 0, 0, [], []⟩

/-- a weight, a kid that is out of range -/
def hvyB (w : Int) : Bool := decide (w < 1) || decide (1000 < w)
def unkB (i : Nat) (k : Int) : Bool := decide (k < 0) || decide ((i : Int) ≤ k)
/-- the error of the node with an index -/
def nodE (nd : Nod) (i : Nat) : Int :=
  if (nd.kind ≠ 1 ∧ nd.kind ≠ 2) ∨ (nd.kind = 1 ∧ (nd.need ≠ 0 ∨ nd.weights ≠ [] ∨ nd.kids ≠ [])) ∨ (nd.kind = 2 ∧ nd.server ≠ 0) then 1
  else if (nd.server < 0 ∨ 12 ≤ nd.server ∨ nd.need < 0 ∨ 100000 < nd.need) ∨ nd.weights.any hvyB = true then 7
  else if nd.weights ≠ [] ∧ nd.weights.length ≠ nd.kids.length then 6
  else if nd.kids.any (unkB i) = true then 4 else 0
/-- the first error among the nodes from an index on -/
def nodsE : List Nod → Nat → Int
  | [], _ => 0
  | nd :: l, i => if nodE nd i ≠ 0 then nodE nd i else nodsE l (i + 1)
/-- the error of an expression -/
def xprE (x : Xpr) : Int :=
  if x.nodes = [] then 9 else if 60 < x.nodes.length then 3 else if nodsE x.nodes 0 ≠ 0 then nodsE x.nodes 0
  else if x.root < 0 ∨ (x.nodes.length : Int) ≤ x.root then 4 else 0

theorem nodsE_drop {l : List Nod} {i k : Nat} {nd : Nod} (h : l[k]? = some nd) : nodsE (l.drop k) i = if nodE nd i ≠ 0 then nodE nd i else nodsE (l.drop (k + 1)) (i + 1) := by
  have hk := (List.getElem?_eq_some_iff.1 h).1
  rw [List.drop_eq_getElem_cons hk]
  have : l[k] = nd := (List.getElem?_eq_some_iff.1 h).2
  rw [this]; rfl
theorem nodsE_ok : ∀ {l : List Nod} {i : Nat}, nodsE l i = 0 → ∀ (k : Nat) (nd : Nod), l[k]? = some nd → nodE nd (i + k) = 0 := by
  intro l
  induction l with
  | nil => intro i _ k nd h; simp at h
  | cons y l ih =>
    intro i h k nd hk
    unfold nodsE at h
    split at h
    · rename_i h1; exact absurd h h1
    · rename_i h1
      cases k with
      | zero => simp at hk; subst hk; simpa using h1
      | succ k =>
        have := ih h k nd (by simpa using hk)
        rw [show i + (k + 1) = i + 1 + k by omega]; exact this

/-- the weight of a kid -/
def wgtN (nd : Nod) (k : Nat) : Int := if nd.weights = [] then 1 else nd.weights.getD k 0
/-- the sum of the weights of the satisfied kids, of the first k -/
def gotTo (nd : Nod) (is : List Bool) : Nat → Int
  | 0 => 0
  | k + 1 => gotTo nd is k + (if is.getD (nd.kids.getD k 0).toNat false = true then wgtN nd k else 0)
def valN (nd : Nod) (is : List Bool) (s : BitVec 16) : Bool := if nd.kind = 1 then hasB s nd.server.toNat else decide (nd.need ≤ gotTo nd is nd.kids.length)
def holdTo (nodes : List Nod) (s : BitVec 16) : Nat → List Bool
  | 0 => []
  | k + 1 => holdTo nodes s k ++ [valN (nodes.getD k nod0) (holdTo nodes s k) s]
/-- a set satisfies an expression -/
def holdX (x : Xpr) (s : BitVec 16) : Bool := (holdTo x.nodes s x.nodes.length).getD x.root.toNat false

theorem holdTo_len (nodes : List Nod) (s : BitVec 16) : ∀ k, (holdTo nodes s k).length = k := by
  intro k
  induction k with
  | zero => rfl
  | succ k ih => rw [holdTo, List.length_append, ih]; rfl
theorem holdTo_get {nodes : List Nod} {s : BitVec 16} {i : Nat} : ∀ k, i < k → (holdTo nodes s k).getD i false = valN (nodes.getD i nod0) (holdTo nodes s i) s := by
  intro k
  induction k with
  | zero => intro h; omega
  | succ k ih =>
    intro h
    rw [holdTo, List.getD_eq_getElem?_getD]
    by_cases h1 : i < k
    · rw [List.getElem?_append_left (by rw [holdTo_len]; exact h1), ← List.getD_eq_getElem?_getD]
      exact ih h1
    · obtain rfl : i = k := by omega
      rw [List.getElem?_append_right (by rw [holdTo_len]; exact Nat.le_refl _), holdTo_len, Nat.sub_self]; rfl
/-- the value of the root needs no node behind it -/
theorem holdX_root {x : Xpr} {s : BitVec 16} {r : Nat} (hr : x.root = (r : Int)) (hl : r < x.nodes.length) : holdX x s = (holdTo x.nodes s (r + 1)).getD r false := by
  unfold holdX
  rw [hr, Int.toNat_natCast, holdTo_get _ hl, holdTo_get _ (Nat.lt_succ_self r)]

/-! what holds of valid nodes -/
structure NodOk (nd : Nod) (i : Nat) : Prop where
  kind : nd.kind = 1 ∨ nd.kind = 2
  server : 0 ≤ nd.server ∧ nd.server < 12
  need : 0 ≤ nd.need ∧ nd.need ≤ 100000
  weights : ∀ w ∈ nd.weights, 1 ≤ w ∧ w ≤ 1000
  arity : nd.weights = [] ∨ nd.weights.length = nd.kids.length
  kids : ∀ k ∈ nd.kids, 0 ≤ k ∧ k < (i : Int)
  leaf : nd.kind = 1 → nd.need = 0 ∧ nd.weights = [] ∧ nd.kids = []
theorem nodE_ok {nd : Nod} {i : Nat} (h : nodE nd i = 0) : NodOk nd i := by
  unfold nodE at h
  split at h
  · cases h
  · rename_i h1
    split at h
    · cases h
    · rename_i h2
      split at h
      · cases h
      · rename_i h3
        split at h
        · cases h
        · rename_i h4
          refine ⟨?_, ?_, ?_, fun w hw => ?_, ?_, fun k hk => ?_, fun hk => ?_⟩
          · omega
          · omega
          · omega
          · have : hvyB w = false := by
              cases hq : hvyB w
              · rfl
              · exact absurd (.inr (List.any_eq_true.2 ⟨w, hw, hq⟩)) h2
            unfold hvyB at this
            rw [Bool.or_eq_false_iff, decide_eq_false_iff_not, decide_eq_false_iff_not] at this
            omega
          · by_cases hw : nd.weights = []
            · exact .inl hw
            · exact .inr (Classical.byContradiction fun hn => h3 ⟨hw, hn⟩)
          · have : unkB i k = false := by
              cases hq : unkB i k
              · rfl
              · exact absurd (List.any_eq_true.2 ⟨k, hk, hq⟩) h4
            unfold unkB at this
            rw [Bool.or_eq_false_iff, decide_eq_false_iff_not, decide_eq_false_iff_not] at this
            omega
          · refine ⟨?_, ?_, ?_⟩ <;> apply Classical.byContradiction <;> intro hn
            · exact h1 (.inr (.inl ⟨hk, .inl hn⟩))
            · exact h1 (.inr (.inl ⟨hk, .inr (.inl hn)⟩))
            · exact h1 (.inr (.inl ⟨hk, .inr (.inr hn)⟩))
structure XprOk (x : Xpr) : Prop where
  pos : 0 < x.nodes.length
  most : x.nodes.length ≤ 60
  node : ∀ (k : Nat) (nd : Nod), x.nodes[k]? = some nd → NodOk nd k
  root : 0 ≤ x.root ∧ x.root < (x.nodes.length : Int)
theorem xprE_ok {x : Xpr} (h : xprE x = 0) : XprOk x := by
  unfold xprE at h
  split at h
  · cases h
  · rename_i h1
    split at h
    · cases h
    · rename_i h2
      split at h
      · rename_i h3; exact absurd h h3
      · rename_i h3
        split at h
        · cases h
        · rename_i h4
          exact ⟨List.length_pos_iff.2 h1, by omega, fun k nd hk => by have := nodE_ok (nodsE_ok (by simpa using h3) k nd hk); rwa [Nat.zero_add] at this, by omega⟩

theorem wgt_pos {nd : Nod} {i : Nat} (h : NodOk nd i) (k : Nat) : 0 ≤ wgtN nd k ∧ wgtN nd k ≤ 1000 := by
  unfold wgtN
  split
  · omega
  · rw [List.getD_eq_getElem?_getD]
    cases hq : nd.weights[k]? with
    | none => decide
    | some w => have := h.weights w (List.mem_of_getElem? hq); show 0 ≤ w ∧ w ≤ 1000; omega
theorem got_bd {nd : Nod} {i : Nat} (h : NodOk nd i) (is : List Bool) : ∀ k, 0 ≤ gotTo nd is k ∧ gotTo nd is k ≤ 1000 * k := by
  intro k
  induction k with
  | zero => exact ⟨Int.le_refl _, by simp [gotTo]⟩
  | succ k ih =>
    have := wgt_pos h k
    unfold gotTo
    split <;> omega
theorem got_mono {nd : Nod} {i : Nat} (h : NodOk nd i) {is is' : List Bool} (hi : ∀ j, is.getD j false = true → is'.getD j false = true) : ∀ k, gotTo nd is k ≤ gotTo nd is' k := by
  intro k
  induction k with
  | zero => exact Int.le_refl _
  | succ k ih =>
    have := wgt_pos h k
    unfold gotTo
    by_cases h1 : is.getD (nd.kids.getD k 0).toNat false = true
    · rw [if_pos h1, if_pos (hi _ h1)]; omega
    · rw [if_neg h1]; split <;> omega
theorem val_mono {nd : Nod} {i : Nat} (h : NodOk nd i) {is is' : List Bool} {s s' : BitVec 16} (hi : ∀ j, is.getD j false = true → is'.getD j false = true) (hs : ∀ p, hasB s p = true → hasB s' p = true) (hv : valN nd is s = true) : valN nd is' s' = true := by
  unfold valN at hv ⊢
  split
  · rename_i hk; rw [if_pos hk] at hv; exact hs _ hv
  · rename_i hk
    rw [if_neg hk] at hv
    have h1 := of_decide_eq_true hv
    have h2 := got_mono h hi nd.kids.length
    exact decide_eq_true (by omega)
theorem hold_mono {x : Xpr} (h : XprOk x) {s s' : BitVec 16} (hs : ∀ p, hasB s p = true → hasB s' p = true) : ∀ k, k ≤ x.nodes.length → ∀ j, (holdTo x.nodes s k).getD j false = true → (holdTo x.nodes s' k).getD j false = true := by
  intro k
  induction k with
  | zero => intro _ j hj; simp [holdTo] at hj
  | succ k ih =>
    intro hk j hj
    have hjk : j < k + 1 := by
      apply Classical.byContradiction
      intro hn
      rw [List.getD_eq_getElem?_getD, List.getElem?_eq_none (by rw [holdTo_len]; omega)] at hj
      cases hj
    by_cases h1 : j < k
    · have e1 := holdTo_get (nodes := x.nodes) (s := s) (k + 1) hjk
      have e2 := holdTo_get (nodes := x.nodes) (s := s) k h1
      have e3 := holdTo_get (nodes := x.nodes) (s := s') (k + 1) hjk
      have e4 := holdTo_get (nodes := x.nodes) (s := s') k h1
      rw [e3, ← e4]
      exact ih (by omega) j (by rw [e2, ← e1]; exact hj)
    · obtain rfl : j = k := by omega
      rw [holdTo_get _ hjk] at hj ⊢
      have hnd : x.nodes[j]? = some (x.nodes.getD j nod0) := by rw [List.getD_eq_getElem?_getD, List.getElem?_eq_getElem (by omega)]; rfl
      exact val_mono (h.node j _ hnd) (ih (by omega)) hs hj
/-- what is satisfied stays so with more servers -/
theorem holdX_mono {x : Xpr} (h : XprOk x) {s s' : BitVec 16} (hs : ∀ p, hasB s p = true → hasB s' p = true) (hx : holdX x s = true) : holdX x s' = true := hold_mono h hs _ (Nat.le_refl _) _ hx

/-- the servers of an expression -/
def srvTo (nodes : List Nod) (k : Nat) : BitVec 16 := (nodes.take k).foldl (fun o nd => if nd.kind = 1 then o ||| bitS nd.server.toNat else o) 0#16
def srvX (x : Xpr) : BitVec 16 := srvTo x.nodes x.nodes.length
theorem srvTo_succ {nodes : List Nod} {k : Nat} {nd : Nod} (h : nodes[k]? = some nd) : srvTo nodes (k + 1) = if nd.kind = 1 then srvTo nodes k ||| bitS nd.server.toNat else srvTo nodes k := by
  unfold srvTo; rw [List.take_add_one, h]; simp
theorem srvTo_has {x : Xpr} (h : XprOk x) {p : Nat} : ∀ k, k ≤ x.nodes.length → (hasB (srvTo x.nodes k) p = true ↔ ∃ nd ∈ x.nodes.take k, nd.kind = 1 ∧ nd.server = (p : Int)) := by
  intro k
  induction k with
  | zero => intro _; simp [srvTo, hasB_zero]
  | succ k ih =>
    intro hk
    have he : x.nodes[k]? = some (x.nodes[k]'(by omega)) := List.getElem?_eq_getElem _
    obtain ⟨nd, hnd⟩ : ∃ nd, x.nodes[k]'(by omega) = nd := ⟨_, rfl⟩
    rw [hnd] at he
    have hok := h.node k nd he
    have ht : x.nodes.take (k + 1) = x.nodes.take k ++ [nd] := by rw [List.take_add_one, he]; rfl
    rw [srvTo_succ he, ht]
    have key : (∃ d ∈ x.nodes.take k ++ [nd], d.kind = 1 ∧ d.server = (p : Int)) ↔ (∃ d ∈ x.nodes.take k, d.kind = 1 ∧ d.server = (p : Int)) ∨ (nd.kind = 1 ∧ nd.server = (p : Int)) := by
      constructor
      · rintro ⟨d, hd, hq⟩
        rcases List.mem_append.1 hd with hd | hd
        · exact .inl ⟨d, hd, hq⟩
        · rw [List.mem_singleton] at hd; subst hd; exact .inr hq
      · rintro (⟨d, hd, hq⟩ | hq)
        · exact ⟨d, List.mem_append_left _ hd, hq⟩
        · exact ⟨nd, List.mem_append_right _ (List.mem_singleton_self _), hq⟩
    rw [key, ← ih (by omega)]
    by_cases h1 : nd.kind = 1
    · rw [if_pos h1, hasB_or, Bool.or_eq_true, hasB_bit _ _ (by have := hok.server; omega), decide_eq_true_eq]
      have hs := hok.server
      constructor
      · rintro (h2 | h2)
        · exact .inl h2
        · exact .inr ⟨h1, by omega⟩
      · rintro (h2 | h2)
        · exact .inl h2
        · exact .inr (by omega)
    · rw [if_neg h1]
      constructor
      · exact .inl
      · rintro (h2 | h2)
        · exact h2
        · exact absurd h2.1 h1
theorem srvX_has {x : Xpr} (h : XprOk x) {p : Nat} : hasB (srvX x) p = true ↔ ∃ nd ∈ x.nodes, nd.kind = 1 ∧ nd.server = (p : Int) := by
  have := srvTo_has h (p := p) _ (Nat.le_refl _)
  rwa [List.take_length] at this
theorem srvX_12 {x : Xpr} (h : XprOk x) {p : Nat} (hp : hasB (srvX x) p = true) : p < 12 := by
  obtain ⟨nd, hnd, _, hs⟩ := (srvX_has h).1 hp
  obtain ⟨k, hk⟩ := List.mem_iff_getElem?.1 hnd
  have := (h.node k nd hk).server
  omega
/-- only its servers matter -/
theorem hold_only {x : Xpr} (h : XprOk x) {s s' : BitVec 16} (hs : ∀ p, hasB (srvX x) p = true → hasB s p = hasB s' p) : ∀ k, k ≤ x.nodes.length → holdTo x.nodes s k = holdTo x.nodes s' k := by
  intro k
  induction k with
  | zero => intro _; rfl
  | succ k ih =>
    intro hk
    unfold holdTo
    rw [ih (by omega)]
    congr 2
    have hnd : x.nodes[k]? = some (x.nodes.getD k nod0) := by rw [List.getD_eq_getElem?_getD, List.getElem?_eq_getElem (by omega)]; rfl
    have hok := h.node k _ hnd
    unfold valN
    split
    · rename_i hk1
      refine hs _ ((srvX_has h).2 ⟨_, List.mem_of_getElem? hnd, hk1, ?_⟩)
      have := hok.server; omega
    · rfl
theorem holdX_only {x : Xpr} (h : XprOk x) {s s' : BitVec 16} (hs : ∀ p, hasB (srvX x) p = true → hasB s p = hasB s' p) : holdX x s = holdX x s' := by
  unfold holdX; rw [hold_only h hs _ (Nat.le_refl _)]

/-- minimal sets, out of a list of sets in order -/
def famStep (x : Xpr) (o : List (BitVec 16)) (s : BitVec 16) : List (BitVec 16) := if accS o s = true then o else if holdX x s = true then o ++ [s] else o
def famOf (x : Xpr) (l : List (BitVec 16)) : List (BitVec 16) := l.foldl (famStep x) []
theorem acc_app (l m : List (BitVec 16)) (s : BitVec 16) : accS (l ++ m) s = (accS l s || accS m s) := by unfold accS; rw [List.any_append]
theorem fam_grow (x : Xpr) : ∀ (l o : List (BitVec 16)) (s : BitVec 16), accS o s = true → accS (l.foldl (famStep x) o) s = true := by
  intro l
  induction l with
  | nil => intro o s h; exact h
  | cons y l ih =>
    intro o s h
    rw [List.foldl_cons]
    apply ih
    unfold famStep
    split
    · exact h
    · split
      · rw [acc_app, h]; rfl
      · exact h
theorem fam_only (x : Xpr) : ∀ (l o : List (BitVec 16)), ∀ f ∈ l.foldl (famStep x) o, f ∈ o ∨ (f ∈ l ∧ holdX x f = true) := by
  intro l
  induction l with
  | nil => intro o f h; exact .inl h
  | cons y l ih =>
    intro o f h
    rw [List.foldl_cons] at h
    rcases ih _ f h with h1 | ⟨h1, h2⟩
    · unfold famStep at h1
      split at h1
      · exact .inl h1
      · split at h1
        · rename_i hq
          rcases List.mem_append.1 h1 with h1 | h1
          · exact .inl h1
          · rw [List.mem_singleton] at h1; subst h1; exact .inr ⟨List.mem_cons_self .., hq⟩
        · exact .inl h1
    · exact .inr ⟨List.mem_cons_of_mem _ h1, h2⟩
theorem acc_self' (s : BitVec 16) : accS [s] s = true := by
  unfold accS; rw [List.any_cons, Bool.or_eq_true]; exact .inl ((subB_iff s s).2 fun _ h => h)
theorem fam_all (x : Xpr) : ∀ (l o : List (BitVec 16)) (s : BitVec 16), s ∈ l → holdX x s = true → accS (l.foldl (famStep x) o) s = true := by
  intro l
  induction l with
  | nil => intro o s h; cases h
  | cons y l ih =>
    intro o s h hx
    rw [List.foldl_cons]
    rcases List.mem_cons.1 h with rfl | h
    · apply fam_grow
      unfold famStep
      split
      · assumption
      · first | rw [if_pos hx, acc_app, acc_self', Bool.or_true] | rw [acc_app, acc_self', Bool.or_true]
    · exact ih _ s h hx
/-- a family that was read off all subsets says what satisfies the expression -/
theorem fam_holds {x : Xpr} (h : XprOk x) {l : List (BitVec 16)} (hl : ∀ s, (∀ p, hasB s p = true → hasB (srvX x) p = true) → s ∈ l) (s : BitVec 16) : accS (famOf x l) s = holdX x s := by
  rw [Bool.eq_iff_iff]
  constructor
  · intro ha
    unfold accS at ha
    obtain ⟨f, hf, hs⟩ := List.any_eq_true.1 ha
    rcases fam_only x l [] f hf with h1 | ⟨_, h2⟩
    · cases h1
    · exact holdX_mono h ((subB_iff _ _).1 hs) h2
  · intro hx
    have hsub : ∀ p, hasB (s &&& srvX x) p = true → hasB (srvX x) p = true := fun p hp => by
      rw [hasB_and, Bool.and_eq_true] at hp; exact hp.2
    have h1 : holdX x (s &&& srvX x) = true := by
      rw [← hx]; exact holdX_only h fun p hp => by rw [hasB_and, hp, Bool.and_true]
    have h2 := fam_all x l [] _ (hl _ hsub) h1
    obtain ⟨f, hf, hs⟩ := List.any_eq_true.1 h2
    unfold famOf accS
    rw [List.any_eq_true]
    refine ⟨f, hf, (subB_iff _ _).2 fun p hp => ?_⟩
    have := (subB_iff _ _).1 hs p hp
    rw [hasB_and, Bool.and_eq_true] at this
    exact this.1
end Go.Proofs.YtmjgdnpfgkpaoaaDoor
namespace Go.Proofs.YtmjgdnpfgkpaoaaDoor

structure Cho where
  server : Int
  first : Int
  second : Int
structure Tre where
  nodes : List Cho
  root : Int
def cho0 : Cho := ⟨0, 0, 0⟩
def leafC (c : Cho) : Bool := decide (c.server = -1) || decide (c.server = -2)
/-- a node with an index is right -/
def nodC (c : Cho) (i : Nat) : Bool := if leafC c = true then decide (c.first = 0) && decide (c.second = 0) else ((decide (0 ≤ c.server) && decide (c.server < 12)) && (decide (0 ≤ c.first) && decide (c.first < (i : Int)))) && (decide (0 ≤ c.second) && decide (c.second < (i : Int)))
/-- the numbers of parents -/
def bumpS (ps : List Int) (j : Int) : List Int := ps.set j.toNat (ps.getD j.toNat 0 + 1)
def parStep (ps : List Int) (c : Cho) : List Int := if leafC c = true then ps else bumpS (bumpS ps c.first) c.second
def parTo (nodes : List Cho) (k : Nat) : List Int := (nodes.take k).foldl parStep (List.replicate nodes.length 0)
def nodsC (nodes : List Cho) : Bool := (List.range nodes.length).all fun i => nodC (nodes.getD i cho0) i
def parB (root : Int) (ps : List Int) (i : Nat) : Bool := if (i : Int) = root then ps.getD i 0 == 0 else ps.getD i 0 == 1
def parsB (t : Tre) : Bool := (List.range t.nodes.length).all (parB t.root (parTo t.nodes t.nodes.length))
def sizeC (t : Tre) : Bool := ((decide (1 ≤ t.nodes.length) && decide (t.nodes.length ≤ 8191)) && decide (0 ≤ t.root)) && decide (t.root < (t.nodes.length : Int))
/-- a tree is well formed -/
def formC (t : Tre) : Bool := (sizeC t && nodsC t.nodes) && parsB t

theorem parTo_succ {nodes : List Cho} {k : Nat} {c : Cho} (h : nodes[k]? = some c) : parTo nodes (k + 1) = parStep (parTo nodes k) c := by
  unfold parTo; rw [List.take_add_one, h]; simp
theorem bump_len (ps : List Int) (j : Int) : (bumpS ps j).length = ps.length := by unfold bumpS; rw [List.length_set]
theorem parStep_len (ps : List Int) (c : Cho) : (parStep ps c).length = ps.length := by
  unfold parStep; split
  · rfl
  · rw [bump_len, bump_len]
theorem parTo_len (nodes : List Cho) (k : Nat) : (parTo nodes k).length = nodes.length := by
  unfold parTo
  have : ∀ (l : List Cho) (o : List Int), (l.foldl parStep o).length = o.length := by
    intro l
    induction l with
    | nil => intro o; rfl
    | cons c l ih => intro o; rw [List.foldl_cons, ih, parStep_len]
  rw [this, List.length_replicate]

/-! right trees -/
def allV : BitVec 16 := 4095#16
def rightF (x y : Xpr) (b : BitVec 16) (nodes : List Cho) : Nat → Int → BitVec 16 → BitVec 16 → Bool
  | 0, _, _, _ => false
  | f + 1, i, p, q =>
    if (nodes.getD i.toNat cho0).server = -1 then !holdX x (allV &&& ~~~q)
    else if (nodes.getD i.toNat cho0).server = -2 then !holdX y (allV &&& ~~~p)
    else if ((bitS (nodes.getD i.toNat cho0).server.toNat &&& (b ||| p ||| q)) == 0#16) = true then
      rightF x y b nodes f (nodes.getD i.toNat cho0).first (p ||| bitS (nodes.getD i.toNat cho0).server.toNat) q && rightF x y b nodes f (nodes.getD i.toNat cho0).second p (q ||| bitS (nodes.getD i.toNat cho0).server.toNat)
    else false
/-- a tree is a certificate (for valid expressions) -/
def certC (x y : Xpr) (b : BitVec 16) (t : Tre) : Bool := formC t && rightF x y b t.nodes t.nodes.length t.root 0#16 0#16
def viol (x y b : BitVec 16) : Bool := x &&& y &&& ~~~b == 0#16
def famsB (f g : List (BitVec 16)) (b : BitVec 16) : Bool := f.all fun x => g.all fun y => !viol x y b

theorem hasB_not (x : BitVec 16) (i : Nat) (h : i < 16) : hasB (~~~x) i = !hasB x i := by unfold hasB; rw [BitVec.getLsbD_not]; simp [h]
theorem hasB_all (i : Nat) : hasB allV i = decide (i < 12) := by
  by_cases h : i < 16
  · have : ∀ i : Fin 16, hasB allV i.val = decide (i.val < 12) := by decide +kernel
    exact this ⟨i, h⟩
  · rw [decide_eq_false (by omega)]
    cases hq : hasB allV i
    · rfl
    · exact absurd (hasB_lt hq) h
theorem hasB_allnot (q : BitVec 16) (i : Nat) : hasB (allV &&& ~~~q) i = (decide (i < 12) && !hasB q i) := by
  rw [hasB_and, hasB_all]
  by_cases h : i < 12
  · rw [hasB_not _ _ (by omega)]
  · rw [decide_eq_false h]; rfl
theorem viol_iff (x y b : BitVec 16) : viol x y b = true ↔ ∀ i, hasB x i = true → hasB y i = true → hasB b i = true := by
  unfold viol
  rw [beq_iff_eq]
  constructor
  · intro h i hx hy
    cases hb : hasB b i
    · exfalso
      have h1 : hasB (x &&& y &&& ~~~b) i = true := by rw [hasB_and, hasB_and, hx, hy, hasB_not _ _ (hasB_lt hx), hb]; rfl
      rw [h, hasB_zero] at h1; cases h1
    · rfl
  · intro h
    refine hasB_ext fun i hi => ?_
    rw [hasB_zero, hasB_and, hasB_and, hasB_not _ _ hi]
    cases hx : hasB x i
    · rfl
    · cases hy : hasB y i
      · rfl
      · rw [h i hx hy]; rfl
theorem nodsC_at {nodes : List Cho} (h : nodsC nodes = true) {i : Nat} (hi : i < nodes.length) : nodC (nodes.getD i cho0) i = true := List.all_eq_true.1 h i (List.mem_range.2 hi)
/-- a certificate shows that there is no violating pair -/
theorem right_sound {x y : Xpr} (hx : XprOk x) (hy : XprOk y) {b F G : BitVec 16} (hF : holdX x F = true) (hG : holdX y G = true) (hFG : ∀ i, hasB F i = true → hasB G i = true → hasB b i = true) (hF12 : ∀ i, hasB F i = true → i < 12) (hG12 : ∀ i, hasB G i = true → i < 12) (nodes : List Cho) :
    ∀ (f : Nat) (i : Int) (p q : BitVec 16), (∀ j, hasB p j = true → hasB G j = false) → (∀ j, hasB q j = true → hasB F j = false) → (∀ c ∈ nodes, leafC c = false → 0 ≤ c.server ∧ c.server < 12) → 0 ≤ i → (i.toNat < nodes.length) → rightF x y b nodes f i p q = true → (∀ (k : Nat) c, nodes[k]? = some c → leafC c = false → (0 ≤ c.first ∧ c.first.toNat < k) ∧ 0 ≤ c.second ∧ c.second.toNat < k) → False := by
  intro f
  induction f with
  | zero => intro i p q _ _ _ _ _ h _; cases h
  | succ f ih =>
    intro i p q hp hq hsv hi0 hin h hk
    have hc : nodes[i.toNat]? = some (nodes.getD i.toNat cho0) := by rw [List.getD_eq_getElem?_getD, List.getElem?_eq_getElem hin]; rfl
    obtain ⟨c, hce⟩ : ∃ c, nodes.getD i.toNat cho0 = c := ⟨_, rfl⟩
    unfold rightF at h
    rw [hce] at h hc
    by_cases h1 : c.server = -1
    · rw [if_pos h1] at h
      have : holdX x (allV &&& ~~~q) = true := holdX_mono hx (fun j hj => by
        rw [hasB_allnot, decide_eq_true (hF12 j hj)]
        cases hqj : hasB q j
        · rfl
        · rw [hq j hqj] at hj; cases hj) hF
      rw [this] at h; cases h
    · rw [if_neg h1] at h
      by_cases h2 : c.server = -2
      · rw [if_pos h2] at h
        have : holdX y (allV &&& ~~~p) = true := holdX_mono hy (fun j hj => by
          rw [hasB_allnot, decide_eq_true (hG12 j hj)]
          cases hpj : hasB p j
          · rfl
          · rw [hp j hpj] at hj; cases hj) hG
        rw [this] at h; cases h
      · rw [if_neg h2] at h
        have hlf : leafC c = false := by unfold leafC; rw [decide_eq_false h1, decide_eq_false h2]; rfl
        obtain ⟨hs0, hs12⟩ := hsv c (List.mem_of_getElem? hc) hlf
        obtain ⟨⟨f0, fl⟩, s0, sl⟩ := hk _ c hc hlf
        split at h
        · rename_i hz
          rw [Bool.and_eq_true] at h
          have hsb : hasB b c.server.toNat = false := by
            cases hq2 : hasB b c.server.toNat
            · rfl
            · exfalso
              have h9 : hasB (bitS c.server.toNat &&& (b ||| p ||| q)) c.server.toNat = true := by rw [hasB_and, hasB_bit _ _ (by omega), hasB_or, hasB_or, hq2]; simp
              rw [eq_of_beq hz, hasB_zero] at h9; cases h9
          cases hG2 : hasB G c.server.toNat
          · refine ih c.first _ q (fun j hj => ?_) hq hsv f0 (by omega) h.1 hk
            rw [hasB_or, Bool.or_eq_true, hasB_bit _ _ (by omega), decide_eq_true_eq] at hj
            rcases hj with hj | rfl
            · exact hp j hj
            · exact hG2
          · refine ih c.second p _ hp (fun j hj => ?_) hsv s0 (by omega) h.2 hk
            rw [hasB_or, Bool.or_eq_true, hasB_bit _ _ (by omega), decide_eq_true_eq] at hj
            rcases hj with hj | rfl
            · exact hq j hj
            · cases hF2 : hasB F c.server.toNat
              · rfl
              · have := hFG _ hF2 hG2; rw [hsb] at this; cases this
        · cases h
theorem formC_parts {t : Tre} (h : formC t = true) : (1 ≤ t.nodes.length ∧ t.nodes.length ≤ 8191 ∧ 0 ≤ t.root ∧ t.root < (t.nodes.length : Int)) ∧ nodsC t.nodes = true ∧ parsB t = true := by
  unfold formC sizeC at h
  simp only [Bool.and_eq_true, decide_eq_true_eq] at h
  exact ⟨⟨h.1.1.1.1.1, h.1.1.1.1.2, h.1.1.1.2, h.1.1.2⟩, h.1.2, h.2⟩
theorem nodC_leaf {c : Cho} {i : Nat} (h : nodC c i = true) (hl : leafC c = false) : (0 ≤ c.server ∧ c.server < 12) ∧ (0 ≤ c.first ∧ c.first < (i : Int)) ∧ 0 ≤ c.second ∧ c.second < (i : Int) := by
  unfold nodC at h
  rw [hl, if_neg (by decide)] at h
  simp only [Bool.and_eq_true, decide_eq_true_eq] at h
  omega
theorem cert_sound {x y : Xpr} (hx : XprOk x) (hy : XprOk y) {b : BitVec 16} {t : Tre} (h : certC x y b t = true) {f g : List (BitVec 16)} (hf : ∀ F ∈ f, holdX x F = true ∧ ∀ i, hasB F i = true → i < 12) (hg : ∀ G ∈ g, holdX y G = true ∧ ∀ i, hasB G i = true → i < 12) : famsB f g b = true := by
  unfold certC at h
  rw [Bool.and_eq_true] at h
  obtain ⟨⟨h1, h2, h3, h4⟩, hn, _⟩ := formC_parts h.1
  refine List.all_eq_true.2 fun F hF => List.all_eq_true.2 fun G hG => ?_
  cases hv : viol F G b
  · rfl
  · exfalso
    refine right_sound hx hy (hf F hF).1 (hg G hG).1 ((viol_iff _ _ _).1 hv) (hf F hF).2 (hg G hG).2 t.nodes _ t.root 0#16 0#16 (fun j hj => by rw [hasB_zero] at hj; cases hj) (fun j hj => by rw [hasB_zero] at hj; cases hj) (fun c hc hl => ?_) h3 (by omega) h.2 (fun k c hk hl => ?_)
    · obtain ⟨k, hk⟩ := List.mem_iff_getElem?.1 hc
      have hk2 := (List.getElem?_eq_some_iff.1 hk).1
      have := nodsC_at hn hk2
      rw [List.getD_eq_getElem?_getD, hk, Option.getD_some] at this
      exact (nodC_leaf this hl).1
    · have hk2 := (List.getElem?_eq_some_iff.1 hk).1
      have := nodsC_at hn hk2
      rw [List.getD_eq_getElem?_getD, hk, Option.getD_some] at this
      have := (nodC_leaf this hl).2
      omega
/-- a certificate outside of a set is one outside of each part -/
theorem right_part {x y : Xpr} {b b' : BitVec 16} (hb : ∀ i, hasB b' i = true → hasB b i = true) (nodes : List Cho) : ∀ (f : Nat) (i : Int) (p q : BitVec 16), rightF x y b nodes f i p q = true → rightF x y b' nodes f i p q = true := by
  intro f
  induction f with
  | zero => intro i p q h; cases h
  | succ f ih =>
    intro i p q h
    unfold rightF at h ⊢
    split
    · rename_i h1; rw [if_pos h1] at h; exact h
    · rename_i h1
      rw [if_neg h1] at h
      split
      · rename_i h2; rw [if_pos h2] at h; exact h
      · rename_i h2
        rw [if_neg h2] at h
        split at h
        · rename_i hz
          rw [Bool.and_eq_true] at h
          rw [if_pos, ih _ _ _ h.1, ih _ _ _ h.2]
          · rfl
          · rw [beq_iff_eq]
            refine hasB_ext fun j hj => ?_
            have h9 := congrArg (fun v => hasB v j) (eq_of_beq hz)
            simp only [hasB_and, hasB_or, hasB_zero] at h9 ⊢
            cases hs : hasB (bitS (nodes.getD i.toNat cho0).server.toNat) j
            · rfl
            · rw [hs] at h9
              simp only [Bool.true_and, Bool.or_eq_false_iff] at h9 ⊢
              refine ⟨⟨?_, h9.1.2⟩, h9.2⟩
              cases hq : hasB b' j
              · rfl
              · rw [hb j hq] at h9; cases h9.1.1
        · cases h
theorem cert_part {x y : Xpr} {b b' : BitVec 16} (hb : ∀ i, hasB b' i = true → hasB b i = true) {t : Tre} (h : certC x y b t = true) : certC x y b' t = true := by
  unfold certC at h ⊢
  rw [Bool.and_eq_true] at h ⊢
  exact ⟨h.1, right_part hb _ _ _ _ _ h.2⟩
theorem fams_part {f g : List (BitVec 16)} {b b' : BitVec 16} (hb : ∀ i, hasB b' i = true → hasB b i = true) (h : famsB f g b = true) : famsB f g b' = true := by
  refine List.all_eq_true.2 fun F hF => List.all_eq_true.2 fun G hG => ?_
  have := List.all_eq_true.1 (List.all_eq_true.1 h F hF) G hG
  cases hv : viol F G b'
  · rfl
  · exfalso
    have h1 := (viol_iff F G b).2 fun i h2 h3 => hb i ((viol_iff F G b').1 hv i h2 h3)
    rw [h1] at this; cases this
end Go.Proofs.YtmjgdnpfgkpaoaaDoor
namespace Go.Proofs.YtmjgdnpfgkpaoaaDoor
open Go.RowKit

/-- the five cells of a node -/
structure NodM (w : World) (b o : Nat) (nd : Nod) : Prop where
  c0 : w.cell? ⟨b, o, none⟩ = some (.int .i64 nd.kind)
  c1 : w.cell? ⟨b, o + 1, none⟩ = some (.int .i64 nd.server)
  c2 : w.cell? ⟨b, o + 2, none⟩ = some (.int .i64 nd.need)
  ws : ∃ a n c, w.cell? ⟨b, o + 3, none⟩ = some (.slice a n c) ∧ Rd w a n c (nd.weights.map (Value.int .i64))
  ks : ∃ a n c, w.cell? ⟨b, o + 4, none⟩ = some (.slice a n c) ∧ Rd w a n c (nd.kids.map (Value.int .i64))
/-- the slice value '.slice a n c' reads as these nodes -/
structure XM (w : World) (a : Option Addr) (n c : Nat) (nodes : List Nod) : Prop where
  len : nodes.length = n
  le : n ≤ c
  max : c ≤ maxLen
  nil : a = none → c = 0
  at' : 0 < n → ∃ b o, a = some ⟨b, o, none⟩ ∧ ∀ i nd, nodes[i]? = some nd → NodM w b (o + i * 5) nd
theorem XM.none_ (w : World) : XM w none 0 0 [] := ⟨rfl, Nat.le_refl _, by simp [maxLen], fun _ => rfl, fun h => absurd h (by decide)⟩

theorem cell_keep {w w' : World} {b o : Nat} {v : Value} (hb : Below w.heap.size w w') (h : w.cell? ⟨b, o, none⟩ = some v) : w'.cell? ⟨b, o, none⟩ = some v :=
  (hb.cell (p := ⟨b, o, none⟩) (cell_lt h)).trans h
theorem NodM.below {w w' : World} {b o : Nat} {nd : Nod} (h : NodM w b o nd) (hb : Below w.heap.size w w') : NodM w' b o nd := by
  obtain ⟨a, n, c, h3, r3⟩ := h.ws
  obtain ⟨a', n', c', h4, r4⟩ := h.ks
  exact ⟨cell_keep hb h.c0, cell_keep hb h.c1, cell_keep hb h.c2, ⟨a, n, c, cell_keep hb h3, r3.below hb⟩, ⟨a', n', c', cell_keep hb h4, r4.below hb⟩⟩
theorem XM.below {w w' : World} {a : Option Addr} {n c : Nat} {nodes : List Nod} (h : XM w a n c nodes) (hb : Below w.heap.size w w') : XM w' a n c nodes := by
  refine ⟨h.len, h.le, h.max, h.nil, fun hn => ?_⟩
  obtain ⟨b, o, ha, hc⟩ := h.at' hn
  exact ⟨b, o, ha, fun i nd hi => (hc i nd hi).below hb⟩
theorem NodM.drewN {w : World} {b o : Nat} {nd : Nod} (h : NodM w b o nd) (q : Nat) : NodM (w.drewN q) b o nd := by
  obtain ⟨a, n, c, h3, r3⟩ := h.ws
  obtain ⟨a', n', c', h4, r4⟩ := h.ks
  exact ⟨h.c0, h.c1, h.c2, ⟨a, n, c, h3, ⟨r3.len, r3.le, r3.max, r3.nil, r3.at'⟩⟩, ⟨a', n', c', h4, ⟨r4.len, r4.le, r4.max, r4.nil, r4.at'⟩⟩⟩
theorem XM.drewN {w : World} {a : Option Addr} {n c : Nat} {nodes : List Nod} (h : XM w a n c nodes) (q : Nat) : XM (w.drewN q) a n c nodes := by
  refine ⟨h.len, h.le, h.max, h.nil, fun hn => ?_⟩
  obtain ⟨b, o, ha, hc⟩ := h.at' hn
  exact ⟨b, o, ha, fun i nd hi => (hc i nd hi).drewN q⟩
theorem XM.take {w : World} {a : Option Addr} {n c : Nat} {nodes : List Nod} (h : XM w a n c nodes) (k : Nat) (hk : k ≤ n) : XM w a k c (nodes.take k) := by
  refine ⟨by rw [List.length_take, h.len]; omega, by have := h.le; omega, h.max, h.nil, fun hn => ?_⟩
  obtain ⟨b, o, ha, hc⟩ := h.at' (by omega)
  refine ⟨b, o, ha, fun i nd hi => hc i nd ?_⟩
  rw [List.getElem?_take] at hi
  split at hi
  · exact hi
  · cases hi

/-! nodes as values, in a row of the call's own -/
structure NodV where
  kind : Int
  server : Int
  need : Int
  wv : Value
  kv : Value
def nodVC (p : NodV) : List Value := [.int .i64 p.kind, .int .i64 p.server, .int .i64 p.need, p.wv, p.kv]
theorem nodVC_len (p : NodV) : (nodVC p).length = 5 := rfl
/-- a node's value reads as the node -/
structure NodR (w : World) (p : NodV) (nd : Nod) : Prop where
  e0 : p.kind = nd.kind
  e1 : p.server = nd.server
  e2 : p.need = nd.need
  ws : ∃ a n c, p.wv = .slice a n c ∧ Rd w a n c (nd.weights.map (Value.int .i64))
  ks : ∃ a n c, p.kv = .slice a n c ∧ Rd w a n c (nd.kids.map (Value.int .i64))
theorem NodR.below {w w' : World} {p : NodV} {nd : Nod} (h : NodR w p nd) (hb : Below w.heap.size w w') : NodR w' p nd := by
  obtain ⟨a, n, c, h3, r3⟩ := h.ws
  obtain ⟨a', n', c', h4, r4⟩ := h.ks
  exact ⟨h.e0, h.e1, h.e2, ⟨a, n, c, h3, r3.below hb⟩, ⟨a', n', c', h4, r4.below hb⟩⟩
theorem XM.of_rdK {w : World} {a : Option Addr} {n c : Nat} {V : List NodV} {nodes : List Nod} (h : RdK 5 w a n c (V.flatMap nodVC)) (hn : V.length = nodes.length) (hV : ∀ (i : Nat) p nd, V[i]? = some p → nodes[i]? = some nd → NodR w p nd) : XM w a n c nodes := by
  have hl := h.len
  rw [flat_len 5 nodVC nodVC_len] at hl
  have hVn : V.length = n := by omega
  refine ⟨by omega, h.le, h.max, h.nil, fun h0 => ?_⟩
  obtain ⟨b, o, ha, hc⟩ := RdK.cells h nodVC_len h0
  refine ⟨b, o, ha, fun i nd hi => ?_⟩
  have hil := (List.getElem?_eq_some_iff.1 hi).1
  obtain ⟨p, hp⟩ : ∃ p, V[i]? = some p := ⟨_, List.getElem?_eq_getElem (by omega)⟩
  have r := hV i p nd hp hi
  have g := hc i p hp
  obtain ⟨a3, n3, c3, h3, r3⟩ := r.ws
  obtain ⟨a4, n4, c4, h4, r4⟩ := r.ks
  refine ⟨?_, ?_, ?_, ⟨a3, n3, c3, ?_, r3⟩, ⟨a4, n4, c4, ?_, r4⟩⟩
  · rw [← r.e0]; exact g 0 (by omega)
  · rw [← r.e1]; exact g 1 (by omega)
  · rw [← r.e2]; exact g 2 (by omega)
  · rw [← h3]; exact g 3 (by omega)
  · rw [← h4]; exact g 4 (by omega)
theorem XM.of_row {w : World} {B n : Nat} {e : TypeId} {v : Value} {V : List NodV} {nodes : List Nod} (h : w.ownsRow B e 5 v n (V.flatMap nodVC)) (hn : V.length = nodes.length) (hV : ∀ (i : Nat) p nd, V[i]? = some p → nodes[i]? = some nd → NodR w p nd) : ∃ a c, v = .slice a n c ∧ XM w a n c nodes := by
  obtain ⟨a, c, hv, hr⟩ := rdK_of_row h
  exact ⟨a, c, hv, .of_rdK hr hn hV⟩

/-! trees -/
def choC (c : Cho) : List Value := [.int .i64 c.server, .int .i64 c.first, .int .i64 c.second]
theorem choC_len (c : Cho) : (choC c).length = 3 := rfl
def choA (c : Cho) : Value := .agg #[.int .i64 c.server, .int .i64 c.first, .int .i64 c.second]
abbrev TM (w : World) (a : Option Addr) (n c : Nat) (nodes : List Cho) : Prop := RdK 3 w a n c (nodes.flatMap choC)
theorem TM.len {w : World} {a : Option Addr} {n c : Nat} {nodes : List Cho} (h : TM w a n c nodes) : nodes.length = n := by
  have := RdK.len h; rw [flat_len 3 choC choC_len] at this; omega
/-- the three cells of a node of a tree -/
theorem TM.at3 {w : World} {a : Option Addr} {n c : Nat} {nodes : List Cho} (h : TM w a n c nodes) (hn : 0 < n) : ∃ b o, a = some ⟨b, o, none⟩ ∧ ∀ i x, nodes[i]? = some x → w.cell? ⟨b, o + i * 3, none⟩ = some (.int .i64 x.server) ∧ w.cell? ⟨b, o + i * 3 + 1, none⟩ = some (.int .i64 x.first) ∧ w.cell? ⟨b, o + i * 3 + 2, none⟩ = some (.int .i64 x.second) := by
  obtain ⟨b, o, ha, hc⟩ := RdK.cells h choC_len hn
  exact ⟨b, o, ha, fun i x hx => ⟨hc i x hx 0 (by omega), hc i x hx 1 (by omega), hc i x hx 2 (by omega)⟩⟩
end Go.Proofs.YtmjgdnpfgkpaoaaDoor
namespace Go.Proofs.YtmjgdnpfgkpaoaaDoor
open Go.RowKit Go.Shelf

def setV2 (x : BitVec 16) : Value := .int .u16 (U x)

theorem at_some {l : List (BitVec 16)} {k : Nat} (h : k < l.length) : l[k]? = some (l.getD k 0#16) := by rw [List.getElem?_eq_getElem h, getD_at h]
theorem at_cell {l : List (BitVec 16)} {k : Nat} (h : k < l.length) : (l.map setV2)[k]? = some (.int .u16 (U (l.getD k 0#16))) := by rw [List.getElem?_map, at_some h]; rfl
theorem any_hit {p : BitVec 16 → Bool} {l : List (BitVec 16)} {k : Nat} (h : k < l.length) (hp : p (l.getD k 0#16) = true) : l.any p = true :=
  List.any_eq_true.2 ⟨_, by rw [getD_at h]; exact List.getElem_mem h, hp⟩
theorem any_none {p : BitVec 16 → Bool} {l : List (BitVec 16)} (h : ∀ j, j < l.length → p (l.getD j 0#16) = false) : l.any p = false := by
  rw [Bool.eq_false_iff]
  intro hc
  obtain ⟨x, hx, hp⟩ := List.any_eq_true.1 hc
  obtain ⟨j, hj, rfl⟩ := List.mem_iff_getElem.1 hx
  rw [← getD_at hj, h j hj] at hp; cases hp

/-- the first place of a set, or -1 -/
def idxS (p : BitVec 16 → Bool) (l : List (BitVec 16)) : Int := if l.any p then (l.findIdx p : Int) else -1
theorem idxS_hit {p : BitVec 16 → Bool} {l : List (BitVec 16)} {k : Nat} (hk : k < l.length) (h : ∀ j, j < k → p (l.getD j 0#16) = false) (hp : p (l.getD k 0#16) = true) : idxS p l = k := by
  unfold idxS
  rw [if_pos (any_hit hk hp)]
  have : l.findIdx p = k := by
    rw [List.findIdx_eq hk]
    refine ⟨by rw [← getD_at hk]; exact hp, fun j hj => ?_⟩
    have := h j hj
    rw [getD_at (by omega)] at this
    exact this
  rw [this]
theorem idxS_none {p : BitVec 16 → Bool} {l : List (BitVec 16)} (h : ∀ j, j < l.length → p (l.getD j 0#16) = false) : idxS p l = -1 := by
  unfold idxS; rw [any_none h]; rfl
theorem idxS_ge (p : BitVec 16 → Bool) (l : List (BitVec 16)) : decide (0 ≤ idxS p l) = l.any p := by
  unfold idxS
  cases l.any p <;> simp

set_option maxRecDepth 100000 in
set_option maxHeartbeats 1000000 in
theorem idxF_c (g : Nat) (lb : Array Value) (eg : ∀ args w, (callFunc g args).run Tryd.prog w = .ok (.enter g args) w) (p : BitVec 16 → Bool) (l : List (BitVec 16)) (a : Option Addr) (n c : Nat) (w : World)
    (h : Rd w a n c (l.map setV2)) (hp : PredAt Tryd.prog g lb setV2 p w) :
    Calls Tryd.prog 76 #[.slice a n c, .func (.func g) #[] lb] w fun e w' => e = .returned (.int .i64 (idxS p l)) ∧ Below w.heap.size w w' := by
  have hn : n ≤ l.length ∧ l.length ≤ n := by have := h.len; simp at this; omega
  obtain ⟨hn1, hn2⟩ := hn
  have hm := h.max
  have hle := h.le
  unfold maxLen at hm
  have HP := Lib.hid hp
  have HR := Lib.hid h
  clear hp h
  go_enter Tryd.func76, Tryd.ntmps76
  go_wp2_with fail
  go_loopw [8] (fun i wr => ∃ k : Nat, k ≤ n ∧ i = .int .i64 k ∧ Hid (∀ j, j < k → p (l.getD j 0#16) = false) ∧ Below w.heap.size w wr) (fun i _ => n - (intOf i).toNat)
  case atStart => exact ⟨0, Nat.zero_le _, rfl, Lib.hid (fun j hj => by omega), Below.refl _ _⟩
  case round =>
    obtain ⟨k, hk, rfl, hno, hb⟩ := hrel
    by_cases hlt : k < n
    · obtain ⟨b, o, ha, hcell⟩ := (HR.out.below hb).at' (by omega)
      have hc := hcell k _ (at_cell (by omega))
      subst ha
      have HF : Hid (Calls Tryd.prog g (#[.int .u16 (U (l.getD k 0#16))] ++ lb) wr fun e w' => e = .returned (.bool (p (l.getD k 0#16))) ∧ ∃ q, w' = wr.drewN q) := HP.out wr (l.getD k 0#16) hb
      cases hq : p (l.getD k 0#16)
      · have hno' : Hid (∀ j, j < k + 1 → p (l.getD j 0#16) = false) := Lib.hid (fun j hj => by
          by_cases h1 : j < k
          · exact hno.out j h1
          · obtain rfl : j = k := by omega
            exact hq)
        rw [hq] at HF
        obtain ⟨x, hx⟩ : ∃ x, l.getD k 0#16 = x := ⟨_, rfl⟩
        rw [hx] at hc HF
        clear hq hcell hno hx
        go_wp2_with (go_at_fn g; refine HF.out.mono ?_; rintro e w' ⟨rfl, q, rfl⟩)
        go_roundw
        case rel => exact ⟨k + 1, by omega, by go_num, hno', below_drewN hb⟩
        case measure => simp [intOf]; omega
      · have hI : Hid (idxS p l = k) := idxS_hit (by omega) hno.out hq
        rw [hq] at HF
        obtain ⟨x, hx⟩ : ∃ x, l.getD k 0#16 = x := ⟨_, rfl⟩
        rw [hx] at hc HF
        clear hq hcell hno hx
        go_wp2_with (go_at_fn g; refine HF.out.mono ?_; rintro e w' ⟨rfl, q, rfl⟩)
        go_ret
        exact ⟨ret_int hI.out.symm, below_drewN hb⟩
    · have hI : Hid (idxS p l = -1) := idxS_none (fun j hj => hno.out j (by omega))
      clear hno
      go_wp2_with fail
      go_ret
      exact ⟨ret_int hI.out.symm, hb⟩

set_option maxRecDepth 100000 in
set_option maxHeartbeats 1000000 in
theorem containsF_c (g : Nat) (lb : Array Value) (eg : ∀ args w, (callFunc g args).run Tryd.prog w = .ok (.enter g args) w) (p : BitVec 16 → Bool) (l : List (BitVec 16)) (a : Option Addr) (n c : Nat) (w : World)
    (h : Rd w a n c (l.map setV2)) (hp : PredAt Tryd.prog g lb setV2 p w) :
    Calls Tryd.prog 52 #[.slice a n c, .func (.func g) #[] lb] w fun e w' => e = .returned (.bool (l.any p)) ∧ Below w.heap.size w w' := by
  have HC := Lib.hid (idxF_c g lb eg p l a n c w h hp)
  have hi := idxS_ge p l
  clear h hp eg
  obtain ⟨i, hi2⟩ : ∃ i, idxS p l = i := ⟨_, rfl⟩
  rw [hi2] at HC hi
  have HI := Lib.hid hi
  clear hi hi2
  go_enter Tryd.func52, Tryd.ntmps52
  go_wp2_with fail
  refine HC.out.mono ?_
  rintro e w1 ⟨rfl, hb⟩
  go_wp2_with fail
  go_ret
  exact ⟨ret_bool HI.out, hb⟩

set_option maxHeartbeats 400000 in
theorem contains_c (x y : BitVec 16) (w : World) :
    Calls Tryd.prog 54 #[.int .u16 (U x), .int .u16 (U y)] w fun e w' => e = .returned (.bool (subB x y)) ∧ w' = w := by
  go_enter Tryd.func54, Tryd.ntmps54
  go_wp2
  go_ret
  exact ⟨rfl, rfl⟩

theorem accepts1_at (w : World) (B : Nat) (s : BitVec 16) (hc : w.cell? ⟨B, 0, none⟩ = some (.int .u16 (U s))) :
    PredAt Tryd.prog 53 #[.pointer (some ⟨B, 0, none⟩)] setV2 (fun x => subB s x) w := fun W x hb => by
  have hc' : W.cell? ⟨B, 0, none⟩ = some (.int .u16 (U s)) := (hb.cell (p := ⟨B, 0, none⟩) (cell_lt hc)).trans hc
  unfold FnGives setV2
  clear hb hc
  go_enter Tryd.func53, Tryd.ntmps53
  go_wp2_with fail
  refine (contains_c s x _).mono ?_
  rintro e w1 ⟨rfl, rfl⟩
  go_wp2_with fail
  go_ret
  exact ⟨rfl, 0, rfl⟩

set_option maxRecDepth 100000 in
set_option maxHeartbeats 1000000 in
theorem accepts_c (l : List (BitVec 16)) (s : BitVec 16) (a : Option Addr) (n c : Nat) (w : World) (h : Rd w a n c (l.map setV2)) :
    Calls Tryd.prog 24 #[.slice a n c, .int .u16 (U s)] w fun e w' => e = .returned (.bool (accS l s)) ∧ Below w.heap.size w w' := by
  have hb0 : Below w.heap.size w (w.alloc (.cells #[.int .u16 (U s)] 52)) := (Below.refl _ w).alloc (Nat.le_refl _) _
  have HC := Lib.hid (containsF_c 53 #[.pointer (some ⟨w.heap.size, 0, none⟩)] (enters_of Tryd.func53 (by kernel_rfl) rfl) (fun x => subB s x) l a n c _ (h.below hb0) (accepts1_at _ w.heap.size s (cell_new _ _ _ 0 _ rfl)))
  have HB := Lib.hid hb0
  clear h hb0
  go_enter Tryd.func24, Tryd.ntmps24
  go_wp2_with fail
  refine HC.out.mono ?_
  rintro e w1 ⟨rfl, hb⟩
  go_wp2_with fail
  go_ret
  exact ⟨rfl, Below.next HB.out hb⟩

/-- the union -/
def supS (l : List (BitVec 16)) : BitVec 16 := l.foldl (· ||| ·) 0#16
theorem supS_take {l : List (BitVec 16)} {k : Nat} (h : k < l.length) : supS (l.take (k + 1)) = supS (l.take k) ||| l.getD k 0#16 := by
  unfold supS; rw [List.take_add_one, at_some h]; simp

set_option maxRecDepth 100000 in
set_option maxHeartbeats 1000000 in
theorem support_c (l : List (BitVec 16)) (a : Option Addr) (n c : Nat) (w : World) (h : Rd w a n c (l.map setV2)) :
    Calls Tryd.prog 27 #[.slice a n c] w fun e w' => e = .returned (.int .u16 (U (supS l))) ∧ w' = w := by
  have hn : n ≤ l.length ∧ l.length ≤ n := by have := h.len; simp at this; omega
  obtain ⟨hn1, hn2⟩ := hn
  have hm := h.max
  have hle := h.le
  unfold maxLen at hm
  go_enter Tryd.func27, Tryd.ntmps27
  go_wp2_with fail
  go_loop [3, 8] (fun v i => ∃ (k : Nat) (s : BitVec 16), k ≤ n ∧ i = .int .i64 k ∧ v = .int .u16 (U s) ∧ Hid (s = supS (l.take k))) (fun _ i => n - (intOf i).toNat)
  case atStart => exact ⟨0, 0#16, Nat.zero_le _, rfl, rfl, rfl⟩
  case round =>
    obtain ⟨k, s, hk, rfl, rfl, hs⟩ := hrel
    by_cases hlt : k < n
    · obtain ⟨b, o, ha, hcell⟩ := h.at' (by omega)
      have hc := hcell k _ (at_cell (by omega))
      have HS := Lib.hid (supS_take (l := l) (k := k) (by omega))
      obtain ⟨x, hx⟩ : ∃ x, l.getD k 0#16 = x := ⟨_, rfl⟩
      rw [hx] at hc HS
      subst ha
      clear hcell h hx
      go_wp2_with fail
      go_round
      case rel => exact ⟨k + 1, s ||| x, by omega, by go_num, rfl, by show _ = _; rw [HS.out, hs.out]⟩
      case measure => simp [intOf]; omega
    · have hE : Hid (l.take k = l) := List.take_of_length_le (by omega)
      clear h
      go_wp2_with fail
      go_ret
      exact ⟨by rw [hs.out, hE.out]; rfl, rfl⟩

end Go.Proofs.YtmjgdnpfgkpaoaaDoor
namespace Go.Proofs.YtmjgdnpfgkpaoaaDoor
open Go.RowKit Go.Shelf

theorem Rd.take {w : World} {a : Option Addr} {n c : Nat} {l : List Value} (h : Rd w a n c l) (k : Nat) (hk : k ≤ n) : Rd w a k c (l.take k) := by
  refine ⟨by rw [List.length_take, ← h.len]; omega, by have := h.le; omega, h.max, h.nil, fun hn => ?_⟩
  obtain ⟨b, o, ha, hc⟩ := h.at' (by omega)
  refine ⟨b, o, ha, fun i v hv => hc i v ?_⟩
  rw [List.getElem?_take] at hv
  split at hv
  · exact hv
  · cases hv

@[go_sem] theorem bv16_and_out (x : BitVec 16) : bits .and .u16 (U x) 61440 = U (x &&& 61440#16) := by
  have := bv16_and x 61440#16
  rwa [show U 61440#16 = 61440 by decide] at this
theorem out_iff (x : BitVec 16) : (x &&& 61440#16 != 0#16) = decide (4096 ≤ U x) := by
  rw [Bool.eq_iff_iff, bne_iff_ne, decide_eq_true_iff]
  have hx := x.isLt
  constructor
  · intro h
    refine Classical.byContradiction fun hc => h ?_
    have hlt : x.toNat < 2 ^ 12 := by unfold U at hc; omega
    apply BitVec.eq_of_getLsbD_eq
    intro i hi
    simp only [BitVec.getLsbD_and, BitVec.getLsbD_zero]
    by_cases h12 : i < 12
    · have : ∀ i : Fin 12, (61440#16).getLsbD i.val = false := by decide
      rw [this ⟨i, h12⟩, Bool.and_false]
    · have : x.getLsbD i = false := Nat.testBit_lt_two_pow (Nat.lt_of_lt_of_le hlt (Nat.pow_le_pow_right (by decide) (by omega)))
      rw [this, Bool.false_and]
  · intro h hc
    have hlt : x.toNat < 2 ^ 12 := by
      apply Nat.lt_pow_two_of_testBit
      intro i hi
      by_cases h16 : i < 16
      · have h1 := congrArg (fun y => y.getLsbD i) hc
        simp only [BitVec.getLsbD_and, BitVec.getLsbD_zero] at h1
        have : ∀ i : Fin 4, (61440#16).getLsbD (i.val + 12) = true := by decide
        have h2 := this ⟨i - 12, by omega⟩
        simp only [show i - 12 + 12 = i by omega] at h2
        rw [h2, Bool.and_true] at h1
        exact h1
      · exact Nat.testBit_lt_two_pow (Nat.lt_of_lt_of_le hx (Nat.pow_le_pow_right (by decide) (by omega)))
    unfold U at h; omega

theorem valS_first {l : List (BitVec 16)} {k : Nat} (hn : ¬ 400 < l.length) (hk : k < l.length) (h : ∀ j, j < k → e1 l j = 0) (he : e1 l k ≠ 0) : valS l = e1 l k := by
  unfold valS
  rw [if_neg hn, firstE_hit _ _ k hk h he, if_pos he]
theorem valS_over {l : List (BitVec 16)} (hn : ¬ 400 < l.length) (h : ∀ j, j < l.length → e1 l j = 0) : valS l = if overB l then 1 else 0 := by
  unfold valS
  rw [if_neg hn, firstE_none _ _ h]; rfl
theorem e1_out {l : List (BitVec 16)} {k : Nat} (h : 4096 ≤ U (l.getD k 0#16)) : e1 l k = 7 := by unfold e1; rw [if_pos h]
theorem e1_zero0 {l : List (BitVec 16)} (h : ¬ 4096 ≤ U (l.getD 0 0#16)) : e1 l 0 = 0 := by unfold e1; rw [if_neg h, if_neg (by omega)]
theorem e1_next {l : List (BitVec 16)} {k : Nat} (h : ¬ 4096 ≤ U (l.getD (k + 1) 0#16)) : e1 l (k + 1) = if 0 ≤ cmpS (l.getD k 0#16) (l.getD (k + 1) 0#16) then 1 else 0 := by
  unfold e1; rw [if_neg h]
  by_cases hc : 0 ≤ cmpS (l.getD k 0#16) (l.getD (k + 1) 0#16)
  · rw [if_pos ⟨by omega, by simpa using hc⟩, if_pos hc]
  · rw [if_neg (fun h => hc (by simpa using h.2)), if_neg hc]

set_option maxRecDepth 100000 in
set_option maxHeartbeats 2000000 in
theorem valid_c (l : List (BitVec 16)) (a : Option Addr) (n c : Nat) (w : World) (h : Rd w a n c (l.map setV2)) :
    Calls Tryd.prog 25 #[.slice a n c] w fun e w' => e = .returned (.int .i64 (valS l)) ∧ Below w.heap.size w w' := by
  have hnl : l.length = n := by have := h.len; simp at this; omega
  have hm := h.max
  have hle := h.le
  unfold maxLen at hm
  have HR := Lib.hid h
  have HN := Lib.hid hnl
  clear h hnl
  by_cases h400 : (400 : Int) < (n : Int)
  · have hV : Hid (valS l = 3) := by show _ = _; unfold valS; rw [if_pos (by have := HN.out; omega)]
    go_enter Tryd.func25, Tryd.ntmps25
    go_wp2_with fail
    go_ret
    exact ⟨by rw [hV.out]; rfl, Below.refl _ _⟩
  · have hd4 : decide ((400 : Int) < (n : Int)) = false := by simpa using h400
    have h400' : Hid (¬ 400 < l.length) := by show ¬ _; have := HN.out; omega
    clear h400
    go_enter Tryd.func25, Tryd.ntmps25
    go_wp2_with fail
    go_loopw [12] (fun i wr => ∃ k : Nat, k ≤ n ∧ i = .int .i64 k ∧ Hid (∀ j, j < k → e1 l j = 0) ∧ Below w.heap.size w wr) (fun i _ => n - (intOf i).toNat)
    case atStart => exact ⟨0, Nat.zero_le _, rfl, Lib.hid (fun j hj => by omega), Below.refl _ _⟩
    case round =>
      obtain ⟨k, hk, rfl, hno, hb⟩ := hrel
      by_cases hlt : k < n
      · obtain ⟨b, o, ha, hcell⟩ := (HR.out.below hb).at' (by omega)
        have hc := hcell k _ (at_cell (by have := HN.out; omega))
        have hlen : Hid (k < l.length) := by show k < _; have := HN.out; omega
        subst ha
        by_cases ho : 4096 ≤ U (l.getD k 0#16)
        · have hV : Hid (valS l = 7) := by show _ = _; rw [valS_first h400'.out hlen.out hno.out (by rw [e1_out ho]; decide), e1_out ho]
          have ho1 := out_iff (l.getD k 0#16)
          obtain ⟨x, hx⟩ : ∃ x, l.getD k 0#16 = x := ⟨_, rfl⟩
          rw [hx] at ho ho1 hc
          rw [decide_eq_true ho] at ho1
          clear hcell hx ho hno
          go_wp2_with fail
          go_ret
          exact ⟨by rw [hV.out]; rfl, hb⟩
        · have ho1 := out_iff (l.getD k 0#16)
          rw [decide_eq_false ho] at ho1
          cases k with
          | zero =>
            have hno' : Hid (∀ j, j < 0 + 1 → e1 l j = 0) := Lib.hid (fun j hj => by obtain rfl : j = 0 := (by omega); exact e1_zero0 ho)
            obtain ⟨x, hx⟩ : ∃ x, l.getD 0 0#16 = x := ⟨_, rfl⟩
            rw [hx] at ho1 hc
            rw [Nat.add_zero] at hc
            clear hcell hx ho hno
            go_wp2_with fail
            go_roundw
            case rel => exact ⟨0 + 1, by omega, rfl, hno', hb⟩
            case measure => simp [intOf]; omega
          | succ k =>
            have hc0 := hcell k _ (at_cell (by have := hlen.out; omega))
            have he := e1_next ho
            by_cases hcmp : 0 ≤ cmpS (l.getD k 0#16) (l.getD (k + 1) 0#16)
            · rw [if_pos hcmp] at he
              have hV : Hid (valS l = 1) := by show _ = _; rw [valS_first h400'.out hlen.out hno.out (by rw [he]; decide), he]
              obtain ⟨x, hx⟩ : ∃ x, l.getD k 0#16 = x := ⟨_, rfl⟩
              obtain ⟨y, hy⟩ : ∃ y, l.getD (k + 1) 0#16 = y := ⟨_, rfl⟩
              have HC := Lib.hid (fun w => compare_c x y _ _ w rfl rfl)
              rw [hx, hy] at hcmp
              rw [hx] at hc0
              rw [hy] at hc ho1
              clear hcell hx hy ho hno he
              go_wp2_with fail
              refine (HC.out _).mono ?_
              rintro e w2 ⟨rfl, hb2⟩
              go_wp2_with fail
              go_ret
              exact ⟨by rw [hV.out]; rfl, Below.next hb hb2⟩
            · rw [if_neg hcmp] at he
              have hno' : Hid (∀ j, j < k + 1 + 1 → e1 l j = 0) := Lib.hid (fun j hj => by
                by_cases h1 : j < k + 1
                · exact hno.out j h1
                · obtain rfl : j = k + 1 := by omega
                  exact he)
              obtain ⟨x, hx⟩ : ∃ x, l.getD k 0#16 = x := ⟨_, rfl⟩
              obtain ⟨y, hy⟩ : ∃ y, l.getD (k + 1) 0#16 = y := ⟨_, rfl⟩
              have HC := Lib.hid (fun w => compare_c x y _ _ w rfl rfl)
              rw [hx, hy] at hcmp
              rw [hx] at hc0
              rw [hy] at hc ho1
              have hcm : decide (0 ≤ cmpS x y) = false := by simpa using hcmp
              clear hcell hx hy ho hno he hcmp
              go_wp2_with fail
              refine (HC.out _).mono ?_
              rintro e w2 ⟨rfl, hb2⟩
              have hb3 := Below.next hb hb2
              clear hb hb2
              go_wp2_with fail
              go_roundw
              case rel => exact ⟨k + 1 + 1, by omega, by go_num, hno', hb3⟩
              case measure => simp [intOf]; omega
      · have hall : Hid (∀ j, j < l.length → e1 l j = 0) := Lib.hid (fun j hj => hno.out j (by have := HN.out; omega))
        clear hno
        go_wp2_with fail
        go_loopw [37] (fun i wr => ∃ k : Nat, k ≤ n ∧ i = .int .i64 k ∧ Hid (∀ j, j < k → accS (l.take j) (l.getD j 0#16) = false) ∧ Below w.heap.size w wr) (fun i _ => n - (intOf i).toNat)
        case atStart => exact ⟨0, Nat.zero_le _, rfl, Lib.hid (fun j hj => by omega), hb⟩
        case round =>
          clear hb
          obtain ⟨i, hi, rfl, hno, hb⟩ := hrel
          by_cases hlt2 : i < n
          · have hRw := HR.out.below hb
            obtain ⟨b, o, ha, hcell⟩ := hRw.at' (by omega)
            have hc := hcell i _ (at_cell (by have := HN.out; omega))
            have hT := hRw.take i (by omega)
            rw [← List.map_take] at hT
            subst ha
            have HA := Lib.hid (accepts_c (l.take i) (l.getD i 0#16) _ i c _ hT)
            cases hq : accS (l.take i) (l.getD i 0#16)
            · have hno' : Hid (∀ j, j < i + 1 → accS (l.take j) (l.getD j 0#16) = false) := Lib.hid (fun j hj => by
                by_cases h1 : j < i
                · exact hno.out j h1
                · obtain rfl : j = i := by omega
                  exact hq)
              rw [hq] at HA
              obtain ⟨x, hx⟩ : ∃ x, l.getD i 0#16 = x := ⟨_, rfl⟩
              rw [hx] at HA hc
              clear hcell hx hq hno hT hRw
              go_wp2_with fail
              refine HA.out.mono ?_
              rintro e w2 ⟨rfl, hb2⟩
              have hb3 := Below.next hb hb2
              clear hb hb2
              go_wp2_with fail
              go_roundw
              case rel => exact ⟨i + 1, by omega, by go_num, hno', hb3⟩
              case measure => simp [intOf]; omega
            · have hV : Hid (valS l = 1) := by
                show _ = _
                rw [valS_over h400'.out hall.out, if_pos]
                unfold overB
                exact List.any_eq_true.2 ⟨i, List.mem_range.2 (by have := HN.out; omega), hq⟩
              rw [hq] at HA
              obtain ⟨x, hx⟩ : ∃ x, l.getD i 0#16 = x := ⟨_, rfl⟩
              rw [hx] at HA hc
              clear hcell hx hq hno hT hRw
              go_wp2_with fail
              refine HA.out.mono ?_
              rintro e w2 ⟨rfl, hb2⟩
              have hb3 := Below.next hb hb2
              clear hb hb2
              go_wp2_with fail
              go_ret
              exact ⟨by rw [hV.out]; rfl, hb3⟩
          · have hV : Hid (valS l = 0) := by
              show _ = _
              rw [valS_over h400'.out hall.out, if_neg]
              intro hc
              unfold overB at hc
              obtain ⟨j, hj, hq⟩ := List.any_eq_true.1 hc
              have := hno.out j (by have := List.mem_range.1 hj; have := HN.out; omega)
              rw [this] at hq; cases hq
            clear hno
            go_wp2_with fail
            go_ret
            exact ⟨by rw [hV.out]; rfl, hb⟩
end Go.Proofs.YtmjgdnpfgkpaoaaDoor
