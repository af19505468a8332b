/- Families: the error of a list of sets; plain laws. -/
import Derived.Test.YtopcejcfghdeeaaSet3
import Derived.Test.YtopcejcfghdeeaaDep
namespace Go.Proofs.Ytopcejcfghdeeaa

/-- b is a part of a -/
def subB (a b : BitVec 16) : Bool := b &&& ~~~a == 0#16
/-- a list accepts a set -/
def accS (l : List (BitVec 16)) (s : BitVec 16) : Bool := l.any fun x => subB s x

theorem subB_iff (a b : BitVec 16) : subB a b = true ↔ ∀ i, hasB b i = true → hasB a i = true := by
  unfold subB
  rw [beq_iff_eq]
  constructor
  · intro h i hi
    have := congrArg (fun x => hasB x i) h
    simp only [hasB, BitVec.getLsbD_and, BitVec.getLsbD_not, BitVec.getLsbD_zero] at this hi ⊢
    rw [hi, Bool.true_and] at this
    have hlt : i < 16 := by
      apply Classical.byContradiction
      intro hc
      rw [BitVec.getLsbD_of_ge _ _ (by omega)] at hi
      cases hi
    simpa [hlt] using this
  · intro h
    apply BitVec.eq_of_getLsbD_eq
    intro i hi
    have := h i
    simp only [hasB] at this
    simp only [BitVec.getLsbD_and, BitVec.getLsbD_not, BitVec.getLsbD_zero, hi, decide_true, Bool.true_and]
    cases hb : b.getLsbD i
    · rfl
    · rw [this hb]; rfl

theorem sub_mem {a b : BitVec 16} (h : subB a b = true) : memS b = (memS a).filter (hasB b) := by
  unfold memS
  rw [List.filter_filter]
  apply List.filter_congr
  intro i _
  cases hb : hasB b i
  · simp
  · rw [(subB_iff a b).1 h i hb]; rfl
theorem sub_cnt {a b : BitVec 16} (h : subB a b = true) : cnt b ≤ cnt a := by
  unfold cnt; rw [sub_mem h]; exact List.length_filter_le _ _
theorem memS_inj1 {x y : BitVec 16} (h : memS x = memS y) : x = y := by
  apply BitVec.eq_of_getLsbD_eq
  intro i hi
  have h1 := mem_memS (x := x) (p := i)
  rw [h, mem_memS] at h1
  show hasB x i = hasB y i
  rw [Bool.eq_iff_iff]
  exact h1.symm
theorem sub_eq {a b : BitVec 16} (h : subB a b = true) (hc : cnt a ≤ cnt b) : a = b := by
  apply memS_inj1
  rw [sub_mem h]
  symm
  apply List.filter_eq_self.2
  have hl : ((memS a).filter (hasB b)).length = (memS a).length := by
    have h1 := List.length_filter_le (hasB b) (memS a)
    have h2 := sub_mem h
    unfold cnt at hc
    rw [h2] at hc
    omega
  exact List.length_filter_eq_length_iff.1 hl

/-- the place in the order of sets -/
def keyS (a : BitVec 16) : Nat := cnt a * 65536 + a.toNat
theorem keyS_inj {a b : BitVec 16} (h : keyS a = keyS b) : a = b := by
  unfold keyS at h
  have h1 := a.isLt; have h2 := b.isLt
  exact BitVec.eq_of_toNat_eq (by omega)
theorem cmpS_key (a b : BitVec 16) : (0 ≤ cmpS a b ↔ keyS b ≤ keyS a) ∧ (cmpS a b < 0 ↔ keyS a < keyS b) := by
  have h1 := a.isLt; have h2 := b.isLt
  by_cases hab : a = b
  · subst hab; rw [cmpS_self]; omega
  · by_cases hc : cnt a < cnt b
    · rw [cmpS_lt a b hc]; unfold keyS; omega
    · by_cases he : cnt a = cnt b ∧ U a < U b
      · rw [cmpS_eq_lt a b he.1 he.2]
        have := he.2; unfold U at this; unfold keyS; omega
      · rw [cmpS_gt a b hab hc (fun e h => he ⟨e, h⟩)]
        have hne : a.toNat ≠ b.toNat := fun e => hab (BitVec.eq_of_toNat_eq e)
        have : ¬ (cnt a = cnt b ∧ (a.toNat : Int) < b.toNat) := he
        unfold keyS; omega

/-- the first number that is not 0 -/
def firstE (f : Nat → Int) (n : Nat) : Int := (((List.range n).map f).find? (fun x => x != 0)).getD 0
theorem firstE_none (f : Nat → Int) (n : Nat) (h : ∀ j, j < n → f j = 0) : firstE f n = 0 := by
  unfold firstE
  rw [List.find?_eq_none.2]
  · rfl
  · intro x hx
    obtain ⟨j, hj, rfl⟩ := List.mem_map.1 hx
    simp [h j (List.mem_range.1 hj)]
theorem firstE_hit (f : Nat → Int) (n k : Nat) (hk : k < n) (h : ∀ j, j < k → f j = 0) (hf : f k ≠ 0) : firstE f n = f k := by
  obtain ⟨d, rfl⟩ : ∃ d, n = k + (1 + d) := ⟨n - k - 1, by omega⟩
  unfold firstE
  rw [List.range_add, List.map_append, List.find?_append, List.range_add, List.map_append, List.map_append]
  rw [List.find?_eq_none.2]
  · have e1 : List.map (fun x => k + x) (List.range 1) = [k] := by simp [List.range_succ]
    rw [e1]
    simp [hf]
  · intro x hx
    obtain ⟨j, hj, rfl⟩ := List.mem_map.1 hx
    simp [h j (List.mem_range.1 hj)]
theorem firstE_zero (f : Nat → Int) (n : Nat) (h : firstE f n = 0) : ∀ j, j < n → f j = 0 := by
  intro j hj
  apply Classical.byContradiction
  intro hc
  have hex : ∃ k, f k ≠ 0 := ⟨j, hc⟩
  -- the least such place
  have hmin : ∀ m, (∃ k, k < m ∧ f k ≠ 0) → ∃ k, k < m ∧ f k ≠ 0 ∧ ∀ i, i < k → f i = 0 := by
    intro m
    induction m with
    | zero => rintro ⟨k, hk, _⟩; omega
    | succ m ih =>
      rintro ⟨k, hk, hf⟩
      by_cases hm : ∃ k, k < m ∧ f k ≠ 0
      · obtain ⟨k, h1, h2, h3⟩ := ih hm; exact ⟨k, by omega, h2, h3⟩
      · have hkm : k = m := by
          apply Classical.byContradiction; intro hne; exact hm ⟨k, by omega, hf⟩
        exact ⟨k, hk, hf, fun i hi => Classical.byContradiction fun hne => hm ⟨i, by omega, hne⟩⟩
  obtain ⟨k, h1, h2, h3⟩ := hmin (j + 1) ⟨j, by omega, hc⟩
  rw [firstE_hit f n k (by omega) h3 h2] at h
  exact h2 h

/-- the error at one place of a list: 7: out of range, 1: out of order -/
def e1 (l : List (BitVec 16)) (k : Nat) : Int := if 4096 ≤ U (l.getD k 0#16) then 7 else if 0 < k ∧ 0 ≤ cmpS (l.getD (k - 1) 0#16) (l.getD k 0#16) then 1 else 0
/-- some set contains an earlier one -/
def overB (l : List (BitVec 16)) : Bool := (List.range l.length).any fun i => accS (l.take i) (l.getD i 0#16)
/-- the error of a family -/
def valS (l : List (BitVec 16)) : Int := if 400 < l.length then 3 else if firstE (e1 l) l.length ≠ 0 then firstE (e1 l) l.length else if overB l then 1 else 0

theorem e1_zero {l : List (BitVec 16)} {k : Nat} (h : e1 l k = 0) : U (l.getD k 0#16) < 4096 ∧ (0 < k → keyS (l.getD (k - 1) 0#16) < keyS (l.getD k 0#16)) := by
  unfold e1 at h
  split at h
  · cases h
  · split at h
    · cases h
    · rename_i h1 h2
      refine ⟨by omega, fun hk => ?_⟩
      have := (cmpS_key (l.getD (k - 1) 0#16) (l.getD k 0#16)).1
      omega
theorem sorted_mono {l : List (BitVec 16)} (h : ∀ j, j < l.length → e1 l j = 0) : ∀ i k, i < k → k < l.length → keyS (l.getD i 0#16) < keyS (l.getD k 0#16) := by
  intro i k hik hk
  obtain ⟨d, rfl⟩ : ∃ d, k = i + 1 + d := ⟨k - i - 1, by omega⟩
  clear hik
  induction d with
  | zero => exact (e1_zero (h _ hk)).2 (by omega)
  | succ d ih =>
    have h1 := ih (by omega)
    have h2 := (e1_zero (h _ hk)).2 (by omega)
    rw [show i + 1 + (d + 1) - 1 = i + 1 + d by omega] at h2
    omega

theorem getD_at {l : List (BitVec 16)} {k : Nat} (h : k < l.length) : l.getD k 0#16 = l[k] := by simp [List.getD, h]
theorem acc_take {l : List (BitVec 16)} {i : Nat} {s : BitVec 16} (hi : i ≤ l.length) : accS (l.take i) s = true ↔ ∃ k, k < i ∧ subB s (l.getD k 0#16) = true := by
  unfold accS
  rw [List.any_eq_true]
  constructor
  · rintro ⟨x, hx, hs⟩
    obtain ⟨k, hk, e⟩ := List.mem_iff_getElem.1 hx
    rw [List.length_take] at hk
    rw [List.getElem_take] at e
    refine ⟨k, by omega, ?_⟩
    rw [getD_at (by omega), e]; exact hs
  · rintro ⟨k, hk, hs⟩
    refine ⟨l.getD k 0#16, ?_, hs⟩
    rw [getD_at (by omega)]
    exact List.mem_iff_getElem.2 ⟨k, by rw [List.length_take]; omega, by rw [List.getElem_take]⟩
theorem overB_iff (l : List (BitVec 16)) : overB l = true ↔ ∃ i k, i < l.length ∧ k < i ∧ subB (l.getD i 0#16) (l.getD k 0#16) = true := by
  unfold overB
  rw [List.any_eq_true]
  constructor
  · rintro ⟨i, hi, h⟩
    have hi' := List.mem_range.1 hi
    obtain ⟨k, hk, hs⟩ := (acc_take (Nat.le_of_lt hi')).1 h
    exact ⟨i, k, hi', hk, hs⟩
  · rintro ⟨i, k, hi, hk, hs⟩
    exact ⟨i, List.mem_range.2 hi, (acc_take (Nat.le_of_lt hi)).2 ⟨k, hk, hs⟩⟩
/-- in a sorted list only later sets can contain others -/
theorem overB_any {l : List (BitVec 16)} (h : ∀ j, j < l.length → e1 l j = 0) : overB l = true ↔ ∃ i k, i < l.length ∧ k < l.length ∧ i ≠ k ∧ subB (l.getD i 0#16) (l.getD k 0#16) = true := by
  rw [overB_iff]
  constructor
  · rintro ⟨i, k, hi, hk, hs⟩
    exact ⟨i, k, hi, by omega, by omega, hs⟩
  · rintro ⟨i, k, hi, hk, hne, hs⟩
    by_cases hki : k < i
    · exact ⟨i, k, hi, hki, hs⟩
    · have hm := sorted_mono h i k (by omega) hk
      have hc := sub_cnt hs
      have : cnt (l.getD i 0#16) ≤ cnt (l.getD k 0#16) := by
        have h1 := (l.getD i 0#16).isLt; have h2 := (l.getD k 0#16).isLt
        unfold keyS at hm; omega
      have e := sub_eq hs this
      rw [e] at hm; omega
end Go.Proofs.Ytopcejcfghdeeaa
