/- Layer 38: the values of votes, ascending, each once. Plain Lean, no program. -/
import Derived.Test.YtopcejcfghdeeaaFa1
import Derived.Lib.SlicesCompact
namespace Go.Proofs.Ytopcejcfghdeeaa
open Go.RowKit

theorem bs_ext {a b : ByteArray} (h : a.toList = b.toList) : a = b := by
  rw [ByteArray.toList_eq, ByteArray.toList_eq] at h
  exact ByteArray.ext (Array.toList_inj.1 h)
theorem bs_beq (a b : ByteArray) : (a.toList == b.toList) = decide (a = b) := by
  rw [Bool.eq_iff_iff, beq_iff_eq, decide_eq_true_eq]
  exact ⟨bs_ext, fun h => by rw [h]⟩
theorem bs_list (s : List UInt8) : (ByteArray.mk s.toArray).toList = s := by rw [ByteArray.toList_eq]
theorem bs_mk (b : ByteArray) : ByteArray.mk b.toList.toArray = b := bs_ext (bs_list _)

abbrev Str := List UInt8
theorem pw_at {l : List Str} (h : l.Pairwise (· < ·)) {i j : Nat} {x y : Str} (hx : l[i]? = some x) (hy : l[j]? = some y) (hij : i < j) : x < y := by
  obtain ⟨hi, rfl⟩ := List.getElem?_eq_some_iff.1 hx
  obtain ⟨hj, rfl⟩ := List.getElem?_eq_some_iff.1 hy
  exact List.pairwise_iff_getElem.1 h i j hi hj hij

theorem compact_to {l : List Str} (hs : l.Pairwise (· ≤ ·)) : ∀ m, m ≤ l.length → (Lib.compactUpTo l.toArray m).Pairwise (· < ·) ∧ ∀ x, x ∈ Lib.compactUpTo l.toArray m ↔ x ∈ l.take m := by
  intro m
  induction m with
  | zero => intro _; exact ⟨by simp [Lib.compactUpTo], by simp [Lib.compactUpTo]⟩
  | succ m ih =>
    intro hm
    obtain ⟨h1, h2⟩ := ih (by omega)
    have hd : l.toArray[m]! = l[m]'(by omega) := by simp [getElem!_pos, show m < l.length by omega]
    have ht : l.take (m + 1) = l.take m ++ [l[m]'(by omega)] := by
      rw [List.take_add_one, List.getElem?_eq_getElem (by omega)]; rfl
    have hle : ∀ x ∈ l.take m, x ≤ l[m]'(by omega) ∧ (∀ (h0 : 0 < m), x ≤ l[m - 1]'(by omega)) := by
      intro x hx
      obtain ⟨j, hj, rfl⟩ := List.mem_iff_getElem.1 hx
      rw [List.length_take] at hj
      rw [List.getElem_take]
      refine ⟨List.pairwise_iff_getElem.1 hs j m (by omega) (by omega) (by omega), fun h0 => ?_⟩
      by_cases hjm : j = m - 1
      · subst hjm; exact List.le_refl _
      · exact List.pairwise_iff_getElem.1 hs j (m - 1) (by omega) (by omega) (by omega)
    rw [Lib.compactUpTo_succ, ht]
    by_cases hk : Lib.keeps l.toArray m = true
    · rw [if_pos hk, hd]
      refine ⟨?_, fun x => by rw [List.mem_append, List.mem_append, h2]⟩
      rw [List.pairwise_append]
      refine ⟨h1, List.pairwise_singleton _ _, fun x hx y hy => ?_⟩
      rw [List.mem_singleton] at hy
      subst hy
      have hx' := (h2 x).1 hx
      have hm0 : 0 < m := by
        apply Nat.pos_of_ne_zero; intro h0; subst h0; simp at hx'
      obtain ⟨a1, a2⟩ := hle x hx'
      unfold Lib.keeps at hk
      rw [decide_eq_true_eq] at hk
      have hd1 : l.toArray[m - 1]! = l[m - 1]'(by omega) := by simp [getElem!_pos, show m - 1 < l.length by omega]
      rw [hd, hd1] at hk
      have hne : l[m]'(by omega) ≠ l[m - 1]'(by omega) := by
        rcases hk with hk | hk
        · omega
        · exact hk
      have b1 := a2 hm0
      have b2 : l[m - 1]'(by omega) ≤ l[m]'(by omega) := List.pairwise_iff_getElem.1 hs (m - 1) m (by omega) (by omega) (by omega)
      have b3 : l[m - 1]'(by omega) < l[m]'(by omega) := by
        apply List.not_le.1
        intro h
        exact hne (List.le_antisymm h b2)
      exact List.lt_of_le_of_lt b1 b3
    · rw [if_neg hk, List.append_nil]
      refine ⟨h1, fun x => ?_⟩
      rw [h2, List.mem_append, List.mem_singleton]
      refine ⟨.inl, fun h => ?_⟩
      rcases h with h | h
      · exact h
      · subst h
        unfold Lib.keeps at hk
        rw [decide_eq_true_eq] at hk
        have hm0 : 0 < m := by
          apply Nat.pos_of_ne_zero; intro h0; exact hk (.inl h0)
        have hd1 : l.toArray[m - 1]! = l[m - 1]'(by omega) := by simp [getElem!_pos, show m - 1 < l.length by omega]
        rw [hd, hd1] at hk
        have he : l[m]'(by omega) = l[m - 1]'(by omega) := by
          apply Classical.byContradiction; intro h; exact hk (.inr h)
        rw [he]
        exact List.mem_iff_getElem.2 ⟨m - 1, by rw [List.length_take]; omega, by rw [List.getElem_take]⟩

def leS (x y : Str) : Bool := decide (x ≤ y)
theorem sort_pw (l : List Str) : (l.mergeSort fun x y => decide (x ≤ y)).Pairwise (· ≤ ·) := by
  have := List.pairwise_mergeSort (le := fun x y : Str => decide (x ≤ y)) (fun a b c h1 h2 => by simp only [decide_eq_true_eq] at *; exact List.le_trans h1 h2) (fun a b => by simp only [Bool.or_eq_true, decide_eq_true_eq]; exact List.le_total a b) l
  simpa using this

def heaTo (V : List ByteArray) (h : BitVec 16) (k : Nat) : List ByteArray := ((List.range k).filter fun i => !((V.getD i ⟨#[]⟩).toList == []) && hasB h i).map fun i => V.getD i ⟨#[]⟩
theorem heaTo_succ (V : List ByteArray) (h : BitVec 16) (k : Nat) : heaTo V h (k + 1) = heaTo V h k ++ (if !((V.getD k ⟨#[]⟩).toList == []) && hasB h k then [V.getD k ⟨#[]⟩] else []) := by
  unfold heaTo
  rw [List.range_succ, List.filter_append, List.map_append]
  congr 1
  by_cases h : (!((V.getD k ⟨#[]⟩).toList == []) && hasB h k) = true
  · rw [if_pos h, List.filter_cons, if_pos h]; rfl
  · rw [if_neg h, List.filter_cons, if_neg h]; rfl
theorem heaTo_le (V : List ByteArray) (h : BitVec 16) (k : Nat) : (heaTo V h k).length ≤ k := by
  unfold heaTo; rw [List.length_map]; exact Nat.le_trans (List.length_filter_le _ _) (by simp)
def valV (V : List ByteArray) (h : BitVec 16) : List Str := Lib.compact (((heaTo V h V.length).map ByteArray.toList).mergeSort fun x y => decide (x ≤ y))
theorem valV_asc (V : List ByteArray) (h : BitVec 16) : (valV V h).Pairwise (· < ·) := (compact_to (sort_pw _) _ (Nat.le_refl _)).1
theorem valV_mem (V : List ByteArray) (h : BitVec 16) (s : Str) : s ∈ valV V h ↔ ∃ j, j < V.length ∧ (V.getD j ⟨#[]⟩).toList = s ∧ ((V.getD j ⟨#[]⟩).toList == []) = false ∧ hasB h j = true := by
  unfold valV Lib.compact
  rw [(compact_to (sort_pw _) _ (Nat.le_refl _)).2, List.take_length, List.mem_mergeSort]
  unfold heaTo
  simp only [List.mem_map, List.mem_filter, List.mem_range, Bool.and_eq_true, Bool.not_eq_true']
  constructor
  · rintro ⟨_, ⟨j, ⟨hj, h1, h2⟩, rfl⟩, rfl⟩; exact ⟨j, hj, rfl, h1, h2⟩
  · rintro ⟨j, hj, rfl, h1, h2⟩; exact ⟨_, ⟨j, ⟨hj, h1, h2⟩, rfl⟩, rfl⟩
theorem valV_le (V : List ByteArray) (h : BitVec 16) : (valV V h).length ≤ V.length := by
  unfold valV Lib.compact Lib.compactUpTo
  rw [List.length_map]
  refine Nat.le_trans (List.length_filter_le _ _) ?_
  rw [List.length_range, List.length_mergeSort, List.length_map]
  exact heaTo_le _ _ _

/-- the vote at j counts where k values have been taken -/
def okB (V : List ByteArray) (h : BitVec 16) (k j : Nat) : Bool :=
  !((V.getD j ⟨#[]⟩).toList == []) && hasB h j && !(decide (0 < k) && decide ((V.getD j ⟨#[]⟩).toList ≤ (valV V h).getD (k - 1) []))
theorem val_end {V : List ByteArray} {h : BitVec 16} {k : Nat} (hk : k ≤ (valV V h).length) (hno : ∀ j, j < V.length → okB V h k j = false) : k = (valV V h).length := by
  apply Classical.byContradiction
  intro hne
  have hlt : k < (valV V h).length := by omega
  obtain ⟨s, hs⟩ : ∃ s, (valV V h)[k]? = some s := ⟨_, List.getElem?_eq_getElem hlt⟩
  obtain ⟨j, hj, he, h1, h2⟩ := (valV_mem V h s).1 (List.mem_of_getElem? hs)
  have := hno j hj
  unfold okB at this
  rw [h1, h2, he] at this
  simp only [Bool.not_false, Bool.true_and, Bool.not_eq_false', Bool.and_eq_true, decide_eq_true_eq] at this
  obtain ⟨h0, h3⟩ := this
  have hp : (valV V h)[k - 1]? = some ((valV V h).getD (k - 1) []) := by rw [List.getD_eq_getElem?_getD, List.getElem?_eq_getElem (by omega)]; rfl
  have := pw_at (valV_asc V h) hp hs (by omega)
  exact List.not_le.2 this h3
theorem val_next {V : List ByteArray} {h : BitVec 16} {k : Nat} (hk : k ≤ (valV V h).length) {b : ByteArray} (hb : ∃ j, j < V.length ∧ V.getD j ⟨#[]⟩ = b ∧ okB V h k j = true)
    (hmin : ∀ j, j < V.length → okB V h k j = true → b.toList ≤ (V.getD j ⟨#[]⟩).toList) : k < (valV V h).length ∧ (valV V h)[k]? = some b.toList := by
  obtain ⟨j, hj, rfl, hok⟩ := hb
  unfold okB at hok
  simp only [Bool.and_eq_true, Bool.not_eq_true', Bool.and_eq_false_iff, decide_eq_false_iff_not] at hok
  obtain ⟨⟨h1, h2⟩, h3⟩ := hok
  have hm := (valV_mem V h (V.getD j ⟨#[]⟩).toList).2 ⟨j, hj, rfl, h1, h2⟩
  obtain ⟨m, hm⟩ := List.mem_iff_getElem?.1 hm
  have hml := (List.getElem?_eq_some_iff.1 hm).1
  have hkm : k ≤ m := by
    apply Classical.byContradiction
    intro hlt
    have hp : (valV V h)[k - 1]? = some ((valV V h).getD (k - 1) []) := by rw [List.getD_eq_getElem?_getD, List.getElem?_eq_getElem (by omega)]; rfl
    rcases h3 with h3 | h3
    · omega
    · by_cases he : m = k - 1
      · subst he
        rw [hm] at hp
        injection hp with hp
        rw [← hp] at h3
        exact h3 (List.le_refl _)
      · have := pw_at (valV_asc V h) hm hp (by omega)
        exact h3 (List.not_lt.1 (fun h => List.lt_irrefl _ (List.lt_trans this h)))
  refine ⟨by omega, ?_⟩
  obtain ⟨s, hs⟩ : ∃ s, (valV V h)[k]? = some s := ⟨_, List.getElem?_eq_getElem (by omega)⟩
  obtain ⟨i, hi, he, g1, g2⟩ := (valV_mem V h s).1 (List.mem_of_getElem? hs)
  have hoi : okB V h k i = true := by
    unfold okB
    rw [g1, g2, he]
    simp only [Bool.not_false, Bool.true_and, Bool.not_eq_true', Bool.and_eq_false_iff, decide_eq_false_iff_not]
    by_cases h0 : 0 < k
    · right
      have hp : (valV V h)[k - 1]? = some ((valV V h).getD (k - 1) []) := by rw [List.getD_eq_getElem?_getD, List.getElem?_eq_getElem (by omega)]; rfl
      exact List.not_le.2 (pw_at (valV_asc V h) hp hs (by omega))
    · exact .inl h0
  have hle := hmin i hi hoi
  rw [he] at hle
  by_cases hkm' : k = m
  · subst hkm'; exact hm
  · have := pw_at (valV_asc V h) hs hm (by omega)
    exact absurd hle (List.not_le.2 this)

/-- the servers that voted for a value -/
def votTo (V : List ByteArray) (x : ByteArray) (k : Nat) : BitVec 16 := (List.range k).foldl (fun s i => if (V.getD i ⟨#[]⟩).toList == x.toList then s ||| bitS i else s) 0#16
def votS (V : List ByteArray) (x : ByteArray) : BitVec 16 := votTo V x V.length
theorem votTo_succ (V : List ByteArray) (x : ByteArray) (k : Nat) : votTo V x (k + 1) = if (V.getD k ⟨#[]⟩).toList == x.toList then votTo V x k ||| bitS k else votTo V x k := by
  unfold votTo; rw [List.range_succ, List.foldl_append]; rfl
def valB (V : List ByteArray) (h : BitVec 16) : List ByteArray := (valV V h).map fun s => ⟨s.toArray⟩
theorem valB_at {V : List ByteArray} {h : BitVec 16} {k : Nat} {b : ByteArray} (hk : (valV V h)[k]? = some b.toList) : (valB V h)[k]? = some b := by
  unfold valB; rw [List.getElem?_map, hk, Option.map_some, bs_mk]
theorem valB_len (V : List ByteArray) (h : BitVec 16) : (valB V h).length = (valV V h).length := by unfold valB; rw [List.length_map]
/-- a value with its voters -/
def cntS (V : List ByteArray) (h : BitVec 16) : List (ByteArray × BitVec 16) := (valB V h).map fun v => (v, votS V v)
end Go.Proofs.Ytopcejcfghdeeaa
