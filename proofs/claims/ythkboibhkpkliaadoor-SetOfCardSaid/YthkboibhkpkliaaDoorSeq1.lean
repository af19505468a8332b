/- The subsets with k members, by numbers with k bits. Plain. -/
import Derived.Test.YthkboibhkpkliaaDoorDep
import Derived.Test.YthkboibhkpkliaaDoorSet7
namespace Go.Proofs.YthkboibhkpkliaaDoor

/-- the numbers below N with k bits -/
def numsTo (k : Int) (N : Nat) : List Nat := (List.range N).filter fun n => (popR 32 n : Int) == k
theorem numsTo_sorted (k : Int) (N : Nat) : (numsTo k N).Pairwise (· < ·) := List.Pairwise.filter _ List.pairwise_lt_range

theorem popR_32 (x : BitVec 16) (n : Nat) (h : n < 2 ^ cnt x) : popR 32 n = popR (cnt x) n := by
  have hc := cnt_le x
  obtain ⟨M, hM⟩ : ∃ M, 32 = cnt x + M := ⟨32 - cnt x, by omega⟩
  rw [hM]; exact popR_pad M (cnt x) n h

theorem chooseS_dep (x : BitVec 16) (k : Int) : chooseS x k = (numsTo k (2 ^ cnt x)).map (dep (memS x)) := by
  have h16 := memS_16 x
  have hso := memS_sorted x
  refine ext_sorted (fun y => y.toNat) _ _ ?_ ?_ fun y => ?_
  · unfold chooseS pickTo
    rw [List.pairwise_map]
    refine List.Pairwise.imp_of_mem ?_ (List.Pairwise.filter _ (List.pairwise_lt_range (n := 65536)))
    intro a b ha hb hab
    have ha' := List.mem_range.1 (List.mem_filter.1 ha).1
    have hb' := List.mem_range.1 (List.mem_filter.1 hb).1
    simp only [BitVec.toNat_ofNat]
    rw [Nat.mod_eq_of_lt ha', Nat.mod_eq_of_lt hb']
    exact hab
  · rw [List.pairwise_map]
    refine List.Pairwise.imp_of_mem ?_ (numsTo_sorted k _)
    intro a b ha hb hab
    have hb' := List.mem_range.1 (List.mem_filter.1 hb).1
    exact dep_mono _ h16 hso a b hab hb'
  · constructor
    · intro hy
      obtain ⟨n, hn, rfl⟩ := List.mem_map.1 hy
      obtain ⟨hr, hp⟩ := List.mem_filter.1 hn
      unfold pickB at hp
      rw [Bool.and_eq_true] at hp
      have hsub := (sub_iff x _).1 hp.1
      have hinv := dep_inv x _ hsub
      have hlt := inv_lt (memS x) (BitVec.ofNat 16 n)
      refine List.mem_map.2 ⟨inv (memS x) (BitVec.ofNat 16 n), List.mem_filter.2 ⟨List.mem_range.2 hlt, ?_⟩, hinv⟩
      have hc := cnt_dep (memS x) h16 hso (inv (memS x) (BitVec.ofNat 16 n))
      rw [hinv] at hc
      rw [popR_32 x _ hlt]
      have e : popR (cnt x) (inv (memS x) (BitVec.ofNat 16 n)) = cnt (BitVec.ofNat 16 n) := hc.symm
      rw [e]; exact hp.2
    · intro hy
      obtain ⟨n, hn, rfl⟩ := List.mem_map.1 hy
      obtain ⟨hr, hp⟩ := List.mem_filter.1 hn
      have hlt := List.mem_range.1 hr
      refine List.mem_map.2 ⟨(dep (memS x) n).toNat, List.mem_filter.2 ⟨List.mem_range.2 (dep (memS x) n).isLt, ?_⟩, by simp⟩
      unfold pickB
      rw [BitVec.ofNat_toNat, BitVec.setWidth_eq, Bool.and_eq_true]
      refine ⟨(sub_iff x _).2 fun p hp => dep_sub x n p hp, ?_⟩
      have hc := cnt_dep (memS x) h16 hso n
      rw [hc]
      rw [popR_32 x n hlt] at hp
      exact hp

/-- where the loop stands: what has come up to n -/
theorem numsTo_next (k : Int) (n : BitVec 32) (h0 : n ≠ 0#32) (hlt : n.toNat < 2 ^ 16) (hk : (popR 32 n.toNat : Int) = k) :
    n.toNat < (nextV n).toNat ∧ (popR 32 (nextV n).toNat : Int) = k ∧ numsTo k (nextV n).toNat = numsTo k n.toNat ++ [n.toNat] := by
  obtain ⟨h1, h2, h3⟩ := next_spec n h0 hlt
  refine ⟨h1, by rw [h2]; exact hk, ?_⟩
  obtain ⟨d, hd⟩ : ∃ d, (nextV n).toNat = n.toNat + (1 + d) := ⟨(nextV n).toNat - n.toNat - 1, by omega⟩
  unfold numsTo
  rw [hd, List.range_add, List.filter_append, List.range_add, List.map_append, List.filter_append]
  congr 1
  have e1 : List.map (fun x => n.toNat + x) (List.range 1) = [n.toNat] := by simp [List.range_succ]
  rw [e1]
  have e2 : List.filter (fun n => (popR 32 n : Int) == k) [n.toNat] = [n.toNat] := by simp [hk]
  rw [e2]
  have e3 : List.filter (fun n => (popR 32 n : Int) == k) (List.map (fun x => n.toNat + x) (List.map (fun x => 1 + x) (List.range d))) = [] := by
    rw [List.filter_eq_nil_iff]
    intro a ha
    rw [List.map_map] at ha
    obtain ⟨t, ht, rfl⟩ := List.mem_map.1 ha
    have ht' := List.mem_range.1 ht
    simp only [Function.comp_def]
    have := h3 (n.toNat + (1 + t)) (by omega) (by omega)
    rw [beq_iff_eq]
    intro e
    apply this
    omega
  rw [e3, List.append_nil]
theorem numsTo_first (k : Nat) (hk : k ≤ 16) : (popR 32 (2 ^ k - 1) : Int) = k ∧ numsTo k (2 ^ k - 1) = [] := by
  obtain ⟨M, hM⟩ : ∃ M, 32 = k + M := ⟨32 - k, by omega⟩
  have hp : 0 < 2 ^ k := Nat.two_pow_pos k
  constructor
  · rw [hM, popR_pad M k _ (by omega), popR_ones]
  · unfold numsTo
    rw [List.filter_eq_nil_iff]
    intro a ha
    have ha' := List.mem_range.1 ha
    have h1 := popR_lt k a ha'
    rw [hM, popR_pad M k a (by omega), beq_iff_eq]
    omega
theorem numsTo_cut (k : Int) (N n : Nat) (h : N ≤ n) (hn : ∀ m, N ≤ m → m < n → (popR 32 m : Int) ≠ k) : numsTo k n = numsTo k N := by
  obtain ⟨d, rfl⟩ : ∃ d, n = N + d := ⟨n - N, by omega⟩
  unfold numsTo
  rw [List.range_add, List.filter_append]
  have e3 : List.filter (fun n => (popR 32 n : Int) == k) (List.map (fun x => N + x) (List.range d)) = [] := by
    rw [List.filter_eq_nil_iff]
    intro a ha
    obtain ⟨t, ht, rfl⟩ := List.mem_map.1 ha
    have ht' := List.mem_range.1 ht
    rw [beq_iff_eq]
    exact hn _ (by omega) (by omega)
  rw [e3, List.append_nil]
end Go.Proofs.YthkboibhkpkliaaDoor
