/- Laws of layer 7: the sequences collected. -/
import Derived.Test.YthkboibhkpkliaaDoorAw
namespace Go.Proofs.YthkboibhkpkliaaDoor
open Go.RowKit Go.Shelf

theorem U_of_wf {a : Int} (h : (Lit.int .u16 a).wf = true) : ∃ x : BitVec 16, a = U x := by
  apply U_of
  simp [Lit.wf, IntKind.min, IntKind.max, IntKind.bits, IntKind.signed] at h
  omega
theorem popR_cnt (x : BitVec 16) (n : Nat) (h : n < 2 ^ cnt x) : popR 32 n < cnt x + 1 := by
  rw [popR_32 x n h]; have := popR_le (cnt x) n; omega
theorem sum_zero (K a : Nat) (h : K ≤ a) : ((List.range K).map fun k => if a = k then 1 else 0).sum = 0 := by
  induction K with
  | zero => rfl
  | succ K ih => rw [List.range_succ, List.map_append, List.sum_append, ih (by omega)]; simp; omega
theorem sum_one (K a : Nat) (h : a < K) : ((List.range K).map fun k => if a = k then 1 else 0).sum = 1 := by
  induction K with
  | zero => omega
  | succ K ih =>
    rw [List.range_succ, List.map_append, List.sum_append]
    by_cases e : a = K
    · subst e; rw [sum_zero a a (Nat.le_refl _)]; simp
    · rw [ih (by omega)]; simp [e]
theorem sum_add (l : List Nat) (f g : Nat → Nat) : (l.map fun k => f k + g k).sum = (l.map f).sum + (l.map g).sum := by
  induction l with
  | nil => rfl
  | cons a l ih => simp [ih]; omega
theorem sum_parts (f : Nat → Nat) (K : Nat) : ∀ l : List Nat, (∀ n ∈ l, f n < K) → ((List.range K).map fun (k : Nat) => (l.filter fun n => (f n : Int) == (k : Int)).length).sum = l.length := by
  intro l
  induction l with
  | nil => intro _; simp [List.map_const']
  | cons a l ih =>
    intro h
    have e : ∀ k : Nat, ((a :: l).filter fun n => (f n : Int) == (k : Int)).length = (if f a = k then 1 else 0) + (l.filter fun n => (f n : Int) == (k : Int)).length := by
      intro k
      rw [List.filter_cons]
      by_cases h : f a = k
      · simp [h]; omega
      · have : ((f a : Int) == (k : Int)) = false := by simp; omega
        simp [h, this]
    simp only [e]
    rw [sum_add, sum_one K (f a) (h a (by simp)), ih (fun n hn => h n (by simp [hn]))]
    simp; omega
theorem subsS_len (x : BitVec 16) : (subsS x).length = 2 ^ cnt x := by
  rw [subsS_dep, List.length_flatMap]
  simp only [List.length_map, numsTo]
  rw [sum_parts (popR 32) (cnt x + 1) (List.range (2 ^ cnt x)) (fun n hn => popR_cnt x n (List.mem_range.1 hn)), List.length_range]
theorem one_shl (c : Nat) (h : c ≤ 16) : wrap64 (2 ^ min c 64) = 2 ^ c := by
  have : ∀ c : Fin 17, wrap64 (2 ^ min c.val 64) = 2 ^ c.val := by decide +kernel
  exact this ⟨c, by omega⟩

set_option maxRecDepth 100000 in
set_option maxHeartbeats 1000000 in
theorem setSubsets_w (a : Int) (w : World) (ht : HasTab w) (w0 : (Lit.int .u16 a).wf = true) :
    Calls Tryd.prog 4 #[.int .u16 a] w fun e w' => e = .returned (.bool true) ∧ Below w.heap.size w w' := by
  obtain ⟨x, rfl⟩ := U_of_wf w0
  clear w0
  have HT := Lib.hid ht
  clear ht
  have HA := Lib.hid (awake_c w HT.out)
  by_cases hc : (8 : Int) < (cnt x : Int)
  · have hd : decide ((8 : Int) < (cnt x : Int)) = true := by simpa using hc
    clear hc
    go_enter Tryd.func4, Tryd.ntmps4
    go_wp2_with fail
    refine HA.out.mono ?_
    rintro e w1 ⟨rfl, hb⟩
    go_wp2_with fail
    refine (rcount_c x _ _ rfl).mono ?_
    rintro e w2 ⟨rfl, hb2⟩
    have hb3 := Below.next hb hb2
    clear hb hb2
    have HA2 := Lib.hid (awake_c w2 (HT.out.below hb3))
    go_wp2_with fail
    refine HA2.out.mono ?_
    rintro e w3 ⟨rfl, hb4⟩
    go_wp2_with fail
    go_ret
    exact ⟨rfl, Below.next hb3 hb4⟩
  · have hd : decide ((8 : Int) < (cnt x : Int)) = false := by simpa using hc
    obtain ⟨n, hn⟩ : ∃ n, ((subsS x).map setV).length = n := ⟨_, rfl⟩
    have hs : ((n : Int) == wrap64 (2 ^ min (cnt x) 64)) = true := by
      rw [one_shl _ (cnt_le x), ← hn, List.length_map, subsS_len]; simp
    clear hc
    go_enter Tryd.func4, Tryd.ntmps4
    go_wp2_with fail
    refine HA.out.mono ?_
    rintro e w1 ⟨rfl, hb⟩
    go_wp2_with fail
    refine (rcount_c x _ _ rfl).mono ?_
    rintro e w2 ⟨rfl, hb2⟩
    have hb3 := Below.next hb hb2
    clear hb hb2
    go_wp2_with fail
    refine (subsets_c x _ _ rfl).mono ?_
    rintro e w3 ⟨rfl, hw3⟩
    have hb4 : Below w.heap.size w w3 := by rw [hw3]; exact hb3.alloc hb3.size _
    have hc3 : w3.cell? ⟨w2.heap.size, 0, none⟩ = some (.int .u16 (U x)) := by
      rw [hw3]
      exact cell_new _ _ _ 0 _ rfl
    clear hw3 hb3
    have hcol := Lib.hid (collect_subsets x w3 (HT.out.below hb4) w2.heap.size hc3)
    clear hc3
    go_wp2_with fail
    refine hcol.out.mono ?_
    rintro e w4 ⟨v, rfl, hown, hb5⟩
    obtain ⟨a, c, rfl, hr⟩ := hown.rdn n hn
    have hb6 := Below.next hb4 hb5
    clear hb4 hb5 hown hcol
    go_wp2_with fail
    refine (rcount_c x _ _ rfl).mono ?_
    rintro e w41 ⟨rfl, hb2⟩
    have hr4 := hr.below hb2
    have hb61 := Below.next hb6 hb2
    clear hb6 hb2 hr
    go_wp2_with fail
    refine (rsubsets_c x _ _ rfl).mono ?_
    rintro e w5 ⟨v, rfl, hown, hb7⟩
    obtain ⟨b, d, rfl, hr2⟩ := hown.rdn n hn
    have hb8 := Below.next hb61 hb7
    have hr3 := hr4.below hb7
    clear hb61 hb7 hown hr4
    go_wp2_with fail
    refine (rsame_c (subsS x) (subsS x) _ _ _ _ _ _ _ hr3 hr2).mono ?_
    rintro e w6 ⟨rfl, hb9⟩
    go_wp2_with fail
    go_ret
    exact ⟨ret_bool (by simp), Below.next hb8 hb9⟩

set_option maxRecDepth 100000 in
set_option maxHeartbeats 1000000 in
theorem setChoose_w (a k : Int) (w : World) (ht : HasTab w) (w0 : (Lit.int .u16 a).wf = true) (_ : (Lit.int .i64 k).wf = true) :
    Calls Tryd.prog 5 #[.int .u16 a, .int .i64 k] w fun e w' => e = .returned (.bool true) ∧ Below w.heap.size w w' := by
  obtain ⟨x, rfl⟩ := U_of_wf w0
  clear w0
  have HT := Lib.hid ht
  clear ht
  have HA := Lib.hid (awake_c w HT.out)
  by_cases hc : (10 : Int) < (cnt x : Int)
  · have hd : decide ((10 : Int) < (cnt x : Int)) = true := by simpa using hc
    clear hc
    go_enter Tryd.func5, Tryd.ntmps5
    go_wp2_with fail
    refine HA.out.mono ?_
    rintro e w1 ⟨rfl, hb⟩
    go_wp2_with fail
    refine (rcount_c x _ _ rfl).mono ?_
    rintro e w2 ⟨rfl, hb2⟩
    have hb3 := Below.next hb hb2
    clear hb hb2
    have HA2 := Lib.hid (awake_c w2 (HT.out.below hb3))
    go_wp2_with fail
    refine HA2.out.mono ?_
    rintro e w3 ⟨rfl, hb4⟩
    go_wp2_with fail
    go_ret
    exact ⟨rfl, Below.next hb3 hb4⟩
  · have hd : decide ((10 : Int) < (cnt x : Int)) = false := by simpa using hc
    clear hc
    go_enter Tryd.func5, Tryd.ntmps5
    go_wp2_with fail
    refine HA.out.mono ?_
    rintro e w1 ⟨rfl, hb⟩
    go_wp2_with fail
    refine (rcount_c x _ _ rfl).mono ?_
    rintro e w2 ⟨rfl, hb2⟩
    have hb3 := Below.next hb hb2
    clear hb hb2
    go_wp2_with fail
    refine (choosem_c x _ k _ rfl).mono ?_
    rintro e w3 ⟨rfl, hw3⟩
    have hb4 : Below w.heap.size w w3 := by rw [hw3]; exact (hb3.alloc hb3.size _).alloc (by have := hb3.size; simp; omega) _
    have hc3 : w3.cell? ⟨w2.heap.size, 0, none⟩ = some (.int .u16 (U x)) := by
      rw [hw3]
      rw [((Below.refl (w2.alloc (.cells #[.int .u16 (U x)] 23)).heap.size (w2.alloc (.cells #[.int .u16 (U x)] 23))).alloc (Nat.le_refl _) _).cell (p := ⟨w2.heap.size, 0, none⟩) (by simp)]
      exact cell_new _ _ _ 0 _ rfl
    have hk3 : w3.cell? ⟨w2.heap.size + 1, 0, none⟩ = some (.int .i64 k) := by rw [hw3]; exact cell_new' _ _ _ 0 _ rfl (by simp)
    clear hw3 hb3
    have hcol := Lib.hid (collect_choose x k w3 (HT.out.below hb4) w2.heap.size (w2.heap.size + 1) hc3 hk3)
    clear hc3 hk3
    go_wp2_with fail
    refine hcol.out.mono ?_
    rintro e w4 ⟨v, rfl, hown, hb5⟩
    obtain ⟨n, hn⟩ : ∃ n, ((chooseS x k).map setV).length = n := ⟨_, rfl⟩
    obtain ⟨a, c, rfl, hr⟩ := hown.rdn n hn
    have hb6 := Below.next hb4 hb5
    clear hb4 hb5 hown hcol
    go_wp2_with fail
    refine (rchoose_c x _ k _ rfl).mono ?_
    rintro e w5 ⟨v, rfl, hown, hb7⟩
    obtain ⟨b, d, rfl, hr2⟩ := hown.rdn n hn
    have hb8 := Below.next hb6 hb7
    have hr3 := hr.below hb7
    clear hb6 hb7 hown hr
    go_wp2_with fail
    refine (rsame_c (chooseS x k) (chooseS x k) _ _ _ _ _ _ _ hr3 hr2).mono ?_
    rintro e w6 ⟨rfl, hb9⟩
    go_wp2_with fail
    go_ret
    exact ⟨ret_bool (by simp), Below.next hb8 hb9⟩
end Go.Proofs.YthkboibhkpkliaaDoor
