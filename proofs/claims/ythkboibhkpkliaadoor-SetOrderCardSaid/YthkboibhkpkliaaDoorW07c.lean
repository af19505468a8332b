/- Laws of layer 7: the order. -/
import Derived.Test.YthkboibhkpkliaaDoorW07b
namespace Go.Proofs.YthkboibhkpkliaaDoor
open Go.RowKit Go.Shelf

def rank (x : BitVec 16) : Int := cnt x * 65536 + U x
theorem rank_inj {x y : BitVec 16} (h : rank x = rank y) : x = y := by
  apply U_inj
  have := U_bd x; have := U_bd y
  unfold rank at h; omega
theorem cmpS_rank (x y : BitVec 16) : cmpS x y = cmpI (rank x) (rank y) := by
  have hx := U_bd x; have hy := U_bd y
  unfold cmpS orI
  rcases Nat.lt_trichotomy (cnt x) (cnt y) with h | h | h
  · rw [show cmpI (cnt x) (cnt y) = -1 by rw [cmpI, if_pos (by omega)], if_neg (by decide)]
    rw [cmpI, if_pos (by unfold rank; omega)]
  · rw [show (if cmpI (cnt x) (cnt y) = 0 then cmpI (U x) (U y) else cmpI (cnt x) (cnt y)) = cmpI (U x) (U y) from if_pos (by rw [cmpI, if_neg (by omega), if_neg (by omega)])]
    unfold cmpI rank
    rw [h]
    simp only [Int.add_lt_add_iff_left]
  · rw [show cmpI (cnt x) (cnt y) = 1 by rw [cmpI, if_neg (by omega), if_pos (by omega)], if_neg (by decide)]
    rw [cmpI, if_neg (by unfold rank; omega), if_pos (by unfold rank; omega)]
theorem cmpI_neg (a b : Int) : cmpI a b = -cmpI b a := by
  unfold cmpI; split <;> split <;> omega
theorem cmpI_zero (a b : Int) : cmpI a b = 0 ↔ a = b := by
  unfold cmpI; split
  · omega
  · split <;> omega
theorem cmpI_le (a b : Int) : cmpI a b ≤ 0 ↔ a ≤ b := by
  unfold cmpI; split
  · omega
  · split <;> omega
theorem cnt_and_le (x y : BitVec 16) : cnt (x &&& y) ≤ cnt x := by
  unfold cnt memS
  apply List.Sublist.length_le
  have e : hasB (x &&& y) = fun p => hasB y p && hasB x p := by funext p; rw [hasB_and, Bool.and_comm]
  rw [e, ← List.filter_filter]
  exact List.filter_sublist
theorem U_and_le (x y : BitVec 16) : U (x &&& y) ≤ U x := by
  have : (x &&& y).toNat ≤ x.toNat := by rw [BitVec.toNat_and]; exact Nat.and_le_left
  unfold U; omega
theorem law_order (x y z : BitVec 16) : cmpS y x = -cmpS x y ∧ (cmpS x y = 0 ↔ x = y) ∧ cmpS (x &&& y) x ≤ 0 ∧ (cmpS x y ≤ 0 → cmpS y z ≤ 0 → cmpS x z ≤ 0) := by
  refine ⟨?_, ?_, ?_, ?_⟩
  · rw [cmpS_rank, cmpS_rank]; exact cmpI_neg _ _
  · rw [cmpS_rank, cmpI_zero]; exact ⟨rank_inj, fun h => by rw [h]⟩
  · rw [cmpS_rank, cmpI_le]
    have := cnt_and_le x y; have := U_and_le x y
    unfold rank; omega
  · rw [cmpS_rank, cmpS_rank, cmpS_rank, cmpI_le, cmpI_le, cmpI_le]; omega

theorem cmpS_3 (x y : BitVec 16) : cmpS x y = -1 ∨ cmpS x y = 0 ∨ cmpS x y = 1 := by
  rw [cmpS_rank]; unfold cmpI; split
  · exact .inl rfl
  · split
    · exact .inr (.inr rfl)
    · exact .inr (.inl rfl)

set_option maxRecDepth 100000 in
set_option maxHeartbeats 2000000 in
theorem setOrder_w (a b c : Int) (w : World) (ht : HasTab w) (w0 : (Lit.int .u16 a).wf = true) (w1 : (Lit.int .u16 b).wf = true) (w2 : (Lit.int .u16 c).wf = true) :
    Calls Tryd.prog 3 #[.int .u16 a, .int .u16 b, .int .u16 c] w fun e w' => e = .returned (.bool true) ∧ Below w.heap.size w w' := by
  obtain ⟨x, rfl⟩ := U_of_wf w0
  obtain ⟨y, rfl⟩ := U_of_wf w1
  obtain ⟨z, rfl⟩ := U_of_wf w2
  clear w0 w1 w2
  have HA := Lib.hid (awake_c w ht)
  clear ht
  obtain ⟨l1, l2, l3, l4⟩ := law_order x y z
  obtain ⟨ab, hab⟩ : ∃ n, cmpS x y = n := ⟨_, rfl⟩
  obtain ⟨bc, hbc⟩ : ∃ n, cmpS y z = n := ⟨_, rfl⟩
  obtain ⟨ac, hac⟩ : ∃ n, cmpS x z = n := ⟨_, rfl⟩
  obtain ⟨ss, hss⟩ : ∃ n, cmpS (x &&& y) x = n := ⟨_, rfl⟩
  have r1 := cmpS_3 x y
  rw [hab] at l1 l2 l4 r1
  rw [hbc, hac] at l4
  rw [hss] at l3
  have hba := l1
  have f1 : ((ab == 0) == (x == y)) = true := by
    by_cases h : x = y
    · simp [l2.2 h, h]
    · have h1 : (ab == 0) = false := by simpa using fun e => h (l2.1 e)
      have h2 : (x == y) = false := by simpa using h
      rw [h1, h2]; rfl
  have f2 : decide (0 < ss) = false := by simp; omega
  have hf : Hid (decide (0 < ab) = true ∨ decide (0 < bc) = true ∨ decide (ac ≤ 0) = true) := Lib.hid (by
    simp only [decide_eq_true_eq]
    by_cases h1 : ab ≤ 0
    · by_cases h2 : bc ≤ 0
      · exact .inr (.inr (l4 h1 h2))
      · omega
    · omega)
  clear l2 l3 l4 l1
  go_enter Tryd.func3, Tryd.ntmps3
  go_wp2_with fail
  refine HA.out.mono ?_
  rintro e w1 ⟨rfl, b1⟩
  go_wp2_with fail
  refine (compare_c x y _ _ _ rfl rfl).mono ?_
  rintro e w2 ⟨rfl, b2⟩
  rw [hab]
  have b3 := Below.next b1 b2; clear b1 b2
  go_wp2_with fail
  refine (compare_c y x _ _ _ rfl rfl).mono ?_
  rintro e w4 ⟨rfl, b4⟩
  rw [hba]
  have b5 := Below.next b3 b4; clear b3 b4
  go_wp2_with fail
  refine (compare_c y z _ _ _ rfl rfl).mono ?_
  rintro e w6 ⟨rfl, b6⟩
  rw [hbc]
  have b7 := Below.next b5 b6; clear b5 b6
  go_wp2_with fail
  refine (compare_c x z _ _ _ rfl rfl).mono ?_
  rintro e w8 ⟨rfl, b8⟩
  rw [hac]
  have b9 := Below.next b7 b8; clear b7 b8
  go_wp2_with fail
  refine (rcompare_c x y _ _ _ rfl rfl).mono ?_
  rintro e w10 ⟨rfl, b10⟩
  rw [hab]
  have b11 := Below.next b9 b10; clear b9 b10
  go_wp2_with fail
  refine (compare_c (x &&& y) x _ _ _ rfl rfl).mono ?_
  rintro e w12 ⟨rfl, b12⟩
  rw [hss]
  have b13 := Below.next b11 b12; clear b11 b12
  cases h1 : decide (0 < ab) with
  | true =>
    clear hf
    go_wp2_with fail
    go_ret
    exact ⟨rfl, b13⟩
  | false =>
    cases h2 : decide (0 < bc) with
    | true =>
      clear hf
      go_wp2_with fail
      go_ret
      exact ⟨rfl, b13⟩
    | false =>
      have h3 : decide (ac ≤ 0) = true := by
        rcases hf.out with h | h | h
        · rw [h1] at h; cases h
        · rw [h2] at h; cases h
        · exact h
      clear hf
      go_wp2_with fail
      go_ret
      exact ⟨rfl, b13⟩
end Go.Proofs.YthkboibhkpkliaaDoor
