/- The reference of layer 8: Size, Before, Contains, Range, Accepts, Support, Valid. -/
import Derived.Test.YtopcejcfghdeeaaFam3
namespace Go.Proofs.Ytopcejcfghdeeaa
open Go.RowKit Go.Shelf

theorem cntTo_succ (x : BitVec 16) (k : Nat) : (memTo x (k + 1)).length = (memTo x k).length + (if hasB x k then 1 else 0) := by
  rw [memTo_succ]; cases hasB x k <;> simp
@[go_sem] theorem b01_conv (b : Bool) : IntKind.i64.wrap (b01 b) = b01 b := by cases b <;> decide

set_option maxRecDepth 100000 in
set_option maxHeartbeats 1000000 in
theorem size8_c (x : BitVec 16) (w : World) :
    Calls Try.prog 72 #[.int .u16 (U x)] w fun e w' => e = .returned (.int .i64 (cnt x)) ∧ w' = w := by
  go_enter Try.func72, Try.ntmps72
  go_wp2_with fail
  go_loop [3, 4] (fun v i => ∃ (k : Nat) (m : Nat), k ≤ 16 ∧ m ≤ k ∧ i = .int .i64 k ∧ v = .int .i64 m ∧ Hid (m = (memTo x k).length)) (fun _ i => 16 - (intOf i).toNat)
  case atStart => exact ⟨0, 0, Nat.zero_le _, Nat.zero_le _, rfl, rfl, rfl⟩
  case round =>
    obtain ⟨k, m, hk, hmk, rfl, rfl, hm⟩ := hrel
    by_cases hlt : k < 16
    · have HS := Lib.hid (cntTo_succ x k)
      cases hb : hasB x k
      · have HB := Lib.hid hb
        have hb0 : b01 (hasB x k) = 0 := by rw [hb]; rfl
        clear hb
        go_wp2_with fail
        go_round
        case rel => exact ⟨k + 1, m, by omega, by omega, by go_num, by (try go_num), by show _ = _; rw [HS.out, HB.out, hm.out]; rfl⟩
        case measure => simp [intOf]; omega
      · have HB := Lib.hid hb
        have hb0 : b01 (hasB x k) = 1 := by rw [hb]; rfl
        clear hb
        go_wp2_with fail
        go_round
        case rel => exact ⟨k + 1, m + 1, by omega, by omega, by go_num, by go_num, by show _ = _; rw [HS.out, HB.out, hm.out]; rfl⟩
        case measure => simp [intOf]; omega
    · have hE : Hid (m = cnt x) := by
        obtain rfl : k = 16 := by omega
        exact hm.out
      go_wp2_with fail
      go_ret
      exact ⟨ret_int (by rw [hE.out]), rfl⟩

/-- x comes before y -/
def befB (x y : BitVec 16) : Bool := decide (keyS x < keyS y)
theorem bef_ne {x y : BitVec 16} (h : cnt x ≠ cnt y) : befB x y = decide (cnt x < cnt y) := by
  unfold befB keyS; have := x.isLt; have := y.isLt
  rw [Bool.eq_iff_iff, decide_eq_true_iff, decide_eq_true_iff]; omega
theorem bef_eq {x y : BitVec 16} (h : cnt x = cnt y) : befB x y = decide (U x < U y) := by
  unfold befB keyS U
  rw [Bool.eq_iff_iff, decide_eq_true_iff, decide_eq_true_iff]; omega

set_option maxRecDepth 100000 in
set_option maxHeartbeats 1000000 in
theorem before8_c (x y : BitVec 16) (w : World) :
    Calls Try.prog 58 #[.int .u16 (U x), .int .u16 (U y)] w fun e w' => e = .returned (.bool (befB x y)) ∧ w' = w := by
  by_cases hc : cnt x = cnt y
  · have HE := Lib.hid (bef_eq hc)
    obtain ⟨m, hm⟩ : ∃ m, cnt x = m := ⟨_, rfl⟩
    have H1 := Lib.hid (fun w => size8_c x w)
    have H2 := Lib.hid (fun w => size8_c y w)
    rw [← hc, hm] at H2
    rw [hm] at H1
    clear hc hm
    go_enter Try.func58, Try.ntmps58
    go_wp2_with fail
    refine (H1.out _).mono ?_
    rintro e w1 ⟨rfl, rfl⟩
    go_wp2_with fail
    refine (H2.out _).mono ?_
    rintro e w1 ⟨rfl, rfl⟩
    go_wp2_with fail
    go_ret
    exact ⟨ret_bool HE.out.symm, rfl⟩
  · have HE := Lib.hid (bef_ne hc)
    obtain ⟨m, hm⟩ : ∃ m, cnt x = m := ⟨_, rfl⟩
    obtain ⟨m2, hm2⟩ : ∃ m, cnt y = m := ⟨_, rfl⟩
    have H1 := Lib.hid (fun w => size8_c x w)
    have H2 := Lib.hid (fun w => size8_c y w)
    rw [hm2] at H2 HE hc
    rw [hm] at H1 HE hc
    have hne : ((m : Int) != (m2 : Int)) = true := by rw [bne_iff_ne]; omega
    have hcm : decide ((m : Int) < m2) = decide (m < m2) := by rw [Bool.eq_iff_iff, decide_eq_true_iff, decide_eq_true_iff]; omega
    have HCM := Lib.hid hcm
    clear hc hm hm2 hcm
    go_enter Try.func58, Try.ntmps58
    go_wp2_with fail
    refine (H1.out _).mono ?_
    rintro e w1 ⟨rfl, rfl⟩
    go_wp2_with fail
    refine (H2.out _).mono ?_
    rintro e w1 ⟨rfl, rfl⟩
    go_wp2_with fail
    refine (H1.out _).mono ?_
    rintro e w1 ⟨rfl, rfl⟩
    go_wp2_with fail
    refine (H2.out _).mono ?_
    rintro e w1 ⟨rfl, rfl⟩
    go_wp2_with fail
    go_ret
    exact ⟨ret_bool (by rw [HE.out]; (try first | rfl | exact HCM.out | simp)), rfl⟩

set_option maxHeartbeats 400000 in
theorem contains8_c (x y : BitVec 16) (w : World) :
    Calls Try.prog 59 #[.int .u16 (U x), .int .u16 (U y)] w fun e w' => e = .returned (.bool (subB x y)) ∧ w' = w := by
  go_enter Try.func59, Try.ntmps59
  go_wp2
  go_ret
  exact ⟨rfl, rfl⟩
set_option maxHeartbeats 400000 in
theorem range8_c (x : BitVec 16) (w : World) :
    Calls Try.prog 57 #[.int .u16 (U x)] w fun e w' => e = .returned (.bool (decide (U x < 4096))) ∧ w' = w := by
  go_enter Try.func57, Try.ntmps57
  go_wp2
  go_ret
  exact ⟨rfl, rfl⟩

set_option maxRecDepth 100000 in
set_option maxHeartbeats 1000000 in
theorem accepts8_c (l : List (BitVec 16)) (s : BitVec 16) (a : Option Addr) (n c : Nat) (w : World) (h : Rd w a n c (l.map setV2)) :
    Calls Try.prog 44 #[.slice a n c, .int .u16 (U s)] w fun e w' => e = .returned (.bool (accS l s)) ∧ w' = w := by
  have hnl : l.length = n := by have := h.len; simp at this; omega
  have hm := h.max
  have hle := h.le
  unfold maxLen at hm
  have HR := Lib.hid h
  have HN := Lib.hid hnl
  clear h hnl
  go_enter Try.func44, Try.ntmps44
  go_wp2_with fail
  go_loop [5] (fun i => ∃ k : Nat, k ≤ n ∧ i = .int .i64 k ∧ Hid (∀ j, j < k → subB s (l.getD j 0#16) = false)) (fun i => n - (intOf i).toNat)
  case atStart => exact ⟨0, Nat.zero_le _, rfl, Lib.hid (fun j hj => by omega)⟩
  case round =>
    obtain ⟨k, hk, rfl, hno⟩ := hrel
    by_cases hlt : k < n
    · obtain ⟨b, o, ha, hcell⟩ := HR.out.at' (by omega)
      have hkl : k < l.length := by have := HN.out; omega
      have hc := hcell k _ (at_cell hkl)
      subst ha
      have HC := Lib.hid (contains8_c s (l.getD k 0#16) w)
      cases hq : subB s (l.getD k 0#16)
      · have hno' : Hid (∀ j, j < k + 1 → subB s (l.getD j 0#16) = false) := Lib.hid (fun j hj => by
          by_cases h1 : j < k
          · exact hno.out j h1
          · obtain rfl : j = k := by omega
            exact hq)
        rw [hq] at HC
        obtain ⟨x, hx⟩ : ∃ x, l.getD k 0#16 = x := ⟨_, rfl⟩
        rw [hx] at hc HC
        clear hq hcell hno hx hkl
        go_wp2_with fail
        refine HC.out.mono ?_
        rintro e w1 ⟨rfl, rfl⟩
        go_wp2_with fail
        go_round
        case rel => exact ⟨k + 1, by omega, by go_num, hno'⟩
        case measure => simp [intOf]; omega
      · have hA : Hid (accS l s = true) := any_hit (p := fun x => subB s x) hkl hq
        rw [hq] at HC
        obtain ⟨x, hx⟩ : ∃ x, l.getD k 0#16 = x := ⟨_, rfl⟩
        rw [hx] at hc HC
        clear hq hcell hno hx hkl
        go_wp2_with fail
        refine HC.out.mono ?_
        rintro e w1 ⟨rfl, rfl⟩
        go_wp2_with fail
        go_ret
        exact ⟨ret_bool hA.out.symm, rfl⟩
    · have hA : Hid (accS l s = false) := any_none (p := fun x => subB s x) (fun j hj => hno.out j (by have := HN.out; omega))
      clear hno
      go_wp2_with fail
      go_ret
      exact ⟨ret_bool hA.out.symm, rfl⟩

set_option maxRecDepth 100000 in
set_option maxHeartbeats 1000000 in
theorem support8_c (l : List (BitVec 16)) (a : Option Addr) (n c : Nat) (w : World) (h : Rd w a n c (l.map setV2)) :
    Calls Try.prog 53 #[.slice a n c] w fun e w' => e = .returned (.int .u16 (U (supS l))) ∧ w' = w := by
  have hn : n ≤ l.length ∧ l.length ≤ n := by have := h.len; simp at this; omega
  obtain ⟨hn1, hn2⟩ := hn
  have hm := h.max
  have hle := h.le
  unfold maxLen at hm
  go_enter Try.func53, Try.ntmps53
  go_wp2_with fail
  go_loop [3, 4] (fun v i => ∃ (k : Nat) (s : BitVec 16), k ≤ n ∧ i = .int .i64 k ∧ v = .int .u16 (U s) ∧ Hid (s = supS (l.take k))) (fun _ i => n - (intOf i).toNat)
  case atStart => exact ⟨0, 0#16, Nat.zero_le _, rfl, rfl, rfl⟩
  case round =>
    obtain ⟨k, s, hk, rfl, rfl, hs⟩ := hrel
    by_cases hlt : k < n
    · obtain ⟨b, o, ha, hcell⟩ := h.at' (by omega)
      have hc := hcell k _ (at_cell (by omega))
      have HS := Lib.hid (supS_take (l := l) (k := k) (by omega))
      obtain ⟨x, hx⟩ : ∃ x, l.getD k 0#16 = x := ⟨_, rfl⟩
      rw [hx] at hc HS
      subst ha
      clear hcell h hx
      go_wp2_with fail
      go_round
      case rel => exact ⟨k + 1, s ||| x, by omega, by go_num, rfl, by show _ = _; rw [HS.out, hs.out]⟩
      case measure => simp [intOf]; omega
    · have hE : Hid (l.take k = l) := List.take_of_length_le (by omega)
      clear h
      go_wp2_with fail
      go_ret
      exact ⟨by rw [hs.out, hE.out]; rfl, rfl⟩
end Go.Proofs.Ytopcejcfghdeeaa
