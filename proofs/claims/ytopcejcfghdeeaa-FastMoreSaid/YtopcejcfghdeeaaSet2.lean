/- Has and Members of the reference. -/
import Derived.Test.YtopcejcfghdeeaaLib
import Derived.Test.YtopcejcfghdeeaaMa1
import Derived.Test.YtopcejcfghdeeaaProg
namespace Go.Proofs.Ytopcejcfghdeeaa
open Go.RowKit

def memTo (x : BitVec 16) (k : Nat) : List Nat := (List.range k).filter (hasB x)
def intV (i : Nat) : Value := .int .i64 i
theorem memTo_succ (x : BitVec 16) (k : Nat) : memTo x (k + 1) = if hasB x k then memTo x k ++ [k] else memTo x k := by
  rw [memTo, List.range_succ, List.filter_append]; cases h : hasB x k <;> simp [memTo, h]
theorem memTo_le (x : BitVec 16) (k : Nat) : (memTo x k).length ≤ k := Nat.le_trans (List.length_filter_le _ _) (by simp)

/-- the reference's Has -/
def hasI (x : BitVec 16) (i : Int) : Bool := decide (0 ≤ i) && decide (i < 16) && hasB x i.toNat

set_option maxHeartbeats 400000 in
theorem has_c (x : BitVec 16) (s i : Int) (w : World) (hs : s = U x) :
    Calls Try.prog 54 #[.int .u16 s, .int .i64 i] w fun e w' => e = .returned (.bool (hasI x i)) ∧ w = w' := by
  subst hs
  by_cases h1 : 0 ≤ i
  · by_cases h2 : i < 16
    · obtain ⟨n, rfl⟩ := Int.eq_ofNat_of_zero_le h1
      go_enter Try.func54, Try.ntmps54
      go_wp2
      go_ret
      exact ⟨by simp [hasI, h2], rfl⟩
    · have h2' : decide (i < 16) = false := by simp; omega
      go_enter Try.func54, Try.ntmps54
      go_wp2
      go_ret
      exact ⟨by simp [hasI, h2'], rfl⟩
  · have h1' : decide (0 ≤ i) = false := by simp; omega
    go_enter Try.func54, Try.ntmps54
    go_wp2
    go_ret
    exact ⟨by simp [hasI, h1'], rfl⟩

theorem Try.infoInt : (Try.prog.info? 3).map (fun i => (i.zero, i.size, i.bytes)) = some (some (.int .i64 0), 1, 8) := by kernel_rfl

set_option maxRecDepth 100000 in
set_option maxHeartbeats 1000000 in
theorem rmembers_c (x : BitVec 16) (s : Int) (w : World) (hs : s = U x) :
    Calls Try.prog 69 #[.int .u16 s] w fun e w' => ∃ v, e = .returned v ∧ Own w w' 3 v ((memS x).map intV) ∧ Below w.heap.size w w' := by
  subst hs
  go_enter Try.func69, Try.ntmps69
  go_wp2
  go_loopw [3, 4] (fun v i wr => ∃ (k : Nat), k ≤ 16 ∧ i = .int .i64 k ∧ wr.ownsRow w.heap.size 3 1 v (memTo x k).length ((memTo x k).map intV) ∧ Below w.heap.size w wr) (fun _ i _ => 16 - (intOf i).toNat)
  case atStart => exact ⟨0, Nat.zero_le _, rfl, World.ownsRow_nil _ _ _ _, Below.refl _ _⟩
  case round =>
    obtain ⟨k, hk, rfl, hown, hb⟩ := hrel
    by_cases hlt : k < 16
    · have hs := memTo_succ x k
      have hle := memTo_le x k
      cases hh : hasB x k
      · rw [hh] at hs
        have HS := Lib.hid hs
        have hI : hasI x k = false := by simp [hasI, hh]
        clear hs hh
        go_wp2_with (go_at_call 54; refine (has_c x _ _ _ rfl).mono ?_; rintro e w' ⟨rfl, rfl⟩)
        go_roundw
        case rel => exact ⟨k + 1, by omega, by go_num, by rw [HS.out]; exact hown, hb⟩
        case measure => simp [intOf]; omega
      · rw [hh] at hs
        have HS := Lib.hid hs
        have hI : hasI x k = true := by simp [hasI, hh]; omega
        clear hs hh
        go_wp2_with (first | (go_at_call 54; refine (has_c x _ _ _ rfl).mono ?_; rintro e w' ⟨rfl, rfl⟩) | (at_builtin; go_must (refine wpList_app _ _ 81 8 (.int .i64 0) (intV k) _ Try.underlying81 Try.infoInt rfl hown hb (Nat.le_refl _) rfl rfl rfl rfl rfl (by unfold maxLen; omega) (by omega) ?_)))
        intro v' w1 hown1 hb1 _ _
        clear hown hb
        go_wp2
        go_roundw
        case rel => exact ⟨k + 1, by omega, by go_num, by rw [HS.out]; simpa using hown1, hb1⟩
        case measure => simp [intOf]; omega
    · obtain rfl : k = 16 := by omega
      go_wp2
      go_ret
      exact ⟨_, rfl, by unfold Own memS; rw [List.length_map]; exact hown, hb⟩

set_option maxRecDepth 100000 in
set_option maxHeartbeats 1000000 in
theorem rcount_c (x : BitVec 16) (s : Int) (w : World) (hs : s = U x) :
    Calls Try.prog 48 #[.int .u16 s] w fun e w' => e = .returned (.int .i64 (cnt x)) ∧ Below w.heap.size w w' := by
  subst hs
  have hle := cnt_le x
  go_enter Try.func48, Try.ntmps48
  go_wp2_with fail
  refine (rmembers_c x _ _ rfl).mono ?_
  rintro e w1 ⟨v, rfl, hown, hb⟩
  obtain ⟨a, c, rfl, hr⟩ := hown.rd
  rw [List.length_map]
  change cnt x ≤ 16 at hle
  have e1 : (memS x).length = cnt x := rfl
  rw [e1]
  clear hown hr
  go_wp2
  go_ret
  exact ⟨rfl, hb⟩

set_option maxRecDepth 100000 in
set_option maxHeartbeats 1000000 in
theorem ones_c (x : BitVec 16) (s : Int) (w : World) (hs : s = U x) :
    Calls Try.prog 68 #[.int .u16 s] w fun e w' => e = .returned (.int .i64 (cnt x)) ∧ ∃ q, w' = w.drewN q := by
  subst hs
  obtain ⟨hi, lo, h1, h2, hh, hl, hp⟩ := cnt_tables x
  have hle := cnt_le x
  have HP := Lib.hid hp
  clear hp
  have h3 : (hi : Int) ≤ 255 := by omega
  have h4 : (lo : Int) ≤ 255 := by omega
  have h8 := bv16_shr x 8
  simp only [Int.reducePow] at h8
  go_enter Try.func68, Try.ntmps68
  go_wp2
  go_quiet (fail)
  go_wp2
  go_ret
  exact ⟨ret_int (by rw [HP.out]; omega), _, rfl⟩

set_option maxRecDepth 100000 in
set_option maxHeartbeats 1000000 in
theorem count_c (x : BitVec 16) (s : Int) (w : World) (hs : s = U x) :
    Calls Try.prog 47 #[.int .u16 s] w fun e w' => e = .returned (.int .i64 (cnt x)) ∧ ∃ q, w' = w.drewN q := by
  subst hs
  go_enter Try.func47, Try.ntmps47
  go_wp2_with (go_at_call 68; refine (ones_c x _ _ rfl).mono ?_; rintro e w' ⟨rfl, q, rfl⟩)
  go_ret
  exact ⟨rfl, _, rfl⟩

/-- the table that TrailingZeros16 reads -/
def deB : List Int := [0, 1, 28, 2, 29, 14, 24, 3, 30, 22, 20, 15, 25, 17, 4, 8, 31, 27, 13, 23, 21, 19, 16, 7, 26, 12, 18, 6, 11, 5, 10, 9]
@[go_sem] theorem bv16_neg (x : BitVec 16) : IntKind.u16.wrap (-(U x)) = U (-x) := by
  rw [IntKind.wrap_u16]; unfold U; rw [BitVec.toNat_neg]; have := x.isLt; omega

/-- set.Full -/
def fullS (n : Int) : BitVec 16 × Int := if n < 0 ∨ 12 < n then (0#16, 7) else (bitS n.toNat - 1#16, 0)

end Go.Proofs.Ytopcejcfghdeeaa
