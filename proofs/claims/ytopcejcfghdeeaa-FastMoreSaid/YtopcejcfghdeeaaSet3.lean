/- Comparing, renaming; the reference's Of, Within. -/
import Derived.Test.YtopcejcfghdeeaaSet1
import Derived.Test.YtopcejcfghdeeaaSet2
namespace Go.Proofs.Ytopcejcfghdeeaa
open Go.RowKit

def cmpI (a b : Int) : Int := if a < b then -1 else if b < a then 1 else 0

set_option maxHeartbeats 400000 in
theorem cmpi_c (a b : Int) (w : World) :
    Calls Try.prog 91 #[.int .i64 a, .int .i64 b] w fun e w' => e = .returned (.int .i64 (cmpI a b)) ∧ w = w' := by
  by_cases h1 : a < b
  · go_enter Try.func91, Try.ntmps91
    go_wp2
    go_ret
    exact ⟨ret_int (by simp [cmpI, h1]), rfl⟩
  · by_cases h2 : b < a
    · go_enter Try.func91, Try.ntmps91
      go_wp2
      go_ret
      exact ⟨ret_int (by rw [cmpI, if_neg (by omega), if_pos (by omega)]), rfl⟩
    · go_enter Try.func91, Try.ntmps91
      go_wp2
      go_ret
      exact ⟨ret_int (by rw [cmpI, if_neg (by omega), if_neg (by omega)]), rfl⟩

set_option maxHeartbeats 400000 in
theorem cmpu_c (a b : Int) (w : World) :
    Calls Try.prog 92 #[.int .u16 a, .int .u16 b] w fun e w' => e = .returned (.int .i64 (cmpI a b)) ∧ w = w' := by
  by_cases h1 : a < b
  · go_enter Try.func92, Try.ntmps92
    go_wp2
    go_ret
    exact ⟨ret_int (by simp [cmpI, h1]), rfl⟩
  · by_cases h2 : b < a
    · go_enter Try.func92, Try.ntmps92
      go_wp2
      go_ret
      exact ⟨ret_int (by rw [cmpI, if_neg (by omega), if_pos (by omega)]), rfl⟩
    · go_enter Try.func92, Try.ntmps92
      go_wp2
      go_ret
      exact ⟨ret_int (by rw [cmpI, if_neg (by omega), if_neg (by omega)]), rfl⟩

/-- the first of two numbers, if it is not 0, else the second -/
def orI (a b : Int) : Int := if a = 0 then b else a

set_option maxHeartbeats 1000000 in
theorem or2_c (x y : Int) (b o : Nat) (w : World) (h0 : w.cell? ⟨b, o, none⟩ = some (.int .i64 x)) (h1 : w.cell? ⟨b, o + 1, none⟩ = some (.int .i64 y)) :
    Calls Try.prog 90 #[.slice (some ⟨b, o, none⟩) 2 2] w fun e w' => e = .returned (.int .i64 (orI x y)) ∧ w = w' := by
  go_enter Try.func90, Try.ntmps90
  go_wp2
  go_loop [8] (fun i => ∃ (k : Nat), k ≤ 2 ∧ i = .int .i64 k ∧ Hid ((1 ≤ k → x = 0) ∧ (2 ≤ k → y = 0))) (fun i => 2 - (intOf i).toNat)
  case atStart => exact ⟨0, by omega, rfl, ⟨by omega, by omega⟩⟩
  case round =>
    obtain ⟨k, hk, rfl, hh⟩ := hrel
    match k, hk, hh with
    | 0, _, hh =>
      by_cases hx : x = 0
      · have hx' : (x != 0) = false := by simp [hx]
        have HX := Lib.hid hx
        clear hx
        go_wp2
        go_round
        case rel => exact ⟨1, by omega, rfl, fun _ => HX.out, by omega⟩
        case measure => simp [intOf]
      · have hx' : (x != 0) = true := by simp [hx]
        have HX := Lib.hid hx
        clear hx
        go_wp2
        go_ret
        exact ⟨ret_int (by rw [orI, if_neg HX.out]), rfl⟩
    | 1, _, hh =>
      by_cases hy : y = 0
      · have hy' : (y != 0) = false := by simp [hy]
        have HY := Lib.hid hy
        clear hy
        go_wp2
        go_round
        case rel => exact ⟨2, by omega, rfl, fun _ => hh.out.1 (by omega), fun _ => HY.out⟩
        case measure => simp [intOf]
      · have hy' : (y != 0) = true := by simp [hy]
        have HY := Lib.hid hy
        clear hy
        go_wp2
        go_ret
        exact ⟨ret_int (by rw [orI, if_pos (hh.out.1 (by omega))]), rfl⟩
    | 2, _, hh =>
      go_wp2
      go_ret
      exact ⟨ret_int (by rw [orI, if_pos (hh.out.1 (by omega)), hh.out.2 (by omega)]), rfl⟩

/-- the order of sets -/
def cmpS (x y : BitVec 16) : Int := orI (cmpI (cnt x) (cnt y)) (cmpI (U x) (U y))

set_option maxRecDepth 100000 in
set_option maxHeartbeats 1000000 in
theorem compare_c (x y : BitVec 16) (s t : Int) (w : World) (hs : s = U x) (ht : t = U y) :
    Calls Try.prog 77 #[.int .u16 s, .int .u16 t] w fun e w' => e = .returned (.int .i64 (cmpS x y)) ∧ Below w.heap.size w w' := by
  subst hs ht
  go_enter Try.func77, Try.ntmps77
  go_wp2_with fail
  refine (count_c x _ _ rfl).mono ?_
  rintro e w1 ⟨rfl, q, rfl⟩
  go_wp2_with fail
  refine (count_c y _ _ rfl).mono ?_
  rintro e w2 ⟨rfl, q2, rfl⟩
  go_wp2_with fail
  refine (cmpi_c _ _ _).mono ?_
  rintro e w3 ⟨rfl, rfl⟩
  go_wp2_with fail
  refine (cmpu_c _ _ _).mono ?_
  rintro e w3 ⟨rfl, rfl⟩
  go_wp2_with fail
  refine (or2_c (cmpI (cnt x) (cnt y)) (cmpI (U x) (U y)) _ _ _ ?h0 ?h1).mono ?_
  case h0 => exact cell_new _ _ _ 0 _ rfl
  case h1 => exact cell_new _ _ _ 1 _ rfl
  rintro e w3 ⟨rfl, rfl⟩
  go_wp2_with fail
  go_ret
  exact ⟨rfl, (below_drewN (q := q + q2) (Below.refl w.heap.size w)).alloc (Nat.le_refl _) _⟩

theorem cmpS_self (x : BitVec 16) : cmpS x x = 0 := by simp [cmpS, cmpI, orI]
theorem cmpS_lt (x y : BitVec 16) (h : cnt x < cnt y) : cmpS x y = -1 := by
  have : cmpI (cnt x) (cnt y) = -1 := by rw [cmpI, if_pos (by omega)]
  unfold cmpS; rw [this]; rfl
theorem cmpS_eq_lt (x y : BitVec 16) (h : cnt x = cnt y) (h2 : U x < U y) : cmpS x y = -1 := by
  have e : cmpI (cnt x) (cnt y) = 0 := by rw [cmpI, if_neg (by omega), if_neg (by omega)]
  unfold cmpS; rw [e]; simp [orI, cmpI, h2]
theorem cmpS_gt (x y : BitVec 16) (h : x ≠ y) (h1 : ¬ cnt x < cnt y) (h2 : cnt x = cnt y → ¬ U x < U y) : cmpS x y = 1 := by
  by_cases h3 : cnt x = cnt y
  · have e : cmpI (cnt x) (cnt y) = 0 := by rw [cmpI, if_neg (by omega), if_neg (by omega)]
    have h4 := h2 h3
    have h5 : U x ≠ U y := fun h' => h (U_inj h')
    have e2 : cmpI (U x) (U y) = 1 := by rw [cmpI, if_neg h4, if_pos (by omega)]
    unfold cmpS; rw [e, e2]; rfl
  · have e : cmpI (cnt x) (cnt y) = 1 := by rw [cmpI, if_neg (by omega), if_pos (by omega)]
    unfold cmpS; rw [e]; rfl

end Go.Proofs.Ytopcejcfghdeeaa
