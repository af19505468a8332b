/- The reference's Choose. -/
import Derived.Test.YtopcejcfghdeeaaSet5
namespace Go.Proofs.Ytopcejcfghdeeaa
open Go.RowKit

set_option maxRecDepth 100000 in
set_option maxHeartbeats 2000000 in
theorem rchoose_c (x : BitVec 16) (s kk : Int) (w : World) (hs : s = U x) :
    Calls Try.prog 56 #[.int .u16 s, .int .i64 kk] w fun e w' => ∃ v, e = .returned v ∧ Own w w' 26 v ((chooseS x kk).map setV) ∧ Below w.heap.size w w' := by
  subst hs
  go_enter Try.func56, Try.ntmps56
  go_wp2
  go_loopw [5, 6] (fun v i wr => ∃ (n : Nat), Hid (n ≤ 65536) ∧ i = .int .i64 n ∧ wr.ownsRow w.heap.size 26 1 v (pickTo x kk n).length ((pickTo x kk n).map setV) ∧ Below w.heap.size w wr) (fun _ i _ => 65536 - (intOf i).toNat)
  case atStart => exact ⟨0, Nat.zero_le 65536, rfl, World.ownsRow_nil _ _ _ _, Below.refl _ _⟩
  case round =>
    obtain ⟨n, hn, rfl, hown, hb⟩ := hrel
    have hq : n / 256 ≤ 256 := by have := hn.out; omega
    by_cases hlt0 : n < 65536
    · have hlt := Lib.hid hlt0
      have HN := Lib.hid (U_ofNat n hlt0)
      have hdt : decide ((n : Int) < 65536) = true := by rw [decide_eq_true_eq]; omega
      have hwr : IntKind.u16.wrap (n : Int) = (n : Int) := by rw [IntKind.wrap_u16]; omega
      clear hlt0
      have hs := pickTo_succ x kk n
      have hle := pickTo_le x kk n
      cases hw : (BitVec.ofNat 16 n &&& ~~~x == 0#16)
      · have hp : pickB x kk n = false := by simp only [pickB, hw, Bool.false_and]
        rw [hp] at hs
        have HS := Lib.hid hs
        have HW := Lib.hid hw
        clear hs hw hp
        go_wp2_with fail
        refine (within_c (BitVec.ofNat 16 n) x _ _ _ HN.out rfl).mono ?_
        rintro e w2 ⟨rfl, rfl⟩
        rw [HW.out]
        go_wp2_with fail
        go_roundw
        case rel => exact ⟨n + 1, (by have := hlt.out; show n + 1 ≤ 65536; omega), by go_num, by rw [HS.out]; exact hown, hb⟩
        case measure => have := hlt.out; show 65536 - (n + 1) < 65536 - n; omega
      · cases hc : ((cnt (BitVec.ofNat 16 n) : Int) == kk)
        · have hp : pickB x kk n = false := by simp only [pickB, hc, Bool.and_false]
          rw [hp] at hs
          have HS := Lib.hid hs
          have HW := Lib.hid hw
          clear hs hw hp
          go_wp2_with fail
          refine (within_c (BitVec.ofNat 16 n) x _ _ _ HN.out rfl).mono ?_
          rintro e w2 ⟨rfl, rfl⟩
          rw [HW.out]
          go_wp2_with fail
          refine (rcount_c (BitVec.ofNat 16 n) _ _ HN.out).mono ?_
          rintro e w2 ⟨rfl, hb2⟩
          have hown2 := Own.below (w := w) (l := (pickTo x kk n).map setV) (by rw [Own, List.length_map]; exact hown) hb2
          go_wp2_with fail
          go_roundw
          case rel => exact ⟨n + 1, (by have := hlt.out; show n + 1 ≤ 65536; omega), by go_num, by rw [HS.out]; rw [Own, List.length_map] at hown2; exact hown2, Below.next hb hb2⟩
          case measure => have := hlt.out; show 65536 - (n + 1) < 65536 - n; omega
        · have hp : pickB x kk n = true := by simp only [pickB, hc, hw, Bool.and_true]
          rw [hp] at hs
          have HS := Lib.hid hs
          have HW := Lib.hid hw
          clear hs hw hp
          go_wp2_with fail
          refine (within_c (BitVec.ofNat 16 n) x _ _ _ HN.out rfl).mono ?_
          rintro e w2 ⟨rfl, rfl⟩
          rw [HW.out]
          go_wp2_with fail
          refine (rcount_c (BitVec.ofNat 16 n) _ _ HN.out).mono ?_
          rintro e w2 ⟨rfl, hb2⟩
          have hown2 := Own.below (w := w) (l := (pickTo x kk n).map setV) (by rw [Own, List.length_map]; exact hown) hb2
          rw [Own, List.length_map] at hown2
          have hb3 := Below.next hb hb2
          clear hown hb hb2
          go_wp2_with (at_builtin; go_must (refine wpList_app _ _ 22 2 (.int .u16 0) (.int .u16 n) _ Try.underlying22 Try.infoSet rfl hown2 hb3 (Nat.le_refl _) rfl rfl rfl rfl rfl (by unfold maxLen; omega) (by omega) ?_))
          intro v' w1 hown1 hb1 _ _
          clear hown2 hb3 hc
          go_wp2_with fail
          go_roundw
          case rel => exact ⟨n + 1, (by have := hlt.out; show n + 1 ≤ 65536; omega), by go_num, by rw [HS.out]; simp only [if_true, List.length_append, List.map_append, List.map_cons, List.map_nil, setV, ← HN.out]; exact hown1, hb1⟩
          case measure => have := hlt.out; show 65536 - (n + 1) < 65536 - n; omega
    · have hdt : decide ((n : Int) < 65536) = false := by rw [decide_eq_false_iff_not]; omega
      have hN : Hid (n = 65536) := by have := hn.out; show n = 65536; omega
      clear hlt0
      go_wp2_with fail
      go_ret
      exact ⟨_, rfl, by unfold Own chooseS; rw [List.length_map, ← hN.out]; exact hown, hb⟩
end Go.Proofs.Ytopcejcfghdeeaa
