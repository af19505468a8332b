/- Laws of layer 7: sequences left early: the law. -/
import Derived.Test.YthkboibhkpkliaaDoorW07f
namespace Go.Proofs.YthkboibhkpkliaaDoor
open Go.RowKit Go.Shelf

set_option maxRecDepth 100000 in
set_option maxHeartbeats 1000000 in
theorem setEarly_w (a k n : Int) (w : World) (ht : HasTab w) (w0 : (Lit.int .u16 a).wf = true) (_ : (Lit.int .i64 k).wf = true) (w2 : (Lit.int .u8 n).wf = true) :
    Calls Tryd.prog 6 #[.int .u16 a, .int .i64 k, .int .u8 n] w fun e w' => e = .returned (.bool true) ∧ Below w.heap.size w w' := by
  obtain ⟨x, rfl⟩ := U_of_wf w0
  obtain ⟨N, rfl, hN⟩ : ∃ N : Nat, n = (N : Int) ∧ N ≤ 255 := by
    simp [Lit.wf, IntKind.min, IntKind.max, IntKind.bits, IntKind.signed] at w2
    exact ⟨n.toNat, by omega, by omega⟩
  clear w0 w2
  by_cases hc : (8 : Int) < (cnt x : Int)
  · have HT := Lib.hid ht
    clear ht
    have hb0 : Below w.heap.size w (w.alloc (.cells #[.int .u8 N] 5)) := (Below.refl _ _).alloc (Nat.le_refl _) _
    have HA := Lib.hid (awake_c _ (HT.out.below hb0))
    have hd : decide ((8 : Int) < (cnt x : Int)) = true := by simpa using hc
    clear hc hN
    go_enter Tryd.func6, Tryd.ntmps6
    go_wp2_with fail
    refine HA.out.mono ?_
    rintro e w1 ⟨rfl, hb⟩
    have hb1 := Below.next hb0 hb
    clear hb0 hb
    go_wp2_with fail
    refine (rcount_c x _ _ rfl).mono ?_
    rintro e w2 ⟨rfl, hb2⟩
    have hb3 := Below.next hb1 hb2
    clear hb1 hb2
    have HA2 := Lib.hid (awake_c w2 (HT.out.below hb3))
    go_wp2_with fail
    refine HA2.out.mono ?_
    rintro e w3 ⟨rfl, hb4⟩
    go_wp2_with fail
    go_ret
    exact ⟨rfl, Below.next hb3 hb4⟩
  · exact callsIn_wide.1 (setEarly_in x k N hN w ht (by simpa using hc))
end Go.Proofs.YthkboibhkpkliaaDoor
