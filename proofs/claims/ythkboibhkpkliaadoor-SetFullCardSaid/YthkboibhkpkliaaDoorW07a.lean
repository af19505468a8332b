/- Laws of layer 7 whose arguments are numbers: the walks. -/
import Derived.Test.YthkboibhkpkliaaDoorAw
namespace Go.Proofs.YthkboibhkpkliaaDoor
open Go.RowKit Go.Shelf

set_option maxRecDepth 100000 in
set_option maxHeartbeats 1000000 in
theorem setFull_w (n : Int) (w : World) (ht : HasTab w) (_ : (Lit.int .i64 n).wf = true) :
    Calls Tryd.prog 7 #[.int .i64 n] w fun e w' => e = .returned (.bool true) ∧ Below w.heap.size w w' := by
  have HA := Lib.hid (awake_c w ht)
  clear ht
  obtain ⟨f1, f2⟩ : ∃ f1 : BitVec 16, ∃ f2 : Int, Hid (fullS n = (f1, f2)) := ⟨_, _, rfl⟩
  obtain ⟨f2, f3⟩ := f2
  have h1 : (f1 == f1) = true := by simp
  have h2 : (f2 == f2) = true := by simp
  go_enter Tryd.func7, Tryd.ntmps7
  go_wp2_with fail
  refine HA.out.mono ?_
  rintro e w1 ⟨rfl, hb⟩
  go_wp2_with fail
  refine (full_c n _).mono ?_
  rintro e w2 ⟨rfl, rfl⟩
  rw [f3.out]
  go_wp2_with fail
  refine (rfull_c n _).mono ?_
  rintro e w2 ⟨rfl, rfl⟩
  rw [f3.out]
  go_wp2_with fail
  go_ret
  exact ⟨rfl, hb⟩
end Go.Proofs.YthkboibhkpkliaaDoor
