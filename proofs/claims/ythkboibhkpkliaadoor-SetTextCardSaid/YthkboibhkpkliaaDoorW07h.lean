/- Laws of layer 7: Text, Parse. -/
import Derived.Test.YthkboibhkpkliaaDoorParse
import Derived.Test.YthkboibhkpkliaaDoorAw
namespace Go.Proofs.YthkboibhkpkliaaDoor
open Go.RowKit Go.Shelf

theorem U_of_wf' {a : Int} (h : (Lit.int .u16 a).wf = true) : ∃ x : BitVec 16, a = U x := by
  apply U_of
  simp [Lit.wf, IntKind.min, IntKind.max, IntKind.bits, IntKind.signed] at h
  omega

set_option maxRecDepth 100000 in
set_option maxHeartbeats 1000000 in
theorem setText_w (a : Int) (w : World) (ht : HasTab w) (hr : HasRng w) (w0 : (Lit.int .u16 a).wf = true) :
    Calls Tryd.prog 10 #[.int .u16 a] w fun e w' => e = .returned (.bool true) ∧ Below w.heap.size w w' := by
  obtain ⟨x, rfl⟩ := U_of_wf' w0
  clear w0
  have HT := Lib.hid ht
  have HR := Lib.hid hr
  clear ht hr
  have HA := Lib.hid (awake_c w HT.out)
  have hsz : (fmtB x).size ≤ 1000000 := by
    have := joined_len x
    have e : (fmtB x).size = (fmtS x).length := by simp [fmtB, ByteArray.size]
    rw [e]; unfold fmtS; simp; omega
  have HF := Lib.hid (fun w h => format_c x _ w rfl h)
  have HP := Lib.hid (fun w h1 h2 => parse_c (fmtB x) w hsz h1 h2)
  have HG := Lib.hid (fun w => rformat_c x _ w rfl)
  have hres : Hid ((U x < 4096 ∧ parseS (fmtB x) = (x, 0)) ∨ (¬ U x < 4096 ∧ parseS (fmtB x) = (0#16, 2))) := Lib.hid (by
    by_cases h : x.toNat < 4096
    · exact .inl ⟨by unfold U; omega, parseS_fmt x h⟩
    · exact .inr ⟨by unfold U; omega, parseS_big x h⟩)
  obtain ⟨pr, hpr⟩ : ∃ pr, parseS (fmtB x) = pr := ⟨_, rfl⟩
  obtain ⟨u, hu⟩ : ∃ u, fmtB x = u := ⟨_, rfl⟩
  rw [hpr] at hres HP
  rw [hu] at HF HP HG
  clear hsz hpr hu
  go_enter Tryd.func10, Tryd.ntmps10
  go_wp2_with fail
  refine HA.out.mono ?_
  rintro e w1 ⟨rfl, b1⟩
  go_wp2_with fail
  refine (HF.out w1 (HT.out.below b1)).mono ?_
  rintro e w2 ⟨rfl, b2⟩
  have b3 := Below.next b1 b2
  clear b1 b2 HA
  go_wp2_with fail
  refine (HP.out w2 (HT.out.below b3) (HR.out.below b3)).mono ?_
  rintro e w3 ⟨rfl, b4⟩
  have b5 := Below.next b3 b4
  clear b3 b4
  rcases hres.out with ⟨h, rfl⟩ | ⟨h, rfl⟩
  · have hd : decide (U x < 4096) = true := by simpa using h
    clear h hres
    go_wp2_with fail
    refine (HG.out w3).mono ?_
    rintro e w4 ⟨rfl, b6⟩
    have b7 := Below.next b5 b6
    clear b5 b6
    go_wp2_with fail
    go_ret
    exact ⟨by first | rfl | simp, b7⟩
  · have hd : decide (U x < 4096) = false := by simpa using h
    clear h hres
    go_wp2_with fail
    refine (HG.out w3).mono ?_
    rintro e w4 ⟨rfl, b6⟩
    have b7 := Below.next b5 b6
    clear b5 b6
    go_wp2_with fail
    go_ret
    exact ⟨by first | rfl | simp, b7⟩

set_option maxRecDepth 100000 in
set_option maxHeartbeats 1000000 in
theorem setParse_w (s : ByteArray) (w : World) (ht : HasTab w) (hr : HasRng w) (w0 : s.size ≤ maxLen) :
    Calls Tryd.prog 11 #[.string s] w fun e w' => e = .returned (.bool true) ∧ Below w.heap.size w w' := by
  have HT := Lib.hid ht
  have HR := Lib.hid hr
  clear ht hr
  have HA := Lib.hid (fun w h => awake_c w h)
  unfold maxLen at w0
  by_cases h60 : (60 : Int) < (s.size : Int)
  · go_enter Tryd.func11, Tryd.ntmps11
    go_wp2_with fail
    refine (HA.out w HT.out).mono ?_
    rintro e w1 ⟨rfl, b1⟩
    go_wp2_with fail
    refine (HA.out w1 (HT.out.below b1)).mono ?_
    rintro e w2 ⟨rfl, b2⟩
    have b3 := Below.next b1 b2
    clear b1 b2
    go_wp2_with fail
    go_ret
    exact ⟨rfl, b3⟩
  · have hd : decide ((60 : Int) < (s.size : Int)) = false := by simpa using h60
    have HP := Lib.hid (fun w h1 h2 => parse_c s w (by omega) h1 h2)
    have HG := Lib.hid (fun w => rparse_c s w (by omega))
    obtain ⟨⟨x, f⟩, hpr⟩ : ∃ pr, parseS s = pr := ⟨_, rfl⟩
    rw [hpr] at HP HG
    clear hpr h60
    go_enter Tryd.func11, Tryd.ntmps11
    go_wp2_with fail
    refine (HA.out w HT.out).mono ?_
    rintro e w1 ⟨rfl, b1⟩
    go_wp2_with fail
    refine (HP.out w1 (HT.out.below b1) (HR.out.below b1)).mono ?_
    rintro e w2 ⟨rfl, b2⟩
    have b3 := Below.next b1 b2
    clear b1 b2
    go_wp2_with fail
    refine (HG.out w2).mono ?_
    rintro e w3 ⟨rfl, b4⟩
    have b5 := Below.next b3 b4
    clear b3 b4
    go_wp2_with fail
    go_ret
    exact ⟨ret_bool (by simp), b5⟩
end Go.Proofs.YthkboibhkpkliaaDoor
