/- Laws of layer 37: Pick. -/
import Derived.Test.YtgfjmplifmbmlaaDoorAw37
import Derived.Test.YtgfjmplifmbmlaaDoorArgR
import Derived.Test.YtgfjmplifmbmlaaDoorInts
namespace Go.Proofs.YtgfjmplifmbmlaaDoor
open Go.RowKit Go.Shelf

theorem sets_of {W : World} {a : Option Addr} {n c : Nat} {l : List Int} (h : IsInts .u16 W a n c l) : ∃ L : List (BitVec 16), Rd W a n c (L.map setV2) ∧ L.length = n := by
  have hr := h.rd
  have hw := h.wf
  have : ∃ L : List (BitVec 16), l = L.map U := by
    clear hr h
    induction l with
    | nil => exact ⟨[], rfl⟩
    | cons x l ih =>
      obtain ⟨L, rfl⟩ := ih (fun z hz => hw z (List.mem_cons_of_mem _ hz))
      obtain ⟨y, rfl⟩ : ∃ y, x = U y := by
        have h := hw x (by simp)
        apply U_of
        simp [Lit.wf, IntKind.min, IntKind.max, IntKind.bits, IntKind.signed] at h
        omega
      exact ⟨y :: L, rfl⟩
  obtain ⟨L, rfl⟩ := this
  refine ⟨L, by rw [List.map_map] at hr; exact hr, by have := h.len; simpa using this⟩

set_option maxRecDepth 100000 in
set_option maxHeartbeats 4000000 in
theorem singlePick_w (a : Option Addr) (len cap : Nat) (z : List Int) (bal : Int) (a2 : Option Addr) (len2 cap2 : Nat) (z2 : List Rep) (w : World) (ht : HasTab w) (w0 : IsInts .u16 w a len cap z) (_ : (Lit.int .i64 bal).wf = true) (w2 : IsReps w a2 len2 cap2 z2) :
    Calls Tryd.prog 3 #[.slice a len cap, .int .i64 bal, .slice a2 len2 cap2] w fun e w' => e = .returned (.bool true) ∧ Below w.heap.size w w' := by
  obtain ⟨L, hL, hlen⟩ := sets_of w0
  have h2 := w2.1
  have HT := Lib.hid ht
  have HL := Lib.hid hL
  have H2 := Lib.hid h2
  have HA := Lib.hid (fun w h => awake37_c w h)
  clear w0 w2 hL h2 ht hlen
  by_cases hc : (15 : Int) < (len : Int)
  · have hd : decide ((15 : Int) < (len : Int)) = true := decide_eq_true hc
    clear hc
    go_enter Tryd.func3, Tryd.ntmps3
    go_wp2_with fail
    refine (HA.out w HT.out).mono ?_
    rintro e w1 ⟨rfl, b1⟩
    go_wp2_with fail
    refine (HA.out w1 (HT.out.below b1)).mono ?_
    rintro e w2 ⟨rfl, b2⟩
    go_wp2_with fail
    go_ret
    exact ⟨rfl, Below.next b1 b2⟩
  · have hd : decide ((15 : Int) < (len : Int)) = false := decide_eq_false hc
    by_cases hc2 : (15 : Int) < (len2 : Int)
    · have hd2 : decide ((15 : Int) < (len2 : Int)) = true := decide_eq_true hc2
      clear hc hc2
      go_enter Tryd.func3, Tryd.ntmps3
      go_wp2_with fail
      refine (HA.out w HT.out).mono ?_
      rintro e w1 ⟨rfl, b1⟩
      go_wp2_with fail
      refine (HA.out w1 (HT.out.below b1)).mono ?_
      rintro e w2 ⟨rfl, b2⟩
      go_wp2_with fail
      go_ret
      exact ⟨rfl, Below.next b1 b2⟩
    · have hd2 : decide ((15 : Int) < (len2 : Int)) = false := decide_eq_false hc2
      have HC := Lib.hid (fun w h => clones_c L a len cap w h (by omega))
      have HC2 := Lib.hid (fun w h => cloner_c z2 a2 len2 cap2 w h (by omega))
      obtain ⟨⟨pv, pe⟩, hp⟩ : ∃ p, pickS L bal z2 = p := ⟨_, rfl⟩
      have HP := Lib.hid (fun a n c a2 n2 c2 w h h2 => Pick_c L bal z2 a n c a2 n2 c2 w h h2)
      have HQ := Lib.hid (fun a n c a2 n2 c2 w h h2 => rPick_c L bal z2 a n c a2 n2 c2 w h h2)
      rw [hp] at HP HQ
      clear hc hc2 hp
      go_enter Tryd.func3, Tryd.ntmps3
      go_wp2_with fail
      refine (HA.out w HT.out).mono ?_
      rintro e w1 ⟨rfl, b1⟩
      go_wp2_with fail
      refine (HC.out w1 (HL.out.below b1)).mono ?_
      rintro e w2 ⟨a3, c3, rfl, r3, b2⟩
      have b3 := Below.next b1 b2
      have R3 := Lib.hid r3
      clear r3 b1 b2 HC
      go_wp2_with fail
      refine (HC2.out w2 (H2.out.below b3)).mono ?_
      rintro e w3 ⟨a4, c4, rfl, r4, b4⟩
      have b5 := Below.next b3 b4
      have R4 := Lib.hid r4
      have R3' := Lib.hid (R3.out.below b4)
      clear r4 b3 b4 HC2 R3
      go_wp2_with fail
      refine (HP.out a3 len c3 a4 len2 c4 w3 R3'.out R4.out).mono ?_
      rintro e w4 ⟨rfl, b6⟩
      have b7 := Below.next b5 b6
      clear b5 b6 HP
      go_wp2_with fail
      refine (HQ.out a len cap a2 len2 cap2 w4 (HL.out.below b7) (H2.out.below b7)).mono ?_
      rintro e w5 ⟨rfl, b8⟩
      have b9 := Below.next b7 b8
      clear b7 b8 HQ
      go_wp2_with fail
      go_ret
      exact ⟨ret_bool (by simp), b9⟩
end Go.Proofs.YtgfjmplifmbmlaaDoor
