/- Laws of layer 38: Chosen, Possible. -/
import Derived.Test.YtopcejcfghdeeaaFew
import Derived.Test.YtopcejcfghdeeaaArgS
namespace Go.Proofs.Ytopcejcfghdeeaa
open Go.RowKit Go.Shelf

set_option maxRecDepth 100000 in
set_option maxHeartbeats 4000000 in
theorem fastChosen_w (a : Option Addr) (len cap : Nat) (z : List Int) (a2 : Option Addr) (len2 cap2 : Nat) (z2 : List ByteArray) (w : World) (w0 : IsInts .u16 w a len cap z) (w2 : IsStrs w a2 len2 cap2 z2) :
    Calls Try.prog 4 #[.slice a len cap, .slice a2 len2 cap2] w fun e w' => e = .returned (.bool true) ∧ Below w.heap.size w w' := by
  obtain ⟨L, hL, hlen⟩ := sets_of w0
  unfold IsStrs at w2
  have HL := Lib.hid hL
  have HM := Lib.hid w2
  have hle := w2.le
  have hmx := w2.max
  unfold maxLen at hmx
  have HA := Lib.hid (fun w => awake38_c w)
  have HF := Lib.hid (fun x w h => few_c [L] x 1 1 w h)
  clear w0 w2 hL hlen
  cases hf : fewS [L]
  · rw [hf] at HF
    clear hf
    go_enter Try.func4, Try.ntmps4
    go_wp2_with fail
    refine (HA.out w).mono ?_
    rintro e w1 ⟨rfl, b1⟩
    have hb2 : Below w.heap.size w (w1.alloc (.cells #[.slice a len cap] 22)) := b1.alloc b1.size _
    have hss := ss_one (HL.out.below b1)
    go_wp2_with fail
    refine (HF.out _ _ hss).mono ?_
    rintro e w2 ⟨rfl, rfl⟩
    go_wp2_with fail
    refine (HA.out _).mono ?_
    rintro e w3 ⟨rfl, b3⟩
    have b4 := Below.next hb2 b3
    clear hss hb2 b3
    go_wp2_with fail
    go_ret
    exact ⟨rfl, b4⟩
  · rw [hf] at HF
    clear hf
    by_cases hq : 14 < len2
    · go_enter Try.func4, Try.ntmps4
      go_wp2_with fail
      refine (HA.out w).mono ?_
      rintro e w1 ⟨rfl, b1⟩
      have hb2 : Below w.heap.size w (w1.alloc (.cells #[.slice a len cap] 22)) := b1.alloc b1.size _
      have hss := ss_one (HL.out.below b1)
      go_wp2_with fail
      refine (HF.out _ _ hss).mono ?_
      rintro e w2 ⟨rfl, rfl⟩
      go_wp2_with fail
      refine (HA.out _).mono ?_
      rintro e w3 ⟨rfl, b3⟩
      have b4 := Below.next hb2 b3
      clear hss hb2 b3
      go_wp2_with fail
      go_ret
      exact ⟨rfl, b4⟩
    · have HC := Lib.hid (fun w h h2 => chosen_c L z2 a len cap a2 len2 cap2 w h h2 (by omega))
      have HC2 := Lib.hid (fun w h h2 => rchosen_c L z2 a len cap a2 len2 cap2 w h h2 (by omega))
      obtain ⟨⟨x, e⟩, hp⟩ : ∃ p, choS L z2 = p := ⟨_, rfl⟩
      rw [hp] at HC HC2
      unfold V2 at HC HC2
      clear hp
      have k1 : (x.toList == x.toList) = true := by simp
      have k4 : (e == e) = true := by simp
      go_enter Try.func4, Try.ntmps4
      go_wp2_with fail
      refine (HA.out w).mono ?_
      rintro e w1 ⟨rfl, b1⟩
      have hb2 : Below w.heap.size w (w1.alloc (.cells #[.slice a len cap] 22)) := b1.alloc b1.size _
      have hss := ss_one (HL.out.below b1)
      go_wp2_with fail
      refine (HF.out _ _ hss).mono ?_
      rintro e w2 ⟨rfl, rfl⟩
      go_wp2_with fail
      refine (HC.out _ (HL.out.below hb2) (HM.out.below hb2)).mono ?_
      rintro e w3 ⟨rfl, b3⟩
      have b4 := Below.next hb2 b3
      clear hss hb2 b3 HC
      go_wp2_with fail
      refine (HC2.out _ (HL.out.below b4) (HM.out.below b4)).mono ?_
      rintro e w5 ⟨rfl, b5⟩
      have b6 := Below.next b4 b5
      clear b4 b5 HC2
      go_wp2_with fail
      go_ret
      exact ⟨rfl, b6⟩

set_option maxRecDepth 100000 in
set_option maxHeartbeats 4000000 in
theorem fastPossible_w (a : Option Addr) (len cap : Nat) (z : List Int) (hh : Int) (a2 : Option Addr) (len2 cap2 : Nat) (z2 : List ByteArray) (w : World) (w0 : IsInts .u16 w a len cap z) (w1 : (Lit.int .u16 hh).wf = true) (w2 : IsStrs w a2 len2 cap2 z2) :
    Calls Try.prog 5 #[.slice a len cap, .int .u16 hh, .slice a2 len2 cap2] w fun e w' => e = .returned (.bool true) ∧ Below w.heap.size w w' := by
  obtain ⟨L, hL, hlen⟩ := sets_of w0
  obtain ⟨h, rfl⟩ : ∃ h, hh = U h := by
    apply U_of
    simp [Lit.wf, IntKind.min, IntKind.max, IntKind.bits, IntKind.signed] at w1
    omega
  unfold IsStrs at w2
  have HL := Lib.hid hL
  have HM := Lib.hid w2
  have hle := w2.le
  have hmx := w2.max
  unfold maxLen at hmx
  have HA := Lib.hid (fun w => awake38_c w)
  have HF := Lib.hid (fun x w h => few_c [L] x 1 1 w h)
  clear w0 w2 hL hlen w1
  cases hf : fewS [L]
  · rw [hf] at HF
    clear hf
    go_enter Try.func5, Try.ntmps5
    go_wp2_with fail
    refine (HA.out w).mono ?_
    rintro e w1 ⟨rfl, b1⟩
    have hb2 : Below w.heap.size w (w1.alloc (.cells #[.slice a len cap] 22)) := b1.alloc b1.size _
    have hss := ss_one (HL.out.below b1)
    go_wp2_with fail
    refine (HF.out _ _ hss).mono ?_
    rintro e w2 ⟨rfl, rfl⟩
    go_wp2_with fail
    refine (HA.out _).mono ?_
    rintro e w3 ⟨rfl, b3⟩
    have b4 := Below.next hb2 b3
    clear hss hb2 b3
    go_wp2_with fail
    go_ret
    exact ⟨rfl, b4⟩
  · rw [hf] at HF
    clear hf
    by_cases hq : 14 < len2
    · go_enter Try.func5, Try.ntmps5
      go_wp2_with fail
      refine (HA.out w).mono ?_
      rintro e w1 ⟨rfl, b1⟩
      have hb2 : Below w.heap.size w (w1.alloc (.cells #[.slice a len cap] 22)) := b1.alloc b1.size _
      have hss := ss_one (HL.out.below b1)
      go_wp2_with fail
      refine (HF.out _ _ hss).mono ?_
      rintro e w2 ⟨rfl, rfl⟩
      go_wp2_with fail
      refine (HA.out _).mono ?_
      rintro e w3 ⟨rfl, b3⟩
      have b4 := Below.next hb2 b3
      clear hss hb2 b3
      go_wp2_with fail
      go_ret
      exact ⟨rfl, b4⟩
    · have HC := Lib.hid (fun w hr h2 => possible_c L z2 h a len cap a2 len2 cap2 w hr h2 (by omega))
      have HC2 := Lib.hid (fun w hr h2 => rpossible_c L z2 h a len cap a2 len2 cap2 w hr h2 (by omega))
      have HD := Lib.hid (fun w hr h2 => recover_c L z2 h a len cap a2 len2 cap2 w hr h2 (by omega))
      have HD2 := Lib.hid (fun w hr h2 => rrecover_c L z2 h a len cap a2 len2 cap2 w hr h2 (by omega))
      obtain ⟨⟨l, e⟩, hp⟩ : ∃ p, pssS L z2 h = p := ⟨_, rfl⟩
      obtain ⟨⟨x, e2⟩, hp2⟩ : ∃ p, recS L z2 h = p := ⟨_, rfl⟩
      rw [hp] at HC HC2
      rw [hp2] at HD HD2
      unfold V2 at HD HD2
      have HSM := Lib.hid (fun x y u v w r r2 => rsameT_c l l x l.length y u l.length v w r r2)
      rw [show decide (l = l) = true by simp] at HSM
      obtain ⟨m, hm⟩ : ∃ m, l.length = m := ⟨_, rfl⟩
      simp only [hm] at HC HC2 HSM
      clear hp hp2 hm
      have k1 : (x.toList == x.toList) = true := by simp
      have k4 : (e == e) = true := by simp
      have k5 : (e2 == e2) = true := by simp
      go_enter Try.func5, Try.ntmps5
      go_wp2_with fail
      refine (HA.out w).mono ?_
      rintro e w1 ⟨rfl, b1⟩
      have hb2 : Below w.heap.size w (w1.alloc (.cells #[.slice a len cap] 22)) := b1.alloc b1.size _
      have hss := ss_one (HL.out.below b1)
      go_wp2_with fail
      refine (HF.out _ _ hss).mono ?_
      rintro e w2 ⟨rfl, rfl⟩
      go_wp2_with fail
      refine (HC.out _ (HL.out.below hb2) (HM.out.below hb2)).mono ?_
      rintro e w3 ⟨a3, c3, rfl, r3, b3⟩
      have b4 := Below.next hb2 b3
      have R3 := Lib.hid r3
      clear hss hb2 b3 HC r3
      go_wp2_with fail
      refine (HC2.out _ (HL.out.below b4) (HM.out.below b4)).mono ?_
      rintro e w5 ⟨a5, c5, rfl, r5, b5⟩
      have b6 := Below.next b4 b5
      have R3b := Lib.hid (R3.out.below b5)
      have R5 := Lib.hid r5
      clear b4 b5 HC2 r5 R3
      go_wp2_with fail
      refine (HD.out _ (HL.out.below b6) (HM.out.below b6)).mono ?_
      rintro e w7 ⟨rfl, b7⟩
      have b8 := Below.next b6 b7
      have R3c := Lib.hid (R3b.out.below b7)
      have R5b := Lib.hid (R5.out.below b7)
      clear b6 b7 HD R3b R5
      go_wp2_with fail
      refine (HD2.out _ (HL.out.below b8) (HM.out.below b8)).mono ?_
      rintro e w9 ⟨rfl, b9⟩
      have b10 := Below.next b8 b9
      have R3d := Lib.hid (R3c.out.below b9)
      have R5c := Lib.hid (R5b.out.below b9)
      clear b8 b9 HD2 R3c R5b
      go_wp2_with fail
      refine (HSM.out _ _ _ _ _ R3d.out R5c.out).mono ?_
      rintro e wB ⟨rfl, b11⟩
      have b12 := Below.next b10 b11
      clear b10 b11 HSM R3d R5c
      go_wp2_with fail
      go_ret
      exact ⟨rfl, b12⟩
end Go.Proofs.Ytopcejcfghdeeaa
