/- Laws of layer 38: Errors. -/
import Derived.Test.YtopcejcfghdeeaaFew
namespace Go.Proofs.Ytopcejcfghdeeaa
open Go.RowKit Go.Shelf

theorem fat_val {nn : Int} {L M : List (BitVec 16)} (h : valS L ≠ 0) : (fatS nn L M).2.2 = valS L := by
  have hq : quoS L = valS L := by unfold quoS; rw [if_pos h]
  have hb : botS L M = valS L := by unfold botS; rw [hq, if_pos h]
  unfold fatS
  rw [hb, if_pos h]

set_option maxRecDepth 100000 in
set_option maxHeartbeats 4000000 in
theorem fastErrors_w (a : Option Addr) (len cap : Nat) (z : List Int) (a2 : Option Addr) (len2 cap2 : Nat) (z2 : List Int) (nn : Int) (w : World) (w0 : IsInts .u16 w a len cap z) (w2 : IsInts .u16 w a2 len2 cap2 z2) (_ : (Lit.int .i64 nn).wf = true) :
    Calls Try.prog 10 #[.slice a len cap, .slice a2 len2 cap2, .int .i64 nn] w fun e w' => e = .returned (.bool true) ∧ Below w.heap.size w w' := by
  obtain ⟨L, hL, hlen⟩ := sets_of w0
  obtain ⟨M, hM, hlen2⟩ := sets_of w2
  have HL := Lib.hid hL
  have HM := Lib.hid hM
  have HA := Lib.hid (fun w => awake38_c w)
  have HF := Lib.hid (fun x w h => few_c [L, M] x 2 2 w h)
  clear w0 w2 hL hM hlen hlen2
  cases hf : fewS [L, M]
  · rw [hf] at HF
    clear hf
    go_enter Try.func10, Try.ntmps10
    go_wp2_with fail
    refine (HA.out w).mono ?_
    rintro e w1 ⟨rfl, b1⟩
    have hb2 : Below w.heap.size w (w1.alloc (.cells #[.slice a len cap, .slice a2 len2 cap2] 22)) := b1.alloc b1.size _
    have hss := ss_two (HL.out.below b1) (HM.out.below b1)
    go_wp2_with fail
    refine (HF.out _ _ hss).mono ?_
    rintro e w2 ⟨rfl, rfl⟩
    go_wp2_with fail
    refine (HA.out _).mono ?_
    rintro e w3 ⟨rfl, b3⟩
    have b4 := Below.next hb2 b3
    clear hss hb2 b3
    go_wp2_with fail
    go_ret
    exact ⟨rfl, b4⟩
  · rw [hf] at HF
    have HC := Lib.hid (fun w h h2 => attack_f nn L M a len cap a2 len2 cap2 w h h2)
    have HC2 := Lib.hid (fun w h h2 => rattack_c nn L M a len cap a2 len2 cap2 w h h2)
    have HV := Lib.hid (fun w h => valid8_c L a len cap w h)
    have hfv := fat_val (nn := nn) (L := L) (M := M)
    obtain ⟨⟨l, s, e⟩, hp⟩ : ∃ p, fatS nn L M = p := ⟨_, rfl⟩
    obtain ⟨v, hv⟩ : ∃ v, valS L = v := ⟨_, rfl⟩
    rw [hp] at HC HC2 hfv
    rw [hv] at HV hfv
    have HSM := Lib.hid (fun x y u v w r r2 => rsameT_c l l x l.length y u l.length v w r r2)
    rw [show decide (l = l) = true by simp] at HSM
    obtain ⟨m, hm⟩ : ∃ m, l.length = m := ⟨_, rfl⟩
    simp only [hm] at HC HC2 HSM
    clear hf hp hv hm
    have k3 : (s == s) = true := by simp
    have k4 : (e == e) = true := by simp
    by_cases hv0 : v = 0
    · subst hv0
      clear hfv
      go_enter Try.func10, Try.ntmps10
      go_wp2_with fail
      refine (HA.out w).mono ?_
      rintro e w1 ⟨rfl, b1⟩
      have hb2 : Below w.heap.size w (w1.alloc (.cells #[.slice a len cap, .slice a2 len2 cap2] 22)) := b1.alloc b1.size _
      have hss := ss_two (HL.out.below b1) (HM.out.below b1)
      go_wp2_with fail
      refine (HF.out _ _ hss).mono ?_
      rintro e w2 ⟨rfl, rfl⟩
      go_wp2_with fail
      refine (HC.out _ (HL.out.below hb2) (HM.out.below hb2)).mono ?_
      rintro e w3 ⟨a3, c3, rfl, r3, b3⟩
      have b4 := Below.next hb2 b3
      have R3 := Lib.hid r3
      clear hss hb2 b3 HC r3
      go_wp2_with fail
      refine (HC2.out _ (HL.out.below b4) (HM.out.below b4)).mono ?_
      rintro e w5 ⟨a5, c5, rfl, r5, b5⟩
      have b6 := Below.next b4 b5
      have R3b := Lib.hid (R3.out.below b5)
      have R5 := Lib.hid r5
      clear b4 b5 HC2 r5 R3
      go_wp2_with fail
      refine (HSM.out _ _ _ _ _ R3b.out R5.out).mono ?_
      rintro e wB ⟨rfl, b11⟩
      have b12 := Below.next b6 b11
      clear b6 b11 HSM R3b R5
      go_wp2_with fail
      refine (HV.out _ (HL.out.below b12)).mono ?_
      rintro e wC ⟨rfl, b13⟩
      have b14 := Below.next b12 b13
      clear b12 b13 HV
      go_wp2_with fail
      go_ret
      exact ⟨rfl, b14⟩
    · have he : e = v := hfv hv0
      subst he
      have hv1 : (e == 0) = false := by simpa using hv0
      clear hfv hv0
      go_enter Try.func10, Try.ntmps10
      go_wp2_with fail
      refine (HA.out w).mono ?_
      rintro e w1 ⟨rfl, b1⟩
      have hb2 : Below w.heap.size w (w1.alloc (.cells #[.slice a len cap, .slice a2 len2 cap2] 22)) := b1.alloc b1.size _
      have hss := ss_two (HL.out.below b1) (HM.out.below b1)
      go_wp2_with fail
      refine (HF.out _ _ hss).mono ?_
      rintro e w2 ⟨rfl, rfl⟩
      go_wp2_with fail
      refine (HC.out _ (HL.out.below hb2) (HM.out.below hb2)).mono ?_
      rintro e w3 ⟨a3, c3, rfl, r3, b3⟩
      have b4 := Below.next hb2 b3
      have R3 := Lib.hid r3
      clear hss hb2 b3 HC r3
      go_wp2_with fail
      refine (HC2.out _ (HL.out.below b4) (HM.out.below b4)).mono ?_
      rintro e w5 ⟨a5, c5, rfl, r5, b5⟩
      have b6 := Below.next b4 b5
      have R3b := Lib.hid (R3.out.below b5)
      have R5 := Lib.hid r5
      clear b4 b5 HC2 r5 R3
      go_wp2_with fail
      refine (HSM.out _ _ _ _ _ R3b.out R5.out).mono ?_
      rintro e wB ⟨rfl, b11⟩
      have b12 := Below.next b6 b11
      clear b6 b11 HSM R3b R5
      go_wp2_with fail
      refine (HV.out _ (HL.out.below b12)).mono ?_
      rintro e wC ⟨rfl, b13⟩
      have b14 := Below.next b12 b13
      clear b12 b13
      go_wp2_with fail
      refine (HV.out _ (HL.out.below b14)).mono ?_
      rintro e wD ⟨rfl, b15⟩
      have b16 := Below.next b14 b15
      clear b14 b15
      go_wp2_with fail
      go_ret
      exact ⟨rfl, b16⟩
end Go.Proofs.Ytopcejcfghdeeaa
