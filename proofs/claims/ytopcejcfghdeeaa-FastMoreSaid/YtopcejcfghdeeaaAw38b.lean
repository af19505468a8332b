/- awake of layer 38. -/
import Derived.Test.YtopcejcfghdeeaaAw38
namespace Go.Proofs.Ytopcejcfghdeeaa
open Go.RowKit Go.Shelf

set_option maxRecDepth 100000 in
set_option maxHeartbeats 4000000 in
theorem awake38_c (w : World) :
    Calls Try.prog 11 #[] w fun e w' => e = .returned (.bool true) ∧ Below w.heap.size w w' := by
  have HS3 := Lib.hid (fun w => sets_c 4 3 (by decide) (by decide) w)
  have HS2 := Lib.hid (fun w => sets_c 4 2 (by decide) (by decide) w)
  rw [ex_three] at HS3
  rw [ex_two] at HS2
  have HLE := Lib.hid (fun w => least_c 4 1 w)
  rw [ex_lea] at HLE
  unfold V3 at HLE
  go_enter Try.func11, Try.ntmps11
  go_wp2_with fail
  refine (HS3.out _).mono ?_
  rintro e w1 ⟨v1, rfl, o1, b1⟩
  obtain ⟨a1, c1, rfl, r1⟩ := o1.rdn 4 rfl
  have R1 := Lib.hid r1
  clear o1 r1 HS3
  go_wp2_with fail
  refine (HS2.out _).mono ?_
  rintro e w2 ⟨v2, rfl, o2, b2⟩
  obtain ⟨a2, c2, rfl, r2⟩ := o2.rdn 6 rfl
  have R1b := Lib.hid (R1.out.below b2)
  have R2 := Lib.hid r2
  have b3 := Below.next b1 b2
  clear o2 r2 b1 b2 HS2 R1
  go_wp2_with fail
  obtain ⟨w3, hw3⟩ : ∃ w3, w2.alloc (.cells #[.string ⟨#[120]⟩, .string ⟨#[120]⟩, .string ⟨#[120]⟩, .string ⟨#[121]⟩] 9) = w3 := ⟨_, rfl⟩
  have b23 : Below w2.heap.size w2 w3 := by rw [← hw3]; exact (Below.refl _ _).alloc (Nat.le_refl _) _
  have r3 : Rd w3 (some ⟨w2.heap.size, 0, none⟩) 4 4 (vXY.map Value.string) := by rw [← hw3]; exact Rd.lit w2 _ _ 4 _ rfl rfl (by decide)
  obtain ⟨B3, hB3⟩ : ∃ B, w2.heap.size = B := ⟨_, rfl⟩
  rw [hB3] at r3
  rw [hw3, hB3]
  have R3 := Lib.hid r3
  have R1c := Lib.hid (R1b.out.below b23)
  have R2c := Lib.hid (R2.out.below b23)
  have b4 := Below.next b3 b23
  clear hw3 hB3 r3 b3 b23 R1b R2
  refine (HLE.out _).mono ?_
  rintro e w4 ⟨rfl, rfl⟩
  clear HLE
  have HCH := Lib.hid (chosen_c threeS vXY a1 4 c1 _ 4 4 _ R1c.out R3.out (by decide))
  rw [ex_cho] at HCH
  unfold V2 bX at HCH
  go_wp2_with fail
  refine HCH.out.mono ?_
  rintro e w5 ⟨rfl, b5⟩
  have R1d := Lib.hid (R1c.out.below b5)
  have R2d := Lib.hid (R2c.out.below b5)
  have R3d := Lib.hid (R3.out.below b5)
  have b6 := Below.next b4 b5
  clear HCH b4 b5 R1c R2c R3
  have HRE := Lib.hid (recover_c threeS vXY 14#16 a1 4 c1 _ 4 4 _ R1d.out R3d.out (by decide))
  rw [ex_rec] at HRE
  unfold V2 bX at HRE
  go_wp2_with fail
  refine HRE.out.mono ?_
  rintro e w6 ⟨rfl, b7⟩
  have R1e := Lib.hid (R1d.out.below b7)
  have R2e := Lib.hid (R2d.out.below b7)
  have R3e := Lib.hid (R3d.out.below b7)
  have b8 := Below.next b6 b7
  clear HRE b6 b7 R1d R2d R3d
  have HCL := Lib.hid (clash_c twoSS threeS a2 6 c2 a1 4 c1 _ R2e.out R1e.out)
  rw [ex_cla] at HCL
  unfold V4 at HCL
  go_wp2_with fail
  refine HCL.out.mono ?_
  rintro e w7 ⟨rfl, b9⟩
  have R1f := Lib.hid (R1e.out.below b9)
  have R2f := Lib.hid (R2e.out.below b9)
  have R3f := Lib.hid (R3e.out.below b9)
  have b10 := Below.next b8 b9
  clear HCL b8 b9 R1e R2e R3e
  have HAT := Lib.hid (attack_f 4 twoSS threeS a2 6 c2 a1 4 c1 _ R2f.out R1f.out)
  rw [ex_fat] at HAT
  simp only [show vXY.length = 4 from rfl] at HAT
  go_wp2_with fail
  refine HAT.out.mono ?_
  rintro e w8 ⟨a8, c8, rfl, r8, b11⟩
  have R1g := Lib.hid (R1f.out.below b11)
  have R3g := Lib.hid (R3f.out.below b11)
  have R8 := Lib.hid r8
  have b12 := Below.next b10 b11
  clear HAT b10 b11 R1f R2f R3f r8
  have HPO := Lib.hid (possible_c threeS vXY 12#16 a1 4 c1 _ 4 4 _ R1g.out R3g.out (by decide))
  rw [ex_pss] at HPO
  simp only [show [bX, bY].length = 2 from rfl] at HPO
  go_wp2_with fail
  refine HPO.out.mono ?_
  rintro e w9 ⟨a9, c9, rfl, r9, b13⟩
  have R1h := Lib.hid (R1g.out.below b13)
  have R3h := Lib.hid (R3g.out.below b13)
  have R8h := Lib.hid (R8.out.below b13)
  have R9 := Lib.hid r9
  have b14 := Below.next b12 b13
  clear HPO b12 b13 R1g R3g R8 r9
  have HSA := Lib.hid (safe_c threeS threeS a1 4 c1 a1 4 c1 _ R1h.out R1h.out)
  rw [ex_safe, show ((13 : Int) == 13) = true from rfl] at HSA
  go_wp2_with fail
  refine HSA.out.mono ?_
  rintro e wA ⟨rfl, b15⟩
  have R3i := Lib.hid (R3h.out.below b15)
  have R8i := Lib.hid (R8h.out.below b15)
  have R9i := Lib.hid (R9.out.below b15)
  have b16 := Below.next b14 b15
  clear HSA b14 b15 R1h R3h R8h R9
  have HEQ := Lib.hid (equalT_c vXY vXY a8 4 c8 _ 4 4 _ R8i.out R3i.out)
  rw [show decide (vXY = vXY) = true by simp] at HEQ
  go_wp2_with fail
  refine HEQ.out.mono ?_
  rintro e wB ⟨rfl, b17⟩
  have R9j := Lib.hid (R9i.out.below b17)
  have b18 := Below.next b16 b17
  clear HEQ b16 b17 R3i R8i R9i
  go_wp2_with fail
  obtain ⟨wC, hwC⟩ : ∃ wC, wB.alloc (.cells #[.string ⟨#[120]⟩, .string ⟨#[121]⟩] 9) = wC := ⟨_, rfl⟩
  have bBC : Below wB.heap.size wB wC := by rw [← hwC]; exact (Below.refl _ _).alloc (Nat.le_refl _) _
  have rC : Rd wC (some ⟨wB.heap.size, 0, none⟩) 2 2 ([bX, bY].map Value.string) := by rw [← hwC]; exact Rd.lit wB _ _ 2 _ rfl rfl (by decide)
  have HEQ := Lib.hid (equalT_c [bX, bY] [bX, bY] a9 2 c9 _ 2 2 _ (R9j.out.below bBC) rC)
  rw [show decide ([bX, bY] = [bX, bY]) = true by simp] at HEQ
  have b19 := Below.next b18 bBC
  rw [hwC]
  clear hwC rC bBC b18 R9j
  refine HEQ.out.mono ?_
  rintro e wD ⟨rfl, b20⟩
  have b21 := Below.next b19 b20
  clear HEQ b19 b20
  go_wp2_with fail
  go_ret
  exact ⟨rfl, b21⟩
end Go.Proofs.Ytopcejcfghdeeaa
