/- The examples of layer 37. -/
import Derived.Test.YtgfjmplifmbmlaaDoorRPick
import Derived.Test.YtgfjmplifmbmlaaDoorClR
import Derived.Test.YtgfjmplifmbmlaaDoorSame37
namespace Go.Proofs.YtgfjmplifmbmlaaDoor
open Go.RowKit Go.Shelf

def twoS : List (BitVec 16) := [3#16, 5#16, 6#16]
def rep1 : Rep := ⟨0, 1, ⟨#[120]⟩⟩
def rep2 : Rep := ⟨2, 2, ⟨#[121]⟩⟩
def evs6 : List Ev := [⟨1, 0, 1, ⟨#[]⟩⟩, ⟨2, 1, 1, ⟨#[118, 49]⟩⟩, ⟨2, 2, 1, ⟨#[118, 49]⟩⟩, ⟨1, 0, 2, ⟨#[]⟩⟩, ⟨2, 1, 2, ⟨#[118, 50]⟩⟩, ⟨2, 2, 2, ⟨#[118, 50]⟩⟩]
theorem ex_pick1 : pickS twoS 3 [rep1, rep2] = (⟨#[121]⟩, 0) := by decide +kernel
theorem ex_pick2 : pickS twoS 3 [rep1] = (⟨#[]⟩, 10) := by decide +kernel
theorem ex_att : attS [1#16] [6#16] 3 = (evs6, 0) := by
  have h1 : chkS 3 [[1#16], [6#16]] = 0 := by decide +kernel
  have h2 : disS [1#16] [6#16] = some (1#16, 6#16) := by decide +kernel
  have m1 : memS 1#16 = [0] := by decide +kernel
  have m6 : memS 6#16 = [1, 2] := by decide +kernel
  have v1 : valB 1 = ⟨#[118, 49]⟩ := by unfold valB; rw [Lib.decDigits_one (by decide)]; rfl
  have v2 : valB 2 = ⟨#[118, 50]⟩ := by unfold valB; rw [Lib.decDigits_one (by decide)]; rfl
  unfold attS
  rw [if_neg (by rw [h1]; decide), h2]
  show (atkTo 1#16 1#16 6#16 2, (0 : Int)) = _
  unfold atkTo blkS evP evA evs6
  rw [m1, m6, v1, v2]; rfl

set_option maxRecDepth 100000 in
set_option maxHeartbeats 4000000 in
theorem awake37_c (w : World) (ht : HasTab w) :
    Calls Tryd.prog 10 #[] w fun e w' => e = .returned (.bool true) ∧ Below w.heap.size w w' := by
  have HT := Lib.hid ht
  clear ht
  have hb0 := Below.refl w.heap.size w
  go_enter Tryd.func10, Tryd.ntmps10
  go_wp2_with fail
  obtain ⟨w1, hw1⟩ : ∃ w1, w.alloc (.cells #[.int .u16 3, .int .u16 5, .int .u16 6] 30) = w1 := ⟨_, rfl⟩
  have r1 : Rd w1 (some ⟨w.heap.size, 0, none⟩) 3 3 (twoS.map setV2) := by rw [← hw1]; exact Rd.lit w _ _ 3 _ rfl rfl (by decide)
  have b1 : Below w.heap.size w w1 := by rw [← hw1]; exact hb0.alloc (Nat.le_refl _) _
  have R1 := Lib.hid r1
  rw [hw1]
  clear hw1 r1 hb0
  refine (clones_c twoS _ 3 3 w1 R1.out (by decide)).mono ?_
  rintro e w2 ⟨a2, c2, rfl, r2, b2⟩
  have b3 := Below.next b1 b2
  have R2 := Lib.hid r2
  have R1b := Lib.hid (R1.out.below b2)
  clear r2 b1 b2 R1
  go_wp2_with fail
  obtain ⟨w3, hw3⟩ : ∃ w3, w2.alloc (.cells #[.int .i64 0, .int .i64 1, .string ⟨#[120]⟩, .int .i64 2, .int .i64 2, .string ⟨#[121]⟩] 33) = w3 := ⟨_, rfl⟩
  have b23 : Below w2.heap.size w2 w3 := by rw [← hw3]; exact (Below.refl _ _).alloc (Nat.le_refl _) _
  have k3 : RdK 3 w3 (some ⟨w2.heap.size, 0, none⟩) 2 2 ([rep1, rep2].flatMap repC) := by rw [← hw3]; exact RdK.lit' 3 w2 _ _ 2 _ rfl rfl (by decide) rfl
  have b4 := Below.next b3 b23
  have HP := Lib.hid (Pick_c twoS 3 [rep1, rep2] a2 3 c2 _ 2 2 w3 (R2.out.below b23) k3)
  rw [ex_pick1] at HP
  have R1c := Lib.hid (R1b.out.below b23)
  rw [hw3]
  clear hw3 k3 b3 b23 R1b R2
  refine HP.out.mono ?_
  rintro e w4 ⟨rfl, b5⟩
  have b6 := Below.next b4 b5
  have R1d := Lib.hid (R1c.out.below b5)
  clear HP b4 b5 R1c
  go_wp2_with fail
  refine (clones_c twoS _ 3 3 w4 R1d.out (by decide)).mono ?_
  rintro e w5 ⟨a5, c5, rfl, r5, b7⟩
  have b8 := Below.next b6 b7
  have R5 := Lib.hid r5
  clear r5 b6 b7 R1d
  go_wp2_with fail
  obtain ⟨w6, hw6⟩ : ∃ w6, w5.alloc (.cells #[.int .i64 0, .int .i64 1, .string ⟨#[120]⟩] 33) = w6 := ⟨_, rfl⟩
  have b56 : Below w5.heap.size w5 w6 := by rw [← hw6]; exact (Below.refl _ _).alloc (Nat.le_refl _) _
  have k6 : RdK 3 w6 (some ⟨w5.heap.size, 0, none⟩) 1 1 ([rep1].flatMap repC) := by rw [← hw6]; exact RdK.lit' 3 w5 _ _ 1 _ rfl rfl (by decide) rfl
  have b9 := Below.next b8 b56
  have HP := Lib.hid (Pick_c twoS 3 [rep1] a5 3 c5 _ 1 1 w6 (R5.out.below b56) k6)
  rw [ex_pick2] at HP
  rw [hw6]
  clear hw6 k6 b8 b56 R5
  refine HP.out.mono ?_
  rintro e w7 ⟨rfl, b10⟩
  have b11 := Below.next b9 b10
  clear HP b9 b10
  go_wp2_with fail
  obtain ⟨w8, hw8⟩ : ∃ w8, (w7.alloc (.cells #[.int .u16 1] 30)).alloc (.cells #[.int .u16 6] 30) = w8 := ⟨_, rfl⟩
  have r8 : Rd w8 (some ⟨w7.heap.size, 0, none⟩) 1 1 ([1#16].map setV2) := by
    rw [← hw8]; exact (Rd.lit w7 #[.int .u16 1] 30 1 _ rfl rfl (by decide)).below ((Below.refl _ _).alloc (Nat.le_refl _) _)
  have r8' : Rd w8 (some ⟨w7.heap.size + 1, 0, none⟩) 1 1 ([6#16].map setV2) := by
    rw [← hw8]; exact Rd.lit' _ #[.int .u16 6] 30 1 _ rfl rfl (by decide) (by simp)
  have b78 : Below w7.heap.size w7 w8 := by rw [← hw8]; exact ((Below.refl _ _).alloc (Nat.le_refl _) _).alloc (by simp) _
  have b12 := Below.next b11 b78
  have HA := Lib.hid (attack_c [1#16] [6#16] 3 _ 1 1 _ 1 1 w8 r8 r8' (HT.out.below b12))
  rw [ex_att] at HA
  rw [hw8]
  clear hw8 r8 r8' b11 b78
  refine HA.out.mono ?_
  rintro e w9 ⟨a9, c9, rfl, k9, b13⟩
  have b14 := Below.next b12 b13
  have K9 := Lib.hid k9
  clear k9 b12 b13 HA
  go_wp2_with fail
  obtain ⟨wA, hwA⟩ : ∃ wA, w9.alloc (.cells (evs6.flatMap evC).toArray 48) = wA := ⟨_, rfl⟩
  have b9A : Below w9.heap.size w9 wA := by rw [← hwA]; exact (Below.refl _ _).alloc (Nat.le_refl _) _
  have kA : RdK 4 wA (some ⟨w9.heap.size, 0, none⟩) 6 6 (evs6.flatMap evC) := by rw [← hwA]; exact RdK.lit' 4 w9 _ _ 6 _ rfl rfl (by decide) rfl
  have b15 := Below.next b14 b9A
  have HS := Lib.hid (sameE_c evs6 evs6 a9 6 c9 _ 6 6 wA (K9.out.below b9A) kA)
  rw [show decide (evs6 = evs6) = true by simp] at HS
  change Calls _ _ _ _ _
  rw [show w9.alloc (.cells #[.int .i64 1, .int .i64 0, .int .i64 1, .string ⟨#[]⟩, .int .i64 2, .int .i64 1, .int .i64 1, .string ⟨#[118, 49]⟩, .int .i64 2, .int .i64 2, .int .i64 1, .string ⟨#[118, 49]⟩,
    .int .i64 1, .int .i64 0, .int .i64 2, .string ⟨#[]⟩, .int .i64 2, .int .i64 1, .int .i64 2, .string ⟨#[118, 50]⟩, .int .i64 2, .int .i64 2, .int .i64 2, .string ⟨#[118, 50]⟩] 48) = wA from hwA]
  clear hwA kA b14 b9A K9
  refine HS.out.mono ?_
  rintro e wB ⟨rfl, b16⟩
  have b17 := Below.next b15 b16
  clear b15 b16 HS
  go_wp2_with fail
  go_ret
  exact ⟨rfl, b17⟩
end Go.Proofs.YtgfjmplifmbmlaaDoor
