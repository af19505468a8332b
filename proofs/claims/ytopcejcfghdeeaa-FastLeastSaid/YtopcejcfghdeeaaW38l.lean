/- Laws of layer 38: Least. -/
import Derived.Test.YtopcejcfghdeeaaAw38b
namespace Go.Proofs.Ytopcejcfghdeeaa
open Go.RowKit Go.Shelf

def setsT (n k : Nat) : List (BitVec 16) := if k = 0 then [0#16] else pickTo (bitS n - 1#16) k ((bitS n - 1#16).toNat + 1)
theorem setsT_eq (n k : Nat) : setsS n k = setsT n k := by
  unfold setsS setsT; split
  · rfl
  · rw [choose_short]
theorem least_fact : ∀ n : Fin 7, ∀ f : Fin 7, 1 ≤ n.val → f.val < n.val →
    (claT (setsT n.val (n.val - f.val)) (setsT n.val ((n.val + f.val) / 2 + 1))).2.2.2 = 13 ∧
    ((n.val + f.val) / 2 = 0 ∨ (claT (setsT n.val (n.val - f.val)) (setsT n.val ((n.val + f.val) / 2))).2.2.2 ≠ 13) := by decide +kernel

theorem sets_x (n k : Nat) (x : Int) (hx : x = k) (hn : n ≤ 12) (hk : k ≤ 12) (w : World) :
    Calls Try.prog 32 #[.int .i64 n, .int .i64 x] w fun e w' => ∃ v, e = .returned v ∧ Own w w' 26 v ((setsS n k).map setV2) ∧ Below w.heap.size w w' := by
  subst hx; exact sets_c n k hn hk w

set_option maxRecDepth 100000 in
set_option maxHeartbeats 4000000 in
theorem fastLeast_w (n f : Int) (w : World) (_ : (Lit.int .i64 n).wf = true) (_ : (Lit.int .i64 f).wf = true) :
    Calls Try.prog 9 #[.int .i64 n, .int .i64 f] w fun e w' => e = .returned (.bool true) ∧ Below w.heap.size w w' := by
  have HA := Lib.hid (awake38_c w)
  have H1 := Lib.hid (fun w => least_c n f w)
  have H2 := Lib.hid (fun w => rleast_c n f w)
  by_cases h : n < 1 ∨ 12 < n ∨ f < 0 ∨ n ≤ f
  · have hE : leaS n f = (0, 0, 7) := by unfold leaS; rw [if_pos h]
    rw [hE] at H1 H2
    unfold V3 at H1 H2
    clear h hE
    go_enter Try.func9, Try.ntmps9
    go_wp2_with fail
    refine HA.out.mono ?_
    rintro e w1 ⟨rfl, b1⟩
    go_wp2_with fail
    refine (H1.out _).mono ?_
    rintro e w2 ⟨rfl, rfl⟩
    go_wp2_with fail
    refine (H2.out _).mono ?_
    rintro e w2 ⟨rfl, rfl⟩
    go_wp2_with fail
    go_ret
    exact ⟨rfl, b1⟩
  · have hE : leaS n f = (n - f, (n + f) / 2 + 1, 0) := by unfold leaS; rw [if_neg h]
    obtain ⟨m, rfl⟩ := Int.eq_ofNat_of_zero_le (by omega : 0 ≤ n)
    obtain ⟨g, rfl⟩ := Int.eq_ofNat_of_zero_le (by omega : 0 ≤ f)
    obtain ⟨r, hr⟩ : ∃ r : Nat, m - g = r := ⟨_, rfl⟩
    obtain ⟨q, hq⟩ : ∃ q : Nat, (m + g) / 2 = q := ⟨_, rfl⟩
    have hE2 : leaS (m : Int) (g : Int) = ((r : Int), (q : Int) + 1, 0) := by
      rw [hE]
      refine Prod.ext ?_ (Prod.ext ?_ rfl)
      · show (m : Int) - g = r; omega
      · show ((m : Int) + g) / 2 + 1 = (q : Int) + 1; omega
    rw [hE2] at H1 H2
    unfold V3 at H1 H2
    by_cases h6 : 6 < m
    · have k1 : ((q : Int) + 1 != (q : Int) + 1) = false := by simp
      have k2 : ((q : Int) + 1 == (q : Int) + 1) = true := by simp
      clear hE hE2 hr hq
      go_enter Try.func9, Try.ntmps9
      go_wp2_with fail
      refine HA.out.mono ?_
      rintro e w1 ⟨rfl, b1⟩
      go_wp2_with fail
      refine (H1.out _).mono ?_
      rintro e w2 ⟨rfl, rfl⟩
      go_wp2_with fail
      refine (H2.out _).mono ?_
      rintro e w2 ⟨rfl, rfl⟩
      go_wp2_with fail
      go_ret
      exact ⟨rfl, b1⟩
    · have hf := least_fact ⟨m, by omega⟩ ⟨g, by omega⟩ (by show 1 ≤ m; omega) (by show g < m; omega)
      simp only at hf
      rw [hr, hq, ← setsT_eq, ← setsT_eq, ← setsT_eq] at hf
      have hr12 : r ≤ 12 := by omega
      have hq12 : q + 1 ≤ 12 := by omega
      have HSR := Lib.hid (fun w => sets_c m r (by omega) hr12 w)
      have HSQ := Lib.hid (fun (x : Int) (hx : x = ((q + 1 : Nat) : Int)) w => sets_x m (q + 1) x hx (by omega) hq12 w)
      have HSP := Lib.hid (fun (x : Int) (hx : x = (q : Int)) w => sets_x m q x hx (by omega) (by omega) w)
      obtain ⟨R, hR⟩ : ∃ R, setsS m r = R := ⟨_, rfl⟩
      obtain ⟨Q, hQ⟩ : ∃ R, setsS m (q + 1) = R := ⟨_, rfl⟩
      obtain ⟨P, hP⟩ : ∃ R, setsS m q = R := ⟨_, rfl⟩
      rw [hR] at HSR hf
      rw [hQ] at HSQ hf
      rw [hP] at HSP hf
      obtain ⟨hf1, hf2⟩ := hf
      obtain ⟨nR, hnR⟩ : ∃ n, R.length = n := ⟨_, rfl⟩
      obtain ⟨nQ, hnQ⟩ : ∃ n, Q.length = n := ⟨_, rfl⟩
      obtain ⟨nP, hnP⟩ : ∃ n, P.length = n := ⟨_, rfl⟩
      have HS1 := Lib.hid (fun a n c a2 n2 c2 w h h2 => safe_c R Q a n c a2 n2 c2 w h h2)
      have HS2 := Lib.hid (fun a n c a2 n2 c2 w h h2 => safe_c R P a n c a2 n2 c2 w h h2)
      rw [hf1, show ((13 : Int) == 13) = true from rfl] at HS1
      have k1 : ((q : Int) + 1 != (q : Int) + 1) = false := by simp
      have k2 : ((q : Int) + 1 == (q : Int) + 1) = true := by simp
      have hm0 : 1 ≤ m := by omega
      have hm6 : m ≤ 6 := by omega
      clear hE hE2 hr hq h h6 hR hQ hP
      by_cases hq0 : q = 0
      · subst hq0
        clear HSP HS2 hf2 k1 k2
        go_enter Try.func9, Try.ntmps9
        go_wp2_with fail
        refine HA.out.mono ?_
        rintro e w1 ⟨rfl, b1⟩
        go_wp2_with fail
        refine (H1.out _).mono ?_
        rintro e w2 ⟨rfl, rfl⟩
        go_wp2_with fail
        refine (H2.out _).mono ?_
        rintro e w2 ⟨rfl, rfl⟩
        go_wp2_with fail
        refine (HSR.out _).mono ?_
        rintro e w3 ⟨v3, rfl, o3, b3⟩
        have b4 := Below.next b1 b3
        obtain ⟨a3, c3, rfl, r3⟩ := o3.rdn nR (by rw [List.length_map, hnR])
        have R3 := Lib.hid r3
        clear o3 r3 b1 b3
        go_wp2_with fail
        refine (HSQ.out _ (by omega) _).mono ?_
        rintro e w5 ⟨v5, rfl, o5, b5⟩
        have b6 := Below.next b4 b5
        obtain ⟨a5, c5, rfl, r5⟩ := o5.rdn nQ (by rw [List.length_map, hnQ])
        have R5 := Lib.hid r5
        have R3b := Lib.hid (R3.out.below b5)
        clear o5 r5 b4 b5 R3
        go_wp2_with fail
        refine (HS1.out _ _ _ _ _ _ _ R3b.out R5.out).mono ?_
        rintro e w7 ⟨rfl, b7⟩
        have b8 := Below.next b6 b7
        clear b6 b7
        go_wp2_with fail
        go_ret
        exact ⟨rfl, b8⟩
      · have hf3 : ((claT R P).2.2.2 == 13) = false := by
          rcases hf2 with hf2 | hf2
          · exact absurd hf2 hq0
          · simpa using hf2
        rw [hf3] at HS2
        have k3 : ((q : Int) + 1 == 1) = false := by simp; omega
        clear hf2 hf3 hq0
        go_enter Try.func9, Try.ntmps9
        go_wp2_with fail
        refine HA.out.mono ?_
        rintro e w1 ⟨rfl, b1⟩
        go_wp2_with fail
        refine (H1.out _).mono ?_
        rintro e w2 ⟨rfl, rfl⟩
        go_wp2_with fail
        refine (H2.out _).mono ?_
        rintro e w2 ⟨rfl, rfl⟩
        go_wp2_with fail
        refine (HSR.out _).mono ?_
        rintro e w3 ⟨v3, rfl, o3, b3⟩
        have b4 := Below.next b1 b3
        obtain ⟨a3, c3, rfl, r3⟩ := o3.rdn nR (by rw [List.length_map, hnR])
        have R3 := Lib.hid r3
        clear o3 r3 b1 b3
        go_wp2_with fail
        refine (HSQ.out _ (by omega) _).mono ?_
        rintro e w5 ⟨v5, rfl, o5, b5⟩
        have b6 := Below.next b4 b5
        obtain ⟨a5, c5, rfl, r5⟩ := o5.rdn nQ (by rw [List.length_map, hnQ])
        have R5 := Lib.hid r5
        have R3b := Lib.hid (R3.out.below b5)
        clear o5 r5 b4 b5 R3
        go_wp2_with fail
        refine (HS1.out _ _ _ _ _ _ _ R3b.out R5.out).mono ?_
        rintro e w7 ⟨rfl, b7⟩
        have b8 := Below.next b6 b7
        clear b6 b7 R3b R5 HS1 HSQ
        go_wp2_with fail
        refine (HSR.out _).mono ?_
        rintro e w3 ⟨v3, rfl, o3, b3⟩
        have b9 := Below.next b8 b3
        obtain ⟨a6, c6, rfl, r6⟩ := o3.rdn nR (by rw [List.length_map, hnR])
        have R6 := Lib.hid r6
        clear o3 r6 b8 b3
        go_wp2_with fail
        refine (HSP.out _ (by omega) _).mono ?_
        rintro e w5 ⟨v5, rfl, o5, b5⟩
        have b10 := Below.next b9 b5
        obtain ⟨a8, c8, rfl, r8⟩ := o5.rdn nP (by rw [List.length_map, hnP])
        have R8 := Lib.hid r8
        have R6b := Lib.hid (R6.out.below b5)
        clear o5 r8 b9 b5 R6
        go_wp2_with fail
        refine (HS2.out _ _ _ _ _ _ _ R6b.out R8.out).mono ?_
        rintro e w7 ⟨rfl, b7⟩
        have b11 := Below.next b10 b7
        clear b10 b7
        go_wp2_with fail
        go_ret
        exact ⟨rfl, b11⟩
end Go.Proofs.Ytopcejcfghdeeaa
