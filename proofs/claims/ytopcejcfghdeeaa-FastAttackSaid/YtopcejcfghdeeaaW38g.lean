/- Laws of layer 38: Attack. -/
import Derived.Test.YtopcejcfghdeeaaW38f
import Derived.Test.YtopcejcfghdeeaaAtl
import Derived.Test.YtopcejcfghdeeaaRfat
namespace Go.Proofs.Ytopcejcfghdeeaa
open Go.RowKit Go.Shelf

set_option maxRecDepth 100000 in
set_option maxHeartbeats 4000000 in
theorem fastAttack_w (a : Option Addr) (len cap : Nat) (z : List Int) (a2 : Option Addr) (len2 cap2 : Nat) (z2 : List Int) (nn : Int) (w : World) (w0 : IsInts .u8 w a len cap z) (w2 : IsInts .u8 w a2 len2 cap2 z2) (_ : (Lit.int .i64 nn).wf = true) :
    Calls Try.prog 7 #[.slice a len cap, .slice a2 len2 cap2, .int .i64 nn] w fun e w' => e = .returned (.bool true) ∧ Below w.heap.size w w' := by
  have HL2 := Lib.hid w2.rd
  have HM1 := Lib.hid (made_min z (u8_bd w0) a len cap w w0.rd)
  have HM2 := Lib.hid (fun w h => made_min z2 (u8_bd w2) a2 len2 cap2 w h)
  have HMM1 := Lib.hid (fun a n c w h => min_min (madS z) a n c w h)
  have HMM2 := Lib.hid (fun a n c w h => min_min (madS z2) a n c w h)
  have HA := Lib.hid (fun w => awake38_c w)
  clear w0 w2
  obtain ⟨R, hR⟩ : ∃ R, minS (madS z) = R := ⟨_, rfl⟩
  obtain ⟨Q, hQ⟩ : ∃ R, minS (madS z2) = R := ⟨_, rfl⟩
  rw [hR] at HMM1
  rw [hQ] at HMM2
  obtain ⟨A, hA⟩ : ∃ R, madS z = R := ⟨_, rfl⟩
  obtain ⟨B, hB⟩ : ∃ R, madS z2 = R := ⟨_, rfl⟩
  rw [hA] at HM1 HMM1
  rw [hB] at HM2 HMM2
  have HC := Lib.hid (fun a n c a2 n2 c2 w h h2 => attack_f nn R Q a n c a2 n2 c2 w h h2)
  have HC2 := Lib.hid (fun a n c a2 n2 c2 w h h2 => rattack_c nn R Q a n c a2 n2 c2 w h h2)
  have hlaw := fun V r h => attack_law (nn := nn) (R := R) (Q := Q) (V := V) (r := r) h
  obtain ⟨⟨V, s, e0⟩, hp⟩ : ∃ p, fatS nn R Q = p := ⟨_, rfl⟩
  rw [hp] at HC HC2 hlaw
  have HSM := Lib.hid (fun x y u v w r r2 => rsameT_c V V x V.length y u V.length v w r r2)
  rw [show decide (V = V) = true by simp] at HSM
  obtain ⟨nA, hnA⟩ : ∃ n, A.length = n := ⟨_, rfl⟩
  obtain ⟨nB, hnB⟩ : ∃ n, B.length = n := ⟨_, rfl⟩
  obtain ⟨nR, hnR⟩ : ∃ n, R.length = n := ⟨_, rfl⟩
  obtain ⟨nQ, hnQ⟩ : ∃ n, Q.length = n := ⟨_, rfl⟩
  obtain ⟨nV, hnV⟩ : ∃ n, V.length = n := ⟨_, rfl⟩
  rw [hnA] at HM1
  rw [hnB] at HM2
  rw [hnR] at HMM1
  rw [hnQ] at HMM2
  simp only [hnV] at HC HC2 HSM
  have HNV := Lib.hid hnV
  clear hR hQ hA hB hnA hnB hnR hnQ hnV hp
  have k3 : (s == s) = true := by simp
  have k4 : (e0 == e0) = true := by simp
  have k5 : (s != s) = false := by simp
  have k6 : (e0 != e0) = false := by simp
  by_cases he : e0 = 0
  · subst he
    obtain ⟨hl12, hch, hre, hcl⟩ := hlaw V s rfl
    have HS := Lib.hid (fun a n c a2 n2 c2 w h h2 => safe_c R Q a n c a2 n2 c2 w h h2)
    rw [hcl, show ((0 : Int) == 13) = false from rfl] at HS
    have hnV12 : nV ≤ 100 := by have := HNV.out; omega
    have HCH := Lib.hid (fun a n c a2 c2 w h h2 => chosen_c Q V a n c a2 nV c2 w h h2 hnV12)
    rw [hch] at HCH
    have HRE := Lib.hid (fun a n c a2 c2 w h h2 => recover_c Q V s a n c a2 nV c2 w h h2 hnV12)
    obtain ⟨⟨y, g⟩, hrec⟩ : ∃ p, recS Q V s = p := ⟨_, rfl⟩
    rw [hrec] at HRE hre
    unfold V2 at HRE HCH
    unfold sx at HCH hre
    clear hlaw hch hcl hrec HNV hl12 k4 k6
    by_cases hg : g = 0
    · subst hg
      have hy : (y.toList == [120]) = false := by
        rcases hre with h | h
        · exact absurd rfl h
        · cases hq : (y.toList == [120])
          · rfl
          · exact absurd (bs_ext ((eq_of_beq hq).trans sx_l.symm)) h
      clear hre
      go_enter Try.func7, Try.ntmps7
      go_wp2_with fail
      refine HM1.out.mono ?_
      rintro e w1 ⟨b1, d1, rfl, r1, c1⟩
      go_wp2_with fail
      refine (HMM1.out _ _ _ _ r1).mono ?_
      rintro e w2 ⟨b2, d2, rfl, r2, c2⟩
      have c3 := Below.next c1 c2
      have R2 := Lib.hid r2
      clear r1 c1 c2 r2 HM1 HMM1
      go_wp2_with fail
      refine (HM2.out _ (HL2.out.below c3)).mono ?_
      rintro e w3 ⟨b3, d3, rfl, r3, c4⟩
      have c5 := Below.next c3 c4
      have R2b := Lib.hid (R2.out.below c4)
      clear c3 c4 R2 HM2
      go_wp2_with fail
      refine (HMM2.out _ _ _ _ r3).mono ?_
      rintro e w4 ⟨b4, d4, rfl, r4, c6⟩
      have c7 := Below.next c5 c6
      have R2c := Lib.hid (R2b.out.below c6)
      have R4 := Lib.hid r4
      clear c5 c6 R2b r3 r4 HMM2
      go_wp2_with fail
      refine (HA.out _).mono ?_
      rintro e w5 ⟨rfl, c8⟩
      have c9 := Below.next c7 c8
      have R2d := Lib.hid (R2c.out.below c8)
      have R4b := Lib.hid (R4.out.below c8)
      clear c7 c8 R2c R4
      go_wp2_with fail
      refine (HC.out _ _ _ _ _ _ _ R2d.out R4b.out).mono ?_
      rintro e w6 ⟨b6, d6, rfl, r6, c10⟩
      have c11 := Below.next c9 c10
      have R2e := Lib.hid (R2d.out.below c10)
      have R4c := Lib.hid (R4b.out.below c10)
      have R6 := Lib.hid r6
      clear c9 c10 R2d R4b HC r6
      go_wp2_with fail
      refine (HC2.out _ _ _ _ _ _ _ R2e.out R4c.out).mono ?_
      rintro e w7 ⟨b7, d7, rfl, r7, c12⟩
      have c13 := Below.next c11 c12
      have R2f := Lib.hid (R2e.out.below c12)
      have R4d := Lib.hid (R4c.out.below c12)
      have R6b := Lib.hid (R6.out.below c12)
      have R7 := Lib.hid r7
      clear c11 c12 R2e R4c R6 HC2 r7
      go_wp2_with fail
      refine (HSM.out _ _ _ _ _ R6b.out R7.out).mono ?_
      rintro e w8 ⟨rfl, c14⟩
      have c15 := Below.next c13 c14
      have R2g := Lib.hid (R2f.out.below c14)
      have R4e := Lib.hid (R4d.out.below c14)
      have R6c := Lib.hid (R6b.out.below c14)
      clear c13 c14 R2f R4d R6b R7 HSM
      go_wp2_with fail
      refine (HCH.out _ _ _ _ _ _ R4e.out R6c.out).mono ?_
      rintro e w9 ⟨rfl, c16⟩
      have c17 := Below.next c15 c16
      have R2h := Lib.hid (R2g.out.below c16)
      have R4f := Lib.hid (R4e.out.below c16)
      have R6d := Lib.hid (R6c.out.below c16)
      clear c15 c16 R2g R4e R6c HCH
      go_wp2_with fail
      refine (HRE.out _ _ _ _ _ _ R4f.out R6d.out).mono ?_
      rintro e w10 ⟨rfl, c18⟩
      have c19 := Below.next c17 c18
      have R2i := Lib.hid (R2h.out.below c18)
      have R4g := Lib.hid (R4f.out.below c18)
      clear c17 c18 R2h R4f R6d HRE
      go_wp2_with fail
      refine (HS.out _ _ _ _ _ _ _ R2i.out R4g.out).mono ?_
      rintro e w11 ⟨rfl, c20⟩
      have c21 := Below.next c19 c20
      clear c19 c20
      go_wp2_with fail
      go_ret
      exact ⟨rfl, c21⟩
    · have hg1 : (g != 0) = true := by simpa using hg
      have hg2 : (g == 0) = false := by simpa using hg
      clear hre hg
      go_enter Try.func7, Try.ntmps7
      go_wp2_with fail
      refine HM1.out.mono ?_
      rintro e w1 ⟨b1, d1, rfl, r1, c1⟩
      go_wp2_with fail
      refine (HMM1.out _ _ _ _ r1).mono ?_
      rintro e w2 ⟨b2, d2, rfl, r2, c2⟩
      have c3 := Below.next c1 c2
      have R2 := Lib.hid r2
      clear r1 c1 c2 r2 HM1 HMM1
      go_wp2_with fail
      refine (HM2.out _ (HL2.out.below c3)).mono ?_
      rintro e w3 ⟨b3, d3, rfl, r3, c4⟩
      have c5 := Below.next c3 c4
      have R2b := Lib.hid (R2.out.below c4)
      clear c3 c4 R2 HM2
      go_wp2_with fail
      refine (HMM2.out _ _ _ _ r3).mono ?_
      rintro e w4 ⟨b4, d4, rfl, r4, c6⟩
      have c7 := Below.next c5 c6
      have R2c := Lib.hid (R2b.out.below c6)
      have R4 := Lib.hid r4
      clear c5 c6 R2b r3 r4 HMM2
      go_wp2_with fail
      refine (HA.out _).mono ?_
      rintro e w5 ⟨rfl, c8⟩
      have c9 := Below.next c7 c8
      have R2d := Lib.hid (R2c.out.below c8)
      have R4b := Lib.hid (R4.out.below c8)
      clear c7 c8 R2c R4
      go_wp2_with fail
      refine (HC.out _ _ _ _ _ _ _ R2d.out R4b.out).mono ?_
      rintro e w6 ⟨b6, d6, rfl, r6, c10⟩
      have c11 := Below.next c9 c10
      have R2e := Lib.hid (R2d.out.below c10)
      have R4c := Lib.hid (R4b.out.below c10)
      have R6 := Lib.hid r6
      clear c9 c10 R2d R4b HC r6
      go_wp2_with fail
      refine (HC2.out _ _ _ _ _ _ _ R2e.out R4c.out).mono ?_
      rintro e w7 ⟨b7, d7, rfl, r7, c12⟩
      have c13 := Below.next c11 c12
      have R2f := Lib.hid (R2e.out.below c12)
      have R4d := Lib.hid (R4c.out.below c12)
      have R6b := Lib.hid (R6.out.below c12)
      have R7 := Lib.hid r7
      clear c11 c12 R2e R4c R6 HC2 r7
      go_wp2_with fail
      refine (HSM.out _ _ _ _ _ R6b.out R7.out).mono ?_
      rintro e w8 ⟨rfl, c14⟩
      have c15 := Below.next c13 c14
      have R2g := Lib.hid (R2f.out.below c14)
      have R4e := Lib.hid (R4d.out.below c14)
      have R6c := Lib.hid (R6b.out.below c14)
      clear c13 c14 R2f R4d R6b R7 HSM
      go_wp2_with fail
      refine (HCH.out _ _ _ _ _ _ R4e.out R6c.out).mono ?_
      rintro e w9 ⟨rfl, c16⟩
      have c17 := Below.next c15 c16
      have R2h := Lib.hid (R2g.out.below c16)
      have R4f := Lib.hid (R4e.out.below c16)
      have R6d := Lib.hid (R6c.out.below c16)
      clear c15 c16 R2g R4e R6c HCH
      go_wp2_with fail
      refine (HRE.out _ _ _ _ _ _ R4f.out R6d.out).mono ?_
      rintro e w10 ⟨rfl, c18⟩
      have c19 := Below.next c17 c18
      have R2i := Lib.hid (R2h.out.below c18)
      have R4g := Lib.hid (R4f.out.below c18)
      clear c17 c18 R2h R4f R6d HRE
      go_wp2_with fail
      refine (HS.out _ _ _ _ _ _ _ R2i.out R4g.out).mono ?_
      rintro e w11 ⟨rfl, c20⟩
      have c21 := Below.next c19 c20
      clear c19 c20
      go_wp2_with fail
      go_ret
      exact ⟨rfl, c21⟩
  · have he1 : (e0 != 0) = true := by simpa using he
    clear he hlaw HNV
    go_enter Try.func7, Try.ntmps7
    go_wp2_with fail
    refine HM1.out.mono ?_
    rintro e w1 ⟨b1, d1, rfl, r1, c1⟩
    go_wp2_with fail
    refine (HMM1.out _ _ _ _ r1).mono ?_
    rintro e w2 ⟨b2, d2, rfl, r2, c2⟩
    have c3 := Below.next c1 c2
    have R2 := Lib.hid r2
    clear r1 c1 c2 r2 HM1 HMM1
    go_wp2_with fail
    refine (HM2.out _ (HL2.out.below c3)).mono ?_
    rintro e w3 ⟨b3, d3, rfl, r3, c4⟩
    have c5 := Below.next c3 c4
    have R2b := Lib.hid (R2.out.below c4)
    clear c3 c4 R2 HM2
    go_wp2_with fail
    refine (HMM2.out _ _ _ _ r3).mono ?_
    rintro e w4 ⟨b4, d4, rfl, r4, c6⟩
    have c7 := Below.next c5 c6
    have R2c := Lib.hid (R2b.out.below c6)
    have R4 := Lib.hid r4
    clear c5 c6 R2b r3 r4 HMM2
    go_wp2_with fail
    refine (HA.out _).mono ?_
    rintro e w5 ⟨rfl, c8⟩
    have c9 := Below.next c7 c8
    have R2d := Lib.hid (R2c.out.below c8)
    have R4b := Lib.hid (R4.out.below c8)
    clear c7 c8 R2c R4
    go_wp2_with fail
    refine (HC.out _ _ _ _ _ _ _ R2d.out R4b.out).mono ?_
    rintro e w6 ⟨b6, d6, rfl, r6, c10⟩
    have c11 := Below.next c9 c10
    have R2e := Lib.hid (R2d.out.below c10)
    have R4c := Lib.hid (R4b.out.below c10)
    have R6 := Lib.hid r6
    clear c9 c10 R2d R4b HC r6
    go_wp2_with fail
    refine (HC2.out _ _ _ _ _ _ _ R2e.out R4c.out).mono ?_
    rintro e w7 ⟨b7, d7, rfl, r7, c12⟩
    have c13 := Below.next c11 c12
    have R6b := Lib.hid (R6.out.below c12)
    have R7 := Lib.hid r7
    clear c11 c12 R2e R4c R6 HC2 r7
    go_wp2_with fail
    refine (HSM.out _ _ _ _ _ R6b.out R7.out).mono ?_
    rintro e w8 ⟨rfl, c14⟩
    have c15 := Below.next c13 c14
    have R6c := Lib.hid (R6b.out.below c14)
    have R7b := Lib.hid (R7.out.below c14)
    clear c13 c14 R6b R7
    go_wp2_with fail
    refine (HSM.out _ _ _ _ _ R6c.out R7b.out).mono ?_
    rintro e w9 ⟨rfl, c16⟩
    have c17 := Below.next c15 c16
    clear c15 c16
    go_wp2_with fail
    go_ret
    exact ⟨rfl, c17⟩
end Go.Proofs.Ytopcejcfghdeeaa
