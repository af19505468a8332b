/- Laws of layer 38: More. -/
import Derived.Test.YtopcejcfghdeeaaW38f
import Derived.Test.YtopcejcfghdeeaaAtl
import Derived.Test.YtopcejcfghdeeaaMin
import Derived.Test.YtopcejcfghdeeaaTwo
namespace Go.Proofs.Ytopcejcfghdeeaa
open Go.RowKit Go.Shelf

set_option maxRecDepth 100000 in
set_option maxHeartbeats 4000000 in
theorem fastMore_w (a : Option Addr) (len cap : Nat) (z : List Int) (a2 : Option Addr) (len2 cap2 : Nat) (z2 : List Int) (s0 s1 : BitVec 16) (w : World) (w0 : IsInts .u8 w a len cap z) (w2 : IsInts .u8 w a2 len2 cap2 z2) :
    Calls Try.prog 8 #[.slice a len cap, .slice a2 len2 cap2, .agg #[.int .u16 (U s0), .int .u16 (U s1)]] w fun e w' => e = .returned (.bool true) ∧ Below w.heap.size w w' := by
  have HL1 := Lib.hid w0.rd
  have HL2 := Lib.hid w2.rd
  have hle2 := w2.rd.le
  have hmx2 := w2.rd.max
  unfold maxLen at hmx2
  have hz2 := w2.len
  have HM1 := Lib.hid (fun w h => made_min z (u8_bd w0) a len cap w h)
  have HV := Lib.hid (fun w h => votes_r z2 (u8_bd w2) a2 len2 cap2 w h)
  have HMM1 := Lib.hid (fun a n c w h => min_min (madS z) a n c w h)
  have HA := Lib.hid (fun w => awake38_c w)
  have hvl := votsS_len z2
  rw [hz2] at hvl
  have hquo := mm_quo z
  clear w0 w2 hz2
  obtain ⟨Q, hQ⟩ : ∃ R, minS (madS z) = R := ⟨_, rfl⟩
  obtain ⟨V, hV⟩ : ∃ R, votsS z2 = R := ⟨_, rfl⟩
  rw [hQ] at HMM1 hquo
  rw [hV] at HV hvl
  obtain ⟨A, hA⟩ : ∃ R, madS z = R := ⟨_, rfl⟩
  rw [hA] at HM1 HMM1
  obtain ⟨nA, hnA⟩ : ∃ n, A.length = n := ⟨_, rfl⟩
  obtain ⟨nQ, hnQ⟩ : ∃ n, Q.length = n := ⟨_, rfl⟩
  obtain ⟨nV, hnV⟩ : ∃ n, V.length = n := ⟨_, rfl⟩
  rw [hnA] at HM1
  rw [hnQ] at HMM1
  simp only [hnV] at HV hvl
  have HNQ := Lib.hid hnQ
  have HNV := Lib.hid hnV
  have HVM := Lib.hid hvl
  have HQUO := Lib.hid hquo
  clear hvl hquo
  clear hQ hV hA hnA hnQ hnV
  have HB := Lib.hid ((Below.refl w.heap.size w).alloc (Nat.le_refl _) (.cells #[.int .u16 (U s0), .int .u16 (U s1)] 48))
  have HS0 := Lib.hid (cell_new w #[.int .u16 (U s0), .int .u16 (U s1)] 48 0 _ rfl)
  have HS1 := Lib.hid (cell_new w #[.int .u16 (U s0), .int .u16 (U s1)] 48 1 _ rfl)
  go_enter Try.func8, Try.ntmps8
  go_wp2_with fail
  refine (HM1.out _ (HL1.out.below HB.out)).mono ?_
  rintro e w1 ⟨b1, d1, rfl, r1, c1⟩
  go_wp2_with fail
  refine (HMM1.out _ _ _ _ r1).mono ?_
  rintro e w2 ⟨b2, d2, rfl, r2, c2⟩
  have c3 := Below.next c1 c2
  have R2 := Lib.hid r2
  clear r1 c1 c2 r2 HM1 HMM1
  go_wp2_with fail
  refine (HA.out _).mono ?_
  rintro e w3 ⟨rfl, c4⟩
  have c5 := Below.next c3 c4
  have R2b := Lib.hid (R2.out.below c4)
  have c6 := Below.trans HB.out (c5.mono (by simp))
  have h30 := (c5.cell (p := ⟨w.heap.size, 0, none⟩) (by simp)).trans HS0.out
  have h31 := (c5.cell (p := ⟨w.heap.size, 1, none⟩) (by simp)).trans HS1.out
  have hsz : w.heap.size < w3.heap.size := by have := c5.size; simp at this; omega
  have C6 := Lib.hid c6
  have H30 := Lib.hid h30
  have H31 := Lib.hid h31
  clear c3 c4 R2 c5 h30 h31 HS0 HS1 HB c6
  by_cases h0 : len2 = 0
  · subst h0
    go_wp2_with fail
    refine (HA.out _).mono ?_
    rintro e w6 ⟨rfl, c10⟩
    have c11 := Below.next C6.out c10
    clear c10
    go_wp2_with fail
    go_ret
    exact ⟨rfl, c11⟩
  · have h0b : ((len2 : Int) == 0) = false := by simp; omega
    by_cases h12 : 12 < len2
    · go_wp2_with fail
      refine (HA.out _).mono ?_
      rintro e w6 ⟨rfl, c10⟩
      have c11 := Below.next C6.out c10
      clear c10
      go_wp2_with fail
      go_ret
      exact ⟨rfl, c11⟩
    · have hbad : (1 ≤ nQ ∧ (Q.getD 0 0#16 == 0#16) = true) ∨ (nQ = 0 ∨ (1 ≤ nQ ∧ (Q.getD 0 0#16 == 0#16) = false)) := by
        by_cases h : nQ = 0
        · exact .inr (.inl h)
        · cases hq : (Q.getD 0 0#16 == 0#16)
          · exact .inr (.inr ⟨by omega, rfl⟩)
          · exact .inl ⟨by omega, rfl⟩
      rcases hbad with ⟨hq1, hq2⟩ | hgood
      · obtain ⟨bb, oo, ha, hcell⟩ := R2b.out.at' (by omega)
        have hc := hcell 0 _ (at_cell (by have := HNQ.out; omega))
        obtain ⟨q0, hq0⟩ : ∃ q0, Q.getD 0 0#16 = q0 := ⟨_, rfl⟩
        rw [hq0] at hc hq2
        subst ha
        rw [Nat.add_zero] at hc
        clear hcell hq0
        go_wp2_with fail
        refine (HA.out _).mono ?_
        rintro e w6 ⟨rfl, c10⟩
        have c11 := Below.next C6.out c10
        clear c10
        go_wp2_with fail
        go_ret
        exact ⟨rfl, c11⟩
      · have hquo : quoS Q = 0 := HQUO.out (by have := HNQ.out; rcases hgood with h | h; exact .inl (by omega); exact .inr h.2)
        have harg : argS Q V.length = 0 := by
          have := HNV.out; have := HVM.out
          unfold argS; rw [hquo, if_neg (by decide), if_neg (by omega), if_neg (by omega)]
        have HARG := Lib.hid harg
        clear hquo harg
        have hv0 : 1 ≤ nV := by have := HVM.out; omega
        have hv12 : nV ≤ 12 := by have := HVM.out; omega
        have hb0 : nQ ≤ 0 ∨ (1 ≤ nQ ∧ ∃ bb oo q0, b2 = some ⟨bb, oo, none⟩ ∧ w3.cell? ⟨bb, oo, none⟩ = some (.int .u16 (U q0)) ∧ (q0 == 0#16) = false) := by
          rcases hgood with h | ⟨h, h2⟩
          · exact .inl (by omega)
          · obtain ⟨bb, oo, ha, hcell⟩ := R2b.out.at' (by omega)
            exact .inr ⟨h, bb, oo, _, ha, hcell 0 _ (at_cell (by have := HNQ.out; omega)), h2⟩
        clear hgood
        rcases hb0 with hn0 | ⟨hq1, bb, oo, q0, hb2, hc, hq2⟩
        all_goals
          first | subst hb2 | skip
          go_wp2_with fail
          refine (HV.out _ (HL2.out.below C6.out)).mono ?_
          rintro e w4 ⟨b7, d7, rfl, r7, c7⟩
          have C8 := Lib.hid (Below.next C6.out c7)
          have R2c := Lib.hid (R2b.out.below c7)
          have H30b := Lib.hid ((c7.cell (p := ⟨w.heap.size, 0, none⟩) hsz).trans H30.out)
          have H31b := Lib.hid ((c7.cell (p := ⟨w.heap.size, 1, none⟩) hsz).trans H31.out)
          have hsz2 : w.heap.size < w4.heap.size := Nat.lt_of_lt_of_le hsz c7.size
          have R7 := Lib.hid r7
          have hle7 := R2c.out.le
          have hmx7 := R2c.out.max
          unfold maxLen at hmx7
          clear r7 c7 R2b H30 H31 C6 hsz HV
          go_wp2_with fail
          go_loopw [48] (fun i wr => ∃ k : Nat, k ≤ nQ ∧ i = .int .i64 k ∧ Hid (∀ j, j < k → (Q.getD j 0#16 &&& s0 == 0#16) = false) ∧ Below w4.heap.size w4 wr) (fun i _ => nQ - (intOf i).toNat)
          case atStart => exact ⟨0, Nat.zero_le _, rfl, Lib.hid (fun j hj => by omega), Below.refl _ _⟩
          case round =>
            obtain ⟨k, hk, rfl, hno, hb⟩ := hrel
            by_cases hlt : k < nQ
            · obtain ⟨bq, oq, ha, hcell⟩ := (R2c.out.below hb).at' (by omega)
              have hcq := hcell k _ (at_cell (by have := HNQ.out; omega))
              have hs0 := (hb.cell (p := ⟨w.heap.size, 0, none⟩) hsz2).trans H30b.out
              obtain ⟨f, hf⟩ : ∃ f, Q.getD k 0#16 = f := ⟨_, rfl⟩
              rw [hf] at hcq
              cases hz : (f &&& s0 == 0#16)
              · have hno2 : Hid (∀ j, j < k + 1 → (Q.getD j 0#16 &&& s0 == 0#16) = false) := Lib.hid (fun j hj => by
                  by_cases h1 : j < k
                  · exact hno.out j h1
                  · obtain rfl : j = k := by omega
                    rw [hf]; exact hz)
                first | subst ha | (cases ha)
                clear hcell hf hno
                go_wp2_with fail
                go_roundw
                case rel => exact ⟨k + 1, by omega, by go_num, hno2, hb⟩
                case measure => simp [intOf]; omega
              · first | subst ha | (cases ha)
                have C9 := Lib.hid (Below.next C8.out hb)
                clear hcell hf hno hb
                go_wp2_with fail
                go_ret
                exact ⟨rfl, C9.out⟩
            · obtain rfl : k = nQ := by omega
              have hQ : ∀ f ∈ Q, (f &&& s0 == 0#16) = false := by
                intro f hf
                obtain ⟨j, hj, rfl⟩ := List.mem_iff_getElem.1 hf
                have := hno.out j (by have := HNQ.out; omega)
                rw [getD_at hj] at this; exact this
              have hmore := more_law (V := V) (t := s1) (by have := HNV.out; omega) hQ
              have HPO := Lib.hid (fun a w h h2 => possible_c Q V s0 a k d2 b7 nV d7 w h h2 (by omega))
              have HPO2 := Lib.hid (fun a w h h2 => possible_c Q V (s0 ||| s1) a k d2 b7 nV d7 w h h2 (by omega))
              rw [pss_len HARG.out] at HPO HPO2
              obtain ⟨X, hX⟩ : ∃ X, posS Q V s0 = X := ⟨_, rfl⟩
              obtain ⟨Y, hY⟩ : ∃ X, posS Q V (s0 ||| s1) = X := ⟨_, rfl⟩
              rw [hX] at HPO hmore
              rw [hY] at HPO2 hmore
              obtain ⟨nX, hnX⟩ : ∃ n, X.length = n := ⟨_, rfl⟩
              obtain ⟨nY, hnY⟩ : ∃ n, Y.length = n := ⟨_, rfl⟩
              simp only [hnX] at HPO
              simp only [hnY] at HPO2
              have HNY := Lib.hid hnY
              have HMO := Lib.hid hmore
              have C9 := Lib.hid (Below.next C8.out hb)
              have R2d := Lib.hid (R2c.out.below hb)
              have R7b := Lib.hid (R7.out.below hb)
              have h30 := (hb.cell (p := ⟨w.heap.size, 0, none⟩) hsz2).trans H30b.out
              have h31 := (hb.cell (p := ⟨w.heap.size, 1, none⟩) hsz2).trans H31b.out
              have hsz3 : w.heap.size < wr.heap.size := Nat.lt_of_lt_of_le hsz2 hb.size
              clear hno hb hQ hmore hX hY hnX hnY
              go_wp2_with fail
              refine (HPO.out _ _ R2d.out R7b.out).mono ?_
              rintro e wA ⟨bA, dA, rfl, rA, cA⟩
              have C10 := Lib.hid (Below.next C9.out cA)
              have R2e := Lib.hid (R2d.out.below cA)
              have R7c := Lib.hid (R7b.out.below cA)
              have hA0 := (cA.cell (p := ⟨w.heap.size, 0, none⟩) hsz3).trans h30
              have hA1 := (cA.cell (p := ⟨w.heap.size, 1, none⟩) hsz3).trans h31
              have RA := Lib.hid rA
              clear cA rA h30 h31 R2d R7b HPO C9
              go_wp2_with fail
              refine (HPO2.out _ _ R2e.out R7c.out).mono ?_
              rintro e wB ⟨bB, dB, rfl, rB, cB⟩
              have C11 := Lib.hid (Below.next C10.out cB)
              have RA2 := Lib.hid (RA.out.below cB)
              have RB := Lib.hid rB
              have hleB := rB.le
              have hmxB := rB.max
              unfold maxLen at hmxB
              have HCT := Lib.hid (fun y w h => containsT_c X y bA nX dA w h)
              clear cB rB hA0 hA1 R2e R7c HPO2 C10 RA
              go_wp2_with fail
              go_loopw [79] (fun i wr => ∃ m : Nat, m ≤ nY ∧ i = .int .i64 m ∧ Below wB.heap.size wB wr) (fun i _ => nY - (intOf i).toNat)
              case atStart => exact ⟨0, Nat.zero_le _, rfl, Below.refl _ _⟩
              case round =>
                obtain ⟨m, hm, rfl, hb⟩ := hrel
                by_cases hlt2 : m < nY
                · obtain ⟨by', oy, hay, hcell⟩ := (RB.out.below hb).at' (by omega)
                  obtain ⟨y, hy⟩ : ∃ y, Y[m]? = some y := ⟨_, List.getElem?_eq_getElem (by have := HNY.out; omega)⟩
                  have hcy := hcell m (.string y) (by rw [List.getElem?_map, hy]; rfl)
                  have hin : idxT y X = true := idxT_mem.2 (HMO.out y (List.mem_of_getElem? hy))
                  have HC2 := Lib.hid (HCT.out y wr (RA2.out.below hb))
                  rw [hin] at HC2
                  subst hay
                  clear hcell hy hin
                  go_wp2_with fail
                  refine HC2.out.mono ?_
                  rintro e wD ⟨rfl, rfl⟩
                  go_wp2_with fail
                  go_roundw
                  case rel => exact ⟨m + 1, by omega, by go_num, hb⟩
                  case measure => simp [intOf]; omega
                · have C12 := Lib.hid (Below.next C11.out hb)
                  clear hb
                  go_wp2_with fail
                  go_ret
                  exact ⟨rfl, C12.out⟩
end Go.Proofs.Ytopcejcfghdeeaa
