/- Layer 38: the reference's Attack. -/
import Derived.Test.YtopcejcfghdeeaaFat
namespace Go.Proofs.Ytopcejcfghdeeaa
open Go.RowKit Go.Shelf

set_option maxRecDepth 100000 in
set_option maxHeartbeats 4000000 in
theorem rattack_c (nn : Int) (read fast : List (BitVec 16)) (a : Option Addr) (n c : Nat) (a2 : Option Addr) (n2 c2 : Nat) (w : World) (h : Rd w a n c (read.map setV2)) (h2 : Rd w a2 n2 c2 (fast.map setV2)) :
    Calls Try.prog 28 #[.int .i64 nn, .slice a n c, .slice a2 n2 c2] w fun e w' => ∃ a' c', e = .returned (.tuple #[.slice a' (fatS nn read fast).1.length c', .int .u16 (U (fatS nn read fast).2.1), .int .i64 (fatS nn read fast).2.2]) ∧ Rd w' a' (fatS nn read fast).1.length c' ((fatS nn read fast).1.map Value.string) ∧ Below w.heap.size w w' := by
  have HR := Lib.hid h
  have HR2 := Lib.hid h2
  have HB := Lib.hid (rboth_c read fast a n c a2 n2 c2 w h h2)
  clear h h2
  by_cases hbo : botS read fast = 0
  · have hC : Hid (fatS nn read fast = if nn < 1 ∨ 12 < nn ∨ farB nn read fast = true then ([], 0#16, 7) else fatM nn.toNat (claT read fast)) := by show _ = _; unfold fatS; rw [if_neg (by rw [hbo]; decide)]
    have HCE := Lib.hid (claT_e read fast hbo)
    rw [hbo] at HB
    clear hbo
    by_cases h1 : nn < 1
    · have hE : Hid (fatS nn read fast = ([], 0#16, 7)) := by show _ = _; rw [hC.out, if_pos (.inl h1)]
      clear hC
      go_enter Try.func28, Try.ntmps28
      go_wp2_with fail
      refine HB.out.mono ?_
      rintro e w1 ⟨rfl, b1⟩
      go_wp2_with fail
      exact bodyPost_ret (v := .tuple #[.slice none 0 0, .int .u16 (U 0#16), .int .i64 7]) (by simp [results, Try.results28, go_sem]) rfl ⟨none, 0, by rw [hE.out]; rfl, by rw [hE.out]; exact Rd.none_ _, b1⟩
    · by_cases h2 : 12 < nn
      · have hE : Hid (fatS nn read fast = ([], 0#16, 7)) := by show _ = _; rw [hC.out, if_pos (.inr (.inl h2))]
        clear hC
        go_enter Try.func28, Try.ntmps28
        go_wp2_with fail
        refine HB.out.mono ?_
        rintro e w1 ⟨rfl, b1⟩
        go_wp2_with fail
        exact bodyPost_ret (v := .tuple #[.slice none 0 0, .int .u16 (U 0#16), .int .i64 7]) (by simp [results, Try.results28, go_sem]) rfl ⟨none, 0, by rw [hE.out]; rfl, by rw [hE.out]; exact Rd.none_ _, b1⟩
      · obtain ⟨m, rfl⟩ := Int.eq_ofNat_of_zero_le (by omega : 0 ≤ nn)
        have hm1 : 1 ≤ m := by omega
        have hm2 : m ≤ 12 := by omega
        have HS1 := Lib.hid (fun w h => support8_c read a n c w h)
        have HS2 := Lib.hid (fun w h => support8_c fast a2 n2 c2 w h)
        have hfb : farB (m : Int) read fast = (shrS (supS read ||| supS fast) m != 0#16) := rfl
        obtain ⟨s1, hs1⟩ : ∃ s, supS read = s := ⟨_, rfl⟩
        obtain ⟨s2, hs2⟩ : ∃ s, supS fast = s := ⟨_, rfl⟩
        rw [hs1] at HS1 hfb
        rw [hs2] at HS2 hfb
        clear hs1 hs2
        cases hfar : (shrS (s1 ||| s2) m != 0#16)
        · rw [hfar] at hfb
          have hC2 : Hid (fatS m read fast = fatM m (claT read fast)) := by show _ = _; rw [hC.out, if_neg (by rw [hfb]; simp; omega)]; rfl
          have HCL := Lib.hid (fun w h h2 => rclash_c read fast a n c a2 n2 c2 w h h2)
          have hce := HCE.out
          obtain ⟨⟨x, y, r, e⟩, hcl⟩ : ∃ p, claT read fast = p := ⟨_, rfl⟩
          rw [hcl] at HCL hC2 hce
          unfold V4 at HCL
          clear hC hfb hcl HCE
          rcases hce with he | he
          · have he' : e = 0 := he
            subst he'
            cases hyr : (y &&& r == 0#16)
            · have hE : Hid (fatS m read fast = (atkL x y m, r, 0)) := by
                show _ = _
                rw [hC2.out]
                show (if (0 : Int) ≠ 0 then (([] : List ByteArray), 0#16, (0 : Int)) else (atkL (if (y &&& r == 0#16) = true then y else x) y m, r, 0)) = _
                rw [if_neg (by decide), hyr]; rfl
              clear hC2 he
              go_enter Try.func28, Try.ntmps28
              go_wp2_with fail
              refine HB.out.mono ?_
              rintro e w1 ⟨rfl, b1⟩
              go_wp2_with fail
              refine (HS1.out w1 (HR.out.below b1)).mono ?_
              rintro e w2 ⟨rfl, rfl⟩
              go_wp2_with fail
              refine (HS2.out _ (HR2.out.below b1)).mono ?_
              rintro e w2 ⟨rfl, rfl⟩
              go_wp2_with fail
              refine (HCL.out _ (HR.out.below b1) (HR2.out.below b1)).mono ?_
              rintro e w3 ⟨rfl, b3⟩
              have b4 := Below.next b1 b3
              clear HB HS1 HS2 HCL b1 b3
              go_wp2_with fail
              have HB4 := Lib.hid b4
              clear b4
              go_loopw [14, 15] (fun v i wr => ∃ k : Nat, k ≤ m ∧ i = .int .i64 k ∧ wr.ownsRow w.heap.size 9 1 v k ((atkL x y k).map Value.string) ∧ Below w.heap.size w wr) (fun _ i _ => m - (intOf i).toNat)
              case atStart => exact ⟨0, Nat.zero_le _, rfl, World.ownsRow_nil _ _ _ _, HB4.out⟩
              case round =>
                obtain ⟨k, hk, rfl, hown, hb⟩ := hrel
                by_cases hlt : k < m
                · have hs := atkL_succ x y k
                  have hI1 : hasI x (k : Int) = hasB x k := hasI_at _ _ (by omega)
                  have hI2 : hasI y (k : Int) = hasB y k := hasI_at _ _ (by omega)
                  have G1 := Lib.hid (fun W => has_c x _ (k : Int) W rfl)
                  have G2 := Lib.hid (fun W => has_c y _ (k : Int) W rfl)
                  cases h1 : hasB x k
                  · cases h2 : hasB y k
                    · have hv : atkV x y k = ⟨#[]⟩ := by unfold atkV; rw [h1, h2]; rfl
                      rw [hI1, h1] at G1
                      rw [hI2, h2] at G2
                      rw [hv] at hs
                      have HS : Hid ((atkL x y (k + 1)).map Value.string = (atkL x y k).map Value.string ++ [.string ⟨#[]⟩]) := by show _ = _; rw [hs, List.map_append]; rfl
                      clear hs hv
                      go_wp2_with fail
                      refine (G1.out _).mono ?_
                      rintro e w' ⟨rfl, rfl⟩
                      go_wp2_with fail
                      refine (G2.out _).mono ?_
                      rintro e w' ⟨rfl, rfl⟩
                      go_wp2_with (at_builtin; go_must (refine wpList_app _ _ 31 16 (.string ⟨#[]⟩) (.string ⟨#[]⟩) _ Try.underlying31 Try.infoStr rfl hown hb (Nat.le_refl _) rfl rfl rfl rfl rfl (by unfold maxLen; omega) (by omega) ?_))
                      intro v' w4 hown4 hb4 _ _
                      clear hown hb
                      go_wp2_with fail
                      go_roundw
                      case rel => exact ⟨k + 1, by omega, by go_num, by rw [HS.out]; exact hown4, hb4⟩
                      case measure => simp [intOf]; omega
                    · have hv : atkV x y k = ⟨#[121]⟩ := by unfold atkV; rw [h1, h2]; rfl
                      rw [hI1, h1] at G1
                      rw [hI2, h2] at G2
                      rw [hv] at hs
                      have HS : Hid ((atkL x y (k + 1)).map Value.string = (atkL x y k).map Value.string ++ [.string ⟨#[121]⟩]) := by show _ = _; rw [hs, List.map_append]; rfl
                      clear hs hv
                      go_wp2_with fail
                      refine (G1.out _).mono ?_
                      rintro e w' ⟨rfl, rfl⟩
                      go_wp2_with fail
                      refine (G2.out _).mono ?_
                      rintro e w' ⟨rfl, rfl⟩
                      go_wp2_with (at_builtin; go_must (refine wpList_app _ _ 31 16 (.string ⟨#[]⟩) (.string ⟨#[121]⟩) _ Try.underlying31 Try.infoStr rfl hown hb (Nat.le_refl _) rfl rfl rfl rfl rfl (by unfold maxLen; omega) (by omega) ?_))
                      intro v' w4 hown4 hb4 _ _
                      clear hown hb
                      go_wp2_with fail
                      go_roundw
                      case rel => exact ⟨k + 1, by omega, by go_num, by rw [HS.out]; exact hown4, hb4⟩
                      case measure => simp [intOf]; omega
                  · have hv : atkV x y k = ⟨#[120]⟩ := by unfold atkV; rw [h1]; rfl
                    rw [hI1, h1] at G1
                    rw [hv] at hs
                    have HS : Hid ((atkL x y (k + 1)).map Value.string = (atkL x y k).map Value.string ++ [.string ⟨#[120]⟩]) := by show _ = _; rw [hs, List.map_append]; rfl
                    clear hs hv
                    go_wp2_with fail
                    refine (G1.out _).mono ?_
                    rintro e w' ⟨rfl, rfl⟩
                    go_wp2_with (at_builtin; go_must (refine wpList_app _ _ 31 16 (.string ⟨#[]⟩) (.string ⟨#[120]⟩) _ Try.underlying31 Try.infoStr rfl hown hb (Nat.le_refl _) rfl rfl rfl rfl rfl (by unfold maxLen; omega) (by omega) ?_))
                    intro v' w4 hown4 hb4 _ _
                    clear hown hb
                    go_wp2_with fail
                    go_roundw
                    case rel => exact ⟨k + 1, by omega, by go_num, by rw [HS.out]; exact hown4, hb4⟩
                    case measure => simp [intOf]; omega
                · obtain rfl : k = m := by omega
                  obtain ⟨ax, cx, rfl, hrd⟩ := rd_of_row hown
                  have HRD := Lib.hid hrd
                  have HL := Lib.hid (atkL_len x y k)
                  clear hown hrd
                  go_wp2_with fail
                  exact bodyPost_ret (v := .tuple #[.slice ax k cx, .int .u16 (U r), .int .i64 0]) (by simp [results, Try.results28, go_sem]) rfl ⟨_, _, by rw [hE.out]; simp only [HL.out]; rfl, by rw [hE.out]; simp only [HL.out]; exact HRD.out, hb⟩
            · have hE : Hid (fatS m read fast = (atkL y y m, r, 0)) := by
                show _ = _
                rw [hC2.out]
                show (if (0 : Int) ≠ 0 then (([] : List ByteArray), 0#16, (0 : Int)) else (atkL (if (y &&& r == 0#16) = true then y else x) y m, r, 0)) = _
                rw [if_neg (by decide), hyr]; rfl
              clear hC2 he
              go_enter Try.func28, Try.ntmps28
              go_wp2_with fail
              refine HB.out.mono ?_
              rintro e w1 ⟨rfl, b1⟩
              go_wp2_with fail
              refine (HS1.out w1 (HR.out.below b1)).mono ?_
              rintro e w2 ⟨rfl, rfl⟩
              go_wp2_with fail
              refine (HS2.out _ (HR2.out.below b1)).mono ?_
              rintro e w2 ⟨rfl, rfl⟩
              go_wp2_with fail
              refine (HCL.out _ (HR.out.below b1) (HR2.out.below b1)).mono ?_
              rintro e w3 ⟨rfl, b3⟩
              have b4 := Below.next b1 b3
              clear HB HS1 HS2 HCL b1 b3
              go_wp2_with fail
              have HB4 := Lib.hid b4
              clear b4
              go_loopw [14, 15] (fun v i wr => ∃ k : Nat, k ≤ m ∧ i = .int .i64 k ∧ wr.ownsRow w.heap.size 9 1 v k ((atkL y y k).map Value.string) ∧ Below w.heap.size w wr) (fun _ i _ => m - (intOf i).toNat)
              case atStart => exact ⟨0, Nat.zero_le _, rfl, World.ownsRow_nil _ _ _ _, HB4.out⟩
              case round =>
                obtain ⟨k, hk, rfl, hown, hb⟩ := hrel
                by_cases hlt : k < m
                · have hs := atkL_succ y y k
                  have hI1 : hasI y (k : Int) = hasB y k := hasI_at _ _ (by omega)
                  have hI2 : hasI y (k : Int) = hasB y k := hasI_at _ _ (by omega)
                  have G1 := Lib.hid (fun W => has_c y _ (k : Int) W rfl)
                  have G2 := Lib.hid (fun W => has_c y _ (k : Int) W rfl)
                  cases h1 : hasB y k
                  · have hv : atkV y y k = ⟨#[]⟩ := by unfold atkV; rw [h1]; rfl
                    rw [hI1, h1] at G1
                    rw [hI2, h1] at G2
                    rw [hv] at hs
                    have HS : Hid ((atkL y y (k + 1)).map Value.string = (atkL y y k).map Value.string ++ [.string ⟨#[]⟩]) := by show _ = _; rw [hs, List.map_append]; rfl
                    clear hs hv
                    go_wp2_with fail
                    refine (G1.out _).mono ?_
                    rintro e w' ⟨rfl, rfl⟩
                    go_wp2_with fail
                    refine (G2.out _).mono ?_
                    rintro e w' ⟨rfl, rfl⟩
                    go_wp2_with (at_builtin; go_must (refine wpList_app _ _ 31 16 (.string ⟨#[]⟩) (.string ⟨#[]⟩) _ Try.underlying31 Try.infoStr rfl hown hb (Nat.le_refl _) rfl rfl rfl rfl rfl (by unfold maxLen; omega) (by omega) ?_))
                    intro v' w4 hown4 hb4 _ _
                    clear hown hb
                    go_wp2_with fail
                    go_roundw
                    case rel => exact ⟨k + 1, by omega, by go_num, by rw [HS.out]; exact hown4, hb4⟩
                    case measure => simp [intOf]; omega
                  · have hv : atkV y y k = ⟨#[120]⟩ := by unfold atkV; rw [h1]; rfl
                    rw [hI1, h1] at G1
                    rw [hv] at hs
                    have HS : Hid ((atkL y y (k + 1)).map Value.string = (atkL y y k).map Value.string ++ [.string ⟨#[120]⟩]) := by show _ = _; rw [hs, List.map_append]; rfl
                    clear hs hv
                    go_wp2_with fail
                    refine (G1.out _).mono ?_
                    rintro e w' ⟨rfl, rfl⟩
                    go_wp2_with (at_builtin; go_must (refine wpList_app _ _ 31 16 (.string ⟨#[]⟩) (.string ⟨#[120]⟩) _ Try.underlying31 Try.infoStr rfl hown hb (Nat.le_refl _) rfl rfl rfl rfl rfl (by unfold maxLen; omega) (by omega) ?_))
                    intro v' w4 hown4 hb4 _ _
                    clear hown hb
                    go_wp2_with fail
                    go_roundw
                    case rel => exact ⟨k + 1, by omega, by go_num, by rw [HS.out]; exact hown4, hb4⟩
                    case measure => simp [intOf]; omega
                · obtain rfl : k = m := by omega
                  obtain ⟨ax, cx, rfl, hrd⟩ := rd_of_row hown
                  have HRD := Lib.hid hrd
                  have HL := Lib.hid (atkL_len y y k)
                  clear hown hrd
                  go_wp2_with fail
                  exact bodyPost_ret (v := .tuple #[.slice ax k cx, .int .u16 (U r), .int .i64 0]) (by simp [results, Try.results28, go_sem]) rfl ⟨_, _, by rw [hE.out]; simp only [HL.out]; rfl, by rw [hE.out]; simp only [HL.out]; exact HRD.out, hb⟩
          · have he' : e = 13 := he
            subst he'
            have hE : Hid (fatS m read fast = ([], 0#16, 13)) := by show _ = _; rw [hC2.out]; rfl
            clear hC2 he
            go_enter Try.func28, Try.ntmps28
            go_wp2_with fail
            refine HB.out.mono ?_
            rintro e w1 ⟨rfl, b1⟩
            go_wp2_with fail
            refine (HS1.out w1 (HR.out.below b1)).mono ?_
            rintro e w2 ⟨rfl, rfl⟩
            go_wp2_with fail
            refine (HS2.out _ (HR2.out.below b1)).mono ?_
            rintro e w2 ⟨rfl, rfl⟩
            go_wp2_with fail
            refine (HCL.out _ (HR.out.below b1) (HR2.out.below b1)).mono ?_
            rintro e w3 ⟨rfl, b3⟩
            go_wp2_with fail
            exact bodyPost_ret (v := .tuple #[.slice none 0 0, .int .u16 (U 0#16), .int .i64 13]) (by simp [results, Try.results28, go_sem]) rfl ⟨none, 0, by rw [hE.out]; rfl, by rw [hE.out]; exact Rd.none_ _, Below.next b1 b3⟩
        · rw [hfar] at hfb
          have hE : Hid (fatS m read fast = ([], 0#16, 7)) := by show _ = _; rw [hC.out, if_pos (.inr (.inr hfb))]
          clear hC hfb
          go_enter Try.func28, Try.ntmps28
          go_wp2_with fail
          refine HB.out.mono ?_
          rintro e w1 ⟨rfl, b1⟩
          go_wp2_with fail
          refine (HS1.out w1 (HR.out.below b1)).mono ?_
          rintro e w2 ⟨rfl, rfl⟩
          go_wp2_with fail
          refine (HS2.out _ (HR2.out.below b1)).mono ?_
          rintro e w2 ⟨rfl, rfl⟩
          go_wp2_with fail
          exact bodyPost_ret (v := .tuple #[.slice none 0 0, .int .u16 (U 0#16), .int .i64 7]) (by simp [results, Try.results28, go_sem]) rfl ⟨none, 0, by rw [hE.out]; rfl, by rw [hE.out]; exact Rd.none_ _, b1⟩
  · have hE : Hid (fatS nn read fast = ([], 0#16, botS read fast)) := by show _ = _; unfold fatS; rw [if_pos hbo]
    obtain ⟨v, hv⟩ : ∃ v, botS read fast = v := ⟨_, rfl⟩
    rw [hv] at HB hE hbo
    have hv1 : (v != 0) = true := by simpa using hbo
    clear hv hbo
    go_enter Try.func28, Try.ntmps28
    go_wp2_with fail
    refine HB.out.mono ?_
    rintro e w1 ⟨rfl, b1⟩
    go_wp2_with fail
    exact bodyPost_ret (v := .tuple #[.slice none 0 0, .int .u16 (U 0#16), .int .i64 v]) (by simp [results, Try.results28, go_sem]) rfl ⟨none, 0, by rw [hE.out]; rfl, by rw [hE.out]; exact Rd.none_ _, b1⟩

end Go.Proofs.Ytopcejcfghdeeaa
