/- The reference's Valid of layer 8. -/
import Derived.Test.YtopcejcfghdeeaaR8
import Derived.IntWalk
namespace Go.Proofs.Ytopcejcfghdeeaa
open Go.RowKit Go.Shelf

theorem bef_cmp (x y : BitVec 16) : befB x y = decide (cmpS x y < 0) := by
  unfold befB
  rw [Bool.eq_iff_iff, decide_eq_true_iff, decide_eq_true_iff]
  exact (cmpS_key x y).2.symm

set_option maxRecDepth 100000 in
set_option maxHeartbeats 2000000 in
theorem valid8_c (l : List (BitVec 16)) (a : Option Addr) (n c : Nat) (w : World) (h : Rd w a n c (l.map setV2)) :
    Calls Try.prog 33 #[.slice a n c] w fun e w' => e = .returned (.int .i64 (valS l)) ∧ Below w.heap.size w w' := by
  have hnl : l.length = n := by have := h.len; simp at this; omega
  have hm := h.max
  have hle := h.le
  unfold maxLen at hm
  have HR := Lib.hid h
  have HN := Lib.hid hnl
  clear h hnl
  by_cases h400 : (400 : Int) < (n : Int)
  · have hV : Hid (valS l = 3) := by show _ = _; unfold valS; rw [if_pos (by have := HN.out; omega)]
    go_enter Try.func33, Try.ntmps33
    go_wp2_with fail
    go_ret
    exact ⟨by rw [hV.out]; rfl, Below.refl _ _⟩
  · have hd4 : decide ((400 : Int) < (n : Int)) = false := by simpa using h400
    have h400' : Hid (¬ 400 < l.length) := by show ¬ _; have := HN.out; omega
    clear h400
    go_enter Try.func33, Try.ntmps33
    go_wp2_with fail
    go_loopw [3] (fun i wr => ∃ k : Nat, k ≤ n ∧ i = .int .i64 k ∧ Hid (∀ j, j < k → e1 l j = 0) ∧ Below w.heap.size w wr) (fun i _ => n - (intOf i).toNat)
    case atStart => exact ⟨0, Nat.zero_le _, rfl, Lib.hid (fun j hj => by omega), Below.refl _ _⟩
    case round =>
      obtain ⟨k, hk, rfl, hno, hb⟩ := hrel
      by_cases hlt : k < n
      · obtain ⟨b, o, ha, hcell⟩ := (HR.out.below hb).at' (by omega)
        have hc := hcell k _ (at_cell (by have := HN.out; omega))
        have hlen : Hid (k < l.length) := by show k < _; have := HN.out; omega
        subst ha
        have HG := Lib.hid (range8_c (l.getD k 0#16) wr)
        by_cases ho : 4096 ≤ U (l.getD k 0#16)
        · have hV : Hid (valS l = 7) := by show _ = _; rw [valS_first h400'.out hlen.out hno.out (by rw [e1_out ho]; decide), e1_out ho]
          have ho1 : decide (U (l.getD k 0#16) < 4096) = false := decide_eq_false (by omega)
          obtain ⟨x, hx⟩ : ∃ x, l.getD k 0#16 = x := ⟨_, rfl⟩
          rw [hx] at ho ho1 hc HG
          rw [ho1] at HG
          clear hcell hx ho hno ho1
          go_wp2_with fail
          refine HG.out.mono ?_
          rintro e w1 ⟨rfl, rfl⟩
          go_wp2_with fail
          go_ret
          exact ⟨by rw [hV.out]; rfl, hb⟩
        · have ho1 : decide (U (l.getD k 0#16) < 4096) = true := decide_eq_true (by omega)
          rw [ho1] at HG
          clear ho1
          cases k with
          | zero =>
            have hno' : Hid (∀ j, j < 0 + 1 → e1 l j = 0) := Lib.hid (fun j hj => by obtain rfl : j = 0 := (by omega); exact e1_zero0 ho)
            obtain ⟨x, hx⟩ : ∃ x, l.getD 0 0#16 = x := ⟨_, rfl⟩
            rw [hx] at hc HG
            rw [Nat.add_zero] at hc
            clear hcell hx ho hno
            go_wp2_with fail
            refine HG.out.mono ?_
            rintro e w1 ⟨rfl, rfl⟩
            go_wp2_with fail
            go_quiet (fail)
            go_wp2_with fail
            go_roundw
            case rel => exact ⟨0 + 1, by omega, rfl, hno', below_drewN hb⟩
            case measure => simp [intOf]; omega
          | succ k =>
            have hc0 := hcell k _ (at_cell (by have := hlen.out; omega))
            have he := e1_next ho
            have hbc := bef_cmp (l.getD k 0#16) (l.getD (k + 1) 0#16)
            have q1 : IntKind.i64.wrap (((k + 1 : Nat) : Int) - 1) = (k : Int) := by rw [IntWalk.i64_in _ (by omega)]; omega
            by_cases hcmp : 0 ≤ cmpS (l.getD k 0#16) (l.getD (k + 1) 0#16)
            · rw [if_pos hcmp] at he
              have hV : Hid (valS l = 1) := by show _ = _; rw [valS_first h400'.out hlen.out hno.out (by rw [he]; decide), he]
              rw [decide_eq_false (by omega)] at hbc
              obtain ⟨x, hx⟩ : ∃ x, l.getD k 0#16 = x := ⟨_, rfl⟩
              obtain ⟨y, hy⟩ : ∃ y, l.getD (k + 1) 0#16 = y := ⟨_, rfl⟩
              have HC := Lib.hid (fun w => before8_c x y w)
              rw [hx, hy] at hbc
              rw [hbc] at HC
              rw [hx] at hc0
              rw [hy] at hc HG
              clear hcell hx hy ho hno he hcmp hbc
              go_wp2_with fail
              refine HG.out.mono ?_
              rintro e w1 ⟨rfl, rfl⟩
              go_wp2_with fail
              go_quiet ((go_at_call 58; exact Calls.quiet_of_same (HC.out _)))
              go_wp2_with fail
              go_ret
              exact ⟨by rw [hV.out]; rfl, below_drewN hb⟩
            · rw [if_neg hcmp] at he
              rw [decide_eq_true (by omega)] at hbc
              have hno' : Hid (∀ j, j < k + 1 + 1 → e1 l j = 0) := Lib.hid (fun j hj => by
                by_cases h1 : j < k + 1
                · exact hno.out j h1
                · obtain rfl : j = k + 1 := by omega
                  exact he)
              obtain ⟨x, hx⟩ : ∃ x, l.getD k 0#16 = x := ⟨_, rfl⟩
              obtain ⟨y, hy⟩ : ∃ y, l.getD (k + 1) 0#16 = y := ⟨_, rfl⟩
              have HC := Lib.hid (fun w => before8_c x y w)
              rw [hx, hy] at hbc
              rw [hbc] at HC
              rw [hx] at hc0
              rw [hy] at hc HG
              clear hcell hx hy ho hno he hcmp hbc
              go_wp2_with fail
              refine HG.out.mono ?_
              rintro e w1 ⟨rfl, rfl⟩
              go_wp2_with fail
              go_quiet ((go_at_call 58; exact Calls.quiet_of_same (HC.out _)))
              go_wp2_with fail
              go_roundw
              case rel => exact ⟨k + 1 + 1, by omega, by go_num, hno', below_drewN hb⟩
              case measure => simp [intOf]; omega
      · have hall : Hid (∀ j, j < l.length → e1 l j = 0) := Lib.hid (fun j hj => hno.out j (by have := HN.out; omega))
        clear hno
        go_wp2_with fail
        go_loopw [4] (fun i wr => ∃ k : Nat, k ≤ n ∧ i = .int .i64 k ∧ Hid (∀ i, i < k → ∀ j, j < l.length → i ≠ j → subB (l.getD i 0#16) (l.getD j 0#16) = false) ∧ Below w.heap.size w wr) (fun i _ => n - (intOf i).toNat)
        case atStart => exact ⟨0, Nat.zero_le _, rfl, Lib.hid (fun j hj => by omega), hb⟩
        case round =>
          clear hb
          obtain ⟨i, hi, rfl, hno, hb⟩ := hrel
          by_cases hlt2 : i < n
          · go_wp2_with fail
            go_loopw [5] (fun v wr => ∃ k : Nat, k ≤ n ∧ v = .int .i64 k ∧ Hid (∀ j, j < k → i ≠ j → subB (l.getD i 0#16) (l.getD j 0#16) = false) ∧ Below w.heap.size w wr) (fun v _ => n - (intOf v).toNat)
            case atStart => exact ⟨0, Nat.zero_le _, rfl, Lib.hid (fun j hj => by omega), hb⟩
            case round =>
              clear hb
              obtain ⟨j, hj, rfl, hno2, hb⟩ := hrel
              by_cases hlt3 : j < n
              · by_cases hij : i = j
                · subst hij
                  have hno3 : Hid (∀ j, j < i + 1 → i ≠ j → subB (l.getD i 0#16) (l.getD j 0#16) = false) := Lib.hid (fun j hj hne => hno2.out j (by omega) hne)
                  clear hno2
                  go_wp2_with fail
                  go_quiet (fail)
                  go_wp2_with fail
                  go_roundw
                  case rel => exact ⟨i + 1, by omega, by go_num, hno3, below_drewN hb⟩
                  case measure => simp [intOf]; omega
                · obtain ⟨b, o, ha, hcell⟩ := (HR.out.below hb).at' (by omega)
                  have hc := hcell i _ (at_cell (by have := HN.out; omega))
                  have hc2 := hcell j _ (at_cell (by have := HN.out; omega))
                  subst ha
                  have hne : ((i : Int) != (j : Int)) = true := by rw [bne_iff_ne]; omega
                  have HC := Lib.hid (fun w => contains8_c (l.getD i 0#16) (l.getD j 0#16) w)
                  cases hq : subB (l.getD i 0#16) (l.getD j 0#16)
                  · have hno3 : Hid (∀ j', j' < j + 1 → i ≠ j' → subB (l.getD i 0#16) (l.getD j' 0#16) = false) := Lib.hid (fun j' hj hne => by
                      by_cases h1 : j' < j
                      · exact hno2.out j' h1 hne
                      · obtain rfl : j' = j := by omega
                        exact hq)
                    rw [hq] at HC
                    obtain ⟨x, hx⟩ : ∃ x, l.getD i 0#16 = x := ⟨_, rfl⟩
                    obtain ⟨y, hy⟩ : ∃ y, l.getD j 0#16 = y := ⟨_, rfl⟩
                    rw [hx, hy] at HC
                    rw [hx] at hc
                    rw [hy] at hc2
                    clear hno2 hcell hq hx hy hij
                    go_wp2_with fail
                    go_quiet ((go_at_call 59; exact Calls.quiet_of_same (HC.out _)))
                    go_wp2_with fail
                    go_roundw
                    case rel => exact ⟨j + 1, by omega, by go_num, hno3, below_drewN hb⟩
                    case measure => simp [intOf]; omega
                  · have hV : Hid (valS l = 1) := by
                      show _ = _
                      rw [valS_over h400'.out hall.out, if_pos]
                      exact (overB_any hall.out).2 ⟨i, j, by have := HN.out; omega, by have := HN.out; omega, hij, hq⟩
                    rw [hq] at HC
                    obtain ⟨x, hx⟩ : ∃ x, l.getD i 0#16 = x := ⟨_, rfl⟩
                    obtain ⟨y, hy⟩ : ∃ y, l.getD j 0#16 = y := ⟨_, rfl⟩
                    rw [hx, hy] at HC
                    rw [hx] at hc
                    rw [hy] at hc2
                    clear hno2 hcell hq hx hy hij
                    go_wp2_with fail
                    go_quiet ((go_at_call 59; exact Calls.quiet_of_same (HC.out _)))
                    go_wp2_with fail
                    go_ret
                    exact ⟨by rw [hV.out]; rfl, below_drewN hb⟩
              · have hno3 : Hid (∀ i', i' < i + 1 → ∀ j, j < l.length → i' ≠ j → subB (l.getD i' 0#16) (l.getD j 0#16) = false) := Lib.hid (fun i' hi' j' hj' hne => by
                  by_cases h1 : i' < i
                  · exact hno.out i' h1 j' hj' hne
                  · obtain rfl : i' = i := by omega
                    exact hno2.out j' (by have := HN.out; omega) hne)
                clear hno hno2
                go_wp2_with fail
                go_roundw
                case rel => exact ⟨i + 1, by omega, by go_num, hno3, hb⟩
                case measure => simp [intOf]; omega
          · have hV : Hid (valS l = 0) := by
              show _ = _
              rw [valS_over h400'.out hall.out, if_neg]
              intro hc
              obtain ⟨i', j', h1, h2, h3, h4⟩ := (overB_any hall.out).1 hc
              rw [hno.out i' (by have := HN.out; omega) j' h2 h3] at h4; cases h4
            clear hno
            go_wp2_with fail
            go_ret
            exact ⟨by rw [hV.out]; rfl, hb⟩
end Go.Proofs.Ytopcejcfghdeeaa
