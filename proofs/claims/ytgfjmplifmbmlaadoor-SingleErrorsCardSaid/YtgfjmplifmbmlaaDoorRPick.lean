/- The reference's Pick. -/
import Derived.Test.YtgfjmplifmbmlaaDoorPick2
namespace Go.Proofs.YtgfjmplifmbmlaaDoor
open Go.RowKit Go.Shelf

theorem step_le {p : Int × ByteArray} {r : Rep} (h : r.ballot ≤ p.1) : stepR p r = p := by unfold stepR; rw [if_neg (by omega)]
theorem step_gt {p : Int × ByteArray} {r : Rep} (h : p.1 < r.ballot) : stepR p r = (r.ballot, r.value) := by unfold stepR; rw [if_pos h]

set_option maxRecDepth 100000 in
set_option maxHeartbeats 4000000 in
theorem rPick_c (read : List (BitVec 16)) (bal : Int) (l : List Rep) (a : Option Addr) (n c : Nat) (a2 : Option Addr) (n2 c2 : Nat) (w : World) (h : Rd w a n c (read.map setV2)) (h2 : RdK 3 w a2 n2 c2 (l.flatMap repC)) :
    Calls Tryd.prog 14 #[.slice a n c, .int .i64 bal, .slice a2 n2 c2] w fun e w' => e = .returned (.tuple #[.string (pickS read bal l).1, .int .i64 (pickS read bal l).2]) ∧ Below w.heap.size w w' := by
  have hnl : l.length = n2 := by have := h2.len; rw [flat_len 3 repC repC_len] at this; omega
  have hm := h2.max
  have hle := h2.le
  unfold maxLen at hm
  have HR := Lib.hid h
  have HR2 := Lib.hid h2
  have HN := Lib.hid hnl
  clear h h2 hnl
  by_cases hb1 : bal < 1
  · have hP : Hid (pickS read bal l = (⟨#[]⟩, 1)) := by show _ = _; unfold pickS; rw [if_pos hb1]
    go_enter Tryd.func14, Tryd.ntmps14
    go_wp2_with fail
    go_ret2
    exact ⟨by rw [hP.out]; rfl, Below.refl _ _⟩
  · have HB1 := Lib.hid (show 1 ≤ bal by omega)
    go_enter Tryd.func14, Tryd.ntmps14
    go_wp2_with fail
    go_loopw [8, 9] (fun v i wr => ∃ (k : Nat) (s : BitVec 16), k ≤ n2 ∧ i = .int .i64 k ∧ v = .int .u16 (U s) ∧ Hid (s = seenR (l.take k)) ∧ Hid (invR bal 0#16 (l.take k) = false) ∧ Below w.heap.size w wr) (fun _ i _ => n2 - (intOf i).toNat)
    case atStart => exact ⟨0, 0#16, Nat.zero_le _, rfl, rfl, rfl, rfl, Below.refl _ _⟩
    case round =>
      obtain ⟨k, s, hk, rfl, rfl, hs, hinv, hb⟩ := hrel
      have hsz := hb.size
      by_cases hlt : k < n2
      · obtain ⟨r, hr⟩ : ∃ r, l[k]? = some r := ⟨l[k]'(by have := HN.out; omega), List.getElem?_eq_getElem _⟩
        obtain ⟨b, o, ha, hcell⟩ := RdK.cells (HR2.out.below hb) repC_len (by omega)
        have hc0 : wr.cell? ⟨b, o + k * 3, none⟩ = some (.int .i64 r.server) := hcell k r hr 0 (by omega)
        have hc1 : wr.cell? ⟨b, o + k * 3 + 1, none⟩ = some (.int .i64 r.ballot) := hcell k r hr 1 (by omega)
        have hc2 : wr.cell? ⟨b, o + k * 3 + 2, none⟩ = some (.string r.value) := hcell k r hr 2 (by omega)
        have HS := Lib.hid (seenR_take hr)
        obtain ⟨hi1, hi2⟩ := invR_take hr hinv.out
        rw [← hs.out] at hi1 hi2
        have HI1 := Lib.hid hi1
        have HI2 := Lib.hid (fun hb => pickS_inv (read := read) HB1.out (hi2 hb))
        have hbad : Hid (badR bal s r = (decide (r.server < 0) || decide (12 ≤ r.server) || decide (r.ballot < 0) || decide (bal ≤ r.ballot) || hasB s r.server.toNat)) := rfl
        have hsee : Hid (seeR s r = s ||| bitS r.server.toNat) := rfl
        obtain ⟨rs, hrs⟩ : ∃ x, r.server = x := ⟨_, rfl⟩
        obtain ⟨rb, hrb⟩ : ∃ x, r.ballot = x := ⟨_, rfl⟩
        obtain ⟨rv, hrv⟩ : ∃ x, r.value = x := ⟨_, rfl⟩
        rw [hrs] at hc0 hbad hsee
        rw [hrb] at hc1 hbad
        rw [hrv] at hc2
        subst ha
        clear hcell hrs hrb hrv hr hi1 hi2
        by_cases g1 : rs < 0
        · have hP : Hid (pickS read bal l = (⟨#[]⟩, 1)) := HI2.out (by rw [hbad.out]; simp [g1])
          clear HI1 HI2 hbad hsee HS
          go_wp2_with fail
          go_ret2
          exact ⟨by rw [hP.out]; rfl, hb.alloc hsz _⟩
        · by_cases g2 : 12 ≤ rs
          · have hP : Hid (pickS read bal l = (⟨#[]⟩, 1)) := HI2.out (by rw [hbad.out]; simp [g2])
            clear HI1 HI2 hbad hsee HS
            go_wp2_with fail
            go_ret2
            exact ⟨by rw [hP.out]; rfl, hb.alloc hsz _⟩
          · by_cases g3 : rb < 0
            · have hP : Hid (pickS read bal l = (⟨#[]⟩, 1)) := HI2.out (by rw [hbad.out]; simp [g3])
              clear HI1 HI2 hbad hsee HS
              go_wp2_with fail
              go_ret2
              exact ⟨by rw [hP.out]; rfl, hb.alloc hsz _⟩
            · by_cases g4 : bal ≤ rb
              · have hP : Hid (pickS read bal l = (⟨#[]⟩, 1)) := HI2.out (by rw [hbad.out]; simp [g4])
                clear HI1 HI2 hbad hsee HS
                go_wp2_with fail
                go_ret2
                exact ⟨by rw [hP.out]; rfl, hb.alloc hsz _⟩
              · obtain ⟨m, rfl⟩ := Int.eq_ofNat_of_zero_le (by omega : 0 ≤ rs)
                cases g5 : hasB s m
                · have hnb : Hid (badR bal s r = false) := by show _ = _; rw [hbad.out]; simp [g3, g4, g5]; omega
                  have hinv' : Hid (invR bal 0#16 (l.take (k + 1)) = false) := by show _ = _; rw [HI1.out, hnb.out]
                  clear HI1 HI2 hbad hnb hinv
                  go_wp2_with fail
                  go_roundw
                  case rel => exact ⟨k + 1, s ||| bitS m, by omega, by go_num, rfl, by show _ = _; rw [HS.out, ← hs.out, hsee.out]; rfl, hinv', hb.alloc hsz _⟩
                  case measure => simp [intOf]; omega
                · have hP : Hid (pickS read bal l = (⟨#[]⟩, 1)) := HI2.out (by rw [hbad.out]; simp [g5])
                  clear HI1 HI2 hbad hsee HS
                  go_wp2_with fail
                  go_ret2
                  exact ⟨by rw [hP.out]; rfl, hb.alloc hsz _⟩
      · have hE : Hid (l.take k = l) := List.take_of_length_le (by have := HN.out; omega)
        rw [hE.out] at hinv
        have hs2 : Hid (s = seenR l) := by show _ = _; rw [hs.out, hE.out]
        have HA := Lib.hid (accepts8_c read s a n c wr (HR.out.below hb))
        clear hs hE
        cases hacc : accS read s
        · have hP : Hid (pickS read bal l = (⟨#[]⟩, 10)) := pickS_state HB1.out hinv.out (by rw [← hs2.out]; exact hacc)
          rw [hacc] at HA
          clear hacc hinv
          go_wp2_with fail
          refine HA.out.mono ?_
          rintro e w3 ⟨rfl, rfl⟩
          go_wp2_with fail
          go_ret2
          exact ⟨by rw [hP.out]; rfl, hb⟩
        · have hacc2 : Hid (accS read (seenR l) = true) := by show _ = _; rw [← hs2.out]; exact hacc
          rw [hacc] at HA
          clear hacc
          go_wp2_with fail
          refine HA.out.mono ?_
          rintro e w3 ⟨rfl, rfl⟩
          go_wp2_with fail
          go_loopw [11, 12] (fun v i wr => ∃ (k : Nat), k ≤ n2 ∧ i = .int .i64 k ∧ ((v = .int .i64 (-1) ∧ Hid ((bestR (l.take k)).1 = 0)) ∨ ∃ (j : Nat) (q : Rep), v = .int .i64 j ∧ j < k ∧ Hid (l[j]? = some q ∧ bestR (l.take k) = (q.ballot, q.value) ∧ 0 < q.ballot)) ∧ Below w.heap.size w wr) (fun _ i _ => n2 - (intOf i).toNat)
          case atStart => exact ⟨0, Nat.zero_le _, rfl, .inl ⟨rfl, rfl⟩, hb⟩
          case round =>
            clear hb HA hsz
            obtain ⟨i, hi, rfl, hv, hb⟩ := hrel
            by_cases hlt2 : i < n2
            · obtain ⟨r, hr⟩ : ∃ r, l[i]? = some r := ⟨l[i]'(by have := HN.out; omega), List.getElem?_eq_getElem _⟩
              obtain ⟨b, o, ha, hcell⟩ := RdK.cells (HR2.out.below hb) repC_len (by omega)
              have HCELL := Lib.hid hcell
              have hc1 : wr.cell? ⟨b, o + i * 3 + 1, none⟩ = some (.int .i64 r.ballot) := hcell i r hr 1 (by omega)
              have HB := Lib.hid (bestR_take hr)
              have HRR := Lib.hid hr
              obtain ⟨rb, hrb⟩ : ∃ x, r.ballot = x := ⟨_, rfl⟩
              rw [hrb] at hc1
              have HRB := Lib.hid hrb
              subst ha
              clear hcell hr hrb
              rcases hv with ⟨rfl, h0⟩ | ⟨j, q, rfl, hj, hq⟩
              · by_cases hgt : 0 < rb
                · go_wp2_with fail
                  go_quiet (fail)
                  go_wp2_with fail
                  go_roundw
                  case rel => exact ⟨i + 1, by omega, by go_num, .inr ⟨i, r, rfl, by omega, ⟨HRR.out, by rw [HB.out, step_gt (by rw [h0.out, HRB.out]; exact hgt)], by rw [HRB.out]; exact hgt⟩⟩, below_drewN hb⟩
                  case measure => simp [intOf]; omega
                · have hd : decide (0 < rb) = false := decide_eq_false hgt
                  have HG := Lib.hid (show rb ≤ 0 by omega)
                  clear hgt
                  go_wp2_with fail
                  go_quiet (fail)
                  go_wp2_with fail
                  go_roundw
                  case rel => exact ⟨i + 1, by omega, by go_num, .inl ⟨rfl, by show _ = _; rw [HB.out, step_le (by rw [h0.out, HRB.out]; exact HG.out)]; exact h0.out⟩, below_drewN hb⟩
                  case measure => simp [intOf]; omega
              · have hj2 : j < n2 := by omega
                have hc2 : wr.cell? ⟨b, o + j * 3 + 1, none⟩ = some (.int .i64 q.ballot) := HCELL.out j q hq.out.1 1 (by omega)
                obtain ⟨qb, hqb⟩ : ∃ x, q.ballot = x := ⟨_, rfl⟩
                rw [hqb] at hc2
                have HQB := Lib.hid hqb
                have hq0 : 0 < qb := by rw [← hqb]; exact hq.out.2.2
                have HQ0 := Lib.hid hq0
                clear hqb hq0
                by_cases hgt : qb < rb
                · have h0 : 0 < rb := by have := HQ0.out; omega
                  go_wp2_with fail
                  go_quiet (fail)
                  go_wp2_with fail
                  go_roundw
                  case rel => exact ⟨i + 1, by omega, by go_num, .inr ⟨i, r, rfl, by omega, ⟨HRR.out, by rw [HB.out, step_gt (by rw [hq.out.2.1, HRB.out]; show q.ballot < rb; rw [HQB.out]; exact hgt)], by rw [HRB.out]; exact h0⟩⟩, below_drewN hb⟩
                  case measure => simp [intOf]; omega
                · have HG := Lib.hid (show rb ≤ qb by omega)
                  have hd2 : decide (qb < rb) = false := decide_eq_false hgt
                  clear hgt
                  by_cases h0 : 0 < rb
                  · go_wp2_with fail
                    go_quiet (fail)
                    go_wp2_with fail
                    go_roundw
                    case rel => exact ⟨i + 1, by omega, by go_num, .inr ⟨j, q, rfl, by omega, ⟨hq.out.1, by rw [HB.out, step_le (by rw [hq.out.2.1, HRB.out]; show rb ≤ q.ballot; rw [HQB.out]; exact HG.out)]; exact hq.out.2.1, hq.out.2.2⟩⟩, below_drewN hb⟩
                    case measure => simp [intOf]; omega
                  · have hd : decide (0 < rb) = false := decide_eq_false h0
                    clear h0
                    go_wp2_with fail
                    go_quiet (fail)
                    go_wp2_with fail
                    go_roundw
                    case rel => exact ⟨i + 1, by omega, by go_num, .inr ⟨j, q, rfl, by omega, ⟨hq.out.1, by rw [HB.out, step_le (by rw [hq.out.2.1, HRB.out]; show rb ≤ q.ballot; rw [HQB.out]; exact HG.out)]; exact hq.out.2.1, hq.out.2.2⟩⟩, below_drewN hb⟩
                    case measure => simp [intOf]; omega
            · have hE : Hid (l.take i = l) := List.take_of_length_le (by have := HN.out; omega)
              rcases hv with ⟨rfl, h0⟩ | ⟨j, q, rfl, hj, hq⟩
              · have hP : Hid (pickS read bal l = (⟨#[]⟩, 4)) := pickS_none HB1.out hinv.out hacc2.out (by rw [← hE.out]; exact h0.out)
                clear h0 hE
                go_wp2_with fail
                go_ret2
                exact ⟨by rw [hP.out]; rfl, hb⟩
              · have hj2 : j < n2 := by omega
                have hP : Hid (pickS read bal l = (q.value, 0)) := by
                  show _ = _
                  have e := hq.out.2.1
                  rw [hE.out] at e
                  rw [pickS_some HB1.out hinv.out hacc2.out (by rw [e]; show q.ballot ≠ 0; have := hq.out.2.2; omega), e]
                obtain ⟨b, o, ha, hcell⟩ := RdK.cells (HR2.out.below hb) repC_len (by omega)
                have hc2 : wr.cell? ⟨b, o + j * 3 + 2, none⟩ = some (.string q.value) := hcell j q hq.out.1 2 (by omega)
                obtain ⟨qv, hqv⟩ : ∃ x, q.value = x := ⟨_, rfl⟩
                rw [hqv] at hc2 hP
                subst ha
                clear hcell hqv hq hE
                go_wp2_with fail
                go_ret2
                exact ⟨by rw [hP.out]; rfl, hb⟩
end Go.Proofs.YtgfjmplifmbmlaaDoor
