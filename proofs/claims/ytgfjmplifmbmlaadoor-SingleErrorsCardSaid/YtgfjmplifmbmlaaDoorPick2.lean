/- single.Pick. -/
import Derived.Test.YtgfjmplifmbmlaaDoorPick
namespace Go.Proofs.YtgfjmplifmbmlaaDoor
open Go.RowKit Go.Shelf

def noB : ByteArray := ⟨#[]⟩
theorem pickS_inv {read : List (BitVec 16)} {b : Int} {l : List Rep} (hb : 1 ≤ b) (h : invR b 0#16 l = true) : pickS read b l = (⟨#[]⟩, 1) := by
  unfold pickS; rw [if_neg (by omega), if_pos h]
theorem pickS_state {read : List (BitVec 16)} {b : Int} {l : List Rep} (hb : 1 ≤ b) (h : invR b 0#16 l = false) (ha : accS read (seenR l) = false) : pickS read b l = (⟨#[]⟩, 10) := by
  unfold pickS; rw [if_neg (by omega), if_neg (by rw [h]; decide), if_pos ha]
theorem pickS_none {read : List (BitVec 16)} {b : Int} {l : List Rep} (hb : 1 ≤ b) (h : invR b 0#16 l = false) (ha : accS read (seenR l) = true) (h0 : (bestR l).1 = 0) : pickS read b l = (⟨#[]⟩, 4) := by
  unfold pickS; rw [if_neg (by omega), if_neg (by rw [h]; decide), if_neg (by rw [ha]; decide), if_pos h0]
theorem pickS_some {read : List (BitVec 16)} {b : Int} {l : List Rep} (hb : 1 ≤ b) (h : invR b 0#16 l = false) (ha : accS read (seenR l) = true) (h0 : (bestR l).1 ≠ 0) : pickS read b l = ((bestR l).2, 0) := by
  unfold pickS; rw [if_neg (by omega), if_neg (by rw [h]; decide), if_neg (by rw [ha]; decide), if_neg h0]

set_option maxRecDepth 100000 in
set_option maxHeartbeats 4000000 in
theorem Pick_c (read : List (BitVec 16)) (bal : Int) (l : List Rep) (a : Option Addr) (n c : Nat) (a2 : Option Addr) (n2 c2 : Nat) (w : World) (h : Rd w a n c (read.map setV2)) (h2 : RdK 3 w a2 n2 c2 (l.flatMap repC)) :
    Calls Tryd.prog 11 #[.slice a n c, .int .i64 bal, .slice a2 n2 c2] w fun e w' => e = .returned (.tuple #[.string (pickS read bal l).1, .int .i64 (pickS read bal l).2]) ∧ Below w.heap.size w w' := by
  have hnl : l.length = n2 := by have := h2.len; rw [flat_len 3 repC repC_len] at this; omega
  have hm := h2.max
  have hle := h2.le
  unfold maxLen at hm
  have HR := Lib.hid h
  have HR2 := Lib.hid h2
  have HN := Lib.hid hnl
  clear h h2 hnl
  by_cases hb1 : bal < 1
  · have hP : Hid (pickS read bal l = (⟨#[]⟩, 1)) := by show _ = _; unfold pickS; rw [if_pos hb1]
    go_enter Tryd.func11, Tryd.ntmps11
    go_wp2_with fail
    go_ret2
    exact ⟨by rw [hP.out]; rfl, Below.refl _ _⟩
  · have HB1 := Lib.hid (show 1 ≤ bal by omega)
    go_enter Tryd.func11, Tryd.ntmps11
    go_wp2_with fail
    go_loopw [8, 17] (fun v i wr => ∃ (k : Nat) (s : BitVec 16), k ≤ n2 ∧ i = .int .i64 k ∧ v = .int .u16 (U s) ∧ Hid (s = seenR (l.take k)) ∧ Hid (invR bal 0#16 (l.take k) = false) ∧ Below w.heap.size w wr) (fun _ i _ => n2 - (intOf i).toNat)
    case atStart => exact ⟨0, 0#16, Nat.zero_le _, rfl, rfl, rfl, rfl, Below.refl _ _⟩
    case round =>
      obtain ⟨k, s, hk, rfl, rfl, hs, hinv, hb⟩ := hrel
      have hsz := hb.size
      by_cases hlt : k < n2
      · obtain ⟨r, hr⟩ : ∃ r, l[k]? = some r := ⟨l[k]'(by have := HN.out; omega), List.getElem?_eq_getElem _⟩
        obtain ⟨b, o, ha, hcell⟩ := RdK.cells (HR2.out.below hb) repC_len (by omega)
        have hc0 : wr.cell? ⟨b, o + k * 3, none⟩ = some (.int .i64 r.server) := hcell k r hr 0 (by omega)
        have hc1 : wr.cell? ⟨b, o + k * 3 + 1, none⟩ = some (.int .i64 r.ballot) := hcell k r hr 1 (by omega)
        have hc2 : wr.cell? ⟨b, o + k * 3 + 2, none⟩ = some (.string r.value) := hcell k r hr 2 (by omega)
        have HS := Lib.hid (seenR_take hr)
        obtain ⟨hi1, hi2⟩ := invR_take hr hinv.out
        rw [← hs.out] at hi1 hi2
        have HI1 := Lib.hid hi1
        have HI2 := Lib.hid (fun hb => pickS_inv (read := read) HB1.out (hi2 hb))
        have hbad : Hid (badR bal s r = (decide (r.server < 0) || decide (12 ≤ r.server) || decide (r.ballot < 0) || decide (bal ≤ r.ballot) || hasB s r.server.toNat)) := rfl
        have hsee : Hid (seeR s r = s ||| bitS r.server.toNat) := rfl
        obtain ⟨rs, hrs⟩ : ∃ x, r.server = x := ⟨_, rfl⟩
        obtain ⟨rb, hrb⟩ : ∃ x, r.ballot = x := ⟨_, rfl⟩
        obtain ⟨rv, hrv⟩ : ∃ x, r.value = x := ⟨_, rfl⟩
        rw [hrs] at hc0 hbad hsee
        rw [hrb] at hc1 hbad
        rw [hrv] at hc2
        subst ha
        clear hcell hrs hrb hrv hr hi1 hi2
        by_cases g1 : rs < 0
        · have hP : Hid (pickS read bal l = (⟨#[]⟩, 1)) := HI2.out (by rw [hbad.out]; simp [g1])
          clear HI1 HI2 hbad hsee HS
          go_wp2_with fail
          go_ret2
          exact ⟨by rw [hP.out]; rfl, hb.alloc hsz _⟩
        · by_cases g2 : 12 ≤ rs
          · have hP : Hid (pickS read bal l = (⟨#[]⟩, 1)) := HI2.out (by rw [hbad.out]; simp [g2])
            clear HI1 HI2 hbad hsee HS
            go_wp2_with fail
            go_ret2
            exact ⟨by rw [hP.out]; rfl, hb.alloc hsz _⟩
          · by_cases g3 : rb < 0
            · have hP : Hid (pickS read bal l = (⟨#[]⟩, 1)) := HI2.out (by rw [hbad.out]; simp [g3])
              clear HI1 HI2 hbad hsee HS
              go_wp2_with fail
              go_ret2
              exact ⟨by rw [hP.out]; rfl, hb.alloc hsz _⟩
            · by_cases g4 : bal ≤ rb
              · have hP : Hid (pickS read bal l = (⟨#[]⟩, 1)) := HI2.out (by rw [hbad.out]; simp [g4])
                clear HI1 HI2 hbad hsee HS
                go_wp2_with fail
                go_ret2
                exact ⟨by rw [hP.out]; rfl, hb.alloc hsz _⟩
              · obtain ⟨m, rfl⟩ := Int.eq_ofNat_of_zero_le (by omega : 0 ≤ rs)
                cases g5 : hasB s m
                · have hnb : Hid (badR bal s r = false) := by show _ = _; rw [hbad.out]; simp [g3, g4, g5]; omega
                  have hinv' : Hid (invR bal 0#16 (l.take (k + 1)) = false) := by show _ = _; rw [HI1.out, hnb.out]
                  clear HI1 HI2 hbad hnb hinv
                  go_wp2_with fail
                  go_roundw
                  case rel => exact ⟨k + 1, s ||| bitS m, by omega, by go_num, rfl, by show _ = _; rw [HS.out, ← hs.out, hsee.out]; rfl, hinv', hb.alloc hsz _⟩
                  case measure => simp [intOf]; omega
                · have hP : Hid (pickS read bal l = (⟨#[]⟩, 1)) := HI2.out (by rw [hbad.out]; simp [g5])
                  clear HI1 HI2 hbad hsee HS
                  go_wp2_with fail
                  go_ret2
                  exact ⟨by rw [hP.out]; rfl, hb.alloc hsz _⟩
      · have hE : Hid (l.take k = l) := List.take_of_length_le (by have := HN.out; omega)
        rw [hE.out] at hinv
        have HP := Lib.hid (pick_c read l a n c a2 n2 c2 wr (HR.out.below hb) (HR2.out.below hb) (fun r hr => by have := invR_ok hinv.out r hr; omega))
        obtain ⟨⟨bb, bv⟩, hbb⟩ : ∃ p, bestR l = p := ⟨_, rfl⟩
        have HBB := Lib.hid hbb
        rw [hbb] at HP
        clear hs hbb hE
        cases hacc : accS read (seenR l)
        · have hP : Hid (pickS read bal l = (⟨#[]⟩, 10)) := pickS_state HB1.out hinv.out hacc
          rw [hacc] at HP
          clear hacc hinv
          go_wp2_with fail
          refine HP.out.mono ?_
          rintro e w3 ⟨sv, rfl, hb3⟩
          have hb4 := Below.next hb hb3
          have hsz4 := hb4.size
          clear hb hb3 hsz
          go_wp2_with fail
          go_ret2
          exact ⟨by rw [hP.out]; rfl, hb4.alloc hsz4 _⟩
        · by_cases h0 : bb = 0
          · have hP : Hid (pickS read bal l = (⟨#[]⟩, 4)) := pickS_none HB1.out hinv.out hacc (by rw [HBB.out]; exact h0)
            rw [hacc] at HP
            subst h0
            clear hacc hinv
            go_wp2_with fail
            refine HP.out.mono ?_
            rintro e w3 ⟨sv, rfl, hb3⟩
            have hb4 := Below.next hb hb3
            have hsz4 := hb4.size
            clear hb hb3 hsz
            go_wp2_with fail
            go_ret2
            exact ⟨by rw [hP.out]; rfl, hb4.alloc hsz4 _⟩
          · have hP : Hid (pickS read bal l = (bv, 0)) := by show _ = _; rw [pickS_some HB1.out hinv.out hacc (by rw [HBB.out]; exact h0), HBB.out]
            rw [hacc] at HP
            have h0' : (bb == 0) = false := by simpa using h0
            clear hacc hinv h0
            go_wp2_with fail
            refine HP.out.mono ?_
            rintro e w3 ⟨sv, rfl, hb3⟩
            have hb4 := Below.next hb hb3
            have hsz4 := hb4.size
            clear hb hb3 hsz
            go_wp2_with fail
            go_ret2
            exact ⟨by rw [hP.out]; rfl, hb4.alloc hsz4 _⟩
end Go.Proofs.YtgfjmplifmbmlaaDoor
