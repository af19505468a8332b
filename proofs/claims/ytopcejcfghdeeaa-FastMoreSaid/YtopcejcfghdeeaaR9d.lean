/- The reference of layer 9: Made. -/
import Derived.Test.YtopcejcfghdeeaaR9m
namespace Go.Proofs.Ytopcejcfghdeeaa
open Go.RowKit Go.Shelf

def mad (z : Int) : BitVec 16 := BitVec.ofInt 16 (z % 64)
theorem and63 (z : Int) (h0 : 0 ≤ z) (h1 : z < 256) : bits .and .u8 z 63 = U (mad z) := by
  obtain ⟨k, rfl⟩ := Int.eq_ofNat_of_zero_le h0
  have : ∀ k : Fin 256, bits .and .u8 (k.val : Int) 63 = U (mad (k.val : Int)) := by decide +kernel
  exact this ⟨k, by omega⟩
def madL (l : List Int) (k : Nat) : List (BitVec 16) := (l.take k).map mad
theorem madL_succ {l : List Int} {k : Nat} {z : Int} (h : l[k]? = some z) : madL l (k + 1) = madL l k ++ [mad z] := by
  unfold madL; rw [List.take_add_one, h, List.map_append]; rfl
theorem madL_len {l : List Int} {k : Nat} (h : k ≤ l.length) : (madL l k).length = k := by unfold madL; rw [List.length_map, List.length_take]; omega
def madS (l : List Int) : List (BitVec 16) := minS (madL l (min 20 l.length))

set_option maxRecDepth 100000 in
set_option maxHeartbeats 4000000 in
theorem made9_c (l : List Int) (hw : ∀ z ∈ l, 0 ≤ z ∧ z < 256) (a : Option Addr) (n c : Nat) (w : World) (h : Rd w a n c (l.map (Value.int .u8))) :
    Calls Try.prog 24 #[.slice a n c] w fun e w' => ∃ v, e = .returned v ∧ Own w w' 26 v ((madS l).map setV2) ∧ Below w.heap.size w w' := by
  have hnl : l.length = n := by have := h.len; simp at this; omega
  have hm := h.max
  have hle := h.le
  unfold maxLen at hm
  have HR := Lib.hid h
  have HN := Lib.hid hnl
  have HW := Lib.hid hw
  clear h hnl hw
  go_enter Try.func24, Try.ntmps24
  go_wp2_with fail
  go_loopw [3, 4] (fun v i wr => ∃ k : Nat, k ≤ n ∧ k ≤ 20 ∧ i = .int .i64 k ∧ wr.ownsRow w.heap.size 26 1 v k ((madL l k).map setV2) ∧ Below w.heap.size w wr) (fun _ i _ => n - (intOf i).toNat)
  case atStart => exact ⟨0, Nat.zero_le _, Nat.zero_le _, rfl, World.ownsRow_nil _ _ _ _, Below.refl _ _⟩
  case round =>
    obtain ⟨k, hk, hk20, rfl, hown, hb⟩ := hrel
    by_cases hlt : k < n
    · by_cases hlt2 : k < 20
      · obtain ⟨z, hz⟩ : ∃ z, l[k]? = some z := ⟨_, List.getElem?_eq_getElem (by have := HN.out; omega)⟩
        obtain ⟨hz0, hz1⟩ := HW.out z (List.mem_of_getElem? hz)
        obtain ⟨b, o, ha, hcell⟩ := (HR.out.below hb).at' (by omega)
        have hc := hcell k (.int .u8 z) (by rw [List.getElem?_map, hz]; rfl)
        have h63 := and63 z hz0 hz1
        obtain ⟨y, hy⟩ : ∃ y, mad z = y := ⟨_, rfl⟩
        have hs := madL_succ hz
        rw [hy] at h63 hs
        have hyb : 0 ≤ U y ∧ U y < 65536 := U_bd y
        have HS : Hid ((madL l (k + 1)).map setV2 = (madL l k).map setV2 ++ [.int .u16 (U y)]) := by show _ = _; rw [hs, List.map_append]; rfl
        have hyw := U_wrap y
        subst ha
        clear hcell hz hs hy
        go_wp2_with (at_builtin; go_must (refine wpList_app _ _ 22 2 (.int .u16 0) (.int .u16 (U y)) _ Try.underlying22 Try.infoSet rfl hown hb (Nat.le_refl _) rfl rfl rfl rfl rfl (by unfold maxLen; omega) (by omega) ?_))
        intro v' w4 hown4 hb4 _ _
        clear hown hb hc
        go_wp2_with fail
        go_roundw
        case rel => exact ⟨k + 1, by omega, by omega, by go_num, by rw [HS.out]; exact hown4, hb4⟩
        case measure => simp [intOf]; omega
      · obtain rfl : k = 20 := by omega
        have hE : minS (madL l 20) = madS l := by unfold madS; rw [Nat.min_eq_left (by have := HN.out; omega)]
        obtain ⟨ao, co, rfl, hro⟩ := rd_of_row hown
        have HMI := Lib.hid (minimal9_c (madL l 20) ao 20 co wr hro)
        rw [hE] at HMI
        have HB := Lib.hid hb
        clear hown hro hb hE
        go_wp2_with fail
        refine HMI.out.mono ?_
        rintro e w2 ⟨v, rfl, o2, b2⟩
        have HO2 := Lib.hid o2
        clear HMI o2
        go_wp2_with fail
        go_ret
        exact ⟨v, rfl, HO2.out.mono HB.out.size, Below.next HB.out b2⟩
    · obtain rfl : k = n := by omega
      have hE : minS (madL l k) = madS l := by unfold madS; rw [Nat.min_eq_right (by have := HN.out; omega), HN.out]
      obtain ⟨ao, co, rfl, hro⟩ := rd_of_row hown
      have HMI := Lib.hid (minimal9_c (madL l k) ao k co wr hro)
      rw [hE] at HMI
      have HB := Lib.hid hb
      clear hown hro hb hE
      go_wp2_with fail
      refine HMI.out.mono ?_
      rintro e w2 ⟨v, rfl, o2, b2⟩
      have HO2 := Lib.hid o2
      clear HMI o2
      go_wp2_with fail
      go_ret
      exact ⟨v, rfl, HO2.out.mono HB.out.size, Below.next HB.out b2⟩
end Go.Proofs.Ytopcejcfghdeeaa
