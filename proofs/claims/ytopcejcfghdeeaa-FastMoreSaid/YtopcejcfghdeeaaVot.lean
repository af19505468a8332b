/- Layer 38: Votes; Contains of texts. -/
import Derived.Test.YtopcejcfghdeeaaCnt
namespace Go.Proofs.Ytopcejcfghdeeaa
open Go.RowKit Go.Shelf

def vot4 : List ByteArray := [⟨#[]⟩, ⟨#[120]⟩, ⟨#[121]⟩, ⟨#[122]⟩]
def votC (z : Int) : ByteArray := vot4.getD (z % 4).toNat ⟨#[]⟩
def votL (l : List Int) (k : Nat) : List ByteArray := (l.take k).map votC
theorem votL_succ {l : List Int} {k : Nat} {z : Int} (h : l[k]? = some z) : votL l (k + 1) = votL l k ++ [votC z] := by
  unfold votL; rw [List.take_add_one, h, List.map_append]; rfl
def votsS (l : List Int) : List ByteArray := votL l (min 12 l.length)

set_option maxRecDepth 100000 in
set_option maxHeartbeats 4000000 in
theorem votes_c (l : List Int) (hw : ∀ z ∈ l, 0 ≤ z ∧ z < 256) (a : Option Addr) (n c : Nat) (w : World) (h : Rd w a n c (l.map (Value.int .u8))) :
    Calls Try.prog 26 #[.slice a n c] w fun e w' => ∃ v, e = .returned v ∧ Own w w' 9 v ((votsS l).map Value.string) ∧ Below w.heap.size w w' := by
  have hnl : l.length = n := by have := h.len; simp at this; omega
  have hm := h.max
  have hle := h.le
  unfold maxLen at hm
  have HR := Lib.hid h
  have HN := Lib.hid hnl
  have HW := Lib.hid hw
  clear h hnl hw
  go_enter Try.func26, Try.ntmps26
  go_wp2_with fail
  go_loopw [3, 4] (fun v i wr => ∃ k : Nat, k ≤ n ∧ k ≤ 12 ∧ i = .int .i64 k ∧ wr.ownsRow w.heap.size 9 1 v k ((votL l k).map Value.string) ∧ Below w.heap.size w wr) (fun _ i _ => n - (intOf i).toNat)
  case atStart => exact ⟨0, Nat.zero_le _, Nat.zero_le _, rfl, World.ownsRow_nil _ _ _ _, Below.refl _ _⟩
  case round =>
    obtain ⟨k, hk, hk20, rfl, hown, hb⟩ := hrel
    by_cases hlt : k < n
    · by_cases hlt2 : k < 12
      · obtain ⟨z, hz⟩ : ∃ z, l[k]? = some z := ⟨_, List.getElem?_eq_getElem (by have := HN.out; omega)⟩
        obtain ⟨hz0, hz1⟩ := HW.out z (List.mem_of_getElem? hz)
        obtain ⟨b, o, ha, hcell⟩ := (HR.out.below hb).at' (by omega)
        have hc := hcell k (.int .u8 z) (by rw [List.getElem?_map, hz]; rfl)
        have hs := votL_succ hz
        obtain ⟨r, hr⟩ : ∃ r : Nat, z % 4 = r := ⟨(z % 4).toNat, by omega⟩
        have hr4 : r < 4 := by omega
        have hv : votC z = vot4.getD r ⟨#[]⟩ := by unfold votC; rw [hr]; rfl
        have htm : z.tmod 4 = r := by rw [Int.tmod_eq_emod_of_nonneg hz0]; exact hr
        have hbA : Below w.heap.size w (wr.alloc (.cells #[.string ⟨#[]⟩, .string ⟨#[120]⟩, .string ⟨#[121]⟩, .string ⟨#[122]⟩] 9)) := hb.alloc hb.size _
        have hownA := hown.alloc (.cells #[.string ⟨#[]⟩, .string ⟨#[120]⟩, .string ⟨#[121]⟩, .string ⟨#[122]⟩] 9)
        have e0 : (wr.alloc (.cells #[.string ⟨#[]⟩, .string ⟨#[120]⟩, .string ⟨#[121]⟩, .string ⟨#[122]⟩] 9)).cell? ⟨wr.heap.size, r, none⟩ = some (.string (votC z)) := by
          rw [hv]
          refine cell_new _ _ _ r _ ?_
          match r, hr4 with
          | 0, _ => rfl
          | 1, _ => rfl
          | 2, _ => rfl
          | 3, _ => rfl
        have hcA : (wr.alloc (.cells #[.string ⟨#[]⟩, .string ⟨#[120]⟩, .string ⟨#[121]⟩, .string ⟨#[122]⟩] 9)).cell? ⟨b, o + k, none⟩ = some (.int .u8 z) := (((Below.refl wr.heap.size wr).alloc (Nat.le_refl _) _).cell (p := ⟨b, o + k, none⟩) (cell_lt (by cases ha; exact hc))).trans hc
        obtain ⟨y, hy⟩ : ∃ y, votC z = y := ⟨_, rfl⟩
        rw [hy] at e0 hs
        have HS : Hid ((votL l (k + 1)).map Value.string = (votL l k).map Value.string ++ [.string y]) := by show _ = _; rw [hs, List.map_append]; rfl
        subst ha
        clear hcell hz hs hy hv hr
        go_wp2_with (at_builtin; go_must (refine wpList_app _ _ 31 16 (.string ⟨#[]⟩) (.string y) _ Try.underlying31 Try.infoStr rfl hownA hbA (Nat.le_refl _) rfl rfl rfl (by rw [World.size_alloc]; rfl) rfl (by unfold maxLen; omega) (by omega) ?_))
        intro v' w4 hown4 hb4 _ _
        clear hown hb hc hownA hbA e0 hcA
        go_wp2_with fail
        go_roundw
        case rel => exact ⟨k + 1, by omega, by omega, by go_num, by rw [HS.out]; exact hown4, hb4⟩
        case measure => simp [intOf]; omega
      · obtain rfl : k = 12 := by omega
        have hE : votL l 12 = votsS l := by unfold votsS; rw [Nat.min_eq_left (by have := HN.out; omega)]
        have hl12 : (votL l 12).length = 12 := by unfold votL; rw [List.length_map, List.length_take]; have := HN.out; omega
        rw [hE] at hown hl12
        have HO : Hid (Own w wr 9 u3 ((votsS l).map Value.string)) := by show Own _ _ _ _ _; unfold Own; rw [List.length_map, hl12]; exact hown
        clear hown hE hl12
        go_wp2_with fail
        go_ret
        exact ⟨_, rfl, HO.out, hb⟩
    · obtain rfl : k = n := by omega
      have hE : votL l k = votsS l := by unfold votsS; rw [Nat.min_eq_right (by have := HN.out; omega), HN.out]
      have hl12 : (votL l k).length = k := by unfold votL; rw [List.length_map, List.length_take]; have := HN.out; omega
      rw [hE] at hown hl12
      have HO : Hid (Own w wr 9 u3 ((votsS l).map Value.string)) := by show Own _ _ _ _ _; unfold Own; rw [List.length_map, hl12]; exact hown
      clear hown hE hl12
      go_wp2_with fail
      go_ret
      exact ⟨_, rfl, HO.out, hb⟩
theorem votsS_len (l : List Int) : (votsS l).length = min 12 l.length := by unfold votsS votL; rw [List.length_map, List.length_take]; omega

def idxT (y : ByteArray) (l : List ByteArray) : Bool := l.any fun x => y.toList == x.toList
theorem idxT_mem {y : ByteArray} {l : List ByteArray} : idxT y l = true ↔ y ∈ l := by
  unfold idxT
  rw [List.any_eq_true]
  constructor
  · rintro ⟨x, hx, h⟩; rw [bs_ext (eq_of_beq h)]; exact hx
  · intro h; exact ⟨y, h, by simp⟩

set_option maxRecDepth 100000 in
set_option maxHeartbeats 1000000 in
theorem indexT_c (l : List ByteArray) (y : ByteArray) (a : Option Addr) (n c : Nat) (w : World) (h : Rd w a n c (l.map Value.string)) :
    Calls Try.prog 55 #[.slice a n c, .string y] w fun e w' => ∃ i : Int, e = .returned (.int .i64 i) ∧ decide (0 ≤ i) = idxT y l ∧ w' = w := by
  have hnl : l.length = n := by have := h.len; simp at this; omega
  have hm := h.max
  have hle := h.le
  unfold maxLen at hm
  have HR := Lib.hid h
  have HN := Lib.hid hnl
  clear h hnl
  go_enter Try.func55, Try.ntmps55
  go_wp2_with fail
  go_loop [8] (fun i => ∃ k : Nat, k ≤ n ∧ i = .int .i64 k ∧ Hid (∀ (j : Nat) (x : ByteArray), j < k → l[j]? = some x → (y.toList == x.toList) = false)) (fun i => n - (intOf i).toNat)
  case atStart => exact ⟨0, Nat.zero_le _, rfl, Lib.hid (fun j x hj => by omega)⟩
  case round =>
    obtain ⟨k, hk, rfl, hno⟩ := hrel
    by_cases hlt : k < n
    · obtain ⟨x, hx⟩ : ∃ x, l[k]? = some x := ⟨_, List.getElem?_eq_getElem (by have := HN.out; omega)⟩
      obtain ⟨b, o, ha, hcell⟩ := HR.out.at' (by omega)
      have hc := hcell k (.string x) (by rw [List.getElem?_map, hx]; rfl)
      subst ha
      cases hq : (y.toList == x.toList)
      · have hno2 : Hid (∀ (j : Nat) (x : ByteArray), j < k + 1 → l[j]? = some x → (y.toList == x.toList) = false) := Lib.hid (fun j u hj hu => by
          by_cases h1 : j < k
          · exact hno.out j u h1 hu
          · obtain rfl : j = k := by omega
            rw [hx] at hu; cases hu; exact hq)
        clear hcell hno hx
        go_wp2_with fail
        go_round
        case rel => exact ⟨k + 1, by omega, by go_num, hno2⟩
        case measure => simp [intOf]; omega
      · have hA : Hid (idxT y l = true) := List.any_eq_true.2 ⟨x, List.mem_of_getElem? hx, hq⟩
        clear hcell hno hx
        go_wp2_with fail
        go_ret
        exact ⟨_, rfl, by rw [hA.out]; exact decide_eq_true (by omega), rfl⟩
    · have hA : Hid (idxT y l = false) := anyL_none (fun j x hj => hno.out j x (by have := (List.getElem?_eq_some_iff.1 hj).1; have := HN.out; omega) hj)
      clear hno
      go_wp2_with fail
      go_ret
      exact ⟨_, rfl, by rw [hA.out]; decide, rfl⟩

set_option maxRecDepth 100000 in
set_option maxHeartbeats 1000000 in
theorem containsT_c (l : List ByteArray) (y : ByteArray) (a : Option Addr) (n c : Nat) (w : World) (h : Rd w a n c (l.map Value.string)) :
    Calls Try.prog 29 #[.slice a n c, .string y] w fun e w' => e = .returned (.bool (idxT y l)) ∧ w' = w := by
  have HI := Lib.hid (indexT_c l y a n c w h)
  clear h
  go_enter Try.func29, Try.ntmps29
  go_wp2_with fail
  refine HI.out.mono ?_
  rintro e w1 ⟨i, rfl, hi, rfl⟩
  have HII := Lib.hid hi
  clear hi
  go_wp2_with fail
  go_ret
  exact ⟨ret_bool HII.out, rfl⟩
end Go.Proofs.Ytopcejcfghdeeaa
