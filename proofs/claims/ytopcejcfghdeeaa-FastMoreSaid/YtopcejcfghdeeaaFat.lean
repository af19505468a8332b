/- Layer 38: Attack. -/
import Derived.Test.YtopcejcfghdeeaaRec2
import Derived.Test.YtopcejcfghdeeaaFa3
import Derived.Laws.MakeOwn
namespace Go.Proofs.Ytopcejcfghdeeaa
open Go.RowKit Go.Shelf

def atkV (a b : BitVec 16) (i : Nat) : ByteArray := if hasB a i = true then ⟨#[120]⟩ else if hasB b i = true then ⟨#[121]⟩ else ⟨#[]⟩
def atkL (a b : BitVec 16) (n : Nat) : List ByteArray := (List.range n).map (atkV a b)
theorem atkL_succ (a b : BitVec 16) (n : Nat) : atkL a b (n + 1) = atkL a b n ++ [atkV a b n] := by unfold atkL; rw [List.range_succ, List.map_append]; rfl
theorem atkL_len (a b : BitVec 16) (n : Nat) : (atkL a b n).length = n := by simp [atkL]
def cur (a b : BitVec 16) (n k : Nat) : Array Value := ((List.range n).map fun i => if i < k then Value.string (atkV a b i) else .string ⟨#[]⟩).toArray
theorem cur_zero (a b : BitVec 16) (n : Nat) : madeCells #[.string ⟨#[]⟩] n = cur a b n 0 := by
  apply Array.ext
  · simp [madeCells, cur]
  · intro i h1 h2
    simp [madeCells, cur]
    rw [Nat.mod_one]; rfl
theorem cur_all (a b : BitVec 16) (n : Nat) : (cur a b n n).toList = (atkL a b n).map Value.string := by
  unfold cur atkL
  simp only [List.map_map]
  refine List.map_congr_left fun i hi => ?_
  simp [List.mem_range.1 hi]
theorem cur_at (a b : BitVec 16) (n k : Nat) (h : k < n) : (cur a b n k)[k]? = some (.string ⟨#[]⟩) := by simp [cur, h]
theorem cur_set (a b : BitVec 16) (n k : Nat) (h : k < n) : (cur a b n k).setIfInBounds k (.string (atkV a b k)) = cur a b n (k + 1) := by
  unfold cur
  apply Array.ext
  · simp
  · intro i h1 h2
    rw [Array.getElem_setIfInBounds (by simpa using h2)]
    simp only [List.getElem_toArray, List.getElem_map, List.getElem_range]
    by_cases hik : k = i
    · subst hik; simp
    · rw [if_neg hik]
      by_cases h3 : i < k
      · rw [if_pos h3, if_pos (by omega)]
      · rw [if_neg h3, if_neg (by omega)]
theorem cur_none (a b : BitVec 16) (n k : Nat) (h : atkV a b k = ⟨#[]⟩) : cur a b n k = cur a b n (k + 1) := by
  apply Array.ext
  · simp [cur]
  · intro i h1 h2
    simp only [cur, List.getElem_toArray, List.getElem_map, List.getElem_range]
    by_cases hik : i = k
    · subst hik; simp [h]
    · by_cases h3 : i < k
      · rw [if_pos h3, if_pos (by omega)]
      · rw [if_neg h3, if_neg (by omega)]

def fatM (m : Nat) : BitVec 16 × BitVec 16 × BitVec 16 × Int → List ByteArray × BitVec 16 × Int
  | (a, b, r, e) => if e ≠ 0 then ([], 0#16, e) else (atkL (if (b &&& r == 0#16) = true then b else a) b m, r, 0)
def farB (nn : Int) (read fast : List (BitVec 16)) : Bool := shrS (supS read ||| supS fast) nn.toNat != 0#16
def fatS (nn : Int) (read fast : List (BitVec 16)) : List ByteArray × BitVec 16 × Int :=
  if botS read fast ≠ 0 then ([], 0#16, botS read fast) else if nn < 1 ∨ 12 < nn ∨ farB nn read fast = true then ([], 0#16, 7) else fatM nn.toNat (claT read fast)
theorem claT_e (read fast : List (BitVec 16)) (h : botS read fast = 0) : (claT read fast).2.2.2 = 0 ∨ (claT read fast).2.2.2 = 13 := by
  unfold claT
  rw [if_neg (by rw [h]; decide)]
  cases claS read fast with
  | none => exact .inr rfl
  | some p => exact .inl rfl

theorem make_str (m : Nat) (hm : m ≤ 1000000) : ∀ w, (Instr.makeSlice 31 (.int .i64 m) (.int .i64 m)).run Try.prog w = .ok (.slice (some ⟨w.heap.size, 0, none⟩) m m) (w.alloc (.cells (madeCells #[.string ⟨#[]⟩] (m * 1)) 9)) := by
  intro w
  obtain ⟨i, hi1, hi2, hi3, hi4⟩ := info_parts Try.infoStr
  have := run_make (P := Try.prog) w 31 9 i _ Try.underlying31 hi1 hi2 .i64 .i64 m m (by omega) (Int.le_refl _) (by rw [hi4]; omega) (by omega)
  rw [hi3] at this
  simp only [Int.toNat_natCast] at this
  exact this

set_option maxRecDepth 100000 in
set_option maxHeartbeats 4000000 in
theorem attack_f (nn : Int) (read fast : List (BitVec 16)) (a : Option Addr) (n c : Nat) (a2 : Option Addr) (n2 c2 : Nat) (w : World) (h : Rd w a n c (read.map setV2)) (h2 : Rd w a2 n2 c2 (fast.map setV2)) :
    Calls Try.prog 27 #[.int .i64 nn, .slice a n c, .slice a2 n2 c2] w fun e w' => ∃ a' c', e = .returned (.tuple #[.slice a' (fatS nn read fast).1.length c', .int .u16 (U (fatS nn read fast).2.1), .int .i64 (fatS nn read fast).2.2]) ∧ Rd w' a' (fatS nn read fast).1.length c' ((fatS nn read fast).1.map Value.string) ∧ Below w.heap.size w w' := by
  have HR := Lib.hid h
  have HR2 := Lib.hid h2
  have HB := Lib.hid (both_c read fast a n c a2 n2 c2 w h h2)
  clear h h2
  by_cases hbo : botS read fast = 0
  · have hC : Hid (fatS nn read fast = if nn < 1 ∨ 12 < nn ∨ farB nn read fast = true then ([], 0#16, 7) else fatM nn.toNat (claT read fast)) := by show _ = _; unfold fatS; rw [if_neg (by rw [hbo]; decide)]
    have HCE := Lib.hid (claT_e read fast hbo)
    rw [hbo] at HB
    clear hbo
    by_cases h1 : nn < 1
    · have hE : Hid (fatS nn read fast = ([], 0#16, 7)) := by show _ = _; rw [hC.out, if_pos (.inl h1)]
      clear hC
      go_enter Try.func27, Try.ntmps27
      go_wp2_with fail
      refine HB.out.mono ?_
      rintro e w1 ⟨rfl, b1⟩
      go_wp2_with fail
      exact bodyPost_ret (v := .tuple #[.slice none 0 0, .int .u16 (U 0#16), .int .i64 7]) (by simp [results, Try.results27, go_sem]) rfl ⟨none, 0, by rw [hE.out]; rfl, by rw [hE.out]; exact Rd.none_ _, b1⟩
    · by_cases h2 : 12 < nn
      · have hE : Hid (fatS nn read fast = ([], 0#16, 7)) := by show _ = _; rw [hC.out, if_pos (.inr (.inl h2))]
        clear hC
        go_enter Try.func27, Try.ntmps27
        go_wp2_with fail
        refine HB.out.mono ?_
        rintro e w1 ⟨rfl, b1⟩
        go_wp2_with fail
        exact bodyPost_ret (v := .tuple #[.slice none 0 0, .int .u16 (U 0#16), .int .i64 7]) (by simp [results, Try.results27, go_sem]) rfl ⟨none, 0, by rw [hE.out]; rfl, by rw [hE.out]; exact Rd.none_ _, b1⟩
      · obtain ⟨m, rfl⟩ := Int.eq_ofNat_of_zero_le (by omega : 0 ≤ nn)
        have hm1 : 1 ≤ m := by omega
        have hm2 : m ≤ 12 := by omega
        have HS1 := Lib.hid (fun w h => support_c read a n c w h)
        have HS2 := Lib.hid (fun w h => support_c fast a2 n2 c2 w h)
        have hfb : farB (m : Int) read fast = (shrS (supS read ||| supS fast) m != 0#16) := rfl
        obtain ⟨s1, hs1⟩ : ∃ s, supS read = s := ⟨_, rfl⟩
        obtain ⟨s2, hs2⟩ : ∃ s, supS fast = s := ⟨_, rfl⟩
        rw [hs1] at HS1 hfb
        rw [hs2] at HS2 hfb
        clear hs1 hs2
        cases hfar : (shrS (s1 ||| s2) m != 0#16)
        · rw [hfar] at hfb
          have hC2 : Hid (fatS m read fast = fatM m (claT read fast)) := by show _ = _; rw [hC.out, if_neg (by rw [hfb]; simp; omega)]; rfl
          have HCL := Lib.hid (fun w h h2 => clash_c read fast a n c a2 n2 c2 w h h2)
          have hce := HCE.out
          obtain ⟨⟨x, y, r, e⟩, hcl⟩ : ∃ p, claT read fast = p := ⟨_, rfl⟩
          rw [hcl] at HCL hC2 hce
          unfold V4 at HCL
          clear hC hfb hcl HCE
          rcases hce with he | he
          · have he' : e = 0 := he
            subst he'
            cases hyr : (y &&& r == 0#16)
            · have hE : Hid (fatS m read fast = (atkL x y m, r, 0)) := by
                show _ = _
                rw [hC2.out]
                show (if (0 : Int) ≠ 0 then (([] : List ByteArray), 0#16, (0 : Int)) else (atkL (if (y &&& r == 0#16) = true then y else x) y m, r, 0)) = _
                rw [if_neg (by decide), hyr]; rfl
              clear hC2 he
              have hmk := make_str m (by omega)
              go_enter Try.func27, Try.ntmps27
              go_wp2_with fail
              refine HB.out.mono ?_
              rintro e w1 ⟨rfl, b1⟩
              go_wp2_with fail
              refine (HS1.out w1 (HR.out.below b1)).mono ?_
              rintro e w2 ⟨rfl, rfl⟩
              go_wp2_with fail
              refine (HS2.out _ (HR2.out.below b1)).mono ?_
              rintro e w2 ⟨rfl, rfl⟩
              go_wp2_with fail
              refine (HCL.out _ (HR.out.below b1) (HR2.out.below b1)).mono ?_
              rintro e w3 ⟨rfl, b3⟩
              have b4 := Below.next b1 b3
              clear HB HS1 HS2 HCL b1 b3
              go_wp2_with fail
              rw [cur_zero x y]
              obtain ⟨B, hB⟩ : ∃ B, w3.heap.size = B := ⟨_, rfl⟩
              obtain ⟨W, hW⟩ : ∃ W, w3.alloc (.cells (cur x y m 0) 9) = W := ⟨_, rfl⟩
              have g0 : W.heap[B]? = some (.cells (cur x y m 0) 9 (0, 0)) := by rw [← hW, ← hB]; exact heap_alloc_new w3 _
              have hbW : Below w.heap.size w W := by rw [← hW]; exact b4.alloc b4.size _
              have HBE : Hid (w.heap.size ≤ B) := by rw [← hB]; exact b4.size
              rw [hB, hW]
              have HG0 := Lib.hid g0
              have HBW := Lib.hid hbW
              clear hB hW g0 hbW b4
              go_loopw [58] (fun i wr => ∃ k : Nat, k ≤ m ∧ i = .int .i64 k ∧ wr.heap[B]? = some (.cells (cur x y m k) 9 (0, 0)) ∧ Below w.heap.size w wr) (fun i _ => m - (intOf i).toNat)
              case atStart => exact ⟨0, Nat.zero_le _, rfl, HG0.out, HBW.out⟩
              case round =>
                obtain ⟨k, hk, rfl, hg, hb⟩ := hrel
                by_cases hlt : k < m
                · have c0 : wr.cell? ⟨B, k, none⟩ = some (.string ⟨#[]⟩) := (cell_of_row _ _ k _ _ _ hg).trans (cur_at _ _ _ _ hlt)
                  have z0 : wr.frozen? ⟨B, k, none⟩ = false := by simp [World.frozen?, hg]
                  have hz := heap_set_at hg k (.string (atkV x y k))
                  rw [cur_set _ _ _ _ hlt] at hz
                  have hy := hb.setCell (p := ⟨B, k, none⟩) HBE.out (.string (atkV x y k))
                  cases h1 : hasB x k
                  · cases h2 : hasB y k
                    · have hv : atkV x y k = ⟨#[]⟩ := by unfold atkV; rw [h1, h2]; rfl
                      rw [cur_none _ _ _ _ hv] at hg
                      have HG := Lib.hid hg
                      clear hz hy hv hg
                      go_wp2_with fail
                      go_roundw
                      case rel => exact ⟨k + 1, by omega, by go_num, HG.out, hb⟩
                      case measure => simp [intOf]; omega
                    · have hv : atkV x y k = ⟨#[121]⟩ := by unfold atkV; rw [h1, h2]; rfl
                      rw [hv] at hz hy
                      have HZ := Lib.hid hz
                      have HY := Lib.hid hy
                      clear hz hy hv hg
                      go_wp2_with fail
                      go_roundw
                      case rel => exact ⟨k + 1, by omega, by go_num, HZ.out, HY.out⟩
                      case measure => simp [intOf]; omega
                  · have hv : atkV x y k = ⟨#[120]⟩ := by unfold atkV; rw [h1]; rfl
                    rw [hv] at hz hy
                    have HZ := Lib.hid hz
                    have HY := Lib.hid hy
                    clear hz hy hv hg
                    go_wp2_with fail
                    go_roundw
                    case rel => exact ⟨k + 1, by omega, by go_num, HZ.out, HY.out⟩
                    case measure => simp [intOf]; omega
                · obtain rfl : k = m := by omega
                  have hrd : Rd wr (some ⟨B, 0, none⟩) k k ((atkL x y k).map Value.string) := by
                    refine ⟨by rw [List.length_map, atkL_len], Nat.le_refl _, by unfold maxLen; omega, fun h => (by cases h), fun _ => ⟨B, 0, rfl, fun i v hv => ?_⟩⟩
                    rw [← cur_all] at hv
                    rw [Nat.zero_add, cell_of_row _ _ i _ _ _ hg]
                    simpa using hv
                  have HRD := Lib.hid hrd
                  have HL := Lib.hid (atkL_len x y k)
                  clear hg hrd
                  go_wp2_with fail
                  exact bodyPost_ret (v := .tuple #[.slice (some ⟨B, 0, none⟩) k k, .int .u16 (U r), .int .i64 0]) (by simp [results, Try.results27, go_sem]) rfl ⟨_, _, by rw [hE.out]; simp only [HL.out]; rfl, by rw [hE.out]; simp only [HL.out]; exact HRD.out, hb⟩
            · have hE : Hid (fatS m read fast = (atkL y y m, r, 0)) := by
                show _ = _
                rw [hC2.out]
                show (if (0 : Int) ≠ 0 then (([] : List ByteArray), 0#16, (0 : Int)) else (atkL (if (y &&& r == 0#16) = true then y else x) y m, r, 0)) = _
                rw [if_neg (by decide), hyr]; rfl
              clear hC2 he
              have hmk := make_str m (by omega)
              go_enter Try.func27, Try.ntmps27
              go_wp2_with fail
              refine HB.out.mono ?_
              rintro e w1 ⟨rfl, b1⟩
              go_wp2_with fail
              refine (HS1.out w1 (HR.out.below b1)).mono ?_
              rintro e w2 ⟨rfl, rfl⟩
              go_wp2_with fail
              refine (HS2.out _ (HR2.out.below b1)).mono ?_
              rintro e w2 ⟨rfl, rfl⟩
              go_wp2_with fail
              refine (HCL.out _ (HR.out.below b1) (HR2.out.below b1)).mono ?_
              rintro e w3 ⟨rfl, b3⟩
              have b4 := Below.next b1 b3
              clear HB HS1 HS2 HCL b1 b3
              go_wp2_with fail
              rw [cur_zero y y]
              obtain ⟨B, hB⟩ : ∃ B, w3.heap.size = B := ⟨_, rfl⟩
              obtain ⟨W, hW⟩ : ∃ W, w3.alloc (.cells (cur y y m 0) 9) = W := ⟨_, rfl⟩
              have g0 : W.heap[B]? = some (.cells (cur y y m 0) 9 (0, 0)) := by rw [← hW, ← hB]; exact heap_alloc_new w3 _
              have hbW : Below w.heap.size w W := by rw [← hW]; exact b4.alloc b4.size _
              have HBE : Hid (w.heap.size ≤ B) := by rw [← hB]; exact b4.size
              rw [hB, hW]
              have HG0 := Lib.hid g0
              have HBW := Lib.hid hbW
              clear hB hW g0 hbW b4
              go_loopw [58] (fun i wr => ∃ k : Nat, k ≤ m ∧ i = .int .i64 k ∧ wr.heap[B]? = some (.cells (cur y y m k) 9 (0, 0)) ∧ Below w.heap.size w wr) (fun i _ => m - (intOf i).toNat)
              case atStart => exact ⟨0, Nat.zero_le _, rfl, HG0.out, HBW.out⟩
              case round =>
                obtain ⟨k, hk, rfl, hg, hb⟩ := hrel
                by_cases hlt : k < m
                · have c0 : wr.cell? ⟨B, k, none⟩ = some (.string ⟨#[]⟩) := (cell_of_row _ _ k _ _ _ hg).trans (cur_at _ _ _ _ hlt)
                  have z0 : wr.frozen? ⟨B, k, none⟩ = false := by simp [World.frozen?, hg]
                  have hz := heap_set_at hg k (.string (atkV y y k))
                  rw [cur_set _ _ _ _ hlt] at hz
                  have hy := hb.setCell (p := ⟨B, k, none⟩) HBE.out (.string (atkV y y k))
                  cases h1 : hasB y k
                  · have hv : atkV y y k = ⟨#[]⟩ := by unfold atkV; rw [h1]; rfl
                    rw [cur_none _ _ _ _ hv] at hg
                    have HG := Lib.hid hg
                    clear hz hy hv hg
                    go_wp2_with fail
                    go_roundw
                    case rel => exact ⟨k + 1, by omega, by go_num, HG.out, hb⟩
                    case measure => simp [intOf]; omega
                  · have hv : atkV y y k = ⟨#[120]⟩ := by unfold atkV; rw [h1]; rfl
                    rw [hv] at hz hy
                    have HZ := Lib.hid hz
                    have HY := Lib.hid hy
                    clear hz hy hv hg
                    go_wp2_with fail
                    go_roundw
                    case rel => exact ⟨k + 1, by omega, by go_num, HZ.out, HY.out⟩
                    case measure => simp [intOf]; omega
                · obtain rfl : k = m := by omega
                  have hrd : Rd wr (some ⟨B, 0, none⟩) k k ((atkL y y k).map Value.string) := by
                    refine ⟨by rw [List.length_map, atkL_len], Nat.le_refl _, by unfold maxLen; omega, fun h => (by cases h), fun _ => ⟨B, 0, rfl, fun i v hv => ?_⟩⟩
                    rw [← cur_all] at hv
                    rw [Nat.zero_add, cell_of_row _ _ i _ _ _ hg]
                    simpa using hv
                  have HRD := Lib.hid hrd
                  have HL := Lib.hid (atkL_len y y k)
                  clear hg hrd
                  go_wp2_with fail
                  exact bodyPost_ret (v := .tuple #[.slice (some ⟨B, 0, none⟩) k k, .int .u16 (U r), .int .i64 0]) (by simp [results, Try.results27, go_sem]) rfl ⟨_, _, by rw [hE.out]; simp only [HL.out]; rfl, by rw [hE.out]; simp only [HL.out]; exact HRD.out, hb⟩
          · have he' : e = 13 := he
            subst he'
            have hE : Hid (fatS m read fast = ([], 0#16, 13)) := by show _ = _; rw [hC2.out]; rfl
            clear hC2 he
            go_enter Try.func27, Try.ntmps27
            go_wp2_with fail
            refine HB.out.mono ?_
            rintro e w1 ⟨rfl, b1⟩
            go_wp2_with fail
            refine (HS1.out w1 (HR.out.below b1)).mono ?_
            rintro e w2 ⟨rfl, rfl⟩
            go_wp2_with fail
            refine (HS2.out _ (HR2.out.below b1)).mono ?_
            rintro e w2 ⟨rfl, rfl⟩
            go_wp2_with fail
            refine (HCL.out _ (HR.out.below b1) (HR2.out.below b1)).mono ?_
            rintro e w3 ⟨rfl, b3⟩
            go_wp2_with fail
            exact bodyPost_ret (v := .tuple #[.slice none 0 0, .int .u16 (U 0#16), .int .i64 13]) (by simp [results, Try.results27, go_sem]) rfl ⟨none, 0, by rw [hE.out]; rfl, by rw [hE.out]; exact Rd.none_ _, Below.next b1 b3⟩
        · rw [hfar] at hfb
          have hE : Hid (fatS m read fast = ([], 0#16, 7)) := by show _ = _; rw [hC.out, if_pos (.inr (.inr hfb))]
          clear hC hfb
          go_enter Try.func27, Try.ntmps27
          go_wp2_with fail
          refine HB.out.mono ?_
          rintro e w1 ⟨rfl, b1⟩
          go_wp2_with fail
          refine (HS1.out w1 (HR.out.below b1)).mono ?_
          rintro e w2 ⟨rfl, rfl⟩
          go_wp2_with fail
          refine (HS2.out _ (HR2.out.below b1)).mono ?_
          rintro e w2 ⟨rfl, rfl⟩
          go_wp2_with fail
          exact bodyPost_ret (v := .tuple #[.slice none 0 0, .int .u16 (U 0#16), .int .i64 7]) (by simp [results, Try.results27, go_sem]) rfl ⟨none, 0, by rw [hE.out]; rfl, by rw [hE.out]; exact Rd.none_ _, b1⟩
  · have hE : Hid (fatS nn read fast = ([], 0#16, botS read fast)) := by show _ = _; unfold fatS; rw [if_pos hbo]
    obtain ⟨v, hv⟩ : ∃ v, botS read fast = v := ⟨_, rfl⟩
    rw [hv] at HB hE hbo
    have hv1 : (v != 0) = true := by simpa using hbo
    clear hv hbo
    go_enter Try.func27, Try.ntmps27
    go_wp2_with fail
    refine HB.out.mono ?_
    rintro e w1 ⟨rfl, b1⟩
    go_wp2_with fail
    exact bodyPost_ret (v := .tuple #[.slice none 0 0, .int .u16 (U 0#16), .int .i64 v]) (by simp [results, Try.results27, go_sem]) rfl ⟨none, 0, by rw [hE.out]; rfl, by rw [hE.out]; exact Rd.none_ _, b1⟩

end Go.Proofs.Ytopcejcfghdeeaa
