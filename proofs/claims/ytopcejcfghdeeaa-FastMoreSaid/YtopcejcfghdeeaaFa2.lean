/- Layer 38: Clash and Safe. -/
import Derived.Test.YtopcejcfghdeeaaFa1
namespace Go.Proofs.Ytopcejcfghdeeaa
open Go.RowKit Go.Shelf

theorem clash1_at (w : World) (B1 B2 : Nat) (x y : BitVec 16) (h1 : w.cell? ⟨B1, 0, none⟩ = some (.int .u16 (U x))) (h2 : w.cell? ⟨B2, 0, none⟩ = some (.int .u16 (U y))) :
    PredAt Try.prog 37 #[.pointer (some ⟨B1, 0, none⟩), .pointer (some ⟨B2, 0, none⟩)] setV2 (fun r => tri x y r) w := fun W r hb => by
  have c1 : W.cell? ⟨B1, 0, none⟩ = some (.int .u16 (U x)) := (hb.cell (p := ⟨B1, 0, none⟩) (cell_lt h1)).trans h1
  have c2 : W.cell? ⟨B2, 0, none⟩ = some (.int .u16 (U y)) := (hb.cell (p := ⟨B2, 0, none⟩) (cell_lt h2)).trans h2
  unfold FnGives setV2
  clear hb h1 h2
  go_enter Try.func37, Try.ntmps37
  go_wp2
  go_ret
  exact ⟨rfl, 0, rfl⟩

def V4 (p : BitVec 16 × BitVec 16 × BitVec 16 × Int) : Value := .tuple #[.int .u16 (U p.1), .int .u16 (U p.2.1), .int .u16 (U p.2.2.1), .int .i64 p.2.2.2]

theorem claA_step {read fast : List (BitVec 16)} {a b : BitVec 16} {m : Nat} (hb : fast[m]? = some b) (hno : ∀ (j : Nat) (z : BitVec 16), j < m → fast[j]? = some z → claB read a z = none) (h : claB read a b = none) :
    ∀ (j : Nat) (z : BitVec 16), j < m + 1 → fast[j]? = some z → claB read a z = none := by
  intro j z hj hz
  by_cases h1 : j < m
  · exact hno j z h1 hz
  · obtain rfl : j = m := by omega
    rw [hb] at hz; cases hz; exact h
theorem claS_step {read fast : List (BitVec 16)} {a : BitVec 16} {k : Nat} (ha : fast[k]? = some a) (hno : ∀ (j : Nat) (z : BitVec 16), j < k → fast[j]? = some z → claA read fast z = none) (h : claA read fast a = none) :
    ∀ (j : Nat) (z : BitVec 16), j < k + 1 → fast[j]? = some z → claA read fast z = none := by
  intro j z hj hz
  by_cases h1 : j < k
  · exact hno j z h1 hz
  · obtain rfl : j = k := by omega
    rw [ha] at hz; cases hz; exact h

set_option maxRecDepth 100000 in
set_option maxHeartbeats 4000000 in
theorem clash_c (read fast : List (BitVec 16)) (a : Option Addr) (n c : Nat) (a2 : Option Addr) (n2 c2 : Nat) (w : World) (h : Rd w a n c (read.map setV2)) (h2 : Rd w a2 n2 c2 (fast.map setV2)) :
    Calls Try.prog 13 #[.slice a n c, .slice a2 n2 c2] w fun e w' => e = .returned (V4 (claT read fast)) ∧ Below w.heap.size w w' := by
  have hnl : read.length = n := by have := h.len; simp at this; omega
  have hnl2 : fast.length = n2 := by have := h2.len; simp at this; omega
  have hm := h.max
  have hle := h.le
  have hm2 := h2.max
  have hle2 := h2.le
  unfold maxLen at hm hm2
  have HR := Lib.hid h
  have HR2 := Lib.hid h2
  have HN := Lib.hid hnl
  have HN2 := Lib.hid hnl2
  have HB := Lib.hid (both_c read fast a n c a2 n2 c2 w h h2)
  clear h h2 hnl hnl2
  by_cases hbo : botS read fast = 0
  · have hC : Hid (claT read fast = claM (claS read fast)) := by show _ = _; unfold claT; rw [if_neg (by rw [hbo]; decide)]
    rw [hbo] at HB
    clear hbo
    go_enter Try.func13, Try.ntmps13
    go_wp2_with fail
    refine HB.out.mono ?_
    rintro e w1 ⟨rfl, b1⟩
    clear HB
    go_wp2_with fail
    go_loopw [22] (fun i wr => ∃ k : Nat, k ≤ n2 ∧ i = .int .i64 k ∧ Hid (∀ (j : Nat) (z : BitVec 16), j < k → fast[j]? = some z → claA read fast z = none) ∧ Below w.heap.size w wr) (fun i _ => n2 - (intOf i).toNat)
    case atStart => exact ⟨0, Nat.zero_le _, rfl, Lib.hid (fun j z hj => by omega), b1⟩
    case round =>
      clear b1
      obtain ⟨k, hk, rfl, hno, hb⟩ := hrel
      by_cases hlt : k < n2
      · obtain ⟨b, o, hao, hcell⟩ := (HR2.out.below hb).at' (by omega)
        have hkl : k < fast.length := by have := HN2.out; omega
        have hc := hcell k _ (at_cell hkl)
        have hxs := at_some hkl
        obtain ⟨x, hx⟩ : ∃ x, fast.getD k 0#16 = x := ⟨_, rfl⟩
        rw [hx] at hc hxs
        have HXS := Lib.hid hxs
        subst hao
        clear hcell hkl hx hxs
        go_wp2_with fail
        obtain ⟨W, hW⟩ : ∃ W, wr.alloc (.cells #[.int .u16 (U x)] 26) = W := ⟨_, rfl⟩
        obtain ⟨B1, hB1⟩ : ∃ B, wr.heap.size = B := ⟨_, rfl⟩
        have g1 : W.cell? ⟨B1, 0, none⟩ = some (.int .u16 (U x)) := by rw [← hW, ← hB1]; exact cell_new _ _ _ 0 _ rfl
        have hbW : Below w.heap.size w W := by rw [← hW]; exact hb.alloc hb.size _
        have hWs : B1 < W.heap.size := cell_lt g1
        have G1 := Lib.hid g1
        have HBW := Lib.hid hbW
        rw [hW, hB1]
        clear hW hB1 g1 hb hc
        go_loopw [28] (fun i wr => ∃ m : Nat, m ≤ n2 ∧ i = .int .i64 m ∧ Hid (∀ (j : Nat) (z : BitVec 16), j < m → fast[j]? = some z → claB read x z = none) ∧ Below W.heap.size W wr) (fun i _ => n2 - (intOf i).toNat)
        case atStart => exact ⟨0, Nat.zero_le _, rfl, Lib.hid (fun j z hj => by omega), Below.refl _ _⟩
        case round =>
          obtain ⟨m, hmn, rfl, hno2, hb⟩ := hrel
          have hbw := Below.next HBW.out hb
          by_cases hlt2 : m < n2
          · obtain ⟨b2, o2, hao2, hcell2⟩ := (HR2.out.below hbw).at' (by omega)
            have hml : m < fast.length := by have := HN2.out; omega
            have hc2 := hcell2 m _ (at_cell hml)
            have hys := at_some hml
            obtain ⟨y, hy⟩ : ∃ y, fast.getD m 0#16 = y := ⟨_, rfl⟩
            rw [hy] at hc2 hys
            cases hao2
            have hsz := hb.size
            have HYS := Lib.hid hys
            -- the world with both boxes
            have hb2 : Below wr.heap.size wr (wr.alloc (.cells #[.int .u16 (U y)] 26)) := (Below.refl _ _).alloc (Nat.le_refl _) _
            have e1 : (wr.alloc (.cells #[.int .u16 (U y)] 26)).cell? ⟨B1, 0, none⟩ = some (.int .u16 (U x)) := ((Below.next hb hb2).cell (p := ⟨B1, 0, none⟩) (cell_lt G1.out)).trans G1.out
            have e2 : (wr.alloc (.cells #[.int .u16 (U y)] 26)).cell? ⟨wr.heap.size, 0, none⟩ = some (.int .u16 (U y)) := cell_new _ _ _ 0 _ rfl
            have HI := Lib.hid (idxF_c 37 #[.pointer (some ⟨B1, 0, none⟩), .pointer (some ⟨wr.heap.size, 0, none⟩)] (enters_of Try.func37 (by kernel_rfl) rfl) (fun r => tri x y r) read a n c _ (HR.out.below (Below.next hbw hb2)) (clash1_at _ B1 wr.heap.size x y e1 e2))
            have E1 := Lib.hid e1
            have E2 := Lib.hid e2
            have HBX := Lib.hid (Below.next hb hb2)
            rcases idx_find (p := fun r => tri x y r) (l := read) with ⟨hf, hi⟩ | ⟨i, hil, hi, hf, _⟩
            · have hB0 : claB read x y = none := by unfold claB; rw [hf]; rfl
              have hno3 := Lib.hid (claA_step HYS.out hno2.out hB0)
              rw [hi] at HI
              clear hcell2 hml hy hys hf hi hB0 hno2 e1 e2 hb hb2
              go_wp2_with fail
              refine HI.out.mono ?_
              rintro e w3 ⟨rfl, b3⟩
              have b4 := Below.next HBX.out b3
              clear HI E1 E2 HBX b3
              go_wp2_with fail
              go_roundw
              case rel => exact ⟨m + 1, by omega, by go_num, hno3, b4⟩
              case measure => simp [intOf]; omega
            · have hB1 : claB read x y = some (x, y, read.getD i 0#16) := by unfold claB; rw [hf]; rfl
              have hA1 : claA read fast x = some (x, y, read.getD i 0#16) := fs_hit (f := fun b => claB read x b) HYS.out hno2.out hB1
              have hS1 : claS read fast = some (x, y, read.getD i 0#16) := fs_hit (f := fun a => claA read fast a) HXS.out hno.out hA1
              have hE : Hid (claT read fast = (x, y, read.getD i 0#16, 0)) := by show _ = _; rw [hC.out, hS1]; rfl
              have hin : i < n := by have := HN.out; omega
              have hcr := at_cell hil
              rw [hi] at HI
              clear hcell2 hml hy hys hf hi hB1 hA1 hS1 hno2 e1 e2 hb hb2
              go_wp2_with fail
              refine HI.out.mono ?_
              rintro e w3 ⟨rfl, b3⟩
              have b4 := Below.next HBX.out b3
              have b5 := Below.next HBW.out b4
              have f1 : w3.cell? ⟨B1, 0, none⟩ = some (.int .u16 (U x)) := (b3.cell (p := ⟨B1, 0, none⟩) (cell_lt E1.out)).trans E1.out
              have f2 : w3.cell? ⟨wr.heap.size, 0, none⟩ = some (.int .u16 (U y)) := (b3.cell (p := ⟨wr.heap.size, 0, none⟩) (cell_lt E2.out)).trans E2.out
              obtain ⟨b6, o6, hao6, hcell6⟩ := (HR.out.below b5).at' (by omega)
              have f3 := hcell6 i _ hcr
              obtain ⟨r, hr⟩ : ∃ r, read.getD i 0#16 = r := ⟨_, rfl⟩
              rw [hr] at f3 hE
              cases hao6
              have hi0 : (0 : Int) ≤ (i : Int) := by omega
              have hi1 : (i : Int) < (n : Int) := by omega
              clear HI E1 E2 HBX b3 b4 hcell6 hcr hr hil
              go_wp2_with fail
              go_quiet (fail)
              go_wp2_with fail
              exact bodyPost_ret (v := V4 (x, y, r, 0)) (by simp [results, Try.results13, go_sem, V4]) rfl ⟨by rw [hE.out], below_drewN b5⟩
          · have hA0 : claA read fast x = none := fs_none (f := fun b => claB read x b) (fun j z hz => hno2.out j z (by have := (List.getElem?_eq_some_iff.1 hz).1; have := HN2.out; omega) hz)
            have hno3 := Lib.hid (claS_step HXS.out hno.out hA0)
            clear hno hno2 hA0
            go_wp2_with fail
            go_roundw
            case rel => exact ⟨k + 1, by omega, by go_num, hno3, hbw⟩
            case measure => simp [intOf]; omega
      · have hS0 : claS read fast = none := fs_none (f := fun a => claA read fast a) (fun j z hz => hno.out j z (by have := (List.getElem?_eq_some_iff.1 hz).1; have := HN2.out; omega) hz)
        have hE : Hid (claT read fast = (0#16, 0#16, 0#16, 13)) := by show _ = _; rw [hC.out, hS0]; rfl
        clear hno hS0
        go_wp2_with fail
        exact bodyPost_ret (v := V4 (0#16, 0#16, 0#16, 13)) (by simp [results, Try.results13, go_sem, V4]) rfl ⟨by rw [hE.out], hb⟩
  · have hE : Hid (claT read fast = (0#16, 0#16, 0#16, botS read fast)) := by show _ = _; unfold claT; rw [if_pos hbo]
    obtain ⟨v, hv⟩ : ∃ v, botS read fast = v := ⟨_, rfl⟩
    rw [hv] at HB hE hbo
    have hv1 : (v != 0) = true := by simpa using hbo
    clear hv hbo
    go_enter Try.func13, Try.ntmps13
    go_wp2_with fail
    refine HB.out.mono ?_
    rintro e w1 ⟨rfl, b1⟩
    go_wp2_with fail
    exact bodyPost_ret (v := V4 (0#16, 0#16, 0#16, v)) (by simp [results, Try.results13, go_sem, V4]) rfl ⟨by rw [hE.out], b1⟩

set_option maxRecDepth 100000 in
set_option maxHeartbeats 1000000 in
theorem safe_c (read fast : List (BitVec 16)) (a : Option Addr) (n c : Nat) (a2 : Option Addr) (n2 c2 : Nat) (w : World) (h : Rd w a n c (read.map setV2)) (h2 : Rd w a2 n2 c2 (fast.map setV2)) :
    Calls Try.prog 15 #[.slice a n c, .slice a2 n2 c2] w fun e w' => e = .returned (.bool ((claT read fast).2.2.2 == 13)) ∧ Below w.heap.size w w' := by
  have HC := Lib.hid (clash_c read fast a n c a2 n2 c2 w h h2)
  clear h h2
  obtain ⟨⟨x, y, r, e⟩, he⟩ : ∃ p, claT read fast = p := ⟨_, rfl⟩
  rw [he] at HC
  have HE := Lib.hid he
  unfold V4 at HC
  clear he
  go_enter Try.func15, Try.ntmps15
  go_wp2_with fail
  refine HC.out.mono ?_
  rintro e w1 ⟨rfl, b1⟩
  go_wp2_with fail
  go_ret
  exact ⟨by rw [HE.out]; rfl, b1⟩
end Go.Proofs.Ytopcejcfghdeeaa
