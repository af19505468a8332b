/- Layer 38: the reference's Clash and Safe; the sets of a size; Least. -/
import Derived.Test.YtopcejcfghdeeaaFa2
import Derived.Test.YtopcejcfghdeeaaSet6
import Derived.Laws.OwnMore
namespace Go.Proofs.Ytopcejcfghdeeaa
open Go.RowKit Go.Shelf

set_option maxRecDepth 100000 in
set_option maxHeartbeats 4000000 in
theorem rclash_c (read fast : List (BitVec 16)) (a : Option Addr) (n c : Nat) (a2 : Option Addr) (n2 c2 : Nat) (w : World) (h : Rd w a n c (read.map setV2)) (h2 : Rd w a2 n2 c2 (fast.map setV2)) :
    Calls Try.prog 14 #[.slice a n c, .slice a2 n2 c2] w fun e w' => e = .returned (V4 (claT read fast)) ∧ Below w.heap.size w w' := by
  have hnl : read.length = n := by have := h.len; simp at this; omega
  have hnl2 : fast.length = n2 := by have := h2.len; simp at this; omega
  have hm := h.max
  have hle := h.le
  have hm2 := h2.max
  have hle2 := h2.le
  unfold maxLen at hm hm2
  have HR := Lib.hid h
  have HR2 := Lib.hid h2
  have HN := Lib.hid hnl
  have HN2 := Lib.hid hnl2
  have HB := Lib.hid (rboth_c read fast a n c a2 n2 c2 w h h2)
  clear h h2 hnl hnl2
  by_cases hbo : botS read fast = 0
  · have hC : Hid (claT read fast = claM (claS read fast)) := by show _ = _; unfold claT; rw [if_neg (by rw [hbo]; decide)]
    rw [hbo] at HB
    clear hbo
    go_enter Try.func14, Try.ntmps14
    go_wp2_with fail
    refine HB.out.mono ?_
    rintro e w1 ⟨rfl, b1⟩
    clear HB
    go_wp2_with fail
    go_loopw [9] (fun i wr => ∃ k : Nat, k ≤ n2 ∧ i = .int .i64 k ∧ Hid (∀ (j : Nat) (z : BitVec 16), j < k → fast[j]? = some z → claA read fast z = none) ∧ Below w.heap.size w wr) (fun i _ => n2 - (intOf i).toNat)
    case atStart => exact ⟨0, Nat.zero_le _, rfl, Lib.hid (fun j z hj => by omega), b1⟩
    case round =>
      clear b1
      obtain ⟨k, hk, rfl, hno, hb⟩ := hrel
      by_cases hlt : k < n2
      · have hkl : k < fast.length := by have := HN2.out; omega
        have hxs := at_some hkl
        have hcx := at_cell hkl
        obtain ⟨x, hx⟩ : ∃ x, fast.getD k 0#16 = x := ⟨_, rfl⟩
        rw [hx] at hxs hcx
        have HXS := Lib.hid hxs
        have HCX := Lib.hid hcx
        have HBW := Lib.hid hb
        clear hkl hx hxs hcx hb
        go_wp2_with fail
        go_loopw [10] (fun i wr2 => ∃ m : Nat, m ≤ n2 ∧ i = .int .i64 m ∧ Hid (∀ (j : Nat) (z : BitVec 16), j < m → fast[j]? = some z → claB read x z = none) ∧ Below w.heap.size w wr2) (fun i _ => n2 - (intOf i).toNat)
        case atStart => exact ⟨0, Nat.zero_le _, rfl, Lib.hid (fun j z hj => by omega), HBW.out⟩
        case round =>
          obtain ⟨m, hmn, rfl, hno2, hb⟩ := hrel
          by_cases hlt2 : m < n2
          · have hml : m < fast.length := by have := HN2.out; omega
            have hys := at_some hml
            have hcy := at_cell hml
            obtain ⟨y, hy⟩ : ∃ y, fast.getD m 0#16 = y := ⟨_, rfl⟩
            rw [hy] at hys hcy
            have HYS := Lib.hid hys
            have HCY := Lib.hid hcy
            have HB2 := Lib.hid hb
            clear hml hy hys hcy hb
            go_wp2_with fail
            go_loopw [11] (fun i wr3 => ∃ q : Nat, q ≤ n ∧ i = .int .i64 q ∧ Hid (∀ j, j < q → tri x y (read.getD j 0#16) = false) ∧ Below w.heap.size w wr3) (fun i _ => n - (intOf i).toNat)
            case atStart => exact ⟨0, Nat.zero_le _, rfl, Lib.hid (fun j hj => by omega), HB2.out⟩
            case round =>
              obtain ⟨q, hqn, rfl, hno3, hb⟩ := hrel
              by_cases hlt3 : q < n
              · have hql : q < read.length := by have := HN.out; omega
                obtain ⟨b, o, hao, hcell⟩ := (HR.out.below hb).at' (by omega)
                obtain ⟨b2, o2, hao2, hcell2⟩ := (HR2.out.below hb).at' (by omega)
                have hc := hcell q _ (at_cell hql)
                have hc1 := hcell2 k _ HCX.out
                have hc2 := hcell2 m _ HCY.out
                obtain ⟨r, hr⟩ : ∃ r, read.getD q 0#16 = r := ⟨_, rfl⟩
                rw [hr] at hc
                subst hao hao2
                cases hq : (x &&& y &&& r == 0#16)
                · have hno4 : Hid (∀ j, j < q + 1 → tri x y (read.getD j 0#16) = false) := Lib.hid (fun j hj => by
                    by_cases h1 : j < q
                    · exact hno3.out j h1
                    · obtain rfl : j = q := by omega
                      rw [hr]; exact hq)
                  clear hcell hcell2 hr hno3 hql
                  go_wp2_with fail
                  go_quiet (fail)
                  go_wp2_with fail
                  go_roundw
                  case rel => exact ⟨q + 1, by omega, by go_num, hno4, below_drewN hb⟩
                  case measure => simp [intOf]; omega
                · have hB1 : claB read x y = some (x, y, r) := by
                    unfold claB
                    rw [find_hit (p := fun r => tri x y r) hql hno3.out (by rw [hr]; exact hq), hr]; rfl
                  have hA1 : claA read fast x = some (x, y, r) := fs_hit (f := fun b => claB read x b) HYS.out hno2.out hB1
                  have hS1 : claS read fast = some (x, y, r) := fs_hit (f := fun a => claA read fast a) HXS.out hno.out hA1
                  have hE : Hid (claT read fast = (x, y, r, 0)) := by show _ = _; rw [hC.out, hS1]; rfl
                  clear hcell hcell2 hr hno3 hql hB1 hA1 hS1
                  go_wp2_with fail
                  go_quiet (fail)
                  go_wp2_with fail
                  go_quiet (fail)
                  go_wp2_with fail
                  exact bodyPost_ret (v := V4 (x, y, r, 0)) (by simp [results, Try.results14, go_sem, V4]) rfl ⟨by rw [hE.out], below_drewN (below_drewN hb)⟩
              · have hB0 : claB read x y = none := by
                  unfold claB
                  rw [find_none (p := fun r => tri x y r) (fun j hj => hno3.out j (by have := HN.out; omega))]; rfl
                have hno4 := Lib.hid (claA_step HYS.out hno2.out hB0)
                clear hno3 hB0 hno2
                go_wp2_with fail
                go_roundw
                case rel => exact ⟨m + 1, by omega, by go_num, hno4, hb⟩
                case measure => simp [intOf]; omega
          · have hA0 : claA read fast x = none := fs_none (f := fun b => claB read x b) (fun j z hz => hno2.out j z (by have := (List.getElem?_eq_some_iff.1 hz).1; have := HN2.out; omega) hz)
            have hno3 := Lib.hid (claS_step HXS.out hno.out hA0)
            clear hno hno2 hA0
            go_wp2_with fail
            go_roundw
            case rel => exact ⟨k + 1, by omega, by go_num, hno3, hb⟩
            case measure => simp [intOf]; omega
      · have hS0 : claS read fast = none := fs_none (f := fun a => claA read fast a) (fun j z hz => hno.out j z (by have := (List.getElem?_eq_some_iff.1 hz).1; have := HN2.out; omega) hz)
        have hE : Hid (claT read fast = (0#16, 0#16, 0#16, 13)) := by show _ = _; rw [hC.out, hS0]; rfl
        clear hno hS0
        go_wp2_with fail
        exact bodyPost_ret (v := V4 (0#16, 0#16, 0#16, 13)) (by simp [results, Try.results14, go_sem, V4]) rfl ⟨by rw [hE.out], hb⟩
  · have hE : Hid (claT read fast = (0#16, 0#16, 0#16, botS read fast)) := by show _ = _; unfold claT; rw [if_pos hbo]
    obtain ⟨v, hv⟩ : ∃ v, botS read fast = v := ⟨_, rfl⟩
    rw [hv] at HB hE hbo
    have hv1 : (v != 0) = true := by simpa using hbo
    clear hv hbo
    go_enter Try.func14, Try.ntmps14
    go_wp2_with fail
    refine HB.out.mono ?_
    rintro e w1 ⟨rfl, b1⟩
    go_wp2_with fail
    exact bodyPost_ret (v := V4 (0#16, 0#16, 0#16, v)) (by simp [results, Try.results14, go_sem, V4]) rfl ⟨by rw [hE.out], b1⟩

set_option maxRecDepth 100000 in
set_option maxHeartbeats 1000000 in
theorem rsafe_c (read fast : List (BitVec 16)) (a : Option Addr) (n c : Nat) (a2 : Option Addr) (n2 c2 : Nat) (w : World) (h : Rd w a n c (read.map setV2)) (h2 : Rd w a2 n2 c2 (fast.map setV2)) :
    Calls Try.prog 25 #[.slice a n c, .slice a2 n2 c2] w fun e w' => e = .returned (.bool ((claT read fast).2.2.2 == 13)) ∧ Below w.heap.size w w' := by
  have HC := Lib.hid (rclash_c read fast a n c a2 n2 c2 w h h2)
  clear h h2
  obtain ⟨⟨x, y, r, e⟩, he⟩ : ∃ p, claT read fast = p := ⟨_, rfl⟩
  rw [he] at HC
  have HE := Lib.hid he
  unfold V4 at HC
  clear he
  go_enter Try.func25, Try.ntmps25
  go_wp2_with fail
  refine HC.out.mono ?_
  rintro e w1 ⟨rfl, b1⟩
  go_wp2_with fail
  go_ret
  exact ⟨by rw [HE.out]; rfl, b1⟩

/-- all sets of k of n servers -/
def setsS (n k : Nat) : List (BitVec 16) := if k = 0 then [0#16] else chooseS (bitS n - 1#16) k
theorem setsS_eq (n k : Nat) (h : 0 < k) : setsS n k = chooseS (bitS n - 1#16) k := by unfold setsS; rw [if_neg (by omega)]

set_option maxRecDepth 100000 in
set_option maxHeartbeats 1000000 in
theorem sets_c (n k : Nat) (hn : n ≤ 12) (hk : k ≤ 12) (w : World) :
    Calls Try.prog 32 #[.int .i64 n, .int .i64 k] w fun e w' => ∃ v, e = .returned v ∧ Own w w' 26 v ((setsS n k).map setV2) ∧ Below w.heap.size w w' := by
  by_cases h0 : k = 0
  · subst h0
    have hs : Hid (setsS n 0 = [0#16]) := rfl
    go_enter Try.func32, Try.ntmps32
    go_wp2_with fail
    go_ret
    refine ⟨_, rfl, ?_, (Below.refl _ w).alloc (Nat.le_refl _) _⟩
    rw [hs.out]
    exact World.ownsRow_lit (base := w.heap.size) (e := 26) (size := 1) w #[.int .u16 0] 1 (Nat.le_refl _) (by decide) rfl
  · have hs : Hid (setsS n k = chooseS (bitS n - 1#16) k) := setsS_eq n k (by omega)
    have hkb : ((k : Int) == 0) = false := by simpa using h0
    have HN : Hid (∀ m : Int, m = U (bitS n - 1#16) → ∀ w, Calls Try.prog 56 #[.int .u16 m, .int .i64 k] w fun e w' => ∃ v, e = .returned v ∧ Own w w' 26 v ((chooseS (bitS n - 1#16) k).map setV) ∧ Below w.heap.size w w') :=
      Lib.hid (fun m hm w => rchoose_c _ _ k w hm)
    clear h0
    go_enter Try.func32, Try.ntmps32
    go_wp2_with fail
    refine (HN.out _ ?_ _).mono ?_
    · rfl
    rintro e w1 ⟨v, rfl, ho, hb⟩
    go_wp2_with fail
    go_ret
    exact ⟨v, rfl, by rw [hs.out]; exact ho, hb⟩

def leaS (n f : Int) : Int × Int × Int := if n < 1 ∨ 12 < n ∨ f < 0 ∨ n ≤ f then (0, 0, 7) else (n - f, (n + f) / 2 + 1, 0)
def V3 (p : Int × Int × Int) : Value := .tuple #[.int .i64 p.1, .int .i64 p.2.1, .int .i64 p.2.2]

set_option maxRecDepth 100000 in
set_option maxHeartbeats 1000000 in
theorem least_c (n f : Int) (w : World) :
    Calls Try.prog 30 #[.int .i64 n, .int .i64 f] w fun e w' => e = .returned (V3 (leaS n f)) ∧ w' = w := by
  by_cases h : n < 1 ∨ 12 < n ∨ f < 0 ∨ n ≤ f
  · have hE : Hid (leaS n f = (0, 0, 7)) := by show _ = _; unfold leaS; rw [if_pos h]
    by_cases h1 : n < 1
    · clear h
      go_enter Try.func30, Try.ntmps30
      go_wp2_with fail
      exact bodyPost_ret (v := V3 (0, 0, 7)) (by simp [results, Try.results30, go_sem, V3]) rfl ⟨by rw [hE.out], rfl⟩
    · by_cases h2 : 12 < n
      · clear h
        go_enter Try.func30, Try.ntmps30
        go_wp2_with fail
        exact bodyPost_ret (v := V3 (0, 0, 7)) (by simp [results, Try.results30, go_sem, V3]) rfl ⟨by rw [hE.out], rfl⟩
      · by_cases h3 : f < 0
        · clear h
          go_enter Try.func30, Try.ntmps30
          go_wp2_with fail
          exact bodyPost_ret (v := V3 (0, 0, 7)) (by simp [results, Try.results30, go_sem, V3]) rfl ⟨by rw [hE.out], rfl⟩
        · have h4 : n ≤ f := by omega
          clear h
          go_enter Try.func30, Try.ntmps30
          go_wp2_with fail
          exact bodyPost_ret (v := V3 (0, 0, 7)) (by simp [results, Try.results30, go_sem, V3]) rfl ⟨by rw [hE.out], rfl⟩
  · have hE : Hid (leaS n f = (n - f, (n + f) / 2 + 1, 0)) := by show _ = _; unfold leaS; rw [if_neg h]
    have h1 : 1 ≤ n := by omega
    have h2 : n ≤ 12 := by omega
    have h3 : 0 ≤ f := by omega
    have h4 : f < n := by omega
    clear h
    go_enter Try.func30, Try.ntmps30
    go_wp2_with fail

    exact bodyPost_ret (v := V3 (n - f, (n + f) / 2 + 1, 0)) (by simp [results, Try.results30, go_sem, V3]) rfl ⟨by rw [hE.out], rfl⟩

set_option maxRecDepth 100000 in
set_option maxHeartbeats 1000000 in
theorem rleast_c (n f : Int) (w : World) :
    Calls Try.prog 31 #[.int .i64 n, .int .i64 f] w fun e w' => e = .returned (V3 (leaS n f)) ∧ w' = w := by
  by_cases h : n < 1 ∨ 12 < n ∨ f < 0 ∨ n ≤ f
  · have hE : Hid (leaS n f = (0, 0, 7)) := by show _ = _; unfold leaS; rw [if_pos h]
    by_cases h1 : n < 1
    · clear h
      go_enter Try.func31, Try.ntmps31
      go_wp2_with fail
      exact bodyPost_ret (v := V3 (0, 0, 7)) (by simp [results, Try.results31, go_sem, V3]) rfl ⟨by rw [hE.out], rfl⟩
    · by_cases h2 : 12 < n
      · clear h
        go_enter Try.func31, Try.ntmps31
        go_wp2_with fail
        exact bodyPost_ret (v := V3 (0, 0, 7)) (by simp [results, Try.results31, go_sem, V3]) rfl ⟨by rw [hE.out], rfl⟩
      · by_cases h3 : f < 0
        · clear h
          go_enter Try.func31, Try.ntmps31
          go_wp2_with fail
          exact bodyPost_ret (v := V3 (0, 0, 7)) (by simp [results, Try.results31, go_sem, V3]) rfl ⟨by rw [hE.out], rfl⟩
        · have h4 : n ≤ f := by omega
          clear h
          go_enter Try.func31, Try.ntmps31
          go_wp2_with fail
          exact bodyPost_ret (v := V3 (0, 0, 7)) (by simp [results, Try.results31, go_sem, V3]) rfl ⟨by rw [hE.out], rfl⟩
  · have hE : Hid (leaS n f = (n - f, (n + f) / 2 + 1, 0)) := by show _ = _; unfold leaS; rw [if_neg h]
    have h1 : 1 ≤ n := by omega
    have h2 : n ≤ 12 := by omega
    have h3 : 0 ≤ f := by omega
    have h4 : f < n := by omega
    clear h
    go_enter Try.func31, Try.ntmps31
    go_wp2_with fail
    go_loop [7] (fun i => ∃ q : Nat, 1 ≤ q ∧ q ≤ 13 ∧ i = .int .i64 q ∧ 2 * ((q : Int) - 1) ≤ n + f) (fun i => 13 - (intOf i).toNat)
    case atStart => exact ⟨1, by omega, by omega, rfl, by omega⟩
    case round =>
      obtain ⟨q, hq1, hq, rfl, hr⟩ := hrel
      by_cases hlt : n ≤ n - q + (n - q) + f
      · go_wp2_with fail
        go_round
        case rel => exact ⟨q + 1, by omega, by omega, by go_num, by omega⟩
        case measure => simp [intOf]; omega
      · have hQ : Hid ((q : Int) = (n + f) / 2 + 1) := by show _ = _; omega
        go_wp2_with fail
        exact bodyPost_ret (v := V3 (n - f, q, 0)) (by simp [results, Try.results31, go_sem, V3]) rfl ⟨by rw [hE.out, hQ.out], rfl⟩
end Go.Proofs.Ytopcejcfghdeeaa
