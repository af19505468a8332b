/- The reference's Of, Rename, Choose, Subsets, Same; set.Rename; slices.Equal and Clone of ints. -/
import Derived.Test.YthkboibhkpkliaaDoorSet3
namespace Go.Proofs.YthkboibhkpkliaaDoor
open Go.RowKit

set_option maxHeartbeats 400000 in
theorem known_c (i : Int) (w : World) :
    Calls Tryd.prog 57 #[.int .i64 i] w fun e w' => e = .returned (.bool (decide (0 ≤ i) && decide (i < 12))) ∧ w = w' := by
  by_cases h1 : 0 ≤ i
  · by_cases h2 : i < 12
    all_goals
      go_enter Tryd.func57, Tryd.ntmps57
      go_wp2
      go_ret
      exact ⟨ret_bool (by simp [h1, h2]), rfl⟩
  · go_enter Tryd.func57, Tryd.ntmps57
    go_wp2
    go_ret
    exact ⟨ret_bool (by simp; omega), rfl⟩

set_option maxHeartbeats 1000000 in
theorem rof_c (l : List Int) (a : Option Addr) (n c : Nat) (w : World) (h : Rd w a n c (l.map (Value.int .i64))) :
    Calls Tryd.prog 37 #[.slice a n c] w fun e w' => e = .returned (.tuple #[.int .u16 (U (ofS 0#16 l).1), .int .i64 (ofS 0#16 l).2]) ∧ w = w' := by
  have hn : n ≤ l.length ∧ l.length ≤ n := by have := h.len; simp at this; omega
  obtain ⟨hn1, hn2⟩ := hn
  have hm := h.max
  have hle := h.le
  unfold maxLen at hm
  go_enter Tryd.func37, Tryd.ntmps37
  go_wp2
  go_loop [4, 5] (fun v i => ∃ (k : Nat) (s : BitVec 16), k ≤ n ∧ i = .int .i64 k ∧ v = .int .u16 (U s) ∧ ofS 0#16 (l.take k) = (s, 0) ∧ ofS 0#16 l = ofS s (l.drop k)) (fun _ i => n - (intOf i).toNat)
  case atStart => exact ⟨0, 0#16, Nat.zero_le _, rfl, rfl, by simp [ofS], by simp⟩
  case round =>
    obtain ⟨k, s, hk, rfl, rfl, hs, ho⟩ := hrel
    by_cases hlt : k < n
    · obtain ⟨x, hx⟩ : ∃ x, l[k]? = some x := ⟨l[k]'(by omega), by simp⟩
      have T := Lib.hid (ofS_take 0#16 hx s hs ho)
      obtain ⟨b, o, rfl, hcell⟩ := h.at' (by omega)
      have hc := hcell k (.int .i64 x) (by simp [hx])
      clear hcell hs ho hx h
      by_cases h1 : 0 ≤ x ∧ x < 12
      · obtain ⟨m, rfl⟩ := Int.eq_ofNat_of_zero_le h1.1
        have hkn : (decide (0 ≤ (m : Int)) && decide ((m : Int) < 12)) = true := by simp; omega
        have hI : hasI s m = hasB s m := by simp [hasI]; omega
        cases hh : hasB s m
        · have HE : Hid (addS s m = (s ||| bitS m, 0)) := by rw [Hid, addS, if_neg (by omega), Int.toNat_natCast, hh]; rfl
          rw [hh] at hI
          clear hh
          go_wp2_with (first | (go_at_call 57; refine (known_c _ _).mono ?_; rintro e w' ⟨rfl, rfl⟩) | (go_at_call 49; refine (has_c s _ _ _ rfl).mono ?_; rintro e w' ⟨rfl, rfl⟩))
          go_round
          case rel =>
            have t1 := T.out.1 (by rw [HE.out])
            rw [HE.out] at t1
            exact ⟨k + 1, _, by omega, by go_num, rfl, t1⟩
          case measure => simp [intOf]; omega
        · have HE : Hid (addS s m = (0#16, 5)) := by rw [Hid, addS, if_neg (by omega), Int.toNat_natCast, hh]; rfl
          rw [hh] at hI
          clear hh
          go_wp2_with (first | (go_at_call 57; refine (known_c _ _).mono ?_; rintro e w' ⟨rfl, rfl⟩) | (go_at_call 49; refine (has_c s _ _ _ rfl).mono ?_; rintro e w' ⟨rfl, rfl⟩))
          go_ret2
          exact ⟨by rw [T.out.2 (by rw [HE.out]; decide), HE.out]; rfl, rfl⟩
      · have HE : Hid (addS s x = (0#16, 7)) := by rw [Hid, addS, if_pos (by omega)]
        have hkn : (decide (0 ≤ x) && decide (x < 12)) = false := by simp; omega
        have hH1 := Lib.hid h1
        clear h1
        go_wp2_with (first | (go_at_call 57; refine (known_c _ _).mono ?_; rintro e w' ⟨rfl, rfl⟩) | (go_at_call 49; refine (has_c s _ _ _ rfl).mono ?_; rintro e w' ⟨rfl, rfl⟩))
        go_ret2
        exact ⟨by rw [T.out.2 (by rw [HE.out]; decide), HE.out]; rfl, rfl⟩
    · have hkn : k = n := by omega
      have ho' : ofS 0#16 l = (s, 0) := by rw [ho, List.drop_of_length_le (by omega)]; rfl
      have HO := Lib.hid ho'
      clear ho ho' hs hkn
      go_wp2
      go_ret2
      exact ⟨by rw [HO.out]; rfl, rfl⟩

/-- the entries of the members -/
def entries (x : BitVec 16) (to : List Int) : List Int := (memS x).map fun i => (to[i]?).getD (-1)
def renS (x : BitVec 16) (to : List Int) : BitVec 16 × Int := ofS 0#16 (entries x to)

theorem memS_lt {x : BitVec 16} {k i : Nat} (h : (memS x)[k]? = some i) : i < 16 := by
  have := List.mem_of_getElem? h
  simp [memS] at this
  exact this.1
theorem addS_neg (s : BitVec 16) : addS s (-1) = (0#16, 7) := by simp [addS]

set_option maxRecDepth 100000 in
set_option maxHeartbeats 1000000 in
theorem rename_c (x : BitVec 16) (s : Int) (to : List Int) (a : Option Addr) (n c : Nat) (w : World) (hs : s = U x) (ht : HasTab w) (h : Rd w a n c (to.map (Value.int .i64))) :
    Calls Tryd.prog 25 #[.int .u16 s, .slice a n c] w fun e w' => e = .returned (.tuple #[.int .u16 (U (renS x to).1), .int .i64 (renS x to).2]) ∧ Below w.heap.size w w' := by
  subst hs
  have hn : n ≤ to.length ∧ to.length ≤ n := by have := h.len; simp at this; omega
  obtain ⟨hn1, hn2⟩ := hn
  have hm := h.max
  have hle := h.le
  unfold maxLen at hm
  go_enter Tryd.func25, Tryd.ntmps25
  go_wp2_with fail
  refine (members_c x _ _ rfl ht).mono ?_
  rintro e w1 ⟨v, rfl, hown, hb⟩
  obtain ⟨ma, mc, rfl, hr⟩ := hown.rd
  have h2 := h.below hb
  have hml := cnt_le x
  have e1 : ((memS x).map intV).length = cnt x := by simp [cnt]
  rw [e1] at hr ⊢
  have hrl := hr.le
  have hrm := hr.max
  unfold maxLen at hrm
  clear hown h ht
  go_wp2_with fail
  go_loop [6, 14] (fun v i => ∃ (k : Nat) (s : BitVec 16), k ≤ cnt x ∧ i = .int .i64 k ∧ v = .int .u16 (U s) ∧ ofS 0#16 ((entries x to).take k) = (s, 0) ∧ ofS 0#16 (entries x to) = ofS s ((entries x to).drop k)) (fun _ i => cnt x - (intOf i).toNat)
  case atStart => exact ⟨0, 0#16, Nat.zero_le _, rfl, rfl, by simp [ofS], by simp⟩
  case round =>
    obtain ⟨k, s, hk, rfl, rfl, hs, ho⟩ := hrel
    by_cases hlt : k < cnt x
    · obtain ⟨i, hi⟩ : ∃ i, (memS x)[k]? = some i := ⟨_, List.getElem?_eq_getElem (show k < (memS x).length from hlt)⟩
      have hi16 := memS_lt hi
      have hx : (entries x to)[k]? = some ((to[i]?).getD (-1)) := by simp [entries, hi]
      have T := Lib.hid (ofS_take 0#16 hx s hs ho)
      obtain ⟨b, o, rfl, hcell⟩ := hr.at' (by omega)
      have hc := hcell k (intV i) (by simp [hi])
      unfold intV at hc
      clear hcell hs ho hx hi hr
      by_cases hin : i < n
      · obtain ⟨y, hy⟩ : ∃ y, to[i]? = some y := ⟨to[i]'(by omega), by simp⟩
        rw [hy, Option.getD_some] at T
        obtain ⟨b2, o2, rfl, hcell2⟩ := h2.at' (by omega)
        have hc2 := hcell2 i (.int .i64 y) (by simp [hy])
        clear hcell2 hy h2
        by_cases he : (addS s y).2 = 0
        · have he' : ((addS s y).2 != 0) = false := by simp [he]
          have HE := Lib.hid he
          clear he
          go_wp2_with (go_at_call 48; refine (add_c s _ _ _ rfl).mono ?_; rintro e w' ⟨rfl, rfl⟩)
          go_round
          case rel => exact ⟨k + 1, _, by omega, by go_num, rfl, T.out.1 HE.out⟩
          case measure => simp [intOf]; omega
        · have he' : ((addS s y).2 != 0) = true := by simp [he]
          have HE := Lib.hid he
          clear he
          go_wp2_with (go_at_call 48; refine (add_c s _ _ _ rfl).mono ?_; rintro e w' ⟨rfl, rfl⟩)
          go_ret2
          exact ⟨by rw [renS, T.out.2 HE.out]; rfl, hb⟩
      · rw [List.getElem?_eq_none (by omega), Option.getD_none] at T
        have HT : Hid (ofS 0#16 (entries x to) = (0#16, 7)) := by
          have := T.out.2
          rw [addS_neg] at this
          exact this (by decide)
        clear T h2
        go_wp2_with fail
        go_ret2
        exact ⟨by rw [renS, HT.out]; rfl, hb⟩
    · have hel : (entries x to).length = cnt x := by simp [entries, cnt]
      have ho' : ofS 0#16 (entries x to) = (s, 0) := by rw [ho, List.drop_of_length_le (by omega)]; rfl
      have HO := Lib.hid ho'
      clear ho ho' hs hel h2 hr
      go_wp2_with fail
      go_ret2
      exact ⟨by rw [renS, HO.out]; rfl, hb⟩
end Go.Proofs.YthkboibhkpkliaaDoor
