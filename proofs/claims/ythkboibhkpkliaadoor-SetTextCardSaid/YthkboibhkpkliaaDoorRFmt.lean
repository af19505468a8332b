/- The reference's Format and Parse of a set. -/
import Derived.Test.YthkboibhkpkliaaDoorPrs
namespace Go.Proofs.YthkboibhkpkliaaDoor
open Go.RowKit

theorem join_step (l : List (List UInt8)) (k : Nat) (y : List UInt8) (h : l[k]? = some y) :
    Lib.join (l.take (k + 1)) [32] = (if k = 0 then [] else Lib.join (l.take k) [32] ++ [32]) ++ y := by
  cases l with
  | nil => simp at h
  | cons a r =>
    cases k with
    | zero => simp at h; subst h; simp [Lib.join_one]
    | succ k =>
      have hr : r[k]? = some y := by simpa using h
      rw [List.take_succ_cons, List.take_succ_cons, Lib.join_cons, Lib.join_cons, Lib.joinTail_take_succ _ _ _ _ hr, if_neg (by omega)]
      simp

theorem cat_two (a b : List UInt8) : (⟨a.toArray⟩ : ByteArray) ++ (⟨b.toArray⟩ : ByteArray) = ⟨(a ++ b).toArray⟩ := by
  apply ByteArray.ext
  simp

set_option maxRecDepth 100000 in
set_option maxHeartbeats 2000000 in
theorem rformat_c (x : BitVec 16) (s : Int) (w : World) (hs : s = U x) :
    Calls Tryd.prog 35 #[.int .u16 s] w fun e w' => e = .returned (.string (fmtB x)) ∧ Below w.heap.size w w' := by
  subst hs
  have hcl := cnt_le x
  go_enter Tryd.func35, Tryd.ntmps35
  go_wp2_with fail
  refine (rmembers_c x _ _ rfl).mono ?_
  rintro e w1 ⟨v, rfl, hown, hb⟩
  obtain ⟨ma, mc, rfl, hr⟩ := hown.rdn (cnt x) (by simp [cnt])
  have hrl := hr.le
  have hrm := hr.max
  unfold maxLen at hrm
  clear hown
  go_wp2_with fail
  go_loopw [3, 5] (fun v i wr => ∃ (k : Nat) (t : List UInt8), k ≤ cnt x ∧ i = .int .i64 k ∧ v = .string ⟨t.toArray⟩ ∧ t.length ≤ 1 + 3 * k ∧ Hid (t = 123 :: Lib.join (((memS x).map Lib.decDigits).take k) [32]) ∧ Below w1.heap.size w1 wr) (fun _ i _ => cnt x - (intOf i).toNat)
  case atStart => exact ⟨0, [123], Nat.zero_le _, rfl, rfl, by simp, rfl, Below.refl _ _⟩
  case round =>
    obtain ⟨k, t, hk, rfl, rfl, htl, ht, hbr⟩ := hrel
    by_cases hlt : k < cnt x
    · obtain ⟨i, hi⟩ : ∃ i, (memS x)[k]? = some i := ⟨_, List.getElem?_eq_getElem (show k < (memS x).length from hlt)⟩
      have hi16 := memS_lt hi
      have hrw := hr.below hbr
      obtain ⟨b, o, rfl, hcell⟩ := hrw.at' (by omega)
      have hc := hcell k (intV i) (by simp [hi])
      unfold intV at hc
      have hd2 : (Lib.decDigits i).length ≤ 2 := dec_len i (by omega)
      have HJ := Lib.hid (join_step ((memS x).map Lib.decDigits) k (Lib.decDigits i) (by simp [hi]))
      obtain ⟨dd, hdd⟩ : ∃ dd, Lib.decDigits i = dd := ⟨_, rfl⟩
      have HI := Lib.hid (Tryd.strconv_Itoa_small i (by omega))
      rw [hdd] at hd2 HJ HI
      clear hcell hi hrw hr hdd
      by_cases hk0 : k = 0
      · subst hk0
        rw [Nat.add_zero] at hc
        have HT := Lib.hid (cat_two t dd)
        go_wp2_with fail
        refine (HI.out _).mono ?_
        rintro e w2 ⟨rfl, rfl⟩
        go_wp2_with fail
        go_roundw
        case rel => exact ⟨1, t ++ dd, by omega, rfl, congrArg Value.string HT.out, by rw [List.length_append]; omega, by show t ++ dd = 123 :: Lib.join (List.take (0 + 1) _) [32]; rw [HJ.out, ht.out]; simp [Lib.join_nil], hbr⟩
        case measure => simp [intOf]; omega
      · have HT1 := Lib.hid (cat_two t [32])
        have HT := Lib.hid (cat_two (t ++ [32]) dd)
        have hk1 : 0 < (k : Int) := by omega
        have hk2 := Lib.hid hk0
        clear hk0
        go_wp2_with fail
        refine (HI.out _).mono ?_
        rintro e w2 ⟨rfl, rfl⟩
        go_wp2_with fail
        go_roundw
        case rel => exact ⟨k + 1, t ++ [32] ++ dd, by omega, by go_num, congrArg Value.string (by rw [← HT.out, ← HT1.out]; (try rfl)), by rw [List.length_append, List.length_append]; simp only [List.length_cons, List.length_nil]; omega, by show _ = _; rw [HJ.out, if_neg hk2.out, ht.out]; (try simp), hbr⟩
        case measure => simp [intOf]; omega
    · have hkn : k = cnt x := by omega
      have HF : Hid (fmtB x = (⟨t.toArray⟩ : ByteArray) ++ (⟨[125].toArray⟩ : ByteArray)) := by
        show _ = _
        rw [cat_two, ht.out, List.take_of_length_le (by rw [List.length_map]; show cnt x ≤ k; omega)]; rfl
      have HB := Lib.hid (Below.next hb hbr)
      clear hr hb hbr hkn
      go_wp2_with fail
      go_ret
      exact ⟨by rw [HF.out]; rfl, HB.out⟩

theorem str_ne {u s : ByteArray} (h : u ≠ s) : (u.toList == s.toList) = false := by
  rw [ByteArray.toList_eq, ByteArray.toList_eq]
  refine beq_eq_false_iff_ne.2 (fun e => h (ByteArray.ext (Array.toList_inj.1 e)))

theorem ofNat_U (k : Nat) (h : k < 4096) : (k : Int) = U (BitVec.ofNat 16 k) := by unfold U; rw [BitVec.toNat_ofNat]; omega

set_option maxRecDepth 100000 in
set_option maxHeartbeats 2000000 in
theorem rparse_c (s : ByteArray) (w : World) (hs : s.size ≤ 1000000) :
    Calls Tryd.prog 36 #[.string s] w fun e w' => e = .returned (.tuple #[.int .u16 (U (parseS s).1), .int .i64 (parseS s).2]) ∧ Below w.heap.size w w' := by
  have hspec := Lib.hid (parseS_spec s)
  go_enter Tryd.func36, Tryd.ntmps36
  go_wp2_with fail
  go_loopw [4] (fun i wr => ∃ k : Nat, k ≤ 4096 ∧ i = .int .i64 k ∧ Hid (∀ y : Nat, y < k → fmtB (BitVec.ofNat 16 y) ≠ s) ∧ Below w.heap.size w wr) (fun i _ => 4096 - (intOf i).toNat)
  case atStart => exact ⟨0, Nat.zero_le _, rfl, Lib.hid (fun y hy => by omega), Below.refl _ _⟩
  case round =>
    obtain ⟨k, hk, rfl, hno, hb⟩ := hrel
    by_cases hlt : k < 4096
    · have hU := Lib.hid (ofNat_U k hlt)
      have hsize := Lib.hid (fmt_len (BitVec.ofNat 16 k) (by rw [BitVec.toNat_ofNat]; omega))
      by_cases h40 : (s.size : Int) ≤ 40
      · have HF := Lib.hid (fun w => rformat_c (BitVec.ofNat 16 k) k w hU.out)
        by_cases he : fmtB (BitVec.ofNat 16 k) = s
        · have HP : Hid (parseS s = (BitVec.ofNat 16 k, 0)) := by
            rcases hspec.out with ⟨y, h1, h2, h3⟩ | ⟨h1, _⟩
            · show _ = _
              rw [h3, fmtB_inj (h2.trans he.symm)]
            · exact absurd he (h1 _ (by rw [BitVec.toNat_ofNat]; omega))
          have HU := hU
          obtain ⟨u, hu⟩ : ∃ u, fmtB (BitVec.ofNat 16 k) = u := ⟨_, rfl⟩
          have hus : u = s := hu ▸ he
          subst hus
          rw [hu] at HF
          clear hu he hspec hno hsize
          go_wp2_with fail
          refine (HF.out _).mono ?_
          rintro e w2 ⟨rfl, hb2⟩
          have hb3 := Below.next hb hb2
          clear hb hb2
          go_wp2_with fail
          go_ret2
          exact ⟨by rw [HP.out, ← hU.out]; rfl, hb3⟩
        · obtain ⟨u, hu⟩ : ∃ u, fmtB (BitVec.ofNat 16 k) = u := ⟨_, rfl⟩
          rw [hu] at HF he
          have he1 : (u.toList == s.toList) = false := str_ne he
          have hno' : Hid (∀ y : Nat, y < k + 1 → fmtB (BitVec.ofNat 16 y) ≠ s) := Lib.hid (fun y hy => by
            by_cases hyk : y < k
            · exact hno.out y hyk
            · obtain rfl : y = k := by omega
              rw [hu]; exact he)
          have he2 := Lib.hid he
          clear hu he hsize hno
          go_wp2_with fail
          refine (HF.out _).mono ?_
          rintro e w2 ⟨rfl, hb2⟩
          have hb3 := Below.next hb hb2
          clear hb hb2
          go_wp2_with fail
          go_roundw
          case rel => exact ⟨k + 1, by omega, by go_num, hno', hb3⟩
          case measure => simp [intOf]; omega
      · have hd : decide ((s.size : Int) ≤ 40) = false := by simpa using h40
        have hno' : Hid (∀ y : Nat, y < k + 1 → fmtB (BitVec.ofNat 16 y) ≠ s) := Lib.hid (fun y hy => by
            by_cases hyk : y < k
            · exact hno.out y hyk
            · obtain rfl : y = k := by omega
              intro he
              have := hsize.out
              rw [he] at this; omega)
        clear h40 hsize hno
        go_wp2_with fail
        go_roundw
        case rel => exact ⟨k + 1, by omega, by go_num, hno', hb⟩
        case measure => simp [intOf]; omega
    · have HP : Hid (parseS s = (0#16, 2)) := by
        rcases hspec.out with ⟨y, h1, h2, h3⟩ | ⟨_, h⟩
        · exact absurd (by rw [BitVec.ofNat_toNat, BitVec.setWidth_eq]; exact h2) (hno.out y.toNat (by omega))
        · exact h
      clear hspec hno
      go_wp2_with fail
      go_ret2
      exact ⟨by rw [HP.out]; rfl, hb⟩
end Go.Proofs.YthkboibhkpkliaaDoor
