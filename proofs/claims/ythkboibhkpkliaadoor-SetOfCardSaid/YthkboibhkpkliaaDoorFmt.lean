/- set.Format and the reference's Format. -/
import Derived.Test.YthkboibhkpkliaaDoorSeq4
import Derived.Test.YthkboibhkpkliaaDoorShelf
namespace Go.Proofs.YthkboibhkpkliaaDoor
open Go.RowKit

/-- the text of a set -/
def numB (i : Nat) : ByteArray := ⟨(Lib.decDigits i).toArray⟩
def fmtS (x : BitVec 16) : List UInt8 := 123 :: (Lib.join ((memS x).map Lib.decDigits) [32] ++ [125])
def fmtB (x : BitVec 16) : ByteArray := ⟨(fmtS x).toArray⟩
def strV (s : ByteArray) : Value := .string s

theorem dec_len (i : Nat) (h : i < 100) : (Lib.decDigits i).length ≤ 2 := by
  rw [Lib.decDigits]
  split
  · simp
  · rw [Lib.decDigits, dif_pos (by omega)]; simp
theorem join_len (xs : List (List UInt8)) (h : ∀ x ∈ xs, x.length ≤ 2) : (Lib.join xs [32]).length ≤ 3 * xs.length := by
  cases xs with
  | nil => simp [Lib.join_nil]
  | cons x r =>
    rw [Lib.join_cons, List.length_append]
    have hx := h x (by simp)
    have ht : ∀ r : List (List UInt8), (∀ x ∈ r, x.length ≤ 2) → (Lib.joinTail [32] r).length ≤ 3 * r.length := by
      intro r
      induction r with
      | nil => intro _; simp [Lib.joinTail]
      | cons y r ih =>
        intro h
        have h1 := ih (fun z hz => h z (List.mem_cons_of_mem _ hz))
        have h2 := h y (by simp)
        have e : Lib.joinTail [32] (y :: r) = ([32] ++ y) ++ Lib.joinTail [32] r := by simp [Lib.joinTail]
        rw [e, List.length_append, List.length_cons]
        simp; omega
    have := ht r (fun z hz => h z (List.mem_cons_of_mem _ hz))
    rw [List.length_cons]; omega
theorem joined_len (x : BitVec 16) : (Lib.join ((memS x).map Lib.decDigits) [32]).length ≤ 48 := by
  have h1 := join_len ((memS x).map Lib.decDigits) (by
    intro y hy
    obtain ⟨i, hi, rfl⟩ := List.mem_map.1 hy
    exact dec_len i (by have := memS_16 x i hi; omega))
  have h2 := cnt_le x
  unfold cnt at h2
  rw [List.length_map] at h1
  omega
theorem Tryd.infoStr : (Tryd.prog.info? 9).map (fun i => (i.zero, i.size, i.bytes)) = some (some (.string ⟨#[]⟩), 1, 16) := by kernel_rfl

theorem cat_lit (a b c : List UInt8) : ((⟨a.toArray⟩ : ByteArray) ++ (⟨b.toArray⟩ : ByteArray)) ++ (⟨c.toArray⟩ : ByteArray) = ⟨(a ++ (b ++ c)).toArray⟩ := by
  apply ByteArray.ext
  simp

set_option maxRecDepth 100000 in
set_option maxHeartbeats 2000000 in
theorem format_c (x : BitVec 16) (s : Int) (w : World) (hs : s = U x) (ht : HasTab w) :
    Calls Tryd.prog 33 #[.int .u16 s] w fun e w' => e = .returned (.string (fmtB x)) ∧ Below w.heap.size w w' := by
  subst hs
  have hcl := cnt_le x
  go_enter Tryd.func33, Tryd.ntmps33
  go_wp2_with fail
  refine (members_c x _ _ rfl ht).mono ?_
  rintro e w1 ⟨v, rfl, hown, hb⟩
  obtain ⟨ma, mc, rfl, hr⟩ := hown.rdn (cnt x) (by simp [cnt])
  have hrl := hr.le
  have hrm := hr.max
  unfold maxLen at hrm
  clear hown ht
  go_wp2_with fail
  go_loopw [3, 9] (fun v i wr => ∃ k : Nat, k ≤ cnt x ∧ i = .int .i64 k ∧ wr.ownsRow w1.heap.size 9 1 v k (((memS x).map (fun i => strV (numB i))).take k) ∧ Below w1.heap.size w1 wr) (fun _ i _ => cnt x - (intOf i).toNat)
  case atStart => exact ⟨0, Nat.zero_le _, rfl, World.ownsRow_nil _ _ _ _, Below.refl _ _⟩
  case round =>
    obtain ⟨k, hk, rfl, hown, hbr⟩ := hrel
    by_cases hlt : k < cnt x
    · obtain ⟨i, hi⟩ : ∃ i, (memS x)[k]? = some i := ⟨_, List.getElem?_eq_getElem (show k < (memS x).length from hlt)⟩
      have hi16 := memS_lt hi
      have hrw := hr.below hbr
      obtain ⟨b, o, rfl, hcell⟩ := hrw.at' (by omega)
      have hc := hcell k (intV i) (by simp [hi])
      unfold intV at hc
      have HI := Lib.hid hi
      clear hcell hi hrw hr
      go_wp2_with fail
      refine (Tryd.strconv_Itoa_small i (by omega) _).mono ?_
      rintro e w2 ⟨rfl, rfl⟩
      go_wp2_with (at_builtin; go_must (refine wpList_app _ _ 67 16 (.string ⟨#[]⟩) (strV (numB i)) _ Tryd.underlying67 Tryd.infoStr rfl hown hbr (Nat.le_refl _) rfl rfl rfl rfl rfl (by unfold maxLen; omega) (by omega) ?_))
      intro v' w2 hown1 hb1 _ _
      clear hown hbr hc
      go_wp2_with fail
      go_roundw
      case rel => exact ⟨k + 1, by omega, by go_num, by rw [List.take_add_one, List.getElem?_map, HI.out]; exact hown1, hb1⟩
      case measure => simp [intOf]; omega
    · have hkn : k = cnt x := by omega
      subst hkn
      rw [List.take_of_length_le (by rw [List.length_map]; exact Nat.le_refl _)] at hown
      obtain ⟨la, lc, rfl, hrd⟩ := rd_of_row hown
      have hjl := joined_len x
      have hbs := Lib.hid (Below.next hb hbr)
      have hE : Hid (((memS x).map numB).map (·.data.toList) = (memS x).map Lib.decDigits) := by
        show _ = _
        rw [List.map_map]
        apply List.map_congr_left
        intro i _; rfl
      by_cases h0 : cnt x = 0
      · have hN : memS x = [] := List.eq_nil_of_length_eq_zero h0
        have HF : Hid (fmtB x = ⟨#[123, 125]⟩) := by show fmtB x = _; unfold fmtB fmtS; rw [hN]; rfl
        rw [h0]
        clear hown hrd hr hb hbr hN h0
        go_wp2_with fail
        refine (Tryd.strings_Join_none _ _ _ _).mono ?_
        rintro e w3 ⟨rfl, rfl⟩
        go_wp2_with fail
        go_ret
        exact ⟨by rw [HF.out]; rfl, hbs.out⟩
      · obtain ⟨b, o, rfl, hcell⟩ := hrd.at' (by omega)
        have hrdl := hrd.le
        have hbk : b < wr.heap.size := by
          obtain ⟨i, hi⟩ : ∃ i, (memS x)[0]? = some i := ⟨_, List.getElem?_eq_getElem (show 0 < (memS x).length by unfold cnt at h0; omega)⟩
          exact cell_lt (hcell 0 (strV (numB i)) (by simp [hi]))
        have hJ := Tryd.strings_Join b o lc ((memS x).map numB) ⟨#[32]⟩ wr
          (fun j y hy => by
            have := hcell j (strV y) (by rw [List.getElem?_map] at hy ⊢; cases h : (memS x)[j]? with
              | none => rw [h] at hy; cases hy
              | some i => rw [h] at hy; cases hy; rfl)
            exact this)
          hbk (by rw [List.length_map]; show cnt x ≤ _; omega) (by rw [List.length_map]; exact hrdl) (by rw [hE.out]; show (Lib.join ((memS x).map Lib.decDigits) [32]).length ≤ _; omega)
        rw [hE.out, List.length_map] at hJ
        change Calls _ _ #[.slice (some ⟨b, o, none⟩) (cnt x) lc, .string ⟨#[32]⟩] _ (fun e w' => e = .returned (.string ⟨(Lib.join ((memS x).map Lib.decDigits) [32]).toArray⟩) ∧ _) at hJ
        have HF : Hid (fmtB x = (⟨[123].toArray⟩ : ByteArray) ++ (⟨(Lib.join ((memS x).map Lib.decDigits) [32]).toArray⟩ : ByteArray) ++ (⟨[125].toArray⟩ : ByteArray)) := by
          show fmtB x = _
          rw [cat_lit]; rfl
        have HJ := Lib.hid hJ
        obtain ⟨jn, hjn⟩ : ∃ jn, Lib.join ((memS x).map Lib.decDigits) [32] = jn := ⟨_, rfl⟩
        rw [hjn] at HJ HF hjl
        clear hJ hjn hcell hrd hown hr hb hbr hbk
        go_wp2_with fail
        refine HJ.out.mono ?_
        rintro e w3 ⟨rfl, hb3⟩
        go_wp2_with fail
        go_ret
        exact ⟨by rw [HF.out]; rfl, Below.next hbs.out hb3⟩
end Go.Proofs.YthkboibhkpkliaaDoor
