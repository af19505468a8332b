/- Layer 38: Recover. -/
import Derived.Test.YtopcejcfghdeeaaRpos
namespace Go.Proofs.Ytopcejcfghdeeaa
open Go.RowKit Go.Shelf Go.Sort

/-- the value with most heard voters, the first of those -/
def bsF (V : List ByteArray) (h : BitVec 16) (p : ByteArray × Nat) (v : ByteArray) : ByteArray × Nat := if p.2 < cnt (votS V v &&& h) then (v, cnt (votS V v &&& h)) else p
def bsT (V : List ByteArray) (h : BitVec 16) (k : Nat) : ByteArray × Nat := ((valB V h).take k).foldl (bsF V h) (⟨#[]⟩, 0)
theorem bsT_succ {V : List ByteArray} {h : BitVec 16} {k : Nat} {x : ByteArray} (hx : (valB V h)[k]? = some x) : bsT V h (k + 1) = bsF V h (bsT V h k) x := by
  unfold bsT; rw [List.take_add_one, hx, Option.toList_some, List.foldl_append]; rfl
def recN (V : List ByteArray) (h : BitVec 16) : ByteArray × Int := if (valB V h).length = 0 then (⟨#[]⟩, 4) else ((bsT V h (valB V h).length).1, 0)
def recM (V : List ByteArray) (h : BitVec 16) : List ByteArray → ByteArray × Int
  | [x] => (x, 0)
  | _ :: _ :: _ => (⟨#[]⟩, 12)
  | [] => recN V h
def recS (q : List (BitVec 16)) (V : List ByteArray) (h : BitVec 16) : ByteArray × Int := if argS q V.length ≠ 0 then (⟨#[]⟩, argS q V.length) else recM V h (posS q V h)

theorem bit_at (i : Nat) (h : i < 16) : hasB (bitS i) i = true := by
  have : ∀ i : Fin 16, hasB (bitS i.val) i.val = true := by decide
  exact this ⟨i, h⟩
theorem votTo_has {V : List ByteArray} {x : ByteArray} {j : Nat} (hj : j < 16) (hv : (V.getD j ⟨#[]⟩).toList = x.toList) : ∀ k, j < k → hasB (votTo V x k) j = true := by
  intro k
  induction k with
  | zero => intro h; omega
  | succ k ih =>
    intro hk
    rw [votTo_succ]
    by_cases hjk : j = k
    · subst hjk
      rw [hv, beq_self_eq_true, if_pos rfl, hasB_or, bit_at j hj, Bool.or_true]
    · split
      · rw [hasB_or, ih (by omega), Bool.true_or]
      · exact ih (by omega)
theorem cnt_pos {x : BitVec 16} {j : Nat} (hj : j < 16) (h : hasB x j = true) : 0 < cnt x := by
  unfold cnt
  exact List.length_pos_of_mem (a := j) (List.mem_filter.2 ⟨List.mem_range.2 hj, h⟩)
theorem vot_pos {V : List ByteArray} {h : BitVec 16} {k : Nat} {x : ByteArray} (hn : V.length ≤ 16) (hx : (valB V h)[k]? = some x) : 0 < cnt (votS V x &&& h) := by
  unfold valB at hx
  rw [List.getElem?_map] at hx
  obtain ⟨s, hs⟩ : ∃ s, (valV V h)[k]? = some s := by
    cases hg : (valV V h)[k]? with
    | none => rw [hg] at hx; cases hx
    | some s => exact ⟨s, rfl⟩
  rw [hs] at hx
  injection hx with hx
  obtain ⟨j, hj, he, _, hh⟩ := (valV_mem V h s).1 (List.mem_of_getElem? hs)
  refine cnt_pos (j := j) (by omega) ?_
  rw [hasB_and, hh, Bool.and_true]
  exact votTo_has (by omega) (by rw [he, ← hx, bs_list]) _ hj
theorem bsT_one {V : List ByteArray} {h : BitVec 16} {x : ByteArray} (hn : V.length ≤ 16) (hx : (valB V h)[0]? = some x) : bsT V h 1 = (x, cnt (votS V x &&& h)) := by
  rw [bsT_succ hx]
  show bsF V h (⟨#[]⟩, 0) x = _
  unfold bsF
  rw [if_pos (vot_pos hn hx)]
theorem bsT_pos {V : List ByteArray} {h : BitVec 16} (hn : V.length ≤ 16) : ∀ k, 0 < k → k ≤ (valB V h).length → 0 < (bsT V h k).2 := by
  intro k
  induction k with
  | zero => intro h; omega
  | succ k ih =>
    intro _ hk
    obtain ⟨x, hx⟩ : ∃ x, (valB V h)[k]? = some x := ⟨_, List.getElem?_eq_getElem (by omega)⟩
    rw [bsT_succ hx]
    unfold bsF
    split
    · exact vot_pos hn hx
    · by_cases h0 : k = 0
      · subst h0
        rename_i h2
        exact absurd (vot_pos hn hx) h2
      · exact ih (by omega) (by omega)
theorem pos_cases {α : Type} (l : List α) : (∃ x, l = [x]) ∨ (2 ≤ l.length ∧ ∃ x y r, l = x :: y :: r) ∨ l = [] := by
  match l with
  | [] => exact .inr (.inr rfl)
  | [x] => exact .inl ⟨x, rfl⟩
  | x :: y :: r => exact .inr (.inl ⟨by simp, x, y, r, rfl⟩)

set_option maxRecDepth 100000 in
set_option maxHeartbeats 4000000 in
theorem rrecover_c (q : List (BitVec 16)) (V : List ByteArray) (h : BitVec 16) (a : Option Addr) (n c : Nat) (a2 : Option Addr) (n2 c2 : Nat) (w : World) (hr : Rd w a n c (q.map setV2)) (hr2 : Rd w a2 n2 c2 (V.map Value.string)) (hn : n2 ≤ 100) :
    Calls Try.prog 21 #[.slice a n c, .int .u16 (U h), .slice a2 n2 c2] w fun e w' => e = .returned (V2 (recS q V h)) ∧ Below w.heap.size w w' := by
  have hnl : V.length = n2 := by have := hr2.len; simp at this; omega
  have HR2 := Lib.hid hr2
  have HP := Lib.hid (rpossible_c q V h a n c a2 n2 c2 w hr hr2 hn)
  clear hr hr2
  by_cases he : argS q n2 = 0
  · have hC : Hid (recS q V h = recM V h (posS q V h)) := by show _ = _; unfold recS; rw [hnl, he]; rfl
    have hP : pssS q V h = (posS q V h, 0) := by unfold pssS; rw [hnl, he]; rfl
    rw [hP] at HP
    have hn12 := args_zero he
    have HN := Lib.hid hnl
    have HC := Lib.hid (fun w hh => rvalues_c V h a2 n2 c2 w (by omega) hh)
    clear hP he hnl
    rcases pos_cases (posS q V h) with ⟨x, hx⟩ | ⟨hx2, x, y, r, hx⟩ | hx
    · have hE : Hid (recS q V h = (x, 0)) := by show _ = _; rw [hC.out, hx]; rfl
      rw [hx] at HP
      simp only [List.length_singleton, List.map_cons, List.map_nil] at HP
      clear hx hC HC
      go_enter Try.func21, Try.ntmps21
      go_wp2_with fail
      refine HP.out.mono ?_
      rintro e w1 ⟨a3, c3, rfl, hr3, b1⟩
      obtain ⟨b, o, ha, hcell⟩ := hr3.at' (by decide)
      have hc : w1.cell? ⟨b, o, none⟩ = some (.string x) := hcell 0 _ rfl
      have hl3 := hr3.le
      have hm3 := hr3.max
      unfold maxLen at hm3
      subst ha
      clear hcell hr3
      go_wp2_with fail
      exact bodyPost_ret (v := V2 (x, 0)) (by simp [results, Try.results21, go_sem, V2]) rfl ⟨by rw [hE.out], b1⟩
    · have hE : Hid (recS q V h = (⟨#[]⟩, 12)) := by show _ = _; rw [hC.out, hx]; rfl
      obtain ⟨m, hm⟩ : ∃ m, (posS q V h).length = m := ⟨_, rfl⟩
      rw [hm] at hx2
      simp only [hm] at HP
      clear hx hC HC hm
      go_enter Try.func21, Try.ntmps21
      go_wp2_with fail
      refine HP.out.mono ?_
      rintro e w1 ⟨a3, c3, rfl, hr3, b1⟩
      have hl3 := hr3.le
      have hm3 := hr3.max
      unfold maxLen at hm3
      have hm1 : ((m : Int) == 1) = false := by simp; omega
      clear hr3
      go_wp2_with fail
      exact bodyPost_ret (v := V2 (⟨#[]⟩, 12)) (by simp [results, Try.results21, go_sem, V2]) rfl ⟨by rw [hE.out], b1⟩
    · have hC2 : Hid (recS q V h = recN V h) := by show _ = _; rw [hC.out, hx]; rfl
      rw [hx] at HP
      simp only [List.length_nil, List.map_nil] at HP
      clear hx hC
      go_enter Try.func21, Try.ntmps21
      go_wp2_with fail
      refine HP.out.mono ?_
      rintro e w1 ⟨a3, c3, rfl, hr3, b1⟩
      clear hr3 HP
      go_wp2_with fail
      refine (HC.out w1 (HR2.out.below b1)).mono ?_
      rintro e w2 ⟨v, rfl, hown, b2⟩
      obtain ⟨al, cl, rfl, hrl⟩ := rd_of_row hown
      have hb2 := Below.next b1 b2
      obtain ⟨m, hml⟩ : ∃ m, (valB V h).length = m := ⟨_, rfl⟩
      have hmn : m ≤ n2 := by rw [← hml, valB_len, ← HN.out]; exact valV_le _ _
      rw [hml] at hrl ⊢
      have hlc := hrl.le
      have hlm := hrl.max
      unfold maxLen at hlm
      have HRL := Lib.hid hrl
      have HM := Lib.hid hml
      have HB2 := Lib.hid hb2
      clear HC b1 b2 hown hml hrl hb2
      go_wp2_with fail
      go_loopw [10, 11, 13] (fun bv mv i wr => ∃ k : Nat, k ≤ m ∧ i = .int .i64 k ∧ (∃ b t, bv = .string b ∧ mv = .int .i64 (t : Nat) ∧ Hid (bsT V h k = (b, t))) ∧ Below w2.heap.size w2 wr) (fun _ _ i _ => m - (intOf i).toNat)
      case atStart => exact ⟨0, Nat.zero_le _, rfl, ⟨⟨#[]⟩, 0, rfl, rfl, rfl⟩, Below.refl _ _⟩
      case round =>
        obtain ⟨k, hk, rfl, ⟨b, t, rfl, rfl, hbt⟩, hb⟩ := hrel
        by_cases hlt : k < m
        · obtain ⟨x, hx⟩ : ∃ x, (valB V h)[k]? = some x := ⟨_, List.getElem?_eq_getElem (by rw [HM.out]; exact hlt)⟩
          obtain ⟨bb, o, ha, hcell⟩ := (HRL.out.below hb).at' (by omega)
          have c0 := hcell k (.string x) (by rw [List.getElem?_map, hx]; rfl)
          have HVO := Lib.hid (rvoters_c V x a2 n2 c2 wr (by omega) (HR2.out.below (Below.next HB2.out hb)))
          have hst := bsT_succ hx
          rw [hbt.out] at hst
          unfold bsF at hst
          obtain ⟨s, hs⟩ : ∃ s, votS V x = s := ⟨_, rfl⟩
          rw [hs] at HVO hst
          obtain ⟨u, hu⟩ : ∃ u, cnt (s &&& h) = u := ⟨_, rfl⟩
          have hu16 : u ≤ 16 := by rw [← hu]; exact cnt_le _
          have HCN := Lib.hid (fun w => rcount_c (s &&& h) _ w rfl)
          rw [hu] at HCN hst
          have HC0 := Lib.hid c0
          subst ha
          by_cases hq : t < u
          · rw [if_pos hq] at hst
            have HST := Lib.hid hst
            clear hcell hx hs hst hu hbt c0
            have c0 := HC0.out
            go_wp2_with fail
            refine HVO.out.mono ?_
            rintro e w3 ⟨rfl, b3⟩
            clear HVO
            go_wp2_with fail
            refine (HCN.out w3).mono ?_
            rintro e w4 ⟨rfl, b4⟩
            have b5 := Below.next hb (Below.next b3 b4)
            have f0 := ((Below.next b3 b4).cell (p := ⟨bb, o + k, none⟩) (cell_lt HC0.out)).trans HC0.out
            clear HCN hb b3 b4 c0
            go_wp2_with fail
            go_roundw
            case rel => exact ⟨k + 1, by omega, by go_num, ⟨x, u, rfl, rfl, HST⟩, b5⟩
            case measure => simp [intOf]; omega
          · rw [if_neg hq] at hst
            have HST := Lib.hid hst
            clear hcell hx hs hst hu hbt c0
            have c0 := HC0.out
            go_wp2_with fail
            refine HVO.out.mono ?_
            rintro e w3 ⟨rfl, b3⟩
            clear HVO
            go_wp2_with fail
            refine (HCN.out w3).mono ?_
            rintro e w4 ⟨rfl, b4⟩
            have b5 := Below.next hb (Below.next b3 b4)
            clear HCN hb b3 b4 c0
            go_wp2_with fail
            go_roundw
            case rel => exact ⟨k + 1, by omega, by go_num, ⟨b, t, rfl, rfl, HST⟩, b5⟩
            case measure => simp [intOf]; omega
        · obtain rfl : k = m := by omega
          by_cases h0 : k = 0
          · subst h0
            have hE : Hid (recS q V h = (⟨#[]⟩, 4)) := by show _ = _; rw [hC2.out]; unfold recN; rw [if_pos HM.out]
            have ht : (⟨#[]⟩, 0) = (b, t) := hbt.out
            injection ht with ht1 ht2
            subst ht1 ht2
            clear hbt
            go_wp2_with fail
            exact bodyPost_ret (v := V2 (⟨#[]⟩, 4)) (by simp [results, Try.results21, go_sem, V2]) rfl ⟨by rw [hE.out], Below.next HB2.out hb⟩
          · have hE : Hid (recS q V h = (b, 0)) := by show _ = _; rw [hC2.out]; unfold recN; rw [if_neg (by rw [HM.out]; exact h0), HM.out, hbt.out]
            have htp := bsT_pos (V := V) (h := h) (by rw [HN.out]; omega) k (by omega) (by rw [HM.out]; omega)
            rw [hbt.out] at htp
            have ht0 : ((t : Int) == 0) = false := by simp at htp ⊢; omega
            clear hbt
            go_wp2_with fail
            exact bodyPost_ret (v := V2 (b, 0)) (by simp [results, Try.results21, go_sem, V2]) rfl ⟨by rw [hE.out], Below.next HB2.out hb⟩
  · have hE : Hid (recS q V h = (⟨#[]⟩, argS q n2)) := by show _ = _; unfold recS; rw [hnl, if_pos he]
    have hP : pssS q V h = ([], argS q n2) := by unfold pssS; rw [hnl, if_pos he]
    obtain ⟨v, hv⟩ : ∃ v, argS q n2 = v := ⟨_, rfl⟩
    rw [hP] at HP
    rw [hv] at HP hE he
    have hv1 : (v != 0) = true := by simpa using he
    clear hv he hP
    go_enter Try.func21, Try.ntmps21
    go_wp2_with fail
    refine HP.out.mono ?_
    rintro e w1 ⟨a3, c3, rfl, hr3, b1⟩
    clear hr3
    go_wp2_with fail
    exact bodyPost_ret (v := V2 (⟨#[]⟩, v)) (by simp [results, Try.results21, go_sem, V2]) rfl ⟨by rw [hE.out], b1⟩
end Go.Proofs.Ytopcejcfghdeeaa
