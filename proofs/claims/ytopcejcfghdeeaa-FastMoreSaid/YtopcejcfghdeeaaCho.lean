/- Layer 38: the chosen value. -/
import Derived.Test.YtopcejcfghdeeaaRval
namespace Go.Proofs.Ytopcejcfghdeeaa
open Go.RowKit Go.Shelf Go.Sort

theorem cnt_at {V : List ByteArray} {h : BitVec 16} {k : Nat} {x : ByteArray} (hx : (valB V h)[k]? = some x) : (cntS V h)[k]? = some (x, votS V x) := by unfold cntS; rw [List.getElem?_map, hx]; rfl
theorem cntS_len (V : List ByteArray) (h : BitVec 16) : (cntS V h).length = (valB V h).length := by unfold cntS; rw [List.length_map]

def allS : BitVec 16 := 4095#16
def choP (q : List (BitVec 16)) (V : List ByteArray) (v : ByteArray) : Option ByteArray := if accS q (votS V v) = true then some v else none
def choF (q : List (BitVec 16)) (V : List ByteArray) : Option ByteArray := (valB V allS).findSome? (choP q V)
def choM : Option ByteArray → ByteArray × Int
  | some v => (v, 0)
  | none => (⟨#[]⟩, 4)
def choS (q : List (BitVec 16)) (V : List ByteArray) : ByteArray × Int := if argS q V.length ≠ 0 then (⟨#[]⟩, argS q V.length) else choM (choF q V)
theorem cho_step {q : List (BitVec 16)} {V : List ByteArray} {k : Nat} {x : ByteArray} (hx : (valB V allS)[k]? = some x) (hno : ∀ (j : Nat) (z : ByteArray), j < k → (valB V allS)[j]? = some z → choP q V z = none) (h : accS q (votS V x) = false) :
    ∀ (j : Nat) (z : ByteArray), j < k + 1 → (valB V allS)[j]? = some z → choP q V z = none := by
  intro j z hj hz
  by_cases h1 : j < k
  · exact hno j z h1 hz
  · obtain rfl : j = k := by omega
    rw [hx] at hz; cases hz
    unfold choP; rw [h]; rfl

def V2 (p : ByteArray × Int) : Value := .tuple #[.string p.1, .int .i64 p.2]

set_option maxRecDepth 100000 in
set_option maxHeartbeats 4000000 in
theorem chosen_c (q : List (BitVec 16)) (V : List ByteArray) (a : Option Addr) (n c : Nat) (a2 : Option Addr) (n2 c2 : Nat) (w : World) (h : Rd w a n c (q.map setV2)) (h2 : Rd w a2 n2 c2 (V.map Value.string)) (hn : n2 ≤ 100) :
    Calls Try.prog 16 #[.slice a n c, .slice a2 n2 c2] w fun e w' => e = .returned (V2 (choS q V)) ∧ Below w.heap.size w w' := by
  have hnl : V.length = n2 := by have := h2.len; simp at this; omega
  have HR := Lib.hid h
  have HR2 := Lib.hid h2
  have HN := Lib.hid hnl
  have HA := Lib.hid (args_c q a n c a2 n2 c2 w h hn)
  clear h h2
  by_cases he : argS q n2 = 0
  · have hC : Hid (choS q V = choM (choF q V)) := by show _ = _; unfold choS; rw [hnl, he]; rfl
    have hn12 : n2 ≤ 12 := by
      unfold argS at he
      split at he
      · rename_i h1; exact absurd he h1
      · split at he
        · cases he
        · split at he
          · cases he
          · omega
    rw [he] at HA
    clear he hnl
    have HC := Lib.hid (fun w h => count_f V allS a2 n2 c2 w (by omega) h)
    have hU : U allS = 4095 := rfl
    rw [hU] at HC
    clear hU
    go_enter Try.func16, Try.ntmps16
    go_wp2_with fail
    refine HA.out.mono ?_
    rintro e w1 ⟨rfl, b1⟩
    clear HA
    go_wp2_with fail
    refine (HC.out w1 (HR2.out.below b1)).mono ?_
    rintro e w2 ⟨v, rfl, hown, b2⟩
    obtain ⟨al, cl, rfl, hrl⟩ := rdK_of_row hown
    have hb2 := Below.next b1 b2
    obtain ⟨m, hm⟩ : ∃ m, (cntS V allS).length = m := ⟨_, rfl⟩
    have hml : (valB V allS).length = m := by rw [← hm, cntS_len]
    have hmn : m ≤ n2 := by rw [← hml, valB_len, ← HN.out]; exact valV_le _ _
    rw [hm] at hrl ⊢
    have hlc := hrl.le
    have hlm := hrl.max
    unfold maxLen at hlm
    have HRL := Lib.hid hrl
    have HM := Lib.hid hml
    have HB2 := Lib.hid hb2
    clear HC b1 b2 hown hm hml hrl hb2
    go_wp2_with fail
    go_loopw [18] (fun i wr => ∃ k : Nat, k ≤ m ∧ i = .int .i64 k ∧ Hid (∀ (j : Nat) (z : ByteArray), j < k → (valB V allS)[j]? = some z → choP q V z = none) ∧ Below w2.heap.size w2 wr) (fun i _ => m - (intOf i).toNat)
    case atStart => exact ⟨0, Nat.zero_le _, rfl, Lib.hid (fun j z hj => by omega), Below.refl _ _⟩
    case round =>
      obtain ⟨k, hk, rfl, hno, hb⟩ := hrel
      by_cases hlt : k < m
      · obtain ⟨x, hx⟩ : ∃ x, (valB V allS)[k]? = some x := ⟨_, List.getElem?_eq_getElem (by rw [HM.out]; exact hlt)⟩
        obtain ⟨b, o, ha, hcell⟩ := RdK.cells (HRL.out.below hb) balC_len (by omega)
        have c0 : wr.cell? ⟨b, o + k * 2, none⟩ = some (.string x) := hcell k _ (cnt_at hx) 0 (by omega)
        have c1 : wr.cell? ⟨b, o + k * 2 + 1, none⟩ = some (.int .u16 (U (votS V x))) := hcell k _ (cnt_at hx) 1 (by omega)
        obtain ⟨s, hs⟩ : ∃ s, votS V x = s := ⟨_, rfl⟩
        rw [hs] at c1
        have HX := Lib.hid hx
        have hbA : Below wr.heap.size wr (wr.alloc (.cells #[.string x, .int .u16 (U s)] 65)) := (Below.refl _ wr).alloc (Nat.le_refl _) _
        have e0 : (wr.alloc (.cells #[.string x, .int .u16 (U s)] 65)).cell? ⟨wr.heap.size, 0, none⟩ = some (.string x) := cell_new _ _ _ 0 _ rfl
        have e1 : (wr.alloc (.cells #[.string x, .int .u16 (U s)] 65)).cell? ⟨wr.heap.size, 1, none⟩ = some (.int .u16 (U s)) := cell_new _ _ _ 1 _ rfl
        have hb3 := Below.next hb hbA
        have HAC := Lib.hid (accepts_c q s a n c _ (HR.out.below (Below.next HB2.out hb3)))
        have HB3 := Lib.hid hb3
        have HE0 := Lib.hid e0
        subst ha
        cases hq : accS q s
        · have hno2 := Lib.hid (cho_step HX.out hno.out (by rw [hs]; exact hq))
          rw [hq] at HAC
          clear hcell hx hs hno hb hbA hb3 e0
          go_wp2_with fail
          refine HAC.out.mono ?_
          rintro e w3 ⟨rfl, b3⟩
          have b4 := Below.next HB3.out b3
          clear HAC b3
          go_wp2_with fail
          go_roundw
          case rel => exact ⟨k + 1, by omega, by go_num, hno2, b4⟩
          case measure => simp [intOf]; omega
        · have hF : choF q V = some x := fs_hit (f := choP q V) hx hno.out (by unfold choP; rw [hs, hq]; rfl)
          have hE : Hid (choS q V = (x, 0)) := by show _ = _; rw [hC.out, hF]; rfl
          rw [hq] at HAC
          clear hcell hx hs hno hb hbA hb3 e0 hF
          go_wp2_with fail
          refine HAC.out.mono ?_
          rintro e w3 ⟨rfl, b3⟩
          have b4 := Below.next HB3.out b3
          have f0 : w3.cell? ⟨wr.heap.size, 0, none⟩ = some (.string x) := (b3.cell (p := ⟨wr.heap.size, 0, none⟩) (cell_lt HE0.out)).trans HE0.out
          clear HAC b3
          go_wp2_with fail
          exact bodyPost_ret (v := V2 (x, 0)) (by simp [results, Try.results16, go_sem, V2]) rfl ⟨by rw [hE.out], Below.next HB2.out b4⟩
      · have hF : choF q V = none := fs_none (f := choP q V) (fun j z hz => hno.out j z (by have := (List.getElem?_eq_some_iff.1 hz).1; have := HM.out; omega) hz)
        have hE : Hid (choS q V = (⟨#[]⟩, 4)) := by show _ = _; rw [hC.out, hF]; rfl
        clear hno hF
        go_wp2_with fail
        exact bodyPost_ret (v := V2 (⟨#[]⟩, 4)) (by simp [results, Try.results16, go_sem, V2]) rfl ⟨by rw [hE.out], Below.next HB2.out hb⟩
  · have hE : Hid (choS q V = (⟨#[]⟩, argS q n2)) := by show _ = _; unfold choS; rw [hnl, if_pos he]
    obtain ⟨v, hv⟩ : ∃ v, argS q n2 = v := ⟨_, rfl⟩
    rw [hv] at HA hE he
    have hv1 : (v != 0) = true := by simpa using he
    clear hv he
    go_enter Try.func16, Try.ntmps16
    go_wp2_with fail
    refine HA.out.mono ?_
    rintro e w1 ⟨rfl, b1⟩
    go_wp2_with fail
    exact bodyPost_ret (v := V2 (⟨#[]⟩, v)) (by simp [results, Try.results16, go_sem, V2]) rfl ⟨by rw [hE.out], b1⟩

set_option maxRecDepth 100000 in
set_option maxHeartbeats 4000000 in
theorem rchosen_c (q : List (BitVec 16)) (V : List ByteArray) (a : Option Addr) (n c : Nat) (a2 : Option Addr) (n2 c2 : Nat) (w : World) (h : Rd w a n c (q.map setV2)) (h2 : Rd w a2 n2 c2 (V.map Value.string)) (hn : n2 ≤ 100) :
    Calls Try.prog 17 #[.slice a n c, .slice a2 n2 c2] w fun e w' => e = .returned (V2 (choS q V)) ∧ Below w.heap.size w w' := by
  have hnl : V.length = n2 := by have := h2.len; simp at this; omega
  have HR := Lib.hid h
  have HR2 := Lib.hid h2
  have HN := Lib.hid hnl
  have HA := Lib.hid (rargs_c q a n c a2 n2 c2 w h hn)
  clear h h2
  by_cases he : argS q n2 = 0
  · have hC : Hid (choS q V = choM (choF q V)) := by show _ = _; unfold choS; rw [hnl, he]; rfl
    have hn12 : n2 ≤ 12 := by
      unfold argS at he
      split at he
      · rename_i h1; exact absurd he h1
      · split at he
        · cases he
        · split at he
          · cases he
          · omega
    rw [he] at HA
    clear he hnl
    have HC := Lib.hid (fun w h => rvalues_c V allS a2 n2 c2 w (by omega) h)
    have hU : U allS = 4095 := rfl
    rw [hU] at HC
    clear hU
    go_enter Try.func17, Try.ntmps17
    go_wp2_with fail
    refine HA.out.mono ?_
    rintro e w1 ⟨rfl, b1⟩
    clear HA
    go_wp2_with fail
    refine (HC.out w1 (HR2.out.below b1)).mono ?_
    rintro e w2 ⟨v, rfl, hown, b2⟩
    obtain ⟨al, cl, rfl, hrl⟩ := rd_of_row hown
    have hb2 := Below.next b1 b2
    obtain ⟨m, hml⟩ : ∃ m, (valB V allS).length = m := ⟨_, rfl⟩
    have hmn : m ≤ n2 := by rw [← hml, valB_len, ← HN.out]; exact valV_le _ _
    rw [hml] at hrl ⊢
    have hlc := hrl.le
    have hlm := hrl.max
    unfold maxLen at hlm
    have HRL := Lib.hid hrl
    have HM := Lib.hid hml
    have HB2 := Lib.hid hb2
    clear HC b1 b2 hown hml hrl hb2
    go_wp2_with fail
    go_loopw [8] (fun i wr => ∃ k : Nat, k ≤ m ∧ i = .int .i64 k ∧ Hid (∀ (j : Nat) (z : ByteArray), j < k → (valB V allS)[j]? = some z → choP q V z = none) ∧ Below w2.heap.size w2 wr) (fun i _ => m - (intOf i).toNat)
    case atStart => exact ⟨0, Nat.zero_le _, rfl, Lib.hid (fun j z hj => by omega), Below.refl _ _⟩
    case round =>
      obtain ⟨k, hk, rfl, hno, hb⟩ := hrel
      by_cases hlt : k < m
      · obtain ⟨x, hx⟩ : ∃ x, (valB V allS)[k]? = some x := ⟨_, List.getElem?_eq_getElem (by rw [HM.out]; exact hlt)⟩
        obtain ⟨b, o, ha, hcell⟩ := (HRL.out.below hb).at' (by omega)
        have c0 := hcell k (.string x) (by rw [List.getElem?_map, hx]; rfl)
        have HX := Lib.hid hx
        have HVO := Lib.hid (rvoters_c V x a2 n2 c2 wr (by omega) (HR2.out.below (Below.next HB2.out hb)))
        obtain ⟨s, hs⟩ : ∃ s, votS V x = s := ⟨_, rfl⟩
        rw [hs] at HVO
        have HAC := Lib.hid (fun w h => accepts8_c q s a n c w h)
        have HC0 := Lib.hid c0
        subst ha
        cases hq : accS q s
        · have hno2 := Lib.hid (cho_step HX.out hno.out (by rw [hs]; exact hq))
          rw [hq] at HAC
          clear hcell hx hs hno
          go_wp2_with fail
          refine HVO.out.mono ?_
          rintro e w3 ⟨rfl, b3⟩
          have b4 := Below.next hb b3
          have hr4 := HR.out.below (Below.next HB2.out b4)
          clear HVO
          go_wp2_with fail
          refine (HAC.out w3 hr4).mono ?_
          rintro e w4 ⟨rfl, rfl⟩
          clear HAC hb b3 hr4
          go_wp2_with fail
          go_roundw
          case rel => exact ⟨k + 1, by omega, by go_num, hno2, b4⟩
          case measure => simp [intOf]; omega
        · have hF : choF q V = some x := fs_hit (f := choP q V) hx hno.out (by unfold choP; rw [hs, hq]; rfl)
          have hE : Hid (choS q V = (x, 0)) := by show _ = _; rw [hC.out, hF]; rfl
          rw [hq] at HAC
          clear hcell hx hs hno hF
          go_wp2_with fail
          refine HVO.out.mono ?_
          rintro e w3 ⟨rfl, b3⟩
          have b4 := Below.next hb b3
          have hr4 := HR.out.below (Below.next HB2.out b4)
          clear HVO
          go_wp2_with fail
          refine (HAC.out w3 hr4).mono ?_
          rintro e w4 ⟨rfl, rfl⟩
          have f0 := (b3.cell (p := ⟨b, o + k, none⟩) (cell_lt HC0.out)).trans HC0.out
          clear HAC hb b3 hr4 c0
          go_wp2_with fail
          exact bodyPost_ret (v := V2 (x, 0)) (by simp [results, Try.results17, go_sem, V2]) rfl ⟨by rw [hE.out], Below.next HB2.out b4⟩
      · have hF : choF q V = none := fs_none (f := choP q V) (fun j z hz => hno.out j z (by have := (List.getElem?_eq_some_iff.1 hz).1; have := HM.out; omega) hz)
        have hE : Hid (choS q V = (⟨#[]⟩, 4)) := by show _ = _; rw [hC.out, hF]; rfl
        clear hno hF
        go_wp2_with fail
        exact bodyPost_ret (v := V2 (⟨#[]⟩, 4)) (by simp [results, Try.results17, go_sem, V2]) rfl ⟨by rw [hE.out], Below.next HB2.out hb⟩
  · have hE : Hid (choS q V = (⟨#[]⟩, argS q n2)) := by show _ = _; unfold choS; rw [hnl, if_pos he]
    obtain ⟨v, hv⟩ : ∃ v, argS q n2 = v := ⟨_, rfl⟩
    rw [hv] at HA hE he
    have hv1 : (v != 0) = true := by simpa using he
    clear hv he
    go_enter Try.func17, Try.ntmps17
    go_wp2_with fail
    refine HA.out.mono ?_
    rintro e w1 ⟨rfl, b1⟩
    go_wp2_with fail
    exact bodyPost_ret (v := V2 (⟨#[]⟩, v)) (by simp [results, Try.results17, go_sem, V2]) rfl ⟨by rw [hE.out], b1⟩
end Go.Proofs.Ytopcejcfghdeeaa
