/- Layer 38: the possible values. -/
import Derived.Test.YtopcejcfghdeeaaCho
namespace Go.Proofs.Ytopcejcfghdeeaa
open Go.RowKit Go.Shelf Go.Sort

def posP (h s x : BitVec 16) : Bool := (x &&& h != 0#16) && (x &&& h &&& ~~~s == 0#16)
def posB (q : List (BitVec 16)) (h s : BitVec 16) : Bool := q.any (posP h s)
def posT (q : List (BitVec 16)) (V : List ByteArray) (h : BitVec 16) (k : Nat) : List ByteArray := ((valB V h).take k).filter fun v => posB q h (votS V v)
def posS (q : List (BitVec 16)) (V : List ByteArray) (h : BitVec 16) : List ByteArray := (valB V h).filter fun v => posB q h (votS V v)
theorem posT_succ {q : List (BitVec 16)} {V : List ByteArray} {h : BitVec 16} {k : Nat} {x : ByteArray} (hx : (valB V h)[k]? = some x) : posT q V h (k + 1) = if posB q h (votS V x) = true then posT q V h k ++ [x] else posT q V h k := by
  unfold posT
  rw [List.take_add_one, hx, Option.toList_some, List.filter_append]
  by_cases hp : posB q h (votS V x) = true
  · rw [if_pos hp, List.filter_cons, if_pos hp]; rfl
  · rw [if_neg hp, List.filter_cons, if_neg hp]; simp
theorem posT_all {q : List (BitVec 16)} {V : List ByteArray} {h : BitVec 16} {k : Nat} (hk : (valB V h).length = k) : posT q V h k = posS q V h := by
  unfold posT posS; rw [List.take_of_length_le (by omega)]
theorem posT_le (q : List (BitVec 16)) (V : List ByteArray) (h : BitVec 16) (k : Nat) : (posT q V h k).length ≤ k := by
  unfold posT; exact Nat.le_trans (List.length_filter_le _ _) (List.length_take_le _ _)

theorem poss1_at (w : World) (B1 B2 : Nat) (h s : BitVec 16) (h1 : w.cell? ⟨B1, 0, none⟩ = some (.int .u16 (U h))) (h2 : w.cell? ⟨B2, 1, none⟩ = some (.int .u16 (U s))) :
    PredAt Try.prog 67 #[.pointer (some ⟨B1, 0, none⟩), .pointer (some ⟨B2, 0, none⟩)] setV2 (posP h s) w := fun W x hb => by
  have c1 : W.cell? ⟨B1, 0, none⟩ = some (.int .u16 (U h)) := (hb.cell (p := ⟨B1, 0, none⟩) (cell_lt h1)).trans h1
  have c2 : W.cell? ⟨B2, 1, none⟩ = some (.int .u16 (U s)) := (hb.cell (p := ⟨B2, 1, none⟩) (cell_lt h2)).trans h2
  unfold FnGives setV2
  clear hb h1 h2
  cases hq : (x &&& h != 0#16)
  · have hP : Hid (posP h s x = false) := by show _ = _; unfold posP; rw [hq]; rfl
    go_enter Try.func67, Try.ntmps67
    go_wp2
    go_ret
    exact ⟨by rw [hP.out]; rfl, 0, rfl⟩
  · have hP : Hid (posP h s x = (x &&& h &&& ~~~s == 0#16)) := by show _ = _; unfold posP; rw [hq]; rfl
    go_enter Try.func67, Try.ntmps67
    go_wp2
    go_ret
    exact ⟨by rw [hP.out]; rfl, 0, rfl⟩

set_option maxRecDepth 100000 in
set_option maxHeartbeats 4000000 in
theorem possible_f (q : List (BitVec 16)) (V : List ByteArray) (h : BitVec 16) (a : Option Addr) (n c : Nat) (a2 : Option Addr) (m c2 : Nat) (w : World) (hr : Rd w a n c (q.map setV2)) (hr2 : RdK 2 w a2 m c2 ((cntS V h).flatMap balC)) (hml : (valB V h).length = m) (hm : m ≤ 100) :
    Calls Try.prog 46 #[.slice a n c, .int .u16 (U h), .slice a2 m c2] w fun e w' => ∃ v, e = .returned v ∧ w'.ownsRow w.heap.size 9 1 v (posS q V h).length ((posS q V h).map Value.string) ∧ Below w.heap.size w w' := by
  have HR := Lib.hid hr
  have HRL := Lib.hid hr2
  have HM := Lib.hid hml
  have hle := hr2.le
  have hmx := hr2.max
  unfold maxLen at hmx
  clear hr hr2 hml
  go_enter Try.func46, Try.ntmps46
  go_wp2_with fail
  obtain ⟨wo, hwo⟩ : ∃ wo, w.alloc (.cells #[.int .u16 (U h)] 26) = wo := ⟨_, rfl⟩
  obtain ⟨B, hB⟩ : ∃ B, w.heap.size = B := ⟨_, rfl⟩
  have hbo : Below w.heap.size w wo := by rw [← hwo]; exact (Below.refl _ w).alloc (Nat.le_refl _) _
  have hg : wo.cell? ⟨B, 0, none⟩ = some (.int .u16 (U h)) := by rw [← hwo, ← hB]; exact cell_new _ _ _ 0 _ rfl
  rw [hwo, hB]
  have HBO := Lib.hid hbo
  have HG := Lib.hid hg
  have HB := Lib.hid hB
  clear hwo hbo hg hB
  go_loopw [7, 12] (fun v i wr => ∃ k : Nat, k ≤ m ∧ i = .int .i64 k ∧ wr.ownsRow wo.heap.size 9 1 v (posT q V h k).length ((posT q V h k).map Value.string) ∧ Below wo.heap.size wo wr) (fun _ i _ => m - (intOf i).toNat)
  case atStart => exact ⟨0, Nat.zero_le _, rfl, World.ownsRow_nil _ _ _ _, Below.refl _ _⟩
  case round =>
    obtain ⟨k, hk, rfl, hown, hb⟩ := hrel
    by_cases hlt : k < m
    · obtain ⟨x, hx⟩ : ∃ x, (valB V h)[k]? = some x := ⟨_, List.getElem?_eq_getElem (by rw [HM.out]; exact hlt)⟩
      obtain ⟨b, o, ha, hcell⟩ := RdK.cells (HRL.out.below (Below.next HBO.out hb)) balC_len (by omega)
      have c0 : wr.cell? ⟨b, o + k * 2, none⟩ = some (.string x) := hcell k _ (cnt_at hx) 0 (by omega)
      have c1 : wr.cell? ⟨b, o + k * 2 + 1, none⟩ = some (.int .u16 (U (votS V x))) := hcell k _ (cnt_at hx) 1 (by omega)
      have hst := posT_succ (q := q) hx
      have hpl := posT_le q V h k
      obtain ⟨s, hs⟩ : ∃ s, votS V x = s := ⟨_, rfl⟩
      rw [hs] at c1 hst
      have hbA : Below wr.heap.size wr (wr.alloc (.cells #[.string x, .int .u16 (U s)] 65)) := (Below.refl _ wr).alloc (Nat.le_refl _) _
      have e0 : (wr.alloc (.cells #[.string x, .int .u16 (U s)] 65)).cell? ⟨wr.heap.size, 0, none⟩ = some (.string x) := cell_new _ _ _ 0 _ rfl
      have e1 : (wr.alloc (.cells #[.string x, .int .u16 (U s)] 65)).cell? ⟨wr.heap.size, 1, none⟩ = some (.int .u16 (U s)) := cell_new _ _ _ 1 _ rfl
      have hb3 := Below.next hb hbA
      have eh : (wr.alloc (.cells #[.string x, .int .u16 (U s)] 65)).cell? ⟨B, 0, none⟩ = some (.int .u16 (U h)) := (hb3.cell (p := ⟨B, 0, none⟩) (cell_lt HG.out)).trans HG.out
      have HCF := Lib.hid (containsF_c 67 #[.pointer (some ⟨B, 0, none⟩), .pointer (some ⟨wr.heap.size, 0, none⟩)] (enters_of Try.func67 (by kernel_rfl) rfl) (posP h s) q a n c _ (HR.out.below (Below.next HBO.out hb3)) (poss1_at _ B wr.heap.size h s eh e1))
      have HB3 := Lib.hid hb3
      have HE0 := Lib.hid e0
      have HO := Lib.hid (rowK_below hown hbA)
      subst ha
      cases hq : q.any (posP h s)
      · have hp0 : posB q h s = false := hq
        rw [hp0] at hst
        have HS : Hid (posT q V h (k + 1) = posT q V h k) := by show _ = _; rw [hst]; simp
        rw [hq] at HCF
        clear hcell hx hs hst hb hbA hb3 e0 e1 eh hown hp0
        go_wp2_with fail
        refine HCF.out.mono ?_
        rintro e w3 ⟨rfl, b3⟩
        have b4 := Below.next HB3.out b3
        have ho4 := rowK_below HO.out b3
        clear HCF b3 HO
        go_wp2_with fail
        go_roundw
        case rel => exact ⟨k + 1, by omega, by go_num, by rw [HS.out]; exact ho4, b4⟩
        case measure => simp [intOf]; omega
      · have hp0 : posB q h s = true := hq
        rw [hp0] at hst
        have HS : Hid ((posT q V h (k + 1)).map Value.string = (posT q V h k).map Value.string ++ [.string x]) := by show _ = _; rw [hst]; simp
        have HL : Hid ((posT q V h (k + 1)).length = (posT q V h k).length + 1) := by show _ = _; rw [hst]; simp
        rw [hq] at HCF
        clear hcell hx hs hst hb hbA hb3 e0 e1 eh hown hp0
        go_wp2_with fail
        refine HCF.out.mono ?_
        rintro e w3 ⟨rfl, b3⟩
        have b4 := Below.next HB3.out b3
        have ho4 := rowK_below HO.out b3
        have f0 : w3.cell? ⟨wr.heap.size, 0, none⟩ = some (.string x) := (b3.cell (p := ⟨wr.heap.size, 0, none⟩) (cell_lt HE0.out)).trans HE0.out
        clear HCF b3 HO
        go_wp2_with (at_builtin; go_must (refine wpList_app _ _ 31 16 (.string ⟨#[]⟩) (.string x) _ Try.underlying31 Try.infoStr rfl ho4 b4 (Nat.le_refl _) rfl rfl rfl rfl rfl (by unfold maxLen; omega) (by omega) ?_))
        intro v' w4 hown4 hb4 _ _
        clear ho4 b4 f0 c0 c1
        go_wp2_with fail
        go_roundw
        case rel => exact ⟨k + 1, by omega, by go_num, by rw [HS.out, HL.out]; exact hown4, hb4⟩
        case measure => simp [intOf]; omega
    · obtain rfl : k = m := by omega
      rw [posT_all HM.out] at hown
      have HO := Lib.hid (rowK_mono hown HBO.out.size)
      have HBW := Lib.hid (Below.next HBO.out hb)
      clear hown hb
      go_wp2_with fail
      go_ret
      exact ⟨_, rfl, HO.out, HBW.out⟩

def pssS (q : List (BitVec 16)) (V : List ByteArray) (h : BitVec 16) : List ByteArray × Int := if argS q V.length ≠ 0 then ([], argS q V.length) else (posS q V h, 0)
theorem args_zero {q : List (BitVec 16)} {n : Nat} (he : argS q n = 0) : n ≤ 12 := by
  unfold argS at he
  split at he
  · rename_i h1; exact absurd he h1
  · split at he
    · cases he
    · split at he
      · cases he
      · omega

set_option maxRecDepth 100000 in
set_option maxHeartbeats 4000000 in
theorem possible_c (q : List (BitVec 16)) (V : List ByteArray) (h : BitVec 16) (a : Option Addr) (n c : Nat) (a2 : Option Addr) (n2 c2 : Nat) (w : World) (hr : Rd w a n c (q.map setV2)) (hr2 : Rd w a2 n2 c2 (V.map Value.string)) (hn : n2 ≤ 100) :
    Calls Try.prog 18 #[.slice a n c, .int .u16 (U h), .slice a2 n2 c2] w fun e w' => ∃ a3 c3, e = .returned (.tuple #[.slice a3 (pssS q V h).1.length c3, .int .i64 (pssS q V h).2]) ∧ Rd w' a3 (pssS q V h).1.length c3 ((pssS q V h).1.map Value.string) ∧ Below w.heap.size w w' := by
  have hnl : V.length = n2 := by have := hr2.len; simp at this; omega
  have HR := Lib.hid hr
  have HR2 := Lib.hid hr2
  have HA := Lib.hid (args_c q a n c a2 n2 c2 w hr hn)
  clear hr hr2
  by_cases he : argS q n2 = 0
  · have hC : Hid (pssS q V h = (posS q V h, 0)) := by show _ = _; unfold pssS; rw [hnl, he]; rfl
    have hn12 := args_zero he
    have HN := Lib.hid hnl
    rw [he] at HA
    clear he hnl
    have HC := Lib.hid (fun w hh => count_f V h a2 n2 c2 w (by omega) hh)
    go_enter Try.func18, Try.ntmps18
    go_wp2_with fail
    refine HA.out.mono ?_
    rintro e w1 ⟨rfl, b1⟩
    clear HA
    go_wp2_with fail
    refine (HC.out w1 (HR2.out.below b1)).mono ?_
    rintro e w2 ⟨v, rfl, hown, b2⟩
    obtain ⟨al, cl, rfl, hrl⟩ := rdK_of_row hown
    have hb2 := Below.next b1 b2
    have hml : (valB V h).length = (cntS V h).length := (cntS_len _ _).symm
    have hmn : (cntS V h).length ≤ n2 := by rw [← hml, valB_len, ← HN.out]; exact valV_le _ _
    have HPO := Lib.hid (possible_f q V h a n c al _ cl w2 (HR.out.below hb2) hrl hml (by omega))
    have HB2 := Lib.hid hb2
    clear HC b1 b2 hown hml hmn hrl hb2
    go_wp2_with fail
    refine HPO.out.mono ?_
    rintro e w3 ⟨v, rfl, hown, b3⟩
    obtain ⟨a4, c4, rfl, hr4⟩ := rd_of_row hown
    have HR4 := Lib.hid hr4
    clear hown HPO hr4
    go_wp2_with fail
    go_ret2
    rw [hC.out]
    exact ⟨_, _, rfl, HR4.out, Below.next HB2.out b3⟩
  · have hE : Hid (pssS q V h = ([], argS q n2)) := by show _ = _; unfold pssS; rw [hnl, if_pos he]
    obtain ⟨v, hv⟩ : ∃ v, argS q n2 = v := ⟨_, rfl⟩
    rw [hv] at HA hE he
    have hv1 : (v != 0) = true := by simpa using he
    clear hv he
    go_enter Try.func18, Try.ntmps18
    go_wp2_with fail
    refine HA.out.mono ?_
    rintro e w1 ⟨rfl, b1⟩
    go_wp2_with fail
    go_ret2
    rw [hE.out]
    exact ⟨none, 0, rfl, Rd.none_ _, b1⟩
end Go.Proofs.Ytopcejcfghdeeaa
