/- Texts laid together. The reference of layer 8: Sorted. The reference of layer 9. The reference of layer 9: Minimal, Made. The reference of layer 9: Made. Minimal families are valid. Plain Lean, no program. The reference of layer 8: Least. A case of a broadcast as an argument. -/
import Derived.Test.YtmjgdnpfgkpaoaaGreatDoorGC1
import Derived.Test.YtmjgdnpfgkpaoaaGreatDoorGC2
import Derived.Test.YtmjgdnpfgkpaoaaGreatDoorGC3
import Derived.Test.YtmjgdnpfgkpaoaaGreatDoorGC9
import Derived.IntWalk
import Derived.OpenShut
namespace Go.Proofs.YtmjgdnpfgkpaoaaGreatDoor
open Go.RowKit Go.Shelf

/-- where a set belongs in a list in order -/
def atP (x : BitVec 16) (o : List (BitVec 16)) : Nat := (o.takeWhile fun y => befB y x).length
def insP (o : List (BitVec 16)) (x : BitVec 16) : List (BitVec 16) := if o[atP x o]? = some x then o else o.take (atP x o) ++ x :: o.drop (atP x o)
def sorTo (l : List (BitVec 16)) (k : Nat) : List (BitVec 16) := (l.take k).foldl insP []
def sorS (l : List (BitVec 16)) : List (BitVec 16) := l.foldl insP []
theorem sorTo_succ {l : List (BitVec 16)} {k : Nat} {x : BitVec 16} (h : l[k]? = some x) : sorTo l (k + 1) = insP (sorTo l k) x := by
  unfold sorTo; rw [List.take_add_one, h]; simp
theorem insP_len (o : List (BitVec 16)) (x : BitVec 16) : (insP o x).length ≤ o.length + 1 := by
  unfold insP
  split
  · omega
  · simp; omega
theorem takeW_len {α : Type} {p : α → Bool} : ∀ {o : List α} {k : Nat}, k ≤ o.length → (∀ (j : Nat) (y : α), j < k → o[j]? = some y → p y = true) → (∀ y, o[k]? = some y → p y = false) → (o.takeWhile p).length = k
  | [], k, hk, _, _ => by simp at hk; subst hk; rfl
  | y :: o, 0, _, _, h => by rw [List.takeWhile_cons, h y rfl]; rfl
  | y :: o, k + 1, hk, h, h2 => by
    rw [List.takeWhile_cons, h 0 y (by omega) rfl, if_pos rfl, List.length_cons]
    rw [takeW_len (k := k) (by simpa using hk) (fun j z hj hz => h (j + 1) z (by omega) hz) (fun z hz => h2 z hz)]
/-- a row into which a place is being made -/
def shiftR (o : List (BitVec 16)) (k : Nat) : List (BitVec 16) := o.take k ++ (o ++ [0#16]).getD k 0#16 :: o.drop k
theorem set_mid {α : Type} (A B : List α) (e x : α) : (A ++ e :: B).set A.length x = A ++ x :: B := by
  induction A with
  | nil => rfl
  | cons a A ih => simp
theorem shift_start (o : List (BitVec 16)) : o ++ [0#16] = shiftR o o.length := by
  unfold shiftR
  rw [List.take_length, List.drop_length]
  congr 2
  simp
theorem shift_at {o : List (BitVec 16)} {k : Nat} {y : BitVec 16} (h : o[k]? = some y) : (shiftR o (k + 1))[k]? = some y := by
  obtain ⟨hk, he⟩ := List.getElem?_eq_some_iff.1 h
  unfold shiftR
  rw [List.getElem?_append_left (by rw [List.length_take]; omega), List.getElem?_take_of_lt (by omega)]
  exact h
theorem shift_step {o : List (BitVec 16)} {k : Nat} {y : BitVec 16} (h : o[k]? = some y) : (shiftR o (k + 1)).set (k + 1) y = shiftR o k := by
  obtain ⟨hk, he⟩ := List.getElem?_eq_some_iff.1 h
  unfold shiftR
  have hl : (o.take (k + 1)).length = k + 1 := by rw [List.length_take]; omega
  have := set_mid (o.take (k + 1)) (o.drop (k + 1)) ((o ++ [0#16]).getD (k + 1) 0#16) y
  rw [hl] at this
  rw [this, List.take_add_one, h, List.getD_eq_getElem?_getD, List.getElem?_append_left hk, h, List.append_assoc, List.drop_eq_getElem_cons hk, he]
  rfl
theorem shift_end {o : List (BitVec 16)} {k : Nat} (hk : k ≤ o.length) (x : BitVec 16) : (shiftR o k).set k x = o.take k ++ x :: o.drop k := by
  unfold shiftR
  have hl : (o.take k).length = k := by rw [List.length_take]; omega
  have := set_mid (o.take k) (o.drop k) ((o ++ [0#16]).getD k 0#16) x
  rw [hl] at this
  exact this
theorem shift_len {o : List (BitVec 16)} {k : Nat} (hk : k ≤ o.length) : (shiftR o k).length = o.length + 1 := by
  unfold shiftR; simp; omega

theorem row_drewS {w : World} {B k n : Nat} {e : TypeId} {v : Value} {xs : List Value} (h : w.ownsRow B e k v n xs) (q : Nat) : (w.drewN q).ownsRow B e k v n xs := h
set_option maxRecDepth 100000 in
set_option maxHeartbeats 4000000 in
theorem sorted8_c (l : List (BitVec 16)) (a : Option Addr) (n c : Nat) (w : World) (h : Rd w a n c (l.map setV2)) (h100 : n ≤ 100) :
    Calls Tryz.prog 67 #[.slice a n c] w fun e w' => ∃ v, e = .returned v ∧ w'.ownsRow w.heap.size 27 1 v (sorS l).length ((sorS l).map setV2) ∧ Below w.heap.size w w' := by
  have hnl : l.length = n := by have := h.len; simp at this; omega
  have hm := h.max
  have hle := h.le
  unfold maxLen at hm
  have HR := Lib.hid h
  have HN := Lib.hid hnl
  clear h hnl
  go_enter Tryz.func67, Tryz.ntmps67
  go_wp2_with fail
  go_loopw [3, 4] (fun v i wr => ∃ k : Nat, k ≤ n ∧ i = .int .i64 k ∧ ∃ m : Nat, m ≤ k ∧ Hid ((sorTo l k).length = m) ∧ wr.ownsRow w.heap.size 27 1 v m ((sorTo l k).map setV2) ∧ Below w.heap.size w wr) (fun _ i _ => n - (intOf i).toNat)
  case atStart => exact ⟨0, Nat.zero_le _, rfl, 0, Nat.le_refl _, rfl, World.ownsRow_nil _ _ _ _, Below.refl _ _⟩
  case round =>
    obtain ⟨i, hi, rfl, m, hmi, hml, hown, hb⟩ := hrel
    by_cases hlt : i < n
    · obtain ⟨x, hx⟩ : ∃ x, l[i]? = some x := ⟨_, List.getElem?_eq_getElem (by have := HN.out; omega)⟩
      have HXS := Lib.hid (sorTo_succ hx)
      have HX := Lib.hid hx
      obtain ⟨o, ho⟩ : ∃ o, sorTo l i = o := ⟨_, rfl⟩
      rw [ho] at hml hown HXS
      have HB := Lib.hid hb
      have HO := Lib.hid hown
      clear hx ho hown hb
      go_wp2_with fail
      go_loopw [5] (fun j wr => ∃ p : Nat, p ≤ m ∧ j = .int .i64 p ∧ Hid (∀ (j : Nat) (y : BitVec 16), j < p → o[j]? = some y → befB y x = true) ∧ wr.ownsRow w.heap.size 27 1 u3 m (o.map setV2) ∧ Below w.heap.size w wr) (fun j _ => m - (intOf j).toNat)
      case atStart => exact ⟨0, Nat.zero_le _, rfl, Lib.hid (fun j y hj => by omega), HO.out, HB.out⟩
      case round =>
        clear HB HO
        obtain ⟨p, hp, rfl, hno, hown, hb⟩ := hrel
        obtain ⟨bx, ox, hax, hcx⟩ := (HR.out.below hb).at' (by omega)
        have hcx1 := hcx i (setV2 x) (by rw [List.getElem?_map, HX.out]; rfl)
        unfold setV2 at hcx1
        subst hax
        clear hcx
        by_cases hlt2 : p < m
        · obtain ⟨y, hy⟩ : ∃ y, o[p]? = some y := ⟨_, List.getElem?_eq_getElem (by have := hml.out; omega)⟩
          obtain ⟨g, cap, hv, hge⟩ : ∃ g cap, u3 = .slice (some ⟨g, 0, none⟩) m cap ∧ w.heap.size ≤ g := by
            rcases hown.2 with ⟨_, h0⟩ | ⟨g, cap, cur, hv, hg, _⟩
            · omega
            · exact ⟨g, cap, hv, hg⟩
          subst hv
          have hcy : wr.cell? ⟨g, p, none⟩ = some (.int .u16 (U y)) := by rw [hown.cellAt p (by omega), List.getElem?_map, hy]; rfl
          have HC := Lib.hid (fun w => before8_c y x w)
          have HY := Lib.hid hy
          obtain ⟨_, _, e, hrd⟩ := rd_of_row hown
          cases e
          have hcm := hrd.le
          have hcm2 := hrd.max
          unfold maxLen at hcm2
          have hp1 : p < 1000 := by omega
          clear hrd hy
          cases hbf : befB y x
          · rw [hbf] at HC
            have HAT : Hid (atP x o = p) := Lib.hid (takeW_len (by have := hml.out; omega) hno.out (fun z hz => by rw [HY.out] at hz; cases hz; exact hbf))
            clear hbf hno
            go_wp2_with fail
            go_quiet ((go_at_call 98; exact Calls.quiet_of_same (HC.out _)))
            have hown2 := row_drewS hown nq
            have hb2 := below_drewN (q := nq) hb
            have hcx2 : (wr.drewN nq).cell? ⟨bx, ox + i, none⟩ = some (.int .u16 (U x)) := hcx1
            have hcy2 : (wr.drewN nq).cell? ⟨g, p, none⟩ = some (.int .u16 (U y)) := hcy
            generalize wr.drewN nq = wn at hown2 hb2 hcx2 hcy2 ⊢
            clear hown hb hcx1 hcy HC
            cases hq : (y == x)
            · have HNE : Hid (sorTo l (i + 1) = o.take p ++ x :: o.drop p) := Lib.hid (by rw [HXS.out]; unfold insP; rw [HAT.out, HY.out, if_neg (fun e => by injection e with e; rw [e] at hq; simp at hq)])
              go_wp2_with fail
              go_quiet (fail)
              have hown3 := row_drewS hown2 nq
              have hb3 := below_drewN (q := nq) hb2
              generalize wn.drewN nq = wm at hown3 hb3 ⊢
              clear hown2 hb2 hcx2 hcy2 hq HAT HY
              have hpm : p ≤ m := by omega
              have HST : Hid (o.map setV2 ++ [.int .u16 0] = (shiftR o m).map setV2) := Lib.hid (by rw [← hml.out, ← shift_start, List.map_append]; rfl)
              go_wp2_with (at_builtin; go_must (refine wpList_app _ _ 25 2 (.int .u16 0) (.int .u16 0) _ Tryz.underlying25 Tryz.infoSet rfl hown3 hb3 (Nat.le_refl _) rfl rfl rfl rfl rfl (by unfold maxLen; omega) (by omega) ?_))
              intro v' w5 hown5 hb5 _ _
              rw [HST.out] at hown5
              have HO5 := Lib.hid hown5
              have HB5 := Lib.hid hb5
              obtain ⟨g5, cap5, hv5, hge5, hcap5⟩ : ∃ g cap, v' = .slice (some ⟨g, 0, none⟩) (m + 1) cap ∧ w.heap.size ≤ g ∧ m + 1 ≤ cap := by
                rcases hown5.2 with ⟨_, h0⟩ | ⟨g, cap, cur, hv, hg, _, hc, _⟩
                · omega
                · exact ⟨g, cap, hv, hg, hc⟩
              subst hv5
              clear hown3 hb3 hown5 hb5 HST
              have hm1000 : m + 1 ≤ 1000 := by omega
              go_wp2_with fail
              go_loopw [6] (fun j wr => ∃ q : Nat, p ≤ q ∧ q ≤ m ∧ j = .int .i64 q ∧ wr.ownsRow w.heap.size 27 1 (.slice (some ⟨g5, 0, none⟩) (m + 1) cap5) (m + 1) ((shiftR o q).map setV2) ∧ Below w.heap.size w wr) (fun j _ => (intOf j).toNat)
              case atStart => exact ⟨m, hpm, Nat.le_refl _, by go_num, HO5.out, HB5.out⟩
              case round =>
                clear HO5 HB5
                obtain ⟨q, hpq, hqm, rfl, hown, hb⟩ := hrel
                by_cases hgt : p < q
                · obtain ⟨q, rfl⟩ : ∃ q', q = q' + 1 := ⟨q - 1, by omega⟩
                  obtain ⟨y, hy⟩ : ∃ y, o[q]? = some y := ⟨_, List.getElem?_eq_getElem (by have := hml.out; omega)⟩
                  have r1 : wr.cell? ⟨g5, q, none⟩ = some (.int .u16 (U y)) := by rw [hown.cellAt q (by omega), List.getElem?_map, shift_at hy]; rfl
                  obtain ⟨e0, he0⟩ : ∃ e0, ((shiftR o (q + 1)).map setV2)[q + 1]? = some e0 := ⟨_, List.getElem?_eq_getElem (by rw [List.length_map, shift_len (by have := hml.out; omega)]; have := hml.out; omega)⟩
                  have r2 : wr.cell? ⟨g5, q + 1, none⟩ = some e0 := by rw [hown.cellAt (q + 1) (by omega), he0]
                  have r3 := hown.frozenAt (q + 1)
                  have hst := hown.stored (q + 1) (.int .u16 (U y))
                  have hrow : (wr.setCell ⟨g5, q + 1, none⟩ (.int .u16 (U y))).ownsRow w.heap.size 27 1 (.slice (some ⟨g5, 0, none⟩) (m + 1) cap5) (m + 1) ((shiftR o q).map setV2) := by
                    have := hst.1
                    rw [show ((shiftR o (q + 1)).map setV2).set (q + 1) (.int .u16 (U y)) = ((shiftR o (q + 1)).set (q + 1) y).map setV2 by rw [List.map_set]; rfl, shift_step hy] at this
                    exact this
                  have hb' := hb.grown hst.2 (by exact hb.size) (by intro k hk; cases hk; exact hge5)
                  have HROW := Lib.hid hrow
                  have HB' := Lib.hid hb'
                  have hq1000 : q + 1 ≤ 1000 := by omega
                  clear hrow hb' hst hown hb hy he0
                  go_wp2_with fail
                  go_roundw
                  case rel => exact ⟨q, by omega, by omega, by go_num, HROW.out, HB'.out⟩
                  case measure => simp [intOf]
                · have hqp : p = q := by omega
                  subst hqp
                  obtain ⟨bz, oz, haz, hcz⟩ := (HR.out.below hb).at' (by omega)
                  have hcz1 := hcz i (setV2 x) (by rw [List.getElem?_map, HX.out]; rfl)
                  unfold setV2 at hcz1
                  cases haz
                  obtain ⟨e0, he0⟩ : ∃ e0, ((shiftR o p).map setV2)[p]? = some e0 := ⟨_, List.getElem?_eq_getElem (by rw [List.length_map, shift_len (by have := hml.out; omega)]; have := hml.out; omega)⟩
                  have r2 : wr.cell? ⟨g5, p, none⟩ = some e0 := by rw [hown.cellAt p (by omega), he0]
                  have r3 := hown.frozenAt p
                  have hst := hown.stored p (.int .u16 (U x))
                  have hrow : (wr.setCell ⟨g5, p, none⟩ (.int .u16 (U x))).ownsRow w.heap.size 27 1 (.slice (some ⟨g5, 0, none⟩) (m + 1) cap5) (m + 1) ((sorTo l (i + 1)).map setV2) := by
                    have := hst.1
                    rw [show ((shiftR o p).map setV2).set p (.int .u16 (U x)) = ((shiftR o p).set p x).map setV2 by rw [List.map_set]; rfl, shift_end (by have := hml.out; omega)] at this
                    rw [HNE.out]
                    exact this
                  have hb' := hb.grown hst.2 (by exact hb.size) (by intro k hk; cases hk; exact hge5)
                  have HROW := Lib.hid hrow
                  have HB' := Lib.hid hb'
                  have HLN : Hid ((sorTo l (i + 1)).length = m + 1) := Lib.hid (by rw [HNE.out, List.length_append, List.length_cons, List.length_take, List.length_drop]; have := hml.out; omega)
                  clear hrow hb' hst hown hb he0 hcz
                  go_wp2_with fail
                  go_roundw
                  case rel => exact ⟨i + 1, by omega, by go_num, m + 1, by omega, HLN, HROW.out, HB'.out⟩
                  case measure => simp [intOf]; omega
            · have HNE : Hid (sorTo l (i + 1) = o) := Lib.hid (by rw [HXS.out]; unfold insP; rw [HAT.out, HY.out, if_pos (by rw [eq_of_beq hq])])
              go_wp2_with fail
              go_quiet (fail)
              have hown3 := row_drewS hown2 nq
              have hb3 := below_drewN (q := nq) hb2
              generalize wn.drewN nq = wm at hown3 hb3 ⊢
              clear hown2 hb2 hcx2 hcy2 hq HAT HY
              go_wp2_with fail
              go_roundw
              case rel => exact ⟨i + 1, by omega, by go_num, m, by omega, Lib.hid (by rw [HNE.out]; exact hml.out), by rw [HNE.out]; exact hown3, hb3⟩
              case measure => simp [intOf]; omega
          · rw [hbf] at HC
            have hno2 : Hid (∀ (j : Nat) (z : BitVec 16), j < p + 1 → o[j]? = some z → befB z x = true) := Lib.hid (fun j z hj hz => by
              by_cases h1 : j < p
              · exact hno.out j z h1 hz
              · obtain rfl : j = p := by omega
                rw [HY.out] at hz; cases hz; exact hbf)
            clear hbf hno
            go_wp2_with fail
            go_quiet ((go_at_call 98; exact Calls.quiet_of_same (HC.out _)))
            go_wp2_with fail
            go_roundw
            case rel => exact ⟨p + 1, by omega, by go_num, hno2, row_drewS hown _, below_drewN hb⟩
            case measure => simp [intOf]; omega
        · obtain rfl : p = m := by omega
          have HAT : Hid (atP x o = p) := Lib.hid (takeW_len (by have := hml.out; omega) hno.out (fun z hz => by have := (List.getElem?_eq_some_iff.1 hz).1; have := hml.out; omega))
          have HNE : Hid (sorTo l (i + 1) = o.take p ++ x :: o.drop p) := Lib.hid (by rw [HXS.out]; unfold insP; rw [HAT.out, if_neg (fun e => by have := (List.getElem?_eq_some_iff.1 e).1; have := hml.out; omega)])
          obtain ⟨av, cv, hv, hrd⟩ := rd_of_row hown
          subst hv
          have hcm := hrd.le
          have hcm2 := hrd.max
          unfold maxLen at hcm2
          clear hrd hno HAT
          go_wp2_with fail
          go_quiet (fail)
          have hown2 := row_drewS hown nq
          have hb2 := below_drewN (q := nq) hb
          have hcx2 : (wr.drewN nq).cell? ⟨bx, ox + i, none⟩ = some (.int .u16 (U x)) := hcx1
          generalize wr.drewN nq = wn at hown2 hb2 hcx2 ⊢
          clear hown hb hcx1
          go_wp2_with fail
          go_quiet (fail)
          have hown3 := row_drewS hown2 nq
          have hb3 := below_drewN (q := nq) hb2
          generalize wn.drewN nq = wm at hown3 hb3 ⊢
          clear hown2 hb2 hcx2
          have hpm : p ≤ p := Nat.le_refl _
          have HST : Hid (o.map setV2 ++ [.int .u16 0] = (shiftR o p).map setV2) := Lib.hid (by rw [← hml.out, ← shift_start, List.map_append]; rfl)
          go_wp2_with (at_builtin; go_must (refine wpList_app _ _ 25 2 (.int .u16 0) (.int .u16 0) _ Tryz.underlying25 Tryz.infoSet rfl hown3 hb3 (Nat.le_refl _) rfl rfl rfl rfl rfl (by unfold maxLen; omega) (by omega) ?_))
          intro v' w5 hown5 hb5 _ _
          rw [HST.out] at hown5
          have HO5 := Lib.hid hown5
          have HB5 := Lib.hid hb5
          obtain ⟨g5, cap5, hv5, hge5, hcap5⟩ : ∃ g cap, v' = .slice (some ⟨g, 0, none⟩) (p + 1) cap ∧ w.heap.size ≤ g ∧ p + 1 ≤ cap := by
            rcases hown5.2 with ⟨_, h0⟩ | ⟨g, cap, cur, hv, hg, _, hc, _⟩
            · omega
            · exact ⟨g, cap, hv, hg, hc⟩
          subst hv5
          clear hown3 hb3 hown5 hb5 HST
          have hm1000 : p + 1 ≤ 1000 := by omega
          go_wp2_with fail
          go_loopw [6] (fun j wr => ∃ q : Nat, p ≤ q ∧ q ≤ p ∧ j = .int .i64 q ∧ wr.ownsRow w.heap.size 27 1 (.slice (some ⟨g5, 0, none⟩) (p + 1) cap5) (p + 1) ((shiftR o q).map setV2) ∧ Below w.heap.size w wr) (fun j _ => (intOf j).toNat)
          case atStart => exact ⟨p, hpm, Nat.le_refl _, by go_num, HO5.out, HB5.out⟩
          case round =>
            clear HO5 HB5
            obtain ⟨q, hpq, hqm, rfl, hown, hb⟩ := hrel
            by_cases hgt : p < q
            · exact absurd hgt (by omega)
            · have hqp : p = q := by omega
              subst hqp
              obtain ⟨bz, oz, haz, hcz⟩ := (HR.out.below hb).at' (by omega)
              have hcz1 := hcz i (setV2 x) (by rw [List.getElem?_map, HX.out]; rfl)
              unfold setV2 at hcz1
              cases haz
              obtain ⟨e0, he0⟩ : ∃ e0, ((shiftR o p).map setV2)[p]? = some e0 := ⟨_, List.getElem?_eq_getElem (by rw [List.length_map, shift_len (by have := hml.out; omega)]; have := hml.out; omega)⟩
              have r2 : wr.cell? ⟨g5, p, none⟩ = some e0 := by rw [hown.cellAt p (by omega), he0]
              have r3 := hown.frozenAt p
              have hst := hown.stored p (.int .u16 (U x))
              have hrow : (wr.setCell ⟨g5, p, none⟩ (.int .u16 (U x))).ownsRow w.heap.size 27 1 (.slice (some ⟨g5, 0, none⟩) (p + 1) cap5) (p + 1) ((sorTo l (i + 1)).map setV2) := by
                have := hst.1
                rw [show ((shiftR o p).map setV2).set p (.int .u16 (U x)) = ((shiftR o p).set p x).map setV2 by rw [List.map_set]; rfl, shift_end (by have := hml.out; omega)] at this
                rw [HNE.out]
                exact this
              have hb' := hb.grown hst.2 (by exact hb.size) (by intro k hk; cases hk; exact hge5)
              have HROW := Lib.hid hrow
              have HB' := Lib.hid hb'
              have HLN : Hid ((sorTo l (i + 1)).length = p + 1) := Lib.hid (by rw [HNE.out, List.length_append, List.length_cons, List.length_take, List.length_drop]; have := hml.out; omega)
              clear hrow hb' hst hown hb he0 hcz
              go_wp2_with fail
              go_roundw
              case rel => exact ⟨i + 1, by omega, by go_num, p + 1, by omega, HLN, HROW.out, HB'.out⟩
              case measure => simp [intOf]; omega
    · obtain rfl : i = n := by omega
      have hE : sorTo l i = sorS l := by unfold sorTo sorS; rw [List.take_of_length_le (by rw [HN.out]; exact Nat.le_refl _)]
      rw [hE] at hown hml
      have HO : Hid (wr.ownsRow w.heap.size 27 1 u3 (sorS l).length ((sorS l).map setV2)) := Lib.hid (by rw [hml.out]; exact hown)
      clear hown hE
      go_wp2_with fail
      go_ret
      exact ⟨_, rfl, HO.out, hb⟩
end Go.Proofs.YtmjgdnpfgkpaoaaGreatDoor
namespace Go.Proofs.YtmjgdnpfgkpaoaaGreatDoor
open Go.RowKit Go.Shelf

set_option maxRecDepth 100000 in
set_option maxHeartbeats 1000000 in
theorem count9_c (x : BitVec 16) (w : World) :
    Calls Tryz.prog 137 #[.int .u16 (U x)] w fun e w' => e = .returned (.int .i64 (cnt x)) ∧ w' = w := by
  go_enter Tryz.func137, Tryz.ntmps137
  go_wp2_with fail
  go_loop [3, 4] (fun v i => ∃ (k : Nat) (m : Nat), k ≤ 16 ∧ m ≤ k ∧ i = .int .i64 k ∧ v = .int .i64 m ∧ Hid (m = (memTo x k).length)) (fun _ i => 16 - (intOf i).toNat)
  case atStart => exact ⟨0, 0, Nat.zero_le _, Nat.zero_le _, rfl, rfl, rfl⟩
  case round =>
    obtain ⟨k, m, hk, hmk, rfl, rfl, hm⟩ := hrel
    by_cases hlt : k < 16
    · have HS := Lib.hid (cntTo_succ x k)
      cases hb : hasB x k
      · have HB := Lib.hid hb
        have hb0 : b01 (hasB x k) = 0 := by rw [hb]; rfl
        clear hb
        go_wp2_with fail
        go_round
        case rel => exact ⟨k + 1, m, by omega, by omega, by go_num, by (try go_num), by show _ = _; rw [HS.out, HB.out, hm.out]; rfl⟩
        case measure => simp [intOf]; omega
      · have HB := Lib.hid hb
        have hb0 : b01 (hasB x k) = 1 := by rw [hb]; rfl
        clear hb
        go_wp2_with fail
        go_round
        case rel => exact ⟨k + 1, m + 1, by omega, by omega, by go_num, by go_num, by show _ = _; rw [HS.out, HB.out, hm.out]; rfl⟩
        case measure => simp [intOf]; omega
    · have hE : Hid (m = cnt x) := by
        obtain rfl : k = 16 := by omega
        exact hm.out
      go_wp2_with fail
      go_ret
      exact ⟨ret_int (by rw [hE.out]), rfl⟩

set_option maxRecDepth 100000 in
set_option maxHeartbeats 1000000 in
theorem support9_c (l : List (BitVec 16)) (a : Option Addr) (n c : Nat) (w : World) (h : Rd w a n c (l.map setV2)) :
    Calls Tryz.prog 111 #[.slice a n c] w fun e w' => e = .returned (.int .u16 (U (supS l))) ∧ w' = w := by
  have hn : n ≤ l.length ∧ l.length ≤ n := by have := h.len; simp at this; omega
  obtain ⟨hn1, hn2⟩ := hn
  have hm := h.max
  have hle := h.le
  unfold maxLen at hm
  go_enter Tryz.func111, Tryz.ntmps111
  go_wp2_with fail
  go_loop [3, 4] (fun v i => ∃ (k : Nat) (s : BitVec 16), k ≤ n ∧ i = .int .i64 k ∧ v = .int .u16 (U s) ∧ Hid (s = supS (l.take k))) (fun _ i => n - (intOf i).toNat)
  case atStart => exact ⟨0, 0#16, Nat.zero_le _, rfl, rfl, rfl⟩
  case round =>
    obtain ⟨k, s, hk, rfl, rfl, hs⟩ := hrel
    by_cases hlt : k < n
    · obtain ⟨b, o, ha, hcell⟩ := h.at' (by omega)
      have hc := hcell k _ (at_cell (by omega))
      have HS := Lib.hid (supS_take (l := l) (k := k) (by omega))
      obtain ⟨x, hx⟩ : ∃ x, l.getD k 0#16 = x := ⟨_, rfl⟩
      rw [hx] at hc HS
      subst ha
      clear hcell h hx
      go_wp2_with fail
      go_round
      case rel => exact ⟨k + 1, s ||| x, by omega, by go_num, rfl, by show _ = _; rw [HS.out, hs.out]⟩
      case measure => simp [intOf]; omega
    · have hE : Hid (l.take k = l) := List.take_of_length_le (by omega)
      clear h
      go_wp2_with fail
      go_ret
      exact ⟨by rw [hs.out, hE.out]; rfl, rfl⟩
set_option maxRecDepth 100000 in
set_option maxHeartbeats 1000000 in
theorem accepts9_c (l : List (BitVec 16)) (s : BitVec 16) (a : Option Addr) (n c : Nat) (w : World) (h : Rd w a n c (l.map setV2)) :
    Calls Tryz.prog 112 #[.slice a n c, .int .u16 (U s)] w fun e w' => e = .returned (.bool (accS l s)) ∧ w' = w := by
  have hnl : l.length = n := by have := h.len; simp at this; omega
  have hm := h.max
  have hle := h.le
  unfold maxLen at hm
  have HR := Lib.hid h
  have HN := Lib.hid hnl
  clear h hnl
  go_enter Tryz.func112, Tryz.ntmps112
  go_wp2_with fail
  go_loop [5] (fun i => ∃ k : Nat, k ≤ n ∧ i = .int .i64 k ∧ Hid (∀ j, j < k → subB s (l.getD j 0#16) = false)) (fun i => n - (intOf i).toNat)
  case atStart => exact ⟨0, Nat.zero_le _, rfl, Lib.hid (fun j hj => by omega)⟩
  case round =>
    obtain ⟨k, hk, rfl, hno⟩ := hrel
    by_cases hlt : k < n
    · obtain ⟨b, o, ha, hcell⟩ := HR.out.at' (by omega)
      have hkl : k < l.length := by have := HN.out; omega
      have hc := hcell k _ (at_cell hkl)
      obtain ⟨x, hx⟩ : ∃ x, l.getD k 0#16 = x := ⟨_, rfl⟩
      rw [hx] at hc
      subst ha
      cases hq : (x &&& ~~~s == 0#16)
      · have hno' : Hid (∀ j, j < k + 1 → subB s (l.getD j 0#16) = false) := Lib.hid (fun j hj => by
          by_cases h1 : j < k
          · exact hno.out j h1
          · obtain rfl : j = k := by omega
            rw [hx]; exact hq)
        clear hcell hno hx hkl
        go_wp2_with fail
        go_round
        case rel => exact ⟨k + 1, by omega, by go_num, hno'⟩
        case measure => simp [intOf]; omega
      · have hA : Hid (accS l s = true) := any_hit (p := fun x => subB s x) hkl (by rw [hx]; exact hq)
        clear hcell hno hx hkl
        go_wp2_with fail
        go_ret
        exact ⟨ret_bool hA.out.symm, rfl⟩
    · have hA : Hid (accS l s = false) := any_none (p := fun x => subB s x) (fun j hj => hno.out j (by have := HN.out; omega))
      clear hno
      go_wp2_with fail
      go_ret
      exact ⟨ret_bool hA.out.symm, rfl⟩

/-- all subsets, in order -/
def subsT9 (s : BitVec 16) (k : Nat) : List (BitVec 16) := (List.range k).flatMap fun (j : Nat) => pickTo s (j : Int) (s.toNat + 1)
def subsS9 (s : BitVec 16) : List (BitVec 16) := subsT9 s (cnt s + 1)
theorem subsT9_succ (s : BitVec 16) (k : Nat) : subsT9 s (k + 1) = subsT9 s k ++ pickTo s k (s.toNat + 1) := by
  unfold subsT9; rw [List.range_succ, List.flatMap_append]; simp
theorem subsTo_len (s : BitVec 16) : ∀ k, (subsT9 s k).length ≤ k * 65536 := by
  intro k
  induction k with
  | zero => simp [subsT9]
  | succ k ih =>
    rw [subsT9_succ, List.length_append]
    have := pickTo_le s k (s.toNat + 1)
    have := s.isLt
    omega

set_option maxRecDepth 100000 in
set_option maxHeartbeats 2000000 in
theorem subsets9_c (x : BitVec 16) (w : World) :
    Calls Tryz.prog 110 #[.int .u16 (U x)] w fun e w' => ∃ v, e = .returned v ∧ Own w w' 27 v ((subsS9 x).map setV2) ∧ Below w.heap.size w w' := by
  have hc16 := cnt_le x
  have hub := U_bd x
  have HCX := Lib.hid (fun w => count9_c x w)
  obtain ⟨C, hC⟩ : ∃ C, cnt x = C := ⟨_, rfl⟩
  rw [hC] at HCX hc16
  have HC := Lib.hid hC
  clear hC
  go_enter Tryz.func110, Tryz.ntmps110
  go_wp2_with fail
  go_loopw [3, 4] (fun v i wr => ∃ k : Nat, k ≤ C + 1 ∧ i = .int .i64 k ∧ wr.ownsRow w.heap.size 27 1 v (subsT9 x k).length ((subsT9 x k).map setV2) ∧ Below w.heap.size w wr) (fun _ i _ => C + 1 - (intOf i).toNat)
  case atStart => exact ⟨0, Nat.zero_le _, rfl, World.ownsRow_nil _ _ _ _, Below.refl _ _⟩
  case round =>
    obtain ⟨k, hk, rfl, hown, hb⟩ := hrel
    have hsl := subsTo_len x k
    by_cases hlt : k ≤ C
    · have hs := subsT9_succ x k
      have HS := Lib.hid hs
      clear hs
      go_wp2_with fail
      refine (HCX.out _).mono ?_
      rintro e w2 ⟨rfl, rfl⟩
      go_wp2_with fail
      obtain ⟨D, hD⟩ : ∃ D, (subsT9 x k).length = D := ⟨_, rfl⟩
      have HD := Lib.hid hD
      rw [hD] at hsl
      have HO := Lib.hid hown
      have HB := Lib.hid hb
      clear hown hb hD
      go_loopw [3, 5] (fun v i wr => ∃ n : Nat, (n : Int) ≤ U x + 1 ∧ i = .int .i64 n ∧ wr.ownsRow w.heap.size 27 1 v (subsT9 x k ++ pickTo x k n).length ((subsT9 x k ++ pickTo x k n).map setV2) ∧ Below w.heap.size w wr) (fun _ i _ => 65537 - (intOf i).toNat)
      case atStart => exact ⟨0, by have := hub.1; omega, rfl, by simpa [pickTo] using HO.out, HB.out⟩
      case round =>
        obtain ⟨n, hn, rfl, hown, hb⟩ := hrel
        have hpl := pickTo_le x k n
        by_cases hle : (n : Int) ≤ U x
        · have hps := pickTo_succ x k n
          obtain ⟨y, hy⟩ : ∃ y, BitVec.ofNat 16 n = y := ⟨_, rfl⟩
          have hny : (n : Int) = U y := by rw [← hy]; exact U_ofNat n (by omega)
          have hyw := U_wrap y
          obtain ⟨hy0, hy1⟩ := U_bd y
          have hcy := cnt_le y
          unfold pickB at hps
          rw [hy] at hps
          rw [hny]
          rw [hny] at hle
          have HNY := Lib.hid hny
          have HLN : Hid ((subsT9 x k ++ pickTo x k n).length ≤ 2000000) := by show _ ≤ _; rw [List.length_append, HD.out]; omega
          clear hny hy hpl
          cases hw : (y &&& ~~~x == 0#16)
          · rw [hw] at hps
            have HS : Hid (pickTo x k (n + 1) = pickTo x k n) := by show _ = _; rw [hps]; simp
            clear hps
            go_wp2_with fail
            go_roundw
            case rel => exact ⟨n + 1, by have := HNY.out; omega, by rw [← HNY.out]; go_num, by rw [HS.out]; exact hown, hb⟩
            case measure => simp only [intOf]; omega
          · have HCY := Lib.hid (fun w => count9_c y w)
            obtain ⟨t, ht⟩ : ∃ t, cnt y = t := ⟨_, rfl⟩
            rw [ht] at HCY hcy hps
            rw [hw, Bool.true_and] at hps
            clear ht
            cases hq : ((t : Int) == (k : Int))
            · rw [hq] at hps
              have HS : Hid (pickTo x k (n + 1) = pickTo x k n) := by show _ = _; rw [hps]; simp
              clear hps
              go_wp2_with fail
              refine (HCY.out _).mono ?_
              rintro e w4 ⟨rfl, rfl⟩
              go_wp2_with fail
              go_roundw
              case rel => exact ⟨n + 1, by have := HNY.out; omega, by rw [← HNY.out]; go_num, by rw [HS.out]; exact hown, hb⟩
              case measure => simp only [intOf]; omega
            · rw [hq, if_pos rfl] at hps
              have HS : Hid ((subsT9 x k ++ pickTo x k (n + 1)).map setV2 = (subsT9 x k ++ pickTo x k n).map setV2 ++ [.int .u16 (U y)]) := by
                show _ = _
                rw [hps, ← List.append_assoc, List.map_append]; rfl
              have HSL : Hid ((subsT9 x k ++ pickTo x k (n + 1)).length = (subsT9 x k ++ pickTo x k n).length + 1) := by
                show _ = _
                rw [hps, ← List.append_assoc, List.length_append]; rfl
              obtain ⟨G, hG⟩ : ∃ G, (subsT9 x k ++ pickTo x k n).length = G := ⟨_, rfl⟩
              obtain ⟨GL, hGL⟩ : ∃ G, (subsT9 x k ++ pickTo x k n).map setV2 = G := ⟨_, rfl⟩
              rw [hG, hGL] at hown
              have hg2 : G ≤ 2000000 := by rw [← hG]; exact HLN.out
              have HG := Lib.hid hG
              have HGL := Lib.hid hGL
              clear hps hG hGL
              go_wp2_with fail
              refine (HCY.out _).mono ?_
              rintro e w4 ⟨rfl, rfl⟩
              go_wp2_with (at_builtin; go_must (refine wpList_app _ _ 25 2 (.int .u16 0) (.int .u16 (U y)) _ Tryz.underlying25 Tryz.infoSet rfl hown hb (Nat.le_refl _) rfl rfl rfl rfl rfl (by unfold maxLen; omega) (by omega) ?_))
              intro v' w1 hown1 hb1 _ _
              clear hown hb
              go_wp2_with fail
              go_roundw
              case rel => exact ⟨n + 1, by have := HNY.out; omega, by rw [← HNY.out]; go_num, by rw [HS.out, HSL.out, HG.out, HGL.out]; exact hown1, hb1⟩
              case measure => simp only [intOf]; omega
        · have hnx : n = x.toNat + 1 := by unfold U at hle hn; omega
          subst hnx
          have hown2 := hown
          rw [← HS.out] at hown2
          have HO2 := Lib.hid hown2
          clear hown hown2
          go_wp2_with fail
          go_roundw
          case rel => exact ⟨k + 1, by omega, by go_num, HO2.out, hb⟩
          case measure => simp [intOf]; omega
    · obtain rfl : k = C + 1 := by omega
      have hE : subsT9 x (C + 1) = subsS9 x := by unfold subsS9; rw [HC.out]
      rw [hE] at hown
      have HO : Hid (Own w wr 27 u3 ((subsS9 x).map setV2)) := by show Own _ _ _ _ _; unfold Own; rw [List.length_map]; exact hown
      clear hown hE hsl
      go_wp2_with fail
      refine (HCX.out _).mono ?_
      rintro e w2 ⟨rfl, rfl⟩
      go_wp2_with fail
      go_ret
      exact ⟨_, rfl, HO.out, hb⟩
end Go.Proofs.YtmjgdnpfgkpaoaaGreatDoor
namespace Go.Proofs.YtmjgdnpfgkpaoaaGreatDoor
open Go.RowKit Go.Shelf

/-- the minimal sets of a list, in order -/
def minSt (f : List (BitVec 16)) (o : List (BitVec 16)) (x : BitVec 16) : List (BitVec 16) := if ((f.any fun y => y == x) && !accS o x) = true then o ++ [x] else o
def minTo (f : List (BitVec 16)) (m : Nat) : List (BitVec 16) := ((subsS9 (supS f)).take m).foldl (minSt f) []
def minS (f : List (BitVec 16)) : List (BitVec 16) := (subsS9 (supS f)).foldl (minSt f) []
theorem minTo_succ {f : List (BitVec 16)} {m : Nat} {x : BitVec 16} (hx : (subsS9 (supS f))[m]? = some x) : minTo f (m + 1) = minSt f (minTo f m) x := by
  unfold minTo; rw [List.take_add_one, hx, Option.toList_some, List.foldl_append]; rfl
theorem minTo_all {f : List (BitVec 16)} {m : Nat} (h : (subsS9 (supS f)).length = m) : minTo f m = minS f := by
  unfold minTo minS; rw [List.take_of_length_le (by omega)]
theorem minSt_le (f o : List (BitVec 16)) (x : BitVec 16) : (minSt f o x).length ≤ o.length + 1 := by
  unfold minSt; split
  · simp
  · omega
theorem fold_le (f : List (BitVec 16)) : ∀ (l o : List (BitVec 16)), (l.foldl (minSt f) o).length ≤ o.length + l.length := by
  intro l
  induction l with
  | nil => intro o; simp
  | cons x l ih =>
    intro o
    rw [List.foldl_cons, List.length_cons]
    have := ih (minSt f o x)
    have := minSt_le f o x
    omega
theorem minTo_le (f : List (BitVec 16)) (m : Nat) : (minTo f m).length ≤ m := by
  unfold minTo
  have := fold_le f ((subsS9 (supS f)).take m) []
  rw [List.length_take] at this
  simp at this
  omega
/-- within the inner loop -/
def inK (f o : List (BitVec 16)) (x : BitVec 16) (k : Nat) : List (BitVec 16) := minSt (f.take k) o x
theorem acc_self (o : List (BitVec 16)) (x : BitVec 16) : accS (o ++ [x]) x = true := by
  unfold accS subB
  rw [List.any_append, Bool.or_eq_true]
  right
  have : x &&& ~~~x = 0#16 := by
    apply BitVec.eq_of_getLsbD_eq
    intro i hi
    simp
  simp [this]
theorem any_take {f : List (BitVec 16)} {k : Nat} (hk : k < f.length) (x : BitVec 16) : ((f.take (k + 1)).any fun y => y == x) = (((f.take k).any fun y => y == x) || (f.getD k 0#16 == x)) := by
  rw [List.take_add_one, at_some hk, Option.toList_some, List.any_append]; simp
theorem inK_ne {f o : List (BitVec 16)} {x : BitVec 16} {k : Nat} (hk : k < f.length) (h : (f.getD k 0#16 == x) = false) : inK f o x (k + 1) = inK f o x k := by
  unfold inK minSt
  rw [any_take hk, h, Bool.or_false]
theorem inK_acc {f o : List (BitVec 16)} {x : BitVec 16} {k : Nat} (hk : k < f.length) (h : (f.getD k 0#16 == x) = true) (ha : accS (inK f o x k) x = true) : inK f o x (k + 1) = inK f o x k := by
  unfold inK minSt at ha ⊢
  rw [any_take hk, h, Bool.or_true, Bool.true_and]
  cases h1 : (f.take k).any fun y => y == x
  · rw [h1] at ha
    simp only [Bool.false_and, Bool.false_eq_true, if_false] at ha ⊢
    rw [ha]; simp
  · simp
theorem inK_new {f o : List (BitVec 16)} {x : BitVec 16} {k : Nat} (hk : k < f.length) (h : (f.getD k 0#16 == x) = true) (ha : accS (inK f o x k) x = false) : inK f o x (k + 1) = inK f o x k ++ [x] := by
  unfold inK minSt at ha ⊢
  rw [any_take hk, h, Bool.or_true, Bool.true_and]
  cases h1 : (f.take k).any fun y => y == x
  · rw [h1] at ha
    simp only [Bool.false_and, Bool.false_eq_true, if_false] at ha ⊢
    rw [ha]; simp
  · rw [h1] at ha
    simp only [Bool.true_and] at ha
    cases h2 : accS o x
    · rw [h2] at ha
      simp only [Bool.not_false, if_true] at ha
      rw [acc_self] at ha; cases ha
    · rw [h2] at ha
      simp only [Bool.not_true, Bool.false_eq_true, if_false] at ha
      rw [h2] at ha; cases ha
theorem inK_len (f o : List (BitVec 16)) (x : BitVec 16) (k : Nat) : (inK f o x k).length ≤ o.length + 1 := minSt_le _ _ _
theorem rd_drewN {w : World} {a : Option Addr} {n c : Nat} {l : List Value} (h : Rd w a n c l) (q : Nat) : Rd (w.drewN q) a n c l := ⟨h.len, h.le, h.max, h.nil, h.at'⟩
theorem row_drewN {w : World} {B k n : Nat} {e : TypeId} {v : Value} {xs : List Value} (h : w.ownsRow B e k v n xs) (q : Nat) : (w.drewN q).ownsRow B e k v n xs := h

set_option maxRecDepth 100000 in
set_option maxHeartbeats 4000000 in
theorem minimal9_c (f : List (BitVec 16)) (a : Option Addr) (n c : Nat) (w : World) (h : Rd w a n c (f.map setV2)) :
    Calls Tryz.prog 80 #[.slice a n c] w fun e w' => ∃ v, e = .returned v ∧ Own w w' 27 v ((minS f).map setV2) ∧ Below w.heap.size w w' := by
  have hnl : f.length = n := by have := h.len; simp at this; omega
  have hm := h.max
  have hle := h.le
  unfold maxLen at hm
  have HR := Lib.hid h
  have HN := Lib.hid hnl
  have HSU := Lib.hid (support9_c f a n c w h)
  have HSB := Lib.hid (fun w => subsets9_c (supS f) w)
  clear h hnl
  obtain ⟨L, hL⟩ : ∃ L, subsS9 (supS f) = L := ⟨_, rfl⟩
  have hL17 : L.length ≤ 1200000 := by
    rw [← hL]; unfold subsS9
    have := subsTo_len (supS f) (cnt (supS f) + 1)
    have := cnt_le (supS f)
    omega
  have HL := Lib.hid hL
  rw [hL] at HSB
  obtain ⟨S, hS⟩ : ∃ S, supS f = S := ⟨_, rfl⟩
  rw [hS] at HSU HSB
  obtain ⟨p, hp⟩ : ∃ p, L.length = p := ⟨_, rfl⟩
  rw [hp] at hL17
  have HP := Lib.hid hp
  clear hL hS hp
  go_enter Tryz.func80, Tryz.ntmps80
  go_wp2_with fail
  refine HSU.out.mono ?_
  rintro e w1 ⟨rfl, rfl⟩
  go_wp2_with fail
  refine (HSB.out _).mono ?_
  rintro e w2 ⟨v2, rfl, o2, b2⟩
  obtain ⟨al, cl, rfl, hrl⟩ := o2.rdn p (by rw [List.length_map, HP.out])
  have hlc := hrl.le
  have hlm := hrl.max
  unfold maxLen at hlm
  have HRL := Lib.hid hrl
  have HB2 := Lib.hid b2
  clear o2 hrl b2 HSU HSB
  go_wp2_with fail
  go_loopw [3, 5] (fun v i wr => ∃ m : Nat, m ≤ p ∧ i = .int .i64 m ∧ wr.ownsRow w2.heap.size 27 1 v (minTo f m).length ((minTo f m).map setV2) ∧ Below w2.heap.size w2 wr) (fun _ i _ => p - (intOf i).toNat)
  case atStart => exact ⟨0, Nat.zero_le _, rfl, World.ownsRow_nil _ _ _ _, Below.refl _ _⟩
  case round =>
    obtain ⟨m, hm2, rfl, hown, hb⟩ := hrel
    by_cases hlt : m < p
    · have hml : m < L.length := by have := HP.out; omega
      have hcx := at_cell hml
      have hxs := at_some hml
      obtain ⟨x, hx⟩ : ∃ x, L.getD m 0#16 = x := ⟨_, rfl⟩
      rw [hx] at hcx hxs
      have HST := Lib.hid (minTo_succ (f := f) (m := m) (by rw [HL.out]; exact hxs))
      have hol := minTo_le f m
      obtain ⟨o, ho⟩ : ∃ o, minTo f m = o := ⟨_, rfl⟩
      rw [ho] at HST hown hol
      have HCX := Lib.hid hcx
      have HO := Lib.hid hown
      have HB := Lib.hid hb
      clear hml hcx hxs hx ho hown hb
      go_wp2_with fail
      go_loopw [3, 6] (fun v i wr => ∃ k : Nat, k ≤ n ∧ i = .int .i64 k ∧ wr.ownsRow w2.heap.size 27 1 v (inK f o x k).length ((inK f o x k).map setV2) ∧ Below w2.heap.size w2 wr) (fun _ i _ => n - (intOf i).toNat)
      case atStart => exact ⟨0, Nat.zero_le _, rfl, by simpa [inK, minSt] using HO.out, HB.out⟩
      case round =>
        obtain ⟨k, hk, rfl, hown, hb⟩ := hrel
        have hil := inK_len f o x k
        by_cases hlt2 : k < n
        · have hkl : k < f.length := by have := HN.out; omega
          obtain ⟨b1, o1, ha1, hcell1⟩ := (HR.out.below (Below.next HB2.out hb)).at' (by omega)
          obtain ⟨b3, o3, ha3, hcell3⟩ := (HRL.out.below hb).at' (by omega)
          have hc1 := hcell1 k _ (at_cell hkl)
          have hc3 := hcell3 m _ HCX.out
          obtain ⟨g, hg⟩ : ∃ g, inK f o x k = g := ⟨_, rfl⟩
          have hne := inK_ne (o := o) (x := x) hkl
          have hac := inK_acc (o := o) (x := x) hkl
          have hnw := inK_new (o := o) (x := x) hkl
          rw [hg] at hown hil hne hac hnw
          obtain ⟨y, hy⟩ : ∃ y, f.getD k 0#16 = y := ⟨_, rfl⟩
          rw [hy] at hc1 hne hac hnw
          obtain ⟨ag, cg, rfl, hrg⟩ := rd_of_row hown
          have HAC := Lib.hid (fun q => accepts9_c g x ag g.length cg (wr.drewN q) (rd_drewN hrg q))
          cases ha1
          cases ha3
          clear hcell1 hcell3 hg hy hkl hrg
          cases hq : (y == x)
          · have HS := Lib.hid (hne hq)
            clear hne hac hnw
            go_wp2_with fail
            go_quiet (fail)
            go_wp2_with fail
            go_roundw
            case rel => exact ⟨k + 1, by omega, by go_num, by rw [HS.out]; exact row_drewN hown _, below_drewN hb⟩
            case measure => simp [intOf]; omega
          · cases ha : accS g x
            · have HS := Lib.hid (hnw hq ha)
              rw [ha] at HAC
              obtain ⟨G, hG⟩ : ∃ G, g.length = G := ⟨_, rfl⟩
              rw [hG] at hown hil HAC ⊢
              have HL2 : Hid ((inK f o x (k + 1)).length = G + 1) := by show _ = _; rw [HS.out, List.length_append, hG]; rfl
              have HM2 : Hid ((inK f o x (k + 1)).map setV2 = g.map setV2 ++ [.int .u16 (U x)]) := by show _ = _; rw [HS.out, List.map_append]; rfl
              clear hne hac hnw hG HS
              go_wp2_with fail
              go_quiet ((go_at_call 112; exact Calls.quiet_of_same (HAC.out _)))
              have hown2 := row_drewN hown nq
              have hb2 := below_drewN (q := nq) hb
              have hc3' : (wr.drewN nq).cell? ⟨b3, o3 + m, none⟩ = some (.int .u16 (U x)) := hc3
              generalize wr.drewN nq = wn at hown2 hb2 hc3' ⊢
              clear hown hb hc3 hc1 HAC
              go_wp2_with (at_builtin; go_must (refine wpList_app _ _ 25 2 (.int .u16 0) (.int .u16 (U x)) _ Tryz.underlying25 Tryz.infoSet rfl hown2 hb2 (Nat.le_refl _) rfl rfl rfl rfl rfl (by unfold maxLen; omega) (by omega) ?_))
              intro v' w4 hown4 hb4 _ _
              clear hown2 hb2
              go_wp2_with fail
              go_roundw
              case rel => exact ⟨k + 1, by omega, by go_num, by rw [HM2.out, HL2.out]; exact hown4, hb4⟩
              case measure => simp [intOf]; omega
            · have HS := Lib.hid (hac hq ha)
              rw [ha] at HAC
              clear hne hac hnw
              go_wp2_with fail
              go_quiet ((go_at_call 112; exact Calls.quiet_of_same (HAC.out _)))
              go_wp2_with fail
              go_roundw
              case rel => exact ⟨k + 1, by omega, by go_num, by rw [HS.out]; exact row_drewN hown _, below_drewN hb⟩
              case measure => simp [intOf]; omega
        · obtain rfl : k = n := by omega
          have hE : inK f o x k = minTo f (m + 1) := by
            unfold inK
            rw [HST.out, List.take_of_length_le (by have := HN.out; omega)]
          rw [hE] at hown
          have HO2 := Lib.hid hown
          clear hE hown
          go_wp2_with fail
          go_roundw
          case rel => exact ⟨m + 1, by omega, by go_num, HO2.out, hb⟩
          case measure => simp [intOf]; omega
    · obtain rfl : m = p := by omega
      rw [minTo_all (by rw [HL.out, HP.out])] at hown
      have HO : Hid (Own w2 wr 27 u3 ((minS f).map setV2)) := by show Own _ _ _ _ _; unfold Own; rw [List.length_map]; exact hown
      clear hown
      go_wp2_with fail
      go_ret
      exact ⟨_, rfl, HO.out.mono HB2.out.size, Below.next HB2.out hb⟩
end Go.Proofs.YtmjgdnpfgkpaoaaGreatDoor
namespace Go.Proofs.YtmjgdnpfgkpaoaaGreatDoor
open Go.RowKit Go.Shelf

def mad (z : Int) : BitVec 16 := BitVec.ofInt 16 (z % 64)
theorem and63 (z : Int) (h0 : 0 ≤ z) (h1 : z < 256) : bits .and .u8 z 63 = U (mad z) := by
  obtain ⟨k, rfl⟩ := Int.eq_ofNat_of_zero_le h0
  have : ∀ k : Fin 256, bits .and .u8 (k.val : Int) 63 = U (mad (k.val : Int)) := by decide +kernel
  exact this ⟨k, by omega⟩
def madL (l : List Int) (k : Nat) : List (BitVec 16) := (l.take k).map mad
theorem madL_succ {l : List Int} {k : Nat} {z : Int} (h : l[k]? = some z) : madL l (k + 1) = madL l k ++ [mad z] := by
  unfold madL; rw [List.take_add_one, h, List.map_append]; rfl
theorem madL_len {l : List Int} {k : Nat} (h : k ≤ l.length) : (madL l k).length = k := by unfold madL; rw [List.length_map, List.length_take]; omega
def madS (l : List Int) : List (BitVec 16) := minS (madL l (min 20 l.length))

set_option maxRecDepth 100000 in
set_option maxHeartbeats 4000000 in
theorem made9_c (l : List Int) (hw : ∀ z ∈ l, 0 ≤ z ∧ z < 256) (a : Option Addr) (n c : Nat) (w : World) (h : Rd w a n c (l.map (Value.int .u8))) :
    Calls Tryz.prog 44 #[.slice a n c] w fun e w' => ∃ v, e = .returned v ∧ Own w w' 27 v ((madS l).map setV2) ∧ Below w.heap.size w w' := by
  have hnl : l.length = n := by have := h.len; simp at this; omega
  have hm := h.max
  have hle := h.le
  unfold maxLen at hm
  have HR := Lib.hid h
  have HN := Lib.hid hnl
  have HW := Lib.hid hw
  clear h hnl hw
  go_enter Tryz.func44, Tryz.ntmps44
  go_wp2_with fail
  go_loopw [3, 4] (fun v i wr => ∃ k : Nat, k ≤ n ∧ k ≤ 20 ∧ i = .int .i64 k ∧ wr.ownsRow w.heap.size 27 1 v k ((madL l k).map setV2) ∧ Below w.heap.size w wr) (fun _ i _ => n - (intOf i).toNat)
  case atStart => exact ⟨0, Nat.zero_le _, Nat.zero_le _, rfl, World.ownsRow_nil _ _ _ _, Below.refl _ _⟩
  case round =>
    obtain ⟨k, hk, hk20, rfl, hown, hb⟩ := hrel
    by_cases hlt : k < n
    · by_cases hlt2 : k < 20
      · obtain ⟨z, hz⟩ : ∃ z, l[k]? = some z := ⟨_, List.getElem?_eq_getElem (by have := HN.out; omega)⟩
        obtain ⟨hz0, hz1⟩ := HW.out z (List.mem_of_getElem? hz)
        obtain ⟨b, o, ha, hcell⟩ := (HR.out.below hb).at' (by omega)
        have hc := hcell k (.int .u8 z) (by rw [List.getElem?_map, hz]; rfl)
        have h63 := and63 z hz0 hz1
        obtain ⟨y, hy⟩ : ∃ y, mad z = y := ⟨_, rfl⟩
        have hs := madL_succ hz
        rw [hy] at h63 hs
        have hyb : 0 ≤ U y ∧ U y < 65536 := U_bd y
        have HS : Hid ((madL l (k + 1)).map setV2 = (madL l k).map setV2 ++ [.int .u16 (U y)]) := by show _ = _; rw [hs, List.map_append]; rfl
        have hyw := U_wrap y
        subst ha
        clear hcell hz hs hy
        go_wp2_with (at_builtin; go_must (refine wpList_app _ _ 25 2 (.int .u16 0) (.int .u16 (U y)) _ Tryz.underlying25 Tryz.infoSet rfl hown hb (Nat.le_refl _) rfl rfl rfl rfl rfl (by unfold maxLen; omega) (by omega) ?_))
        intro v' w4 hown4 hb4 _ _
        clear hown hb hc
        go_wp2_with fail
        go_roundw
        case rel => exact ⟨k + 1, by omega, by omega, by go_num, by rw [HS.out]; exact hown4, hb4⟩
        case measure => simp [intOf]; omega
      · obtain rfl : k = 20 := by omega
        have hE : minS (madL l 20) = madS l := by unfold madS; rw [Nat.min_eq_left (by have := HN.out; omega)]
        obtain ⟨ao, co, rfl, hro⟩ := rd_of_row hown
        have HMI := Lib.hid (minimal9_c (madL l 20) ao 20 co wr hro)
        rw [hE] at HMI
        have HB := Lib.hid hb
        clear hown hro hb hE
        go_wp2_with fail
        refine HMI.out.mono ?_
        rintro e w2 ⟨v, rfl, o2, b2⟩
        have HO2 := Lib.hid o2
        clear HMI o2
        go_wp2_with fail
        go_ret
        exact ⟨v, rfl, HO2.out.mono HB.out.size, Below.next HB.out b2⟩
    · obtain rfl : k = n := by omega
      have hE : minS (madL l k) = madS l := by unfold madS; rw [Nat.min_eq_right (by have := HN.out; omega), HN.out]
      obtain ⟨ao, co, rfl, hro⟩ := rd_of_row hown
      have HMI := Lib.hid (minimal9_c (madL l k) ao k co wr hro)
      rw [hE] at HMI
      have HB := Lib.hid hb
      clear hown hro hb hE
      go_wp2_with fail
      refine HMI.out.mono ?_
      rintro e w2 ⟨v, rfl, o2, b2⟩
      have HO2 := Lib.hid o2
      clear HMI o2
      go_wp2_with fail
      go_ret
      exact ⟨v, rfl, HO2.out.mono HB.out.size, Below.next HB.out b2⟩
end Go.Proofs.YtmjgdnpfgkpaoaaGreatDoor
namespace Go.Proofs.YtmjgdnpfgkpaoaaGreatDoor
open Go.RowKit Go.Shelf

theorem subB_self (x : BitVec 16) : subB x x = true := (subB_iff x x).2 fun _ h => h
theorem subB_trans {a b c : BitVec 16} (h1 : subB a b = true) (h2 : subB b c = true) : subB a c = true := (subB_iff a c).2 fun i h => (subB_iff a b).1 h1 i ((subB_iff b c).1 h2 i h)
def Rk (a b : BitVec 16) : Prop := keyS a < keyS b
def Rs (a b : BitVec 16) : Prop := keyS a < keyS b ∧ subB b a = false
theorem pick_mem {s : BitVec 16} {k : Int} {N : Nat} {x : BitVec 16} (h : x ∈ pickTo s k N) : subB s x = true ∧ (cnt x : Int) = k ∧ ∃ n, n < N ∧ x = BitVec.ofNat 16 n := by
  unfold pickTo at h
  obtain ⟨n, hn, rfl⟩ := List.mem_map.1 h
  obtain ⟨h1, h2⟩ := List.mem_filter.1 hn
  unfold pickB at h2
  rw [Bool.and_eq_true] at h2
  exact ⟨h2.1, eq_of_beq h2.2, n, List.mem_range.1 h1, rfl⟩
theorem pick_asc (s : BitVec 16) (k : Int) : ∀ N, N ≤ 65536 → (pickTo s k N).Pairwise Rk := by
  intro N
  induction N with
  | zero => intro _; unfold pickTo; simp
  | succ N ih =>
    intro hN
    rw [pickTo_succ]
    split
    · rename_i hp
      rw [List.pairwise_append]
      refine ⟨ih (by omega), List.pairwise_singleton _ _, fun a ha b hb => ?_⟩
      rw [List.mem_singleton] at hb
      subst hb
      obtain ⟨_, h2, n, hn, rfl⟩ := pick_mem ha
      unfold pickB at hp
      rw [Bool.and_eq_true] at hp
      have h3 := eq_of_beq hp.2
      unfold Rk keyS
      have e1 : (BitVec.ofNat 16 n).toNat = n := by simp; omega
      have e2 : (BitVec.ofNat 16 N).toNat = N := by simp; omega
      rw [e1, e2]
      omega
    · exact ih (by omega)
theorem subsTo_asc (s : BitVec 16) : ∀ K, (subsT9 s K).Pairwise Rk ∧ ∀ x ∈ subsT9 s K, subB s x = true ∧ cnt x < K := by
  intro K
  induction K with
  | zero => exact ⟨by simp [subsT9], fun x hx => by simp [subsT9] at hx⟩
  | succ K ih =>
    rw [subsT9_succ]
    refine ⟨?_, fun x hx => ?_⟩
    · rw [List.pairwise_append]
      refine ⟨ih.1, pick_asc s K _ (by have := s.isLt; omega), fun a ha b hb => ?_⟩
      have h1 := (ih.2 a ha).2
      have h2 := (pick_mem hb).2.1
      unfold Rk keyS
      have := a.isLt
      have := b.isLt
      omega
    · rcases List.mem_append.1 hx with h | h
      · exact ⟨(ih.2 x h).1, by have := (ih.2 x h).2; omega⟩
      · exact ⟨(pick_mem h).1, by have := (pick_mem h).2.1; omega⟩
theorem fold_good (f : List (BitVec 16)) : ∀ (l o : List (BitVec 16)), l.Pairwise Rk → o.Pairwise Rs → (∀ a ∈ o, ∀ b ∈ l, keyS a < keyS b) → (l.foldl (minSt f) o).Pairwise Rs ∧ ∀ x ∈ l.foldl (minSt f) o, x ∈ o ∨ (x ∈ l ∧ x ∈ f) := by
  intro l
  induction l with
  | nil => intro o _ h2 _; exact ⟨h2, fun x hx => .inl hx⟩
  | cons y l ih =>
    intro o h1 h2 h3
    rw [List.pairwise_cons] at h1
    rw [List.foldl_cons]
    by_cases hc : ((f.any fun z => z == y) && !accS o y) = true
    · have e : minSt f o y = o ++ [y] := by unfold minSt; rw [if_pos hc]
      rw [e]
      rw [Bool.and_eq_true, Bool.not_eq_true'] at hc
      have hyf : y ∈ f := by
        obtain ⟨z, hz, hzy⟩ := List.any_eq_true.1 hc.1
        rw [eq_of_beq hzy] at hz; exact hz
      obtain ⟨g1, g2⟩ := ih (o ++ [y]) h1.2 (by
        rw [List.pairwise_append]
        refine ⟨h2, List.pairwise_singleton _ _, fun a ha b hb => ?_⟩
        rw [List.mem_singleton] at hb; subst hb
        refine ⟨h3 a ha b (List.mem_cons_self ..), ?_⟩
        cases hs : subB b a
        · rfl
        · have : accS o b = true := by unfold accS; exact List.any_eq_true.2 ⟨a, ha, hs⟩
          rw [hc.2] at this; cases this) (by
        intro a ha b hb
        rcases List.mem_append.1 ha with ha | ha
        · exact h3 a ha b (List.mem_cons_of_mem _ hb)
        · rw [List.mem_singleton] at ha; subst ha; exact h1.1 b hb)
      refine ⟨g1, fun x hx => ?_⟩
      rcases g2 x hx with h | ⟨h, h'⟩
      · rcases List.mem_append.1 h with h | h
        · exact .inl h
        · rw [List.mem_singleton] at h; subst h; exact .inr ⟨List.mem_cons_self .., hyf⟩
      · exact .inr ⟨List.mem_cons_of_mem _ h, h'⟩
    · have e : minSt f o y = o := by unfold minSt; rw [if_neg hc]
      rw [e]
      obtain ⟨g1, g2⟩ := ih o h1.2 h2 fun a ha b hb => h3 a ha b (List.mem_cons_of_mem _ hb)
      refine ⟨g1, fun x hx => ?_⟩
      rcases g2 x hx with h | ⟨h, h'⟩
      · exact .inl h
      · exact .inr ⟨List.mem_cons_of_mem _ h, h'⟩
theorem minS_good (f : List (BitVec 16)) : (minS f).Pairwise Rs ∧ ∀ x ∈ minS f, x ∈ f := by
  obtain ⟨h1, h2⟩ := fold_good f (subsS9 (supS f)) [] (subsTo_asc (supS f) _).1 List.Pairwise.nil (fun a ha => by cases ha)
  exact ⟨h1, fun x hx => by
    rcases h2 x hx with h | h
    · cases h
    · exact h.2⟩
theorem nodup_len {α : Type} [DecidableEq α] : ∀ (l m : List α), l.Nodup → (∀ x ∈ l, x ∈ m) → l.length ≤ m.length := by
  intro l
  induction l with
  | nil => intro m _ _; simp
  | cons a l ih =>
    intro m h1 h2
    rw [List.nodup_cons] at h1
    have ha := h2 a (List.mem_cons_self ..)
    have := ih (m.erase a) h1.2 (fun x hx => (List.mem_erase_of_ne (by rintro rfl; exact h1.1 hx)).2 (h2 x (List.mem_cons_of_mem _ hx)))
    rw [List.length_erase_of_mem ha] at this
    have := List.length_pos_of_mem ha
    rw [List.length_cons]
    omega
theorem good_nodup {l : List (BitVec 16)} (h : l.Pairwise Rs) : l.Nodup := h.imp fun {a b} hab he => by
  have := hab.1; rw [he] at this; omega
theorem minS_len (f : List (BitVec 16)) : (minS f).length ≤ f.length := nodup_len _ _ (good_nodup (minS_good f).1) (minS_good f).2
theorem good_valid {l : List (BitVec 16)} (h : l.Pairwise Rs) (hb : ∀ x ∈ l, x.toNat < 4096) (hn : l.length ≤ 400) : valS l = 0 := by
  have h0 : ∀ j, j < l.length → e1 l j = 0 := by
    intro j hj
    unfold e1
    have hx := hb l[j] (List.getElem_mem hj)
    rw [if_neg (by rw [getD_at hj]; unfold U; omega), if_neg]
    rintro ⟨h1, h2⟩
    rw [getD_at hj, getD_at (show j - 1 < l.length by omega)] at h2
    have h3 := (List.pairwise_iff_getElem.1 h (j - 1) j (by omega) hj (by omega)).1
    have := (cmpS_key l[j - 1] l[j]).1.1 h2
    omega
  unfold valS
  rw [if_neg (by omega), firstE_none _ _ h0, if_neg (by decide), if_neg]
  intro ho
  obtain ⟨i, k, hi, hk, hs⟩ := (overB_iff l).1 ho
  rw [getD_at hi, getD_at (show k < l.length by omega)] at hs
  have := (List.pairwise_iff_getElem.1 h k i (by omega) hi hk).2
  rw [hs] at this; cases this
theorem mad_lt (z : Int) : (mad z).toNat < 64 := by
  unfold mad
  rw [BitVec.toNat_ofInt]
  omega
theorem madS_lt (l : List Int) : ∀ x ∈ madS l, x.toNat < 64 := fun x hx => by
  have := (minS_good _).2 x hx
  unfold madL at this
  obtain ⟨z, _, rfl⟩ := List.mem_map.1 this
  exact mad_lt z
theorem madS_le (l : List Int) : (madS l).length ≤ 20 := by
  have := minS_len (madL l (min 20 l.length))
  rw [madL_len (by omega)] at this
  unfold madS
  omega
theorem madS_good (l : List Int) : (madS l).Pairwise Rs := (minS_good _).1
theorem made_valid (l : List Int) : valS (madS l) = 0 := good_valid (madS_good l) (fun x hx => by have := madS_lt l x hx; omega) (by have := madS_le l; omega)
theorem mm_lt (l : List Int) : ∀ x ∈ minS (madS l), x.toNat < 64 := fun x hx => madS_lt l x ((minS_good _).2 x hx)
theorem mm_valid (l : List Int) : valS (minS (madS l)) = 0 := good_valid (minS_good _).1 (fun x hx => by have := mm_lt l x hx; omega) (by have := minS_len (madS l); have := madS_le l; omega)
theorem good_head {l : List (BitVec 16)} (h : l.Pairwise Rs) (h0 : l.length = 0 ∨ (l.getD 0 0#16 == 0#16) = false) : hasZ l = false := by
  cases l with
  | nil => rfl
  | cons y l =>
    have hy : (y == 0#16) = false := by
      rcases h0 with h0 | h0
      · simp at h0
      · exact h0
    rw [List.pairwise_cons] at h
    cases hz : hasZ (y :: l)
    · rfl
    · exfalso
      unfold hasZ at hz
      obtain ⟨x, hx, hx0⟩ := List.any_eq_true.1 hz
      have hx0' := eq_of_beq hx0
      subst hx0'
      rcases List.mem_cons.1 hx with hx | hx
      · rw [← hx] at hy; simp at hy
      · have := (h.1 _ hx).1
        have h0 : keyS 0#16 = 0 := by decide
        omega
theorem mm_quo (l : List Int) (h0 : (minS (madS l)).length = 0 ∨ ((minS (madS l)).getD 0 0#16 == 0#16) = false) : quoS (minS (madS l)) = 0 := by
  unfold quoS
  rw [mm_valid, if_neg (by decide), good_head (minS_good _).1 h0]
  rfl
end Go.Proofs.YtmjgdnpfgkpaoaaGreatDoor
namespace Go.Proofs.YtmjgdnpfgkpaoaaGreatDoor
open Go.RowKit Go.Shelf

/-- another set of the list is a part of the one at an index -/
def ovP (s : List (BitVec 16)) (i q : Nat) : Bool := (List.range q).any fun k => !(i == k) && subB (s.getD i 0#16) (s.getD k 0#16)
def lesTo (s : List (BitVec 16)) (k : Nat) : List (BitVec 16) := ((List.range k).filter fun i => !ovP s i s.length).map fun i => s.getD i 0#16
def lesS (l : List (BitVec 16)) : List (BitVec 16) := lesTo (sorS l) (sorS l).length
theorem ovP_succ (s : List (BitVec 16)) (i q : Nat) : ovP s i (q + 1) = (ovP s i q || (!(i == q) && subB (s.getD i 0#16) (s.getD q 0#16))) := by
  unfold ovP; rw [List.range_succ, List.any_append]; simp
theorem lesTo_succ (s : List (BitVec 16)) (k : Nat) : lesTo s (k + 1) = if ovP s k s.length = true then lesTo s k else lesTo s k ++ [s.getD k 0#16] := by
  unfold lesTo
  rw [List.range_succ, List.filter_append, List.map_append]
  cases h : ovP s k s.length <;> simp [h]
theorem lesTo_len (s : List (BitVec 16)) (k : Nat) : (lesTo s k).length ≤ k := by
  unfold lesTo; rw [List.length_map]; exact Nat.le_trans (List.length_filter_le _ _) (by simp)
theorem sor_fold_len : ∀ (l o : List (BitVec 16)), (l.foldl insP o).length ≤ o.length + l.length
  | [], o => by simp
  | x :: l, o => by
    rw [List.foldl_cons, List.length_cons]
    have := sor_fold_len l (insP o x)
    have := insP_len o x
    omega
theorem sorS_len (l : List (BitVec 16)) : (sorS l).length ≤ l.length := by
  have := sor_fold_len l []
  unfold sorS; simpa using this

set_option maxRecDepth 100000 in
set_option maxHeartbeats 4000000 in
theorem least8_c (l : List (BitVec 16)) (a : Option Addr) (n c : Nat) (w : World) (h : Rd w a n c (l.map setV2)) (h100 : n ≤ 100) :
    Calls Tryz.prog 28 #[.slice a n c] w fun e w' => ∃ v, e = .returned v ∧ w'.ownsRow w.heap.size 27 1 v (lesS l).length ((lesS l).map setV2) ∧ Below w.heap.size w w' := by
  have hnl : l.length = n := by have := h.len; simp at this; omega
  have HS := Lib.hid (sorted8_c l a n c w h h100)
  have hsl := sorS_len l
  obtain ⟨s, hs⟩ : ∃ s, sorS l = s := ⟨_, rfl⟩
  have HLS : Hid (lesS l = lesTo s s.length) := Lib.hid (by unfold lesS; rw [hs])
  rw [hs] at HS hsl
  obtain ⟨m, hm⟩ : ∃ m, s.length = m := ⟨_, rfl⟩
  rw [hm] at HS hsl HLS
  have HM := Lib.hid hm
  have hm100 : m ≤ 100 := by omega
  clear h hnl hs hm
  go_enter Tryz.func28, Tryz.ntmps28
  go_wp2_with fail
  refine HS.out.mono ?_
  rintro e w1 ⟨v1, rfl, hrow, hb1⟩
  obtain ⟨asr, cs, rfl, hrs⟩ := rd_of_row hrow
  have hcs := hrs.le
  have hcs2 := hrs.max
  unfold maxLen at hcs2
  have HRS := Lib.hid hrs
  have HB1 := Lib.hid hb1
  clear HS hrow hrs hb1
  go_wp2_with fail
  go_loopw [3, 5] (fun v i wr => ∃ k : Nat, k ≤ m ∧ i = .int .i64 k ∧ wr.ownsRow w1.heap.size 27 1 v (lesTo s k).length ((lesTo s k).map setV2) ∧ Below w1.heap.size w1 wr) (fun _ i _ => m - (intOf i).toNat)
  case atStart => exact ⟨0, Nat.zero_le _, rfl, World.ownsRow_nil _ _ _ _, Below.refl _ _⟩
  case round =>
    obtain ⟨i, hi, rfl, hown, hb⟩ := hrel
    by_cases hlt : i < m
    · have hol := lesTo_len s i
      have HSU := Lib.hid (lesTo_succ s i)
      rw [HM.out] at HSU
      obtain ⟨o, ho⟩ : ∃ o, lesTo s i = o := ⟨_, rfl⟩
      rw [ho] at hown hol HSU
      have HOW := Lib.hid hown
      have HBB := Lib.hid hb
      clear ho hown hb
      go_wp2_with fail
      go_loopw [6, 7] (fun t q wr => ∃ (b : Bool) (k : Nat), k ≤ m ∧ t = .bool b ∧ q = .int .i64 k ∧ Hid (b = !ovP s i k) ∧ wr.ownsRow w1.heap.size 27 1 u3 o.length (o.map setV2) ∧ Below w1.heap.size w1 wr) (fun _ q _ => m - (intOf q).toNat)
      case atStart => exact ⟨true, 0, Nat.zero_le _, rfl, rfl, Lib.hid rfl, HOW.out, HBB.out⟩
      case round =>
        clear HOW HBB
        obtain ⟨b, k, hk, rfl, rfl, hE, hown, hb⟩ := hrel
        obtain ⟨bx, ox, hax, hcx⟩ := (HRS.out.below hb).at' (by omega)
        have hc1 := hcx i _ (at_cell (by have := HM.out; omega))
        obtain ⟨x, hx⟩ : ∃ x, s.getD i 0#16 = x := ⟨_, rfl⟩
        rw [hx] at hc1
        have HX := Lib.hid hx
        cases hax
        by_cases hlt2 : k < m
        · have hc2 := hcx k _ (at_cell (by have := HM.out; omega))
          obtain ⟨y, hy⟩ : ∃ y, s.getD k 0#16 = y := ⟨_, rfl⟩
          rw [hy] at hc2
          have hsu := ovP_succ s i k
          rw [hx, hy] at hsu
          by_cases hik : i = k
          · have hd : ((i : Int) != (k : Int)) = false := by rw [bne_eq_false_iff_eq]; omega
            have hN : Hid (b = !ovP s i (k + 1)) := Lib.hid (by rw [hsu, show (i == k) = true by simpa using hik]; simp; exact hE.out)
            clear hcx hx hy hsu hE hik
            go_wp2_with fail
            go_quiet (fail)
            go_wp2_with fail
            go_roundw
            case rel => exact ⟨b, k + 1, by omega, rfl, by go_num, hN, row_drewS hown _, below_drewN hb⟩
            case measure => simp [intOf]; omega
          · have hd : ((i : Int) != (k : Int)) = true := by rw [bne_iff_ne]; omega
            have HC := Lib.hid (fun w => contains8_c x y w)
            have hik2 : (i == k) = false := by simpa using hik
            cases hq : subB x y
            · rw [hq] at HC
              have hN : Hid (b = !ovP s i (k + 1)) := Lib.hid (by rw [hsu, hik2, hq]; simp; exact hE.out)
              clear hcx hx hy hsu hE hik hik2 hq
              go_wp2_with fail
              go_quiet ((go_at_call 68; exact Calls.quiet_of_same (HC.out _)))
              go_wp2_with fail
              go_roundw
              case rel => exact ⟨b, k + 1, by omega, rfl, by go_num, hN, row_drewS hown _, below_drewN hb⟩
              case measure => simp [intOf]; omega
            · rw [hq] at HC
              have hN : Hid (false = !ovP s i (k + 1)) := Lib.hid (by rw [hsu, hik2, hq]; simp)
              clear hcx hx hy hsu hE hik hik2 hq
              go_wp2_with fail
              go_quiet ((go_at_call 68; exact Calls.quiet_of_same (HC.out _)))
              go_wp2_with fail
              go_roundw
              case rel => exact ⟨false, k + 1, by omega, rfl, by go_num, hN, row_drewS hown _, below_drewN hb⟩
              case measure => simp [intOf]; omega
        · obtain rfl : k = m := by omega
          cases b
          · have hEE : ovP s i k = true := by have := hE.out; simpa using this.symm
            have hN : Hid (lesTo s (i + 1) = o) := Lib.hid (by rw [HSU.out, if_pos hEE])
            clear hcx hx hE hEE
            go_wp2_with fail
            go_roundw
            case rel => exact ⟨i + 1, by omega, by go_num, by rw [hN.out]; exact hown, hb⟩
            case measure => simp [intOf]; omega
          · have hEE : ovP s i k = false := by have := hE.out; simpa using this.symm
            have hN : Hid (lesTo s (i + 1) = o ++ [x]) := Lib.hid (by rw [HSU.out, if_neg (by rw [hEE]; decide), hx])
            obtain ⟨L, hL⟩ : ∃ L, o.length = L := ⟨_, rfl⟩
            rw [hL] at hown hol
            have HL2 : Hid ((lesTo s (i + 1)).length = L + 1) := Lib.hid (by rw [hN.out, List.length_append, hL]; rfl)
            have HM2 : Hid ((lesTo s (i + 1)).map setV2 = o.map setV2 ++ [.int .u16 (U x)]) := Lib.hid (by rw [hN.out, List.map_append]; rfl)
            try rw [hL]
            clear hcx hx hE hEE hN hL
            go_wp2_with (at_builtin; go_must (refine wpList_app _ _ 25 2 (.int .u16 0) (.int .u16 (U x)) _ Tryz.underlying25 Tryz.infoSet rfl hown hb (Nat.le_refl _) rfl rfl rfl rfl rfl (by unfold maxLen; omega) (by omega) ?_))
            intro v' w5 hown5 hb5 _ _
            clear hown hb hc1
            go_wp2_with fail
            go_roundw
            case rel => exact ⟨i + 1, by omega, by go_num, by rw [HM2.out, HL2.out]; exact hown5, hb5⟩
            case measure => simp [intOf]; omega
    · obtain rfl : i = m := by omega
      have HO : Hid (wr.ownsRow w.heap.size 27 1 u3 (lesS l).length ((lesS l).map setV2)) := Lib.hid (by rw [HLS.out]; exact rowK_mono hown HB1.out.size)
      clear hown
      go_wp2_with fail
      go_ret
      exact ⟨_, rfl, HO.out, Below.next HB1.out hb⟩
/-! plain: the minimal sets make a family -/
theorem bef_key (x y : BitVec 16) : befB x y = decide (keyS x < keyS y) := rfl
theorem tw_take {α : Type} {p : α → Bool} : ∀ o : List α, (∀ y ∈ o.take (o.takeWhile p).length, p y = true) ∧ ∀ z B, o.drop (o.takeWhile p).length = z :: B → p z = false
  | [] => ⟨fun y hy => by simp at hy, fun z B h => by simp at h⟩
  | x :: o => by
    rw [List.takeWhile_cons]
    cases hp : p x
    · exact ⟨fun y hy => by simp at hy, fun z B h => by simp at h; rw [← h.1]; exact hp⟩
    · obtain ⟨h1, h2⟩ := tw_take o
      refine ⟨fun y hy => ?_, fun z B h => h2 z B (by simpa using h)⟩
      rcases List.mem_cons.1 (by simpa using hy) with rfl | hy
      · exact hp
      · exact h1 y hy
theorem insP_asc {o : List (BitVec 16)} (h : o.Pairwise Rk) (x : BitVec 16) : (insP o x).Pairwise Rk ∧ ∀ y, y ∈ insP o x ↔ y = x ∨ y ∈ o := by
  have hsp : ∀ y ∈ o.take (atP x o), keyS y < keyS x := fun y hy => by
    exact of_decide_eq_true ((tw_take (p := fun y => befB y x) o).1 y hy)
  have hd : ∀ z B, o.drop (atP x o) = z :: B → ¬ keyS z < keyS x := fun z B hz hc => by
    have := (tw_take (p := fun y => befB y x) o).2 z B hz
    rw [bef_key, decide_eq_true hc] at this
    cases this
  have hto : o.take (atP x o) ++ o.drop (atP x o) = o := List.take_append_drop _ _
  unfold insP
  split
  · rename_i hx
    exact ⟨h, fun y => ⟨fun hy => .inr hy, fun hy => by rcases hy with rfl | hy; exact List.mem_of_getElem? hx; exact hy⟩⟩
  · rename_i hx
    have hmem : ∀ y, y ∈ o ↔ y ∈ o.take (atP x o) ∨ y ∈ o.drop (atP x o) := fun y => by
      conv => lhs; rw [← hto]
      exact List.mem_append
    have hlt : ∀ z ∈ o.drop (atP x o), keyS x < keyS z := by
      cases hdr : o.drop (atP x o) with
      | nil => intro z hz; cases hz
      | cons z B =>
        have h1 := hd z B hdr
        have h2 : o[atP x o]? = some z := by
          have := congrArg (·[0]?) hdr
          simpa [List.getElem?_drop] using this
        have h3 : z ≠ x := fun e => hx (by rw [h2, e])
        have h4 : keyS x < keyS z := by
          have : keyS x ≠ keyS z := fun e => h3 (by
            unfold keyS at e
            have := x.isLt; have := z.isLt
            have : z.toNat = x.toNat := by omega
            exact BitVec.eq_of_toNat_eq this)
          omega
        intro y hy
        rcases List.mem_cons.1 hy with rfl | hy
        · exact h4
        · have hp : (z :: B).Pairwise Rk := by rw [← hdr]; exact h.sublist (List.drop_sublist _ _)
          rw [List.pairwise_cons] at hp
          have := hp.1 y hy
          unfold Rk at this
          omega
    refine ⟨?_, fun y => ?_⟩
    · rw [List.pairwise_append]
      refine ⟨h.sublist (List.take_sublist _ _), ?_, fun a ha b hb => ?_⟩
      · rw [List.pairwise_cons]
        exact ⟨fun z hz => hlt z hz, h.sublist (List.drop_sublist _ _)⟩
      · rcases List.mem_cons.1 hb with rfl | hb
        · exact hsp a ha
        · have h1 := hsp a ha
          have h2 := hlt b hb
          unfold Rk; omega
    · rw [List.mem_append, List.mem_cons, hmem]
      constructor
      · rintro (h | rfl | h)
        · exact .inr (.inl h)
        · exact .inl rfl
        · exact .inr (.inr h)
      · rintro (rfl | h | h)
        · exact .inr (.inl rfl)
        · exact .inl h
        · exact .inr (.inr h)
theorem sorS_asc (l : List (BitVec 16)) : (sorS l).Pairwise Rk ∧ ∀ y, y ∈ sorS l ↔ y ∈ l := by
  have : ∀ (l o : List (BitVec 16)), o.Pairwise Rk → (l.foldl insP o).Pairwise Rk ∧ ∀ y, y ∈ l.foldl insP o ↔ y ∈ o ∨ y ∈ l := by
    intro l
    induction l with
    | nil => intro o h; exact ⟨h, fun y => by simp⟩
    | cons x l ih =>
      intro o h
      obtain ⟨h1, h2⟩ := insP_asc h x
      obtain ⟨g1, g2⟩ := ih _ h1
      refine ⟨g1, fun y => ?_⟩
      rw [List.foldl_cons, g2, h2, List.mem_cons]
      constructor
      · rintro ((h | h) | h)
        · exact .inr (.inl h)
        · exact .inl h
        · exact .inr (.inr h)
      · rintro (h | h | h)
        · exact .inl (.inr h)
        · exact .inl (.inl h)
        · exact .inr h
  obtain ⟨h1, h2⟩ := this l [] List.Pairwise.nil
  refine ⟨h1, fun y => ?_⟩
  have := h2 y
  unfold sorS
  simpa using this
/-- the minimal sets of a list are in order, none contains another -/
theorem lesS_good (l : List (BitVec 16)) : (lesS l).Pairwise Rs ∧ (∀ x ∈ lesS l, x ∈ l) ∧ (lesS l).length ≤ l.length := by
  obtain ⟨h1, h2⟩ := sorS_asc l
  have hsl := sorS_len l
  unfold lesS
  obtain ⟨s, hs⟩ : ∃ s, sorS l = s := ⟨_, rfl⟩
  rw [hs] at h1 h2 hsl ⊢
  have hl := lesTo_len s s.length
  refine ⟨?_, fun x hx => ?_, by omega⟩
  · unfold lesTo
    rw [List.pairwise_map, List.pairwise_filter]
    refine List.Pairwise.imp_of_mem (fun {i k} hi hk hik h3 h4 => ?_) List.pairwise_lt_range
    rw [List.mem_range] at hi hk
    refine ⟨?_, ?_⟩
    · rw [getD_at hi, getD_at hk]
      exact List.pairwise_iff_getElem.1 h1 i k hi hk hik
    · cases hq : subB (s.getD k 0#16) (s.getD i 0#16)
      · rfl
      · have : ovP s k s.length = true := List.any_eq_true.2 ⟨i, List.mem_range.2 hi, by rw [hq, show (k == i) = false by simp; omega]; rfl⟩
        rw [this] at h4; cases h4
  · unfold lesTo at hx
    obtain ⟨i, hi, rfl⟩ := List.mem_map.1 hx
    have hi2 := List.mem_range.1 (List.mem_filter.1 hi).1
    rw [getD_at hi2]
    exact (h2 _).1 (List.getElem_mem hi2)
end Go.Proofs.YtmjgdnpfgkpaoaaGreatDoor
namespace Go.Proofs.YtmjgdnpfgkpaoaaGreatDoor
open Go.ChangeShapes Go.WideShapes Go.RowKit

theorem intsW_of {H : Type} {enc : TypeId × Value → H} {W : World} {base : Nat} {held : Bool} {fuel : Nat} {cs : List Value} {x : DataW H × List MemPlace} (h : DataW.trod enc Tryz.prog W base (fun _ => true) held fuel 22 cs = some x) :
    ∃ a n c z, cs = [.slice a n c] ∧ IsInts .u16 W a n c z := by
  rcases open_ints Tryz.underlying22 Tryz.underlying26 (by kernel_rfl) h with ⟨hcs, _⟩ | ⟨x, l, c, zs, hcs, _, hl, hm, hz, _, hcell, hwz⟩
  · exact ⟨_, _, _, _, hcs, .nil⟩
  · exact ⟨_, _, _, _, hcs, .row hl hm (by simpa using hz) hcell hwz⟩
/-- a list of sets, as their numbers were handed -/
theorem setsW_of {W : World} {a : Option Addr} {n c : Nat} {l : List Int} (h : IsInts .u16 W a n c l) : ∃ L : List (BitVec 16), Rd W a n c (L.map setV2) ∧ L.length = n := by
  have hr := h.rd
  have hw := h.wf
  have hl := h.len
  have : ∃ L : List (BitVec 16), l = L.map U := by
    clear hr h hl
    induction l with
    | nil => exact ⟨[], rfl⟩
    | cons x l ih =>
      obtain ⟨L, rfl⟩ := ih (fun z hz => hw z (List.mem_cons_of_mem _ hz))
      have hx := hw x (List.mem_cons_self ..)
      have hb : 0 ≤ x ∧ x < 65536 := by
        simp [Lit.wf, IntKind.min, IntKind.max, IntKind.bits, IntKind.signed] at hx; omega
      obtain ⟨s, rfl⟩ := U_of hb
      exact ⟨s :: L, rfl⟩
  obtain ⟨L, rfl⟩ := this
  refine ⟨L, ?_, by simpa using hl⟩
  rw [List.map_map] at hr
  exact hr
/-- a case of a broadcast among the arguments -/
structure IsC39 (W : World) (v : Value) (F B : List (BitVec 16)) (n sz : Int) : Prop where
  val : ∃ (so bz : Int) (a : Option Addr) (ln c : Nat) (a2 : Option Addr) (ln2 c2 : Nat), v = .agg #[.int .u8 n, .int .u8 sz, .int .u8 so, .slice a ln c, .slice a2 ln2 c2, .int .u8 bz] ∧ Rd W a ln c (F.map setV2) ∧ Rd W a2 ln2 c2 (B.map setV2) ∧ (0 ≤ so ∧ so < 256) ∧ 0 ≤ bz ∧ bz < 256
  num : 0 ≤ n ∧ n < 256
  siz : 0 ≤ sz ∧ sz < 256
theorem list6 {α : Type} (l : List α) (h : (⟨l⟩ : Array α).size = 6) : ∃ a b c d e f, l = [a, b, c, d, e, f] := by
  match l, h with
  | [a, b, c, d, e, f], _ => exact ⟨a, b, c, d, e, f, rfl⟩
theorem u8_bd9 {z : Int} (h : (Lit.int .u8 z).wf = true) : 0 ≤ z ∧ z < 256 := by
  simp [Lit.wf, IntKind.min, IntKind.max, IntKind.bits, IntKind.signed] at h; omega
set_option maxRecDepth 100000 in
theorem open_c39 {H : Type} {enc : TypeId × Value → H} {W : World} {base b0 : Nat} {held : Bool} {v : Value} {d : DataW H} {p : List MemPlace} {r : Reach}
    (hv : Value.okWide Tryz.prog W r b0 24 v) (h : DataW.Trod enc Tryz.prog W base (fun _ => true) held 24 v d p) : ∃ F B n sz, IsC39 W v F B n sz := by
  obtain ⟨cs, rfl, hsz⟩ := okWide_struct Tryz.underlying24 hv
  rw [show Tryz.prog.cellsOf 24 = 6 by kernel_rfl] at hsz
  obtain ⟨l⟩ := cs
  obtain ⟨c0, c1, c2, c3, c4, c5, rfl⟩ := list6 l hsz
  obtain ⟨fuel, hf⟩ := h
  obtain ⟨xs, n, _, _, _, _, hfl⟩ := DataW.trod_struct Tryz.underlying24 hf
  have k8 : Tryz.prog.cellsOf 22 = 1 := by kernel_rfl
  have ku : Tryz.prog.cellsOf 5 = 1 := by kernel_rfl
  have h0 : DataW.trod enc Tryz.prog W base (fun _ => true) held n 5 (List.take (Tryz.prog.cellsOf 5) [c0, c1, c2, c3, c4, c5]) = xs[0]? := hfl 0 _ rfl
  have h1 : DataW.trod enc Tryz.prog W base (fun _ => true) held n 5 (List.take (Tryz.prog.cellsOf 5) [c1, c2, c3, c4, c5]) = xs[1]? := hfl 1 _ rfl
  have h2 : DataW.trod enc Tryz.prog W base (fun _ => true) held n 5 (List.take (Tryz.prog.cellsOf 5) [c2, c3, c4, c5]) = xs[2]? := hfl 2 _ rfl
  have h3 : DataW.trod enc Tryz.prog W base (fun _ => true) held n 22 (List.take (Tryz.prog.cellsOf 22) [c3, c4, c5]) = xs[3]? := hfl 3 _ rfl
  have h4 : DataW.trod enc Tryz.prog W base (fun _ => true) held n 22 (List.take (Tryz.prog.cellsOf 22) [c4, c5]) = xs[4]? := hfl 4 _ rfl
  have h5 : DataW.trod enc Tryz.prog W base (fun _ => true) held n 5 (List.take (Tryz.prog.cellsOf 5) [c5]) = xs[5]? := hfl 5 _ rfl
  rw [k8] at h3 h4
  rw [ku] at h0 h1 h2 h5
  have hxl : xs.length = 6 := by assumption
  rw [List.getElem?_eq_getElem (by omega)] at h0 h1 h2 h3 h4 h5
  obtain ⟨s0, e0, _, w0⟩ := DataW.trod_int Tryz.underlying5 h0
  obtain ⟨s1, e1, _, w1⟩ := DataW.trod_int Tryz.underlying5 h1
  obtain ⟨s2, e2, _, w2⟩ := DataW.trod_int Tryz.underlying5 h2
  obtain ⟨a3, n3, cc3, z3, e3, i3⟩ := intsW_of h3
  obtain ⟨a4, n4, cc4, z4, e4, i4⟩ := intsW_of h4
  obtain ⟨s5, e5, _, w5⟩ := DataW.trod_int Tryz.underlying5 h5
  simp at e0 e1 e2 e3 e4 e5
  subst e0 e1 e2 e3 e4 e5
  obtain ⟨F, hF, _⟩ := setsW_of i3
  obtain ⟨B, hB, _⟩ := setsW_of i4
  exact ⟨F, B, s0, s1, ⟨s2, s5, a3, n3, cc3, a4, n4, cc4, rfl, hF, hB, u8_bd9 w2, u8_bd9 w5⟩, u8_bd9 w0, u8_bd9 w1⟩
end Go.Proofs.YtmjgdnpfgkpaoaaGreatDoor
