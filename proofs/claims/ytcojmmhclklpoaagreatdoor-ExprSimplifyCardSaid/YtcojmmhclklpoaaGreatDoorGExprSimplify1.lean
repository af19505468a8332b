/- Texts laid together. The reference's Holds of layer 10. The reference's node of layer 10 (printed by rnd.py). The reference's Valid of layer 10. The reference of layer 8: Size, Before, Contains, Range, Accepts, Support, Valid. Eval, the program's and the reference's. Handed drafts, as a law's frame opens them. Handed trees, choices, expressions, descriptions, as a law's frame opens them. Layer 10: the law Eval, walked. ref10.sizes: the sizes of all nodes' trees, cut at 1000. The reference's Valid of layer 8. ref10.Of. The reference's trees in memory: seven cells. Plain lemmas over the model, and constant, is, threshold as they answer. ref10.threshold, ref10.flat. ref10.tree: the tree of a node. The reference's way of writing the nodes of a tree (its row is handed on and returned, a node's kids are written in place): what the memory looks like on the way. Plain lemmas over the model, no program. ref10.copied: a node of its own. The reference's grow: the nodes of a tree in postorder, in a row that is handed on. ref10.listed: the nodes of a tree in postorder, in a row that is handed on. -/
import Derived.Test.YtcojmmhclklpoaaGreatDoorGC2
import Derived.Test.YtcojmmhclklpoaaGreatDoorGC3
import Derived.Test.YtcojmmhclklpoaaGreatDoorGC4
import Derived.Test.YtcojmmhclklpoaaGreatDoorGC5
import Derived.Test.YtcojmmhclklpoaaGreatDoorGC6
import Derived.Test.YtcojmmhclklpoaaGreatDoorGC7
import Derived.Test.YtcojmmhclklpoaaGreatDoorGC9
import Derived.Test.YtcojmmhclklpoaaGreatDoorGC10
import Derived.Test.YtcojmmhclklpoaaGreatDoorProg
import Derived.Deep.OwnRows
import Derived.OpenShut
import Derived.Deep.Slices
import Derived.Deep.Fields
import Derived.ChangeSame
import Derived.IntWalk
import Derived.RangeFuncBox
namespace Go.Proofs.YtcojmmhclklpoaaGreatDoor
open Go.RowKit Go.Shelf

end Go.Proofs.YtcojmmhclklpoaaGreatDoor
namespace Go.Proofs.YtcojmmhclklpoaaGreatDoor
open Go.RowKit Go.Shelf

set_option maxRecDepth 100000 in
set_option maxHeartbeats 8000000 in
theorem rnode_c (nd : Nod) (i0 : Nat) (aw : Option Addr) (nw cw : Nat) (ak : Option Addr) (nk ck : Nat) (w : World) (hsum : nw + nk ≤ 9223372036854775807) (hw : Rd w aw nw cw (nd.weights.map (Value.int .i64))) (hk : Rd w ak nk ck (nd.kids.map (Value.int .i64))) :
    Calls Tryz.prog 79 #[.agg #[.int .i64 nd.kind, .int .i64 nd.server, .int .i64 nd.need, .slice aw nw cw, .slice ak nk ck], .int .i64 i0] w fun e w' => e = .returned (.int .i64 (nodE nd i0)) ∧ Below w.heap.size w w' := by
  have hlw : nd.weights.length = nw := by have := hw.len; simp at this; omega
  have hlk : nd.kids.length = nk := by have := hk.len; simp at this; omega
  have hE := nodE_F nd i0
  rw [hlw, hlk] at hE
  obtain ⟨kind, server, need, ws, ks⟩ := nd
  simp only at hw hk hlw hlk hE ⊢
  obtain ⟨V, hV0⟩ : ∃ V, nodE ⟨kind, server, need, ws, ks⟩ i0 = V := ⟨_, rfl⟩
  rw [hV0] at hE ⊢
  obtain ⟨W2, hW2⟩ : ∃ W2, W2 = w.alloc (Obj.cells #[.int .i64 kind, .int .i64 server, .int .i64 need, .slice aw nw cw, .slice ak nk ck] 71) := ⟨_, rfl⟩
  have hb2 : Below w.heap.size w W2 := by rw [hW2]; exact (Below.refl _ w).alloc (Nat.le_refl _) _
  have hle := hw.le
  have hm := hw.max
  have hle2 := hk.le
  have hm2 := hk.max
  unfold maxLen at hm hm2
  have HV := Lib.hid hE
  have HW := Lib.hid (hw.below hb2)
  have HK := Lib.hid (hk.below hb2)
  have HB2 := Lib.hid hb2
  have HLW := Lib.hid hlw
  have HLK := Lib.hid hlk
  have g2 : W2.heap[w.heap.size]? = some (.cells #[.int .i64 kind, .int .i64 server, .int .i64 need, .slice aw nw cw, .slice ak nk ck] 71 (0, 0)) := by rw [hW2]; exact heap_alloc_new _ _
  have q3 := cell_of_row _ _ 3 _ _ _ g2
  have q4 := cell_of_row _ _ 4 _ _ _ g2
  clear g2 hb2 hE hV0 hw hk hlw hlk
  by_cases k1 : kind = 1
  · subst k1
    by_cases n0 : need = 0
    · subst n0
      by_cases w0 : nw = 0 ∧ nk = 0
      · obtain ⟨w0, c0⟩ := w0
        subst w0 c0
        by_cases t0 : server < 0
        · have d0 : decide (server < 0) = true := decide_eq_true t0
          have hV : Hid (V = 7) := Lib.hid (HV.out.trans (by unfold nodF; rw [if_neg (by omega), if_pos (by omega)]))
          clear t0
          go_enter Tryz.func79, Tryz.ntmps79
          go_wp2_with fail
          go_ret
          exact ⟨ret_int hV.out.symm, by rw [← hW2]; exact HB2.out⟩

        have d0 : decide (server < 0) = false := decide_eq_false t0
        by_cases t1 : (12 : Int) ≤ server
        · have d1 : decide ((12 : Int) ≤ server) = true := decide_eq_true t1
          have hV : Hid (V = 7) := Lib.hid (HV.out.trans (by unfold nodF; rw [if_neg (by omega), if_pos (by omega)]))
          clear t0 t1
          go_enter Tryz.func79, Tryz.ntmps79
          go_wp2_with fail
          go_ret
          exact ⟨ret_int hV.out.symm, by rw [← hW2]; exact HB2.out⟩

        have d1 : decide ((12 : Int) ≤ server) = false := decide_eq_false t1
        go_enter Tryz.func79, Tryz.ntmps79
        go_wp2_with fail
        rw [← hW2]
        clear hW2
        go_loopw [5] (fun i wr => ∃ k : Nat, k ≤ 0 ∧ i = .int .i64 k ∧ Hid (∀ (j : Nat) x, j < k → ws[j]? = some x → hvyB x = false) ∧ W2 = wr) (fun i _ => 0 - (intOf i).toNat)
        case atStart => exact ⟨0, Nat.zero_le _, rfl, Lib.hid (fun j x hj => by omega), rfl⟩
        case round =>
          obtain ⟨k, hk, rfl, hno, rfl⟩ := hrel
          by_cases hlt : k < 0
          · omega
          · have hkn : 0 = k := by omega
            have HHV : Hid (ws.any hvyB = false) := Lib.hid (by
              rw [List.any_eq_false]
              intro x hx
              obtain ⟨j, hj⟩ := List.mem_iff_getElem?.1 hx
              rw [hno.out j x (by have := (List.getElem?_eq_some_iff.1 hj).1; have := HLW.out; omega) hj]; decide)
            clear hno
            subst hkn
            have m0 : ¬ (0 < 0 ∧ 0 ≠ 0) := by omega
            have HM0 := Lib.hid m0
            have f1 : decide (0 < 0) = false := decide_eq_false (by omega)
            have hs : True := trivial
            clear hs
            go_wp2_with fail
            go_loopw [6] (fun i wr => ∃ k : Nat, k ≤ 0 ∧ i = .int .i64 k ∧ Hid (∀ (j : Nat) x, j < k → ks[j]? = some x → unkB i0 x = false) ∧ W2 = wr) (fun i _ => 0 - (intOf i).toNat)
            case atStart => exact ⟨0, Nat.zero_le _, rfl, Lib.hid (fun j x hj => by omega), rfl⟩
            case round =>
              obtain ⟨j, hj, rfl, hno, rfl⟩ := hrel
              by_cases hlt2 : j < 0
              · omega
              · have hkn2 : 0 = j := by omega
                have HUN : Hid (ks.any (unkB i0) = false) := Lib.hid (by
                  rw [List.any_eq_false]
                  intro x hx
                  obtain ⟨l, hl⟩ := List.mem_iff_getElem?.1 hx
                  rw [hno.out l x (by have := (List.getElem?_eq_some_iff.1 hl).1; have := HLK.out; omega) hl]; decide)
                have hV : Hid (V = 0) := Lib.hid (HV.out.trans (by
                  have := HM0.out
                  rw [HUN.out, HHV.out]; unfold nodF; rw [if_neg (by omega), if_neg (by simp; omega), if_neg (by omega), if_neg (by decide)]))
                clear hno
                subst hkn2
                go_wp2_with fail
                go_ret
                exact ⟨ret_int hV.out.symm, HB2.out⟩

      · have hd : decide ((0 : Int) < (nw : Int) + (nk : Int)) = true := decide_eq_true (by omega)
        have hd2 : decide (0 < nw + nk) = true := decide_eq_true (by omega)
        have hwr : wrap64 ((nw : Int) + (nk : Int)) = (nw : Int) + (nk : Int) := by unfold wrap64; omega
        have hV : Hid (V = 1) := Lib.hid (HV.out.trans (by unfold nodF; rw [if_pos (by omega)]))
        clear w0
        go_enter Tryz.func79, Tryz.ntmps79
        go_wp2_with fail
        go_ret
        exact ⟨ret_int hV.out.symm, by rw [← hW2]; exact HB2.out⟩

    · have hd : (need != 0) = true := by simpa using n0
      have hV : Hid (V = 1) := Lib.hid (HV.out.trans (by unfold nodF; rw [if_pos (by omega)]))
      clear n0
      go_enter Tryz.func79, Tryz.ntmps79
      go_wp2_with fail
      go_ret
      exact ⟨ret_int hV.out.symm, by rw [← hW2]; exact HB2.out⟩

  · have hk1 : (kind == 1) = false := by simpa using k1
    have hk1' : (kind != 1) = true := by simpa using k1
    by_cases k2 : kind = 2
    · subst k2
      by_cases s0 : server = 0
      · subst s0
        by_cases t0 : need < 0
        · have d0 : decide (need < 0) = true := decide_eq_true t0
          have hV : Hid (V = 7) := Lib.hid (HV.out.trans (by unfold nodF; rw [if_neg (by omega), if_pos (by omega)]))
          clear t0
          go_enter Tryz.func79, Tryz.ntmps79
          go_wp2_with fail
          go_ret
          exact ⟨ret_int hV.out.symm, by rw [← hW2]; exact HB2.out⟩

        have d0 : decide (need < 0) = false := decide_eq_false t0
        by_cases t1 : (100000 : Int) < need
        · have d1 : decide ((100000 : Int) < need) = true := decide_eq_true t1
          have hV : Hid (V = 7) := Lib.hid (HV.out.trans (by unfold nodF; rw [if_neg (by omega), if_pos (by omega)]))
          clear t0 t1
          go_enter Tryz.func79, Tryz.ntmps79
          go_wp2_with fail
          go_ret
          exact ⟨ret_int hV.out.symm, by rw [← hW2]; exact HB2.out⟩

        have d1 : decide ((100000 : Int) < need) = false := decide_eq_false t1
        go_enter Tryz.func79, Tryz.ntmps79
        go_wp2_with fail
        rw [← hW2]
        clear hW2
        go_loopw [5] (fun i wr => ∃ k : Nat, k ≤ nw ∧ i = .int .i64 k ∧ Hid (∀ (j : Nat) x, j < k → ws[j]? = some x → hvyB x = false) ∧ W2 = wr) (fun i _ => nw - (intOf i).toNat)
        case atStart => exact ⟨0, Nat.zero_le _, rfl, Lib.hid (fun j x hj => by omega), rfl⟩
        case round =>
          obtain ⟨k, hk, rfl, hno, rfl⟩ := hrel
          by_cases hlt : k < nw
          · obtain ⟨x, hx⟩ : ∃ x, ws[k]? = some x := ⟨_, List.getElem?_eq_getElem (by have := HLW.out; omega)⟩
            obtain ⟨bb, oo, ha, hcell⟩ := HW.out.at' (by omega)
            have hc := hcell k (.int .i64 x) (by rw [List.getElem?_map, hx]; rfl)
            subst ha
            have hany : hvyB x = true → V = 7 := fun hb => HV.out.trans (by
              have e : ws.any hvyB = true := List.any_eq_true.2 ⟨x, List.mem_of_getElem? hx, hb⟩
              rw [e]; unfold nodF; rw [if_neg (by omega), if_pos (.inr rfl)])
            have hnx : hvyB x = false → ∀ (j : Nat) y, j < k + 1 → ws[j]? = some y → hvyB y = false := fun hb j y hj hy => by
              by_cases h1 : j < k
              · exact hno.out j y h1 hy
              · obtain rfl : j = k := by omega
                rw [hx] at hy; cases hy; exact hb
            have HANY := Lib.hid hany
            have HNX := Lib.hid hnx
            clear hany hnx hno hcell hx
            by_cases b1 : x < 1
            · have e1 : decide (x < 1) = true := decide_eq_true b1
              have hV := Lib.hid (HANY.out (by unfold hvyB; rw [e1]; rfl))
              clear b1
              go_wp2_with fail
              go_ret
              exact ⟨ret_int hV.out.symm, HB2.out⟩
            have e1 : decide (x < 1) = false := decide_eq_false b1
            by_cases b2 : 1000 < x
            · have e2 : decide (1000 < x) = true := decide_eq_true b2
              have hV := Lib.hid (HANY.out (by unfold hvyB; rw [e2]; simp))
              clear b1 b2
              go_wp2_with fail
              go_ret
              exact ⟨ret_int hV.out.symm, HB2.out⟩
            have e2 : decide (1000 < x) = false := decide_eq_false b2
            have HN := Lib.hid (HNX.out (by unfold hvyB; rw [e1, e2]; rfl))
            clear b1 b2
            go_wp2_with fail
            go_roundw
            case rel => exact ⟨k + 1, by omega, by go_num, HN, by first | trivial | rfl⟩
            case measure => simp [intOf]; omega
          · have hkn : nw = k := by omega
            have HHV : Hid (ws.any hvyB = false) := Lib.hid (by
              rw [List.any_eq_false]
              intro x hx
              obtain ⟨j, hj⟩ := List.mem_iff_getElem?.1 hx
              rw [hno.out j x (by have := (List.getElem?_eq_some_iff.1 hj).1; have := HLW.out; omega) hj]; decide)
            clear hno
            subst hkn
            by_cases m0 : 0 < nw ∧ nw ≠ nk
            · have f1 : decide (0 < nw) = true := decide_eq_true m0.1
              have f2 : ((nw : Nat) : Int) ≠ ((nk : Nat) : Int) := by omega
              have f3 : (((nw : Nat) : Int) != ((nk : Nat) : Int)) = true := by simpa using f2
              have hV : Hid (V = 6) := Lib.hid (HV.out.trans (by rw [HHV.out]; unfold nodF; rw [if_neg (by omega), if_neg (by simp; omega), if_pos (by omega)]))
              clear m0 f2
              go_wp2_with fail
              go_ret
              exact ⟨ret_int hV.out.symm, HB2.out⟩
            have HM0 := Lib.hid m0
            have hsame : (nw = 0 ∨ nw = nk) := by omega
            clear m0
            rcases hsame with hs | hs
            · have f1 : decide (0 < nw) = false := decide_eq_false (by omega)
              have f0 : (nw : Nat) = 0 := hs
              clear hs
              go_wp2_with fail
              go_loopw [6] (fun i wr => ∃ k : Nat, k ≤ nk ∧ i = .int .i64 k ∧ Hid (∀ (j : Nat) x, j < k → ks[j]? = some x → unkB i0 x = false) ∧ W2 = wr) (fun i _ => nk - (intOf i).toNat)
              case atStart => exact ⟨0, Nat.zero_le _, rfl, Lib.hid (fun j x hj => by omega), rfl⟩
              case round =>
                obtain ⟨j, hj, rfl, hno, rfl⟩ := hrel
                by_cases hlt2 : j < nk
                · obtain ⟨x, hx⟩ : ∃ x, ks[j]? = some x := ⟨_, List.getElem?_eq_getElem (by have := HLK.out; omega)⟩
                  obtain ⟨bb, oo, ha, hcell⟩ := HK.out.at' (by omega)
                  have hc := hcell j (.int .i64 x) (by rw [List.getElem?_map, hx]; rfl)
                  subst ha
                  have hany : unkB i0 x = true → V = 4 := fun hb => HV.out.trans (by
                    have e : ks.any (unkB i0) = true := List.any_eq_true.2 ⟨x, List.mem_of_getElem? hx, hb⟩
                    have := HM0.out
                    rw [e, HHV.out]; unfold nodF; rw [if_neg (by omega), if_neg (by simp; omega), if_neg (by omega), if_pos rfl])
                  have hnx : unkB i0 x = false → ∀ (l : Nat) y, l < j + 1 → ks[l]? = some y → unkB i0 y = false := fun hb l y hl hy => by
                    by_cases h1 : l < j
                    · exact hno.out l y h1 hy
                    · obtain rfl : l = j := by omega
                      rw [hx] at hy; cases hy; exact hb
                  have HANY := Lib.hid hany
                  have HNX := Lib.hid hnx
                  clear hany hnx hno hcell hx
                  by_cases b1 : x < 0
                  · have e1 : decide (x < 0) = true := decide_eq_true b1
                    have hV := Lib.hid (HANY.out (by unfold unkB; rw [e1]; rfl))
                    clear b1
                    go_wp2_with fail
                    go_ret
                    exact ⟨ret_int hV.out.symm, HB2.out⟩
                  have e1 : decide (x < 0) = false := decide_eq_false b1
                  by_cases b2 : (i0 : Int) ≤ x
                  · have e2 : decide ((i0 : Int) ≤ x) = true := decide_eq_true b2
                    have hV := Lib.hid (HANY.out (by unfold unkB; rw [e2]; simp))
                    clear b1 b2
                    go_wp2_with fail
                    go_ret
                    exact ⟨ret_int hV.out.symm, HB2.out⟩
                  have e2 : decide ((i0 : Int) ≤ x) = false := decide_eq_false b2
                  have HN := Lib.hid (HNX.out (by unfold unkB; rw [e1, e2]; rfl))
                  clear b1 b2
                  go_wp2_with fail
                  go_roundw
                  case rel => exact ⟨j + 1, by omega, by go_num, HN, by first | trivial | rfl⟩
                  case measure => simp [intOf]; omega
                · have hkn2 : nk = j := by omega
                  have HUN : Hid (ks.any (unkB i0) = false) := Lib.hid (by
                    rw [List.any_eq_false]
                    intro x hx
                    obtain ⟨l, hl⟩ := List.mem_iff_getElem?.1 hx
                    rw [hno.out l x (by have := (List.getElem?_eq_some_iff.1 hl).1; have := HLK.out; omega) hl]; decide)
                  have hV : Hid (V = 0) := Lib.hid (HV.out.trans (by
                    have := HM0.out
                    rw [HUN.out, HHV.out]; unfold nodF; rw [if_neg (by omega), if_neg (by simp; omega), if_neg (by omega), if_neg (by decide)]))
                  clear hno
                  subst hkn2
                  go_wp2_with fail
                  go_ret
                  exact ⟨ret_int hV.out.symm, HB2.out⟩
            · by_cases hz : nw = 0
              · have f1 : decide (0 < nw) = false := decide_eq_false (by omega)
                clear hs
                go_wp2_with fail
                go_loopw [6] (fun i wr => ∃ k : Nat, k ≤ nk ∧ i = .int .i64 k ∧ Hid (∀ (j : Nat) x, j < k → ks[j]? = some x → unkB i0 x = false) ∧ W2 = wr) (fun i _ => nk - (intOf i).toNat)
                case atStart => exact ⟨0, Nat.zero_le _, rfl, Lib.hid (fun j x hj => by omega), rfl⟩
                case round =>
                  obtain ⟨j, hj, rfl, hno, rfl⟩ := hrel
                  by_cases hlt2 : j < nk
                  · obtain ⟨x, hx⟩ : ∃ x, ks[j]? = some x := ⟨_, List.getElem?_eq_getElem (by have := HLK.out; omega)⟩
                    obtain ⟨bb, oo, ha, hcell⟩ := HK.out.at' (by omega)
                    have hc := hcell j (.int .i64 x) (by rw [List.getElem?_map, hx]; rfl)
                    subst ha
                    have hany : unkB i0 x = true → V = 4 := fun hb => HV.out.trans (by
                      have e : ks.any (unkB i0) = true := List.any_eq_true.2 ⟨x, List.mem_of_getElem? hx, hb⟩
                      have := HM0.out
                      rw [e, HHV.out]; unfold nodF; rw [if_neg (by omega), if_neg (by simp; omega), if_neg (by omega), if_pos rfl])
                    have hnx : unkB i0 x = false → ∀ (l : Nat) y, l < j + 1 → ks[l]? = some y → unkB i0 y = false := fun hb l y hl hy => by
                      by_cases h1 : l < j
                      · exact hno.out l y h1 hy
                      · obtain rfl : l = j := by omega
                        rw [hx] at hy; cases hy; exact hb
                    have HANY := Lib.hid hany
                    have HNX := Lib.hid hnx
                    clear hany hnx hno hcell hx
                    by_cases b1 : x < 0
                    · have e1 : decide (x < 0) = true := decide_eq_true b1
                      have hV := Lib.hid (HANY.out (by unfold unkB; rw [e1]; rfl))
                      clear b1
                      go_wp2_with fail
                      go_ret
                      exact ⟨ret_int hV.out.symm, HB2.out⟩
                    have e1 : decide (x < 0) = false := decide_eq_false b1
                    by_cases b2 : (i0 : Int) ≤ x
                    · have e2 : decide ((i0 : Int) ≤ x) = true := decide_eq_true b2
                      have hV := Lib.hid (HANY.out (by unfold unkB; rw [e2]; simp))
                      clear b1 b2
                      go_wp2_with fail
                      go_ret
                      exact ⟨ret_int hV.out.symm, HB2.out⟩
                    have e2 : decide ((i0 : Int) ≤ x) = false := decide_eq_false b2
                    have HN := Lib.hid (HNX.out (by unfold unkB; rw [e1, e2]; rfl))
                    clear b1 b2
                    go_wp2_with fail
                    go_roundw
                    case rel => exact ⟨j + 1, by omega, by go_num, HN, by first | trivial | rfl⟩
                    case measure => simp [intOf]; omega
                  · have hkn2 : nk = j := by omega
                    have HUN : Hid (ks.any (unkB i0) = false) := Lib.hid (by
                      rw [List.any_eq_false]
                      intro x hx
                      obtain ⟨l, hl⟩ := List.mem_iff_getElem?.1 hx
                      rw [hno.out l x (by have := (List.getElem?_eq_some_iff.1 hl).1; have := HLK.out; omega) hl]; decide)
                    have hV : Hid (V = 0) := Lib.hid (HV.out.trans (by
                      have := HM0.out
                      rw [HUN.out, HHV.out]; unfold nodF; rw [if_neg (by omega), if_neg (by simp; omega), if_neg (by omega), if_neg (by decide)]))
                    clear hno
                    subst hkn2
                    go_wp2_with fail
                    go_ret
                    exact ⟨ret_int hV.out.symm, HB2.out⟩
              · have f1 : decide (0 < nw) = true := decide_eq_true (by omega)
                have f3 : (((nw : Nat) : Int) != ((nk : Nat) : Int)) = false := by rw [hs]; simp
                clear hs
                go_wp2_with fail
                go_loopw [6] (fun i wr => ∃ k : Nat, k ≤ nk ∧ i = .int .i64 k ∧ Hid (∀ (j : Nat) x, j < k → ks[j]? = some x → unkB i0 x = false) ∧ W2 = wr) (fun i _ => nk - (intOf i).toNat)
                case atStart => exact ⟨0, Nat.zero_le _, rfl, Lib.hid (fun j x hj => by omega), rfl⟩
                case round =>
                  obtain ⟨j, hj, rfl, hno, rfl⟩ := hrel
                  by_cases hlt2 : j < nk
                  · obtain ⟨x, hx⟩ : ∃ x, ks[j]? = some x := ⟨_, List.getElem?_eq_getElem (by have := HLK.out; omega)⟩
                    obtain ⟨bb, oo, ha, hcell⟩ := HK.out.at' (by omega)
                    have hc := hcell j (.int .i64 x) (by rw [List.getElem?_map, hx]; rfl)
                    subst ha
                    have hany : unkB i0 x = true → V = 4 := fun hb => HV.out.trans (by
                      have e : ks.any (unkB i0) = true := List.any_eq_true.2 ⟨x, List.mem_of_getElem? hx, hb⟩
                      have := HM0.out
                      rw [e, HHV.out]; unfold nodF; rw [if_neg (by omega), if_neg (by simp; omega), if_neg (by omega), if_pos rfl])
                    have hnx : unkB i0 x = false → ∀ (l : Nat) y, l < j + 1 → ks[l]? = some y → unkB i0 y = false := fun hb l y hl hy => by
                      by_cases h1 : l < j
                      · exact hno.out l y h1 hy
                      · obtain rfl : l = j := by omega
                        rw [hx] at hy; cases hy; exact hb
                    have HANY := Lib.hid hany
                    have HNX := Lib.hid hnx
                    clear hany hnx hno hcell hx
                    by_cases b1 : x < 0
                    · have e1 : decide (x < 0) = true := decide_eq_true b1
                      have hV := Lib.hid (HANY.out (by unfold unkB; rw [e1]; rfl))
                      clear b1
                      go_wp2_with fail
                      go_ret
                      exact ⟨ret_int hV.out.symm, HB2.out⟩
                    have e1 : decide (x < 0) = false := decide_eq_false b1
                    by_cases b2 : (i0 : Int) ≤ x
                    · have e2 : decide ((i0 : Int) ≤ x) = true := decide_eq_true b2
                      have hV := Lib.hid (HANY.out (by unfold unkB; rw [e2]; simp))
                      clear b1 b2
                      go_wp2_with fail
                      go_ret
                      exact ⟨ret_int hV.out.symm, HB2.out⟩
                    have e2 : decide ((i0 : Int) ≤ x) = false := decide_eq_false b2
                    have HN := Lib.hid (HNX.out (by unfold unkB; rw [e1, e2]; rfl))
                    clear b1 b2
                    go_wp2_with fail
                    go_roundw
                    case rel => exact ⟨j + 1, by omega, by go_num, HN, by first | trivial | rfl⟩
                    case measure => simp [intOf]; omega
                  · have hkn2 : nk = j := by omega
                    have HUN : Hid (ks.any (unkB i0) = false) := Lib.hid (by
                      rw [List.any_eq_false]
                      intro x hx
                      obtain ⟨l, hl⟩ := List.mem_iff_getElem?.1 hx
                      rw [hno.out l x (by have := (List.getElem?_eq_some_iff.1 hl).1; have := HLK.out; omega) hl]; decide)
                    have hV : Hid (V = 0) := Lib.hid (HV.out.trans (by
                      have := HM0.out
                      rw [HUN.out, HHV.out]; unfold nodF; rw [if_neg (by omega), if_neg (by simp; omega), if_neg (by omega), if_neg (by decide)]))
                    clear hno
                    subst hkn2
                    go_wp2_with fail
                    go_ret
                    exact ⟨ret_int hV.out.symm, HB2.out⟩

      · have hd : (server != 0) = true := by simpa using s0
        have hV : Hid (V = 1) := Lib.hid (HV.out.trans (by unfold nodF; rw [if_pos (by omega)]))
        clear s0
        go_enter Tryz.func79, Tryz.ntmps79
        go_wp2_with fail
        go_ret
        exact ⟨ret_int hV.out.symm, by rw [← hW2]; exact HB2.out⟩

    · have hk2 : (kind == 2) = false := by simpa using k2
      have hk2' : (kind != 2) = true := by simpa using k2
      have hV : Hid (V = 1) := Lib.hid (HV.out.trans (by unfold nodF; rw [if_pos (by omega)]))
      clear k1 k2
      go_enter Tryz.func79, Tryz.ntmps79
      go_wp2_with fail
      go_ret
      exact ⟨ret_int hV.out.symm, by rw [← hW2]; exact HB2.out⟩

end Go.Proofs.YtcojmmhclklpoaaGreatDoor
namespace Go.Proofs.YtcojmmhclklpoaaGreatDoor
open Go.RowKit Go.Shelf

/-- no node has so many weights and kids that their number is none of Go's -/
def XprSum (x : Xpr) : Prop := ∀ (k : Nat) nd, x.nodes[k]? = some nd → nd.weights.length + nd.kids.length ≤ 9223372036854775807

set_option maxRecDepth 100000 in
set_option maxHeartbeats 2000000 in
theorem rvalid10_c (x : Xpr) (hs : XprSum x) (a : Option Addr) (n c : Nat) (w : World) (h : XM w a n c x.nodes) :
    Calls Tryz.prog 39 #[.agg #[.slice a n c, .int .i64 x.root]] w fun e w' => e = .returned (.int .i64 (xprE x)) ∧ Below w.heap.size w w' := by
  obtain ⟨W2, hW2⟩ : ∃ W2, W2 = w.alloc (Obj.cells #[.slice a n c, .int .i64 x.root] 32) := ⟨_, rfl⟩
  have hb2 : Below w.heap.size w W2 := by rw [hW2]; exact (Below.refl _ w).alloc (Nat.le_refl _) _
  have HX := Lib.hid (h.below hb2)
  have HN := Lib.hid h.len
  have HSM := Lib.hid hs
  have hle := h.le
  have hm := h.max
  unfold maxLen at hm
  have HB2 := Lib.hid hb2
  clear h hb2 hs
  by_cases hn0 : n = 0
  · subst hn0
    have hV : Hid (xprE x = 9) := by
      show _ = _; unfold xprE; rw [if_pos (List.eq_nil_of_length_eq_zero HN.out)]
    go_enter Tryz.func39, Tryz.ntmps39
    go_wp2_with fail
    go_ret
    exact ⟨ret_int hV.out.symm, by rw [← hW2]; exact HB2.out⟩
  have hne : ((n : Int) == 0) = false := by rw [beq_eq_false_iff_ne]; omega
  have H0 : Hid (x.nodes ≠ []) := Lib.hid (fun e => by have := HN.out; rw [e] at this; simp at this; omega)
  by_cases h60 : 60 < n
  · have hd : decide ((60 : Int) < (n : Int)) = true := decide_eq_true (by omega)
    have hV : Hid (xprE x = 3) := by
      show _ = _; unfold xprE; rw [if_neg H0.out, if_pos (by have := HN.out; omega)]
    clear hn0 h60
    go_enter Tryz.func39, Tryz.ntmps39
    go_wp2_with fail
    go_ret
    exact ⟨ret_int hV.out.symm, by rw [← hW2]; exact HB2.out⟩
  have hd : decide ((60 : Int) < (n : Int)) = false := decide_eq_false (by omega)
  have H60 : Hid (¬ 60 < x.nodes.length) := by show ¬ _; have := HN.out; omega
  have HR : Hid (∀ y : World, Below W2.heap.size W2 y → y.cell? ⟨w.heap.size, 0, none⟩ = some (.slice a n c) ∧ y.cell? ⟨w.heap.size, 1, none⟩ = some (.int .i64 x.root)) := Lib.hid (fun y hy => by
    have g : W2.heap[w.heap.size]? = some (.cells #[.slice a n c, .int .i64 x.root] 32 (0, 0)) := by rw [hW2]; exact heap_alloc_new _ _
    have g' := heap_below hy g
    exact ⟨cell_of_row _ _ 0 _ _ _ g', cell_of_row _ _ 1 _ _ _ g'⟩)
  go_enter Tryz.func39, Tryz.ntmps39
  go_wp2_with fail
  rw [← hW2]
  clear hW2
  go_loopw [3] (fun i wr => ∃ k : Nat, k ≤ n ∧ i = .int .i64 k ∧ Hid (nodsE x.nodes 0 = nodsE (x.nodes.drop k) k) ∧ Below W2.heap.size W2 wr) (fun i _ => n - (intOf i).toNat)
  case atStart => exact ⟨0, Nat.zero_le _, rfl, Lib.hid (by simp), Below.refl _ _⟩
  case round =>
    obtain ⟨k, hk, rfl, hno, hb⟩ := hrel
    obtain ⟨q0, q1⟩ := HR.out wr hb
    by_cases hlt : k < n
    · obtain ⟨nd, hnd⟩ : ∃ nd, x.nodes[k]? = some nd := ⟨_, List.getElem?_eq_getElem (by have := HN.out; omega)⟩
      obtain ⟨b, o, ha, hat⟩ := (HX.out.below hb).at' (by omega)
      have hM := hat k nd hnd
      obtain ⟨a3, n3, c3, m3, r3⟩ := hM.ws
      obtain ⟨a4, n4, c4, m4, r4⟩ := hM.ks
      have m0 := hM.c0
      have m1 := hM.c1
      have m2 := hM.c2
      subst ha
      have hsm := HSM.out k nd hnd
      have HV : Hid (∀ y, Below wr.heap.size wr y → Calls Tryz.prog 79 #[.agg #[.int .i64 nd.kind, .int .i64 nd.server, .int .i64 nd.need, .slice a3 n3 c3, .slice a4 n4 c4], .int .i64 k] y fun e w' => e = .returned (.int .i64 (nodE nd k)) ∧ Below y.heap.size y w') :=
        Lib.hid (fun y hy => rnode_c nd k a3 n3 c3 a4 n4 c4 y (by have h1 := r3.len; have h2 := r4.len; simp at h1 h2; omega) (r3.below hy) (r4.below hy))
      have HHit : Hid (nodE nd k ≠ 0 → xprE x = nodE nd k) := Lib.hid (fun he => xprE_hit H0.out H60.out hnd hno.out he)
      have HNxt : Hid (nodE nd k = 0 → nodsE x.nodes 0 = nodsE (x.nodes.drop (k + 1)) (k + 1)) := Lib.hid (fun he => xprE_next hnd hno.out he)
      obtain ⟨kind, server, need, ws, ks⟩ := nd
      obtain ⟨E, hE⟩ : ∃ E, nodE ⟨kind, server, need, ws, ks⟩ k = E := ⟨_, rfl⟩
      rw [hE] at HV HHit HNxt
      simp only at m0 m1 m2 HV
      clear hM r3 r4 hat hnd hno hE hsm
      by_cases he : E = 0
      · subst he
        have hN := HNxt.out rfl
        have HN2 := Lib.hid hN
        clear hN HHit HNxt
        go_wp2_with fail
        with_reducible refine (HV.out _ (Below.refl _ _)).mono ?_
        rintro e w5 ⟨rfl, hb5⟩
        have hb6 := Below.next hb hb5
        go_wp2_with fail
        go_roundw
        case rel => exact ⟨k + 1, by omega, by go_num, HN2, hb6⟩
        case measure => simp [intOf]; omega
      · have hV := HHit.out he
        have HV2 := Lib.hid hV
        have hE : (E != 0) = true := by simpa using he
        clear hV HHit HNxt he
        go_wp2_with fail
        with_reducible refine (HV.out _ (Below.refl _ _)).mono ?_
        rintro e w5 ⟨rfl, hb5⟩
        have hb6 := Below.next hb hb5
        go_wp2_with fail
        go_ret
        exact ⟨ret_int HV2.out.symm, Below.next HB2.out hb6⟩
    · obtain rfl : k = n := by omega
      have hV := xprE_end H0.out H60.out HN.out hno.out
      clear hno
      obtain ⟨root, hroot⟩ : ∃ r, x.root = r := ⟨_, rfl⟩
      rw [hroot] at hV q1
      by_cases h1 : root < 0
      · have d1 : decide (root < 0) = true := decide_eq_true h1
        rw [if_pos (.inl h1)] at hV
        have HV := Lib.hid hV
        clear hV h1 hroot
        go_wp2_with fail
        go_ret
        exact ⟨ret_int HV.out.symm, Below.next HB2.out hb⟩
      · have d1 : decide (root < 0) = false := decide_eq_false h1
        by_cases h2 : (k : Int) ≤ root
        · have d2 : decide ((k : Int) ≤ root) = true := decide_eq_true h2
          rw [if_pos (.inr h2)] at hV
          have HV := Lib.hid hV
          clear hV h1 hroot h2
          go_wp2_with fail
          go_ret
          exact ⟨ret_int HV.out.symm, Below.next HB2.out hb⟩
        · have d2 : decide ((k : Int) ≤ root) = false := decide_eq_false h2
          rw [if_neg (by omega)] at hV
          have HV := Lib.hid hV
          clear hV h1 hroot h2
          go_wp2_with fail
          go_ret
          exact ⟨ret_int HV.out.symm, Below.next HB2.out hb⟩
end Go.Proofs.YtcojmmhclklpoaaGreatDoor
namespace Go.Proofs.YtcojmmhclklpoaaGreatDoor
open Go.RowKit Go.Shelf

@[go_sem] theorem b01_conv (b : Bool) : IntKind.i64.wrap (b01 b) = b01 b := by cases b <;> decide

end Go.Proofs.YtcojmmhclklpoaaGreatDoor
namespace Go.Proofs.YtcojmmhclklpoaaGreatDoor
open Go.RowKit Go.Shelf

end Go.Proofs.YtcojmmhclklpoaaGreatDoor
namespace Go.Proofs.YtcojmmhclklpoaaGreatDoor
open Go.RowKit Go.ChangeShapes Go.WideShapes Go.Deep

section
variable {H : Type} {enc : TypeId × Value → H} {P : Program} {w : World} {base : Nat} {spare : Nat → Bool} {held : Bool}
theorem open_slice_fields {t e : TypeId} {fs : Array Field} {fuel : Nat} {cs : List Value} {x : DataW H × List MemPlace} (ht : P.underlying t = some (.slice e)) (he : P.underlying e = some (.struct fs))
    (hone : oneCellFields P fs = true) (hC : P.cellsOf e = fs.size) (h : DataW.trod enc P w base spare held fuel t cs = some x) :
    (cs = [.slice none 0 0] ∧ x = (.nil, [])) ∨
    ∃ (a : Addr) (len cap m : Nat) (D : Nat → DataW H) (Pl : Nat → List MemPlace), cs = [.slice (some a) len cap] ∧ base ≤ a.block ∧ len ≤ cap ∧ cap ≤ maxLen ∧ m = (if spare a.block then cap else len) ∧
      x = (.slice ((List.range len).map D) ((List.range (m - len)).map fun j => D (len + j)), MemPlace.row a (m * fs.size) ++ (List.range m).flatMap Pl) ∧
      ∀ i, i < m → ∃ (ys : List (DataW H × List MemPlace)) (n : Nat), D i = .agg (ys.map (·.1)) ∧ Pl i = ys.flatMap (·.2) ∧ ys.length = fs.size ∧
        ∀ (j : Nat) (f : Field), fs[j]? = some f → ∃ (v : Value) (y : DataW H × List MemPlace), w.cell? (a.add (i * fs.size + j)) = some v ∧ ys[j]? = some y ∧ DataW.trod enc P w base spare held n f.type [v] = some y := by
  rcases open_slice ht h with h0 | ⟨a, len, cap, m, n, D, Pl, hcs, hb, hl, hm, hmm, hx, hi⟩
  · exact .inl h0
  · refine .inr ⟨a, len, cap, m, D, Pl, hcs, hb, hl, hm, hmm, by rw [hC] at hx; exact hx, fun i him => ?_⟩
    obtain ⟨cs', hc, ht'⟩ := hi i him
    rw [hC] at hc
    obtain ⟨ys, n', hn', hy, hlen, hyl, hf⟩ := DataW.trod_struct he ht'
    obtain ⟨_, hcl, hat⟩ := World.cells?_some hc
    simp only [Prod.mk.injEq] at hy
    refine ⟨ys, n', hy.1, hy.2, hyl, fun j f hj => ?_⟩
    obtain ⟨ho, hk⟩ := hone_of hone j f hj
    have hjl : j < fs.size := (Array.getElem?_eq_some_iff.1 hj).1
    have hcell := hat j hjl
    have hv : cs'[j]? = some (cs'[j]'(by omega)) := List.getElem?_eq_getElem (by omega)
    have h1 := hf j f hj
    rw [ho, hk] at h1
    have hone' : (cs'.drop j).take 1 = [cs'[j]'(by omega)] := by
      rw [List.drop_eq_getElem_cons (by omega)]
      rfl
    rw [hone'] at h1
    have hys : ys[j]? = some (ys[j]'(by omega)) := List.getElem?_eq_getElem (by omega)
    refine ⟨_, _, ?_, hys, h1.trans hys⟩
    rw [← Go.Deep.add_add, hcell, hv]
end

theorem list_of {α : Type} {Q : Nat → α → Prop} : ∀ n, (∀ i, i < n → ∃ r, Q i r) → ∃ L : List α, L.length = n ∧ ∀ i r, L[i]? = some r → Q i r := by
  intro n
  induction n with
  | zero => intro _; exact ⟨[], rfl, fun i r h => by simp at h⟩
  | succ n ih =>
    intro h
    obtain ⟨L, hl, hL⟩ := ih (fun i hi => h i (by omega))
    obtain ⟨r, hr⟩ := h n (by omega)
    refine ⟨L ++ [r], by simp [hl], fun i q hq => ?_⟩
    by_cases hi : i < n
    · rw [List.getElem?_append_left (by omega)] at hq; exact hL i q hq
    · have := (List.getElem?_eq_some_iff.1 hq).1
      simp at this
      obtain rfl : i = n := by omega
      rw [List.getElem?_append_right (by omega), hl, Nat.sub_self] at hq
      cases hq; exact hr

theorem addr_plain {W : World} {a : Addr} {v : Value} (h : W.cell? (a.add 0) = some v) : a = ⟨a.block, a.off, none⟩ := by
  have : a.add 0 = a := by simp [Addr.add]
  rw [this] at h
  unfold World.cell? at h
  cases hs : a.spot with
  | none => cases a; simp_all
  | some s => rw [hs] at h; split at h <;> simp at h

theorem u8_bd {z : Int} (h : (Lit.int .u8 z).wf = true) : 0 ≤ z ∧ z < 256 := by
  simp [Lit.wf, IntKind.min, IntKind.max, IntKind.bits, IntKind.signed] at h; omega
set_option maxRecDepth 100000 in
theorem ints_of {H : Type} {enc : TypeId × Value → H} {W : World} {base : Nat} {held : Bool} {fuel : Nat} {cs : List Value} {x : DataW H × List MemPlace} (h : DataW.trod enc Tryz.prog W base (fun _ => true) held fuel 66 cs = some x) :
    ∃ a n c z, cs = [.slice a n c] ∧ IsInts .u8 W a n c z := by
  rcases open_ints Tryz.underlying66 Tryz.underlying5 (by kernel_rfl) h with ⟨hcs, _⟩ | ⟨x, l, c, zs, hcs, _, hl, hm, hz, _, hcell, hwz⟩
  · exact ⟨_, _, _, _, hcs, .nil⟩
  · exact ⟨_, _, _, _, hcs, .row hl hm (by simpa using hz) hcell hwz⟩
theorem open_pieces {H : Type} {enc : TypeId × Value → H} {w : World} {base : Nat} {held : Bool} {fuel : Nat} {cs : List Value} {x : DataW H × List MemPlace} (h : DataW.trod enc Tryz.prog w base (fun _ => true) held fuel 22 cs = some x) :
    ∃ a n c ps, cs = [.slice a n c] ∧ PM w a n c ps ∧ ∀ p ∈ ps, p.ok := by
  rcases open_slice_fields Tryz.underlying22 Tryz.underlying68 (by kernel_rfl) (by kernel_rfl) h with ⟨hcs, _⟩ | ⟨a, len, cap, m, D, Pl, hcs, _, hl, hm, hmm, _, hi⟩
  · exact ⟨none, 0, 0, [], hcs, ⟨rfl, Nat.le_refl _, by unfold maxLen; omega, fun hn => absurd hn (by decide)⟩, fun r hr => by cases hr⟩
  · have hlm : len ≤ m := by rw [hmm]; split <;> omega
    obtain ⟨L, hL1, hL2⟩ := list_of (α := Pce) (Q := fun i r => (w.cell? (a.add (i * 5 + 0)) = some (.int .u8 r.kind) ∧ w.cell? (a.add (i * 5 + 1)) = some (.int .u8 r.server) ∧ w.cell? (a.add (i * 5 + 2)) = some (.int .u8 r.need) ∧ w.cell? (a.add (i * 5 + 3)) = some (.bool r.heavy) ∧ ∃ a4 n4 c4, w.cell? (a.add (i * 5 + 4)) = some (.slice a4 n4 c4) ∧ Rd w a4 n4 c4 (r.kids.map (Value.int .u8))) ∧ r.ok) len (fun i hil => by
      obtain ⟨ys, n, _, _, _, hf⟩ := hi i (by omega)
      obtain ⟨v0, y0, c0, _, t0⟩ := hf 0 _ rfl
      obtain ⟨v1, y1, c1, _, t1⟩ := hf 1 _ rfl
      obtain ⟨v2, y2, c2, _, t2⟩ := hf 2 _ rfl
      obtain ⟨v3, y3, c3, _, t3⟩ := hf 3 _ rfl
      obtain ⟨v4, y4, c4, _, t4⟩ := hf 4 _ rfl
      obtain ⟨z0, e0, _, b0⟩ := DataW.trod_int Tryz.underlying5 t0
      obtain ⟨z1, e1, _, b1⟩ := DataW.trod_int Tryz.underlying5 t1
      obtain ⟨z2, e2, _, b2⟩ := DataW.trod_int Tryz.underlying5 t2
      obtain ⟨z3, e3, _⟩ := DataW.trod_bool Tryz.underlying4 t3
      obtain ⟨a4, n4, k4, z4, e4, i4⟩ := ints_of t4
      cases e0; cases e1; cases e2; cases e3; cases e4
      exact ⟨⟨z0, z1, z2, z3, z4⟩, ⟨c0, c1, c2, c3, a4, n4, k4, c4, i4.rd⟩, ⟨u8_bd b0, u8_bd b1, u8_bd b2⟩, fun z hz => u8_bd (i4.wf z hz)⟩)
    refine ⟨some a, len, cap, L, hcs, ⟨hL1, hl, hm, fun hn0 => ?_⟩, fun r hr => ?_⟩
    · obtain ⟨x0, hx0⟩ : ∃ x, L[0]? = some x := ⟨_, List.getElem?_eq_getElem (by omega)⟩
      have h0 := (hL2 0 x0 hx0).1.1
      rw [Nat.zero_mul, Nat.zero_add] at h0
      have ha := addr_plain h0
      refine ⟨a.block, a.off, by rw [← ha], fun i p hp => ?_⟩
      obtain ⟨⟨d0, d1, d2, d3, a4, n4, c4, d4, r4⟩, _⟩ := hL2 i p hp
      rw [ha, Addr.add_lit] at d0 d1 d2 d3 d4
      exact ⟨d0, by rw [Nat.add_assoc]; exact d1, by rw [Nat.add_assoc]; exact d2, by rw [Nat.add_assoc]; exact d3, a4, n4, c4, by rw [Nat.add_assoc]; exact d4, r4⟩
    · obtain ⟨i, hi⟩ := List.mem_iff_getElem?.1 hr
      exact (hL2 i r hi).2
set_option maxRecDepth 100000 in
theorem open_draft {H : Type} {enc : TypeId × Value → H} {w : World} {base : Nat} {held : Bool} {fuel : Nat} {c : Value} {x : DataW H × List MemPlace} (h : DataW.trod enc Tryz.prog w base (fun _ => true) held fuel 24 [c] = some x) :
    ∃ a n cc ps, c = .slice a n cc ∧ PM w a n cc ps ∧ ∀ p ∈ ps, p.ok := by
  obtain ⟨xs, n, _, _, _, _, hfl⟩ := DataW.trod_struct Tryz.underlying24 h
  have k8 : Tryz.prog.cellsOf 22 = 1 := by kernel_rfl
  have h0 : DataW.trod enc Tryz.prog w base (fun _ => true) held n 22 (List.take (Tryz.prog.cellsOf 22) [c]) = xs[0]? := hfl 0 _ rfl
  rw [k8] at h0
  have hxl : xs.length = 1 := by assumption
  rw [List.getElem?_eq_getElem (by omega)] at h0
  obtain ⟨a, n1, cc, ps, e0, i0, i1⟩ := open_pieces h0
  simp at e0
  exact ⟨a, n1, cc, ps, e0, i0, i1⟩
/-- a case among the arguments -/
structure IsCase (W : World) (v : Value) (xs ys : List Pce) (b : Int) : Prop where
  val : ∃ a n c a2 n2 c2, v = .agg #[.slice a n c, .slice a2 n2 c2, .int .u16 b] ∧ PM W a n c xs ∧ PM W a2 n2 c2 ys
  okx : ∀ p ∈ xs, p.ok
  oky : ∀ p ∈ ys, p.ok
  num : (Lit.int .u16 b).wf = true
end Go.Proofs.YtcojmmhclklpoaaGreatDoor
namespace Go.Proofs.YtcojmmhclklpoaaGreatDoor
open Go.RowKit Go.ChangeShapes Go.WideShapes Go.Deep

/-- a description among the arguments -/
structure IsDraft (W : World) (v : Value) (xs : List Pce) : Prop where
  val : ∃ a n c, v = .agg #[.slice a n c] ∧ PM W a n c xs
  okx : ∀ p ∈ xs, p.ok
theorem list1 {α : Type} (l : List α) (h : (⟨l⟩ : Array α).size = 1) : ∃ a, l = [a] := by
  match l, h with
  | [a], _ => exact ⟨a, rfl⟩
set_option maxRecDepth 100000 in
theorem open_draftv {H : Type} {enc : TypeId × Value → H} {W : World} {base b0 : Nat} {held : Bool} {v : Value} {d : DataW H} {p : List MemPlace} {r : Reach}
    (hv : Value.okWide Tryz.prog W r b0 24 v) (h : DataW.Trod enc Tryz.prog W base (fun _ => true) held 24 v d p) : ∃ xs, IsDraft W v xs := by
  obtain ⟨cs, rfl, hsz⟩ := okWide_struct Tryz.underlying24 hv
  rw [show Tryz.prog.cellsOf 24 = 1 by kernel_rfl] at hsz
  obtain ⟨l⟩ := cs
  obtain ⟨c0, rfl⟩ := list1 l hsz
  obtain ⟨fuel, hf⟩ := h
  obtain ⟨a, n, cc, ps, e0, h1, h2⟩ := open_draft hf
  subst e0
  exact ⟨ps, ⟨a, n, cc, rfl, h1⟩, h2⟩

/-- a tree among the arguments -/
structure IsTree (W : World) (v : Value) (t : Tre) : Prop where
  val : ∃ a n c, v = .agg #[.slice a n c, .int .i64 t.root] ∧ TM W a n c t.nodes
/-- a choice among the arguments -/
structure IsChoice (W : World) (v : Value) (q : Cho) : Prop where
  val : v = .agg #[.int .i64 q.server, .int .i64 q.first, .int .i64 q.second]
/-- an expression among the arguments -/
structure IsXpr (W : World) (v : Value) (x : Xpr) : Prop where
  val : ∃ a n c, v = .agg #[.slice a n c, .int .i64 x.root] ∧ XM W a n c x.nodes
end Go.Proofs.YtcojmmhclklpoaaGreatDoor
namespace Go.Proofs.YtcojmmhclklpoaaGreatDoor
open Go.RowKit Go.Shelf

theorem madN_small (p : Pce) (i : Nat) : (madN p i).weights.length ≤ 5 ∧ (madN p i).kids.length ≤ 5 := by
  have h5 : mk5 p ≤ 5 := Nat.min_le_right _ _
  unfold madN
  split
  · simp
  · refine ⟨?_, ?_⟩
    · show (mwtTo _ _).length ≤ 5
      unfold mwtTo
      split
      · rw [List.length_map, List.length_take]; omega
      · simp
    · show (mkdTo _ _ _).length ≤ 5
      unfold mkdTo
      rw [List.length_map, List.length_take]; omega
theorem madX_node {ps : List Pce} {k : Nat} {nd : Nod} (h : (madX ps).nodes[k]? = some nd) : nd.weights.length ≤ 5 ∧ nd.kids.length ≤ 5 := by
  unfold madX at h
  by_cases h0 : ps = []
  · rw [if_pos h0] at h
    have := List.mem_of_getElem? h
    simp at this
    subst this
    decide
  · rw [if_neg h0] at h
    obtain ⟨_, rfl⟩ := madT_at h
    exact madN_small _ _
theorem madX_few (ps : List Pce) : XprFew (madX ps) := fun k nd h => by have := madX_node h; omega
theorem madX_sum (ps : List Pce) : XprSum (madX ps) := fun k nd h => by have := madX_node h; omega
end Go.Proofs.YtcojmmhclklpoaaGreatDoor
namespace Go.Proofs.YtcojmmhclklpoaaGreatDoor
open Go.RowKit Go.Shelf

/-- m places for numbers, the first ones filled -/
def inN (m : Nat) (l : List Nat) : Array Value := ((l ++ List.replicate (m - l.length) 0).map fun k => Value.int .i64 ((k : Nat) : Int)).toArray
theorem inN_at {m : Nat} {l : List Nat} (h : l.length ≤ m) {i : Nat} (hi : i < m) : (inN m l)[i]? = some (.int .i64 ((l.getD i 0 : Nat) : Int)) := by
  unfold inN
  rw [List.getElem?_toArray, List.getElem?_map, List.getD_eq_getElem?_getD]
  by_cases h1 : i < l.length
  · rw [List.getElem?_append_left h1, List.getElem?_eq_getElem h1]; rfl
  · rw [List.getElem?_append_right (by omega), List.getElem?_replicate, if_pos (by omega), List.getElem?_eq_none (by omega)]; rfl
theorem inN_set {m : Nat} {l : List Nat} (h : l.length < m) (v : Nat) : (inN m l).setIfInBounds l.length (.int .i64 (v : Int)) = inN m (l ++ [v]) := by
  unfold inN
  rw [List.setIfInBounds_toArray]
  congr 1
  have e : m - l.length = (m - (l ++ [v]).length) + 1 := by simp; omega
  rw [e, List.replicate_succ, List.map_append, List.map_append, List.map_append, List.map_cons, List.set_append_right _ _ (by simp)]
  simp
theorem inN_reset {m : Nat} {l : List Nat} (u v : Nat) : (inN m (l ++ [u])).setIfInBounds l.length (.int .i64 (v : Int)) = inN m (l ++ [v]) := by
  unfold inN
  rw [List.setIfInBounds_toArray]
  congr 1
  rw [List.append_assoc, List.append_assoc, List.map_append, List.map_append, List.set_append_right _ _ (by simp)]
  simp
theorem inN_old {m : Nat} {l : List Nat} (u : Nat) {i : Nat} (h : l.length < m) (hi : i < l.length) : (inN m (l ++ [u]))[i]? = some (.int .i64 ((l.getD i 0 : Nat) : Int)) := by
  rw [inN_at (by simp; omega) (by omega), List.getD_eq_getElem?_getD, List.getElem?_append_left hi, ← List.getD_eq_getElem?_getD]
theorem inN_new {m : Nat} {l : List Nat} (u : Nat) (h : l.length < m) : (inN m (l ++ [u]))[l.length]? = some (.int .i64 (u : Int)) := by
  rw [inN_at (by simp; omega) h, List.getD_eq_getElem?_getD, List.getElem?_append_right (Nat.le_refl _), Nat.sub_self]; rfl
theorem make_ints (m : Nat) (hm : m ≤ 1000000) : ∀ w, (Instr.makeSlice 69 (.int .i64 m) (.int .i64 m)).run Tryz.prog w = .ok (.slice (some ⟨w.heap.size, 0, none⟩) m m) (w.alloc (.cells (madeCells #[.int .i64 0] m) 3)) :=
  fun w => run_make_row' 69 3 (.int .i64 0) 8 Tryz.underlying69 Tryz.infoInt rfl .i64 .i64 m (by omega) (by omega) w
theorem inN_made (m : Nat) : madeCells #[.int .i64 0] m = inN m [] := by
  apply Array.toList_inj.1
  rw [toList_madeCells_one]; unfold inN; simp

set_option maxRecDepth 100000 in
set_option maxHeartbeats 4000000 in
theorem rsizes_c (x : Xpr) (hx : xprE x = 0) (hf : XprFew x) (sub : Nat → Option ET) (ls : List Nat) (hsub : ∀ s, s < 12 → subZ 1000 sub s = if s < ls.length then ls.getD s 0 else 1) (a : Option Addr) (n c : Nat) (la : Option Addr) (ln lc : Nat) (w : World) (h : XM w a n c x.nodes) (hl : Rd w la ln lc (ls.map fun k => Value.int .i64 ((k : Nat) : Int))) :
    Calls Tryz.prog 59 #[.agg #[.slice a n c, .int .i64 x.root], .slice la ln lc] w fun e w' => ∃ a', e = .returned (.slice a' n n) ∧ Rd w' a' n n ((szl 1000 x.nodes sub n).map fun k => Value.int .i64 ((k : Nat) : Int)) ∧ Below w.heap.size w w' := by
  have ok := xprE_ok hx
  have hle := h.le
  have hm := h.max
  have hn60 : n ≤ 60 := by have h1 := ok.most; have h2 := h.len; omega
  have hn0 : 0 < n := by have h1 := ok.pos; have h2 := h.len; omega
  unfold maxLen at hm
  have HX := Lib.hid h
  have HO := Lib.hid ok
  have HXX := Lib.hid hx
  have HN := Lib.hid h.len
  have HLS := Lib.hid hl
  have HSB := Lib.hid hsub
  have HFW := Lib.hid hf
  obtain ⟨RT, hRT⟩ : ∃ RT, x.root = RT := ⟨_, rfl⟩
  rw [hRT]
  clear h hx ok hl hsub hf hRT
  have hmk := make_ints n (by omega)
  obtain ⟨b, o, rfl, _⟩ := HX.out.at' hn0
  go_enter Tryz.func59, Tryz.ntmps59
  go_wp2_with fail
  generalize hWS : (w.alloc _).alloc _ = WS
  rw [inN_made] at hWS
  obtain ⟨g0, g1, hbS, hS⟩ := box2' hWS
  have HS := Lib.hid hS
  have HBS := Lib.hid hbS
  have G0 := Lib.hid g0
  have G1 := Lib.hid g1
  clear hWS hS hbS g0 g1 hmk
  go_loopw [6] (fun i wr => ∃ k : Nat, k ≤ n ∧ i = .int .i64 k ∧ wr.heap[w.heap.size + 1]? = some (.cells (inN n (szl 1000 x.nodes sub k)) 3 (0, 0)) ∧ wr.heap[w.heap.size]? = some (.cells #[.slice (some ⟨b, o, none⟩) n c, .int .i64 RT] 32 (0, 0)) ∧ w.heap.size + 2 ≤ wr.heap.size ∧ Below w.heap.size w wr) (fun i _ => n - (intOf i).toNat)
  case atStart => exact ⟨0, Nat.zero_le _, rfl, G1.out, G0.out, by rw [HS.out]; exact Nat.le_refl _, HBS.out⟩
  case round =>
    obtain ⟨k, hk, rfl, e1, e0, hsz, hb⟩ := hrel
    by_cases hlt : k < n
    · obtain ⟨nd, hnd⟩ : ∃ nd, x.nodes[k]? = some nd := ⟨_, List.getElem?_eq_getElem (by have := HN.out; omega)⟩
      obtain ⟨b', o', ha, hat⟩ := HX.out.at' (by omega)
      cases ha
      have hM := hat k nd hnd
      obtain ⟨a3, n3, c3, m3, r3⟩ := hM.ws
      obtain ⟨a4, n4, c4, m4, r4⟩ := hM.ks
      have m0 := cell_keep hb hM.c0
      have m1 := cell_keep hb hM.c1
      have m2 := cell_keep hb hM.c2
      have m3 := cell_keep hb m3
      have m4 := cell_keep hb m4
      obtain ⟨x0, x1⟩ := (open2 e0).1
      have HOK := Lib.hid (HO.out.node k nd hnd)
      have HST := Lib.hid (szl_succ 1000 x.nodes sub k)
      have HL := Lib.hid (szl_len 1000 x.nodes sub k)
      have hkk := Lib.hid (fun j kd hj => sz_kid HXX.out 1000 sub k nd hnd j kd hj)
      have hIb := Lib.hid (fun i (hi : i < k) => show (szl 1000 x.nodes sub k).getD i 0 ≤ 1000 from by rw [szl_get _ _ _ _ _ hi]; omega)
      obtain ⟨I, hI⟩ : ∃ I, szl 1000 x.nodes sub k = I := ⟨_, rfl⟩
      have hleaf := Lib.hid (fun hk1 => sz_leaf (x := x) 1000 (by omega) sub k nd hnd hk1)
      have hnode := Lib.hid (fun hk1 => sz_node HXX.out 1000 sub k nd hnd hk1)
      rw [hI] at e1 HST HL hkk hIb
      obtain ⟨kind, server, need, ws, ks⟩ := nd
      simp only at m0 m1 m2 r3 r4 hleaf hnode hkk
      have R4 := Lib.hid r4
      have HB := Lib.hid hb
      have hlk : ks.length = n4 := by have := R4.out.len; simp at this; omega
      have HLK := Lib.hid hlk
      clear hM r3 r4 hat hnd hI hb hlk
      have ea := heap_alloc_at e1 (Obj.cells #[.int .i64 kind, .int .i64 server, .int .i64 need, .slice a3 n3 c3, .slice a4 n4 c4] 71)
      have ea0 := heap_alloc_at e0 (Obj.cells #[.int .i64 kind, .int .i64 server, .int .i64 need, .slice a3 n3 c3, .slice a4 n4 c4] 71)
      have en := heap_alloc_new wr (Obj.cells #[.int .i64 kind, .int .i64 server, .int .i64 need, .slice a3 n3 c3, .slice a4 n4 c4] 71)
      have hbn : Below wr.heap.size wr (wr.alloc (Obj.cells #[.int .i64 kind, .int .i64 server, .int .i64 need, .slice a3 n3 c3, .slice a4 n4 c4] 71)) := (Below.refl _ wr).alloc (Nat.le_refl _) _
      have za := frozen_row ea k
      have zb := (cell_of_row _ _ k _ _ _ ea).trans (inN_at (by have := HL.out; omega) hlt)
      have EA := Lib.hid ea
      have EA0 := Lib.hid ea0
      have EN := Lib.hid en
      have HBN := Lib.hid hbn
      clear ea ea0 en hbn e1 e0
      go_upto_region 7 with fail
      generalize hW5 : (wr.alloc _).setCell _ _ = W5
      have e5 : W5.heap[w.heap.size + 1]? = some (.cells (inN n (I ++ [1])) 3 (0, 0)) := by
        rw [← hW5, heap_set_at EA.out]
        have := inN_set (m := n) (l := I) (by have := HL.out; omega) 1
        rw [HL.out] at this
        rw [← this]; rfl
      have e50 : W5.heap[w.heap.size]? = some (.cells #[.slice (some ⟨b, o, none⟩) n c, .int .i64 RT] 32 (0, 0)) := by rw [← hW5]; exact heap_set_other (by omega) _ _ EA0.out
      have en5 : W5.heap[wr.heap.size]? = some (.cells #[.int .i64 kind, .int .i64 server, .int .i64 need, .slice a3 n3 c3, .slice a4 n4 c4] 71 (0, 0)) := by rw [← hW5]; exact heap_set_other (by omega) _ _ EN.out
      have hb5 : Below w.heap.size w W5 := by rw [← hW5]; exact (HB.out.trans (HBN.out.mono HB.out.size)).setCell (p := ⟨w.heap.size + 1, k, none⟩) (Nat.le_succ _) _
      have hs5 : wr.heap.size < W5.heap.size := (Array.getElem?_eq_some_iff.1 en5).1
      have E5 := Lib.hid e5
      have E50 := Lib.hid e50
      have EN5 := Lib.hid en5
      have HB5 := Lib.hid hb5
      clear hW5 e5 e50 en5 hb5 za zb m0 m1 m2 m3 m4 x0 x1 EA EA0 EN HBN
      obtain ⟨q0, q1, q2, q3, q4⟩ := open5 EN5.out
      by_cases hkind : kind = 1
      · subst hkind
        obtain ⟨sv, rfl⟩ := Int.eq_ofNat_of_zero_le HOK.out.server.1
        have hsv12 := HOK.out.server.2
        simp only at hsv12
        obtain ⟨hnd0, hws0, hks⟩ := HOK.out.leaf rfl
        simp only at hks hnd0 hws0
        subst hks hnd0 hws0
        have hn0 : n4 = 0 := HLK.out.symm
        subst hn0
        have hsb := HSB.out sv (by omega)
        have hln := HLS.out.len
        rw [List.length_map] at hln
        have hlf := hleaf.out rfl
        rw [Int.toNat_natCast, hsb] at hlf
        by_cases hsl : sv < ls.length
        · rw [if_pos hsl] at hlf
          obtain ⟨b7, o7, ha7, hc7⟩ := HLS.out.at' (by omega)
          have r7 := cell_keep HB5.out (hc7 sv (.int .i64 ((ls.getD sv 0 : Nat) : Int)) (by rw [List.getElem?_map, List.getD_eq_getElem?_getD, List.getElem?_eq_getElem hsl]; rfl))
          have za := frozen_row E5.out k
          have zb := (cell_of_row _ _ k _ _ _ E5.out).trans (inN_at (by simp; have := HL.out; omega) hlt)
          have d1 : decide (sv < ln) = true := decide_eq_true (by omega)
          have d2 : decide ((sv : Int) < (ln : Int)) = true := decide_eq_true (by omega)
          have hsn : sv < ln := by omega
          have HLF := Lib.hid hlf
          subst ha7
          clear hlf hc7 hsb hln
          obtain ⟨VV, hVV⟩ : ∃ VV, ls.getD sv 0 = VV := ⟨_, rfl⟩
          rw [hVV] at r7 HLF
          clear hVV hsl
          obtain ⟨W6, hW6⟩ : ∃ u, u = W5.setCell ⟨w.heap.size + 1, k, none⟩ (.int .i64 (VV : Int)) := ⟨_, rfl⟩
          have EZ : Hid (W6.heap[w.heap.size + 1]? = some (.cells (inN n (szl 1000 x.nodes sub (k + 1))) 3 (0, 0))) := Lib.hid (by
            rw [hW6, heap_set_at E5.out, HST.out, HLF.out]
            have := inN_reset (m := n) (l := I) 1 VV
            rw [HL.out] at this
            exact congrArg (fun q => some (Obj.cells q 3 (0, 0))) this)
          have EZ0 := Lib.hid (show W6.heap[w.heap.size]? = some (.cells #[.slice (some ⟨b, o, none⟩) n c, .int .i64 RT] 32 (0, 0)) by rw [hW6]; exact heap_set_other (by omega) _ _ E50.out)
          have hen6 : W6.heap[wr.heap.size]? = some (.cells #[.int .i64 1, .int .i64 (sv : Int), .int .i64 0, .slice a3 n3 c3, .slice a4 0 c4] 71 (0, 0)) := by rw [hW6]; exact heap_set_other (by omega) _ _ EN5.out
          have HBZ : Hid (Below w.heap.size w W6) := Lib.hid (by rw [hW6]; exact HB5.out.setCell (p := ⟨w.heap.size + 1, k, none⟩) (Nat.le_succ _) _)
          have hs6 : W6.heap.size = W5.heap.size := by rw [hW6]; simp
          have n46 := (open5 hen6).2.2.2.2
          have hsi : w.heap.size + 2 ≤ W6.heap.size := by omega
          have HW6 := Lib.hid hW6
          clear hen6 hs6 hW6
          go_wp2_with fail
          rw [← HW6.out]
          clear za zb r7
          go_loopw [8] (fun i wq => i = .int .i64 ((0 : Nat) : Int) ∧ wq = W6) (fun _ _ => 0)
          case atStart => exact ⟨rfl, rfl⟩
          case round =>
            obtain ⟨rfl, hwq⟩ := hrel
            subst hwq
            go_wp2_with fail
            go_roundw
            case rel => exact ⟨k + 1, by omega, by go_num, EZ.out, EZ0.out, by omega, HBZ.out⟩
            case measure => simp [intOf] <;> omega
        · rw [if_neg hsl] at hlf
          have d1 : decide (sv < ln) = false := decide_eq_false (by omega)
          have d2 : decide ((sv : Int) < (ln : Int)) = false := decide_eq_false (by omega)
          have HLF := Lib.hid hlf
          clear hlf hsb hln hsl
          have EZ : Hid (W5.heap[w.heap.size + 1]? = some (.cells (inN n (szl 1000 x.nodes sub (k + 1))) 3 (0, 0))) := Lib.hid (by rw [HST.out, HLF.out]; exact E5.out)
          have EZ0 := E50
          have HBZ := HB5
          go_wp2_with fail
          go_loopw [8] (fun i wq => i = .int .i64 ((0 : Nat) : Int) ∧ wq = W5) (fun _ _ => 0)
          case atStart => exact ⟨rfl, rfl⟩
          case round =>
            obtain ⟨rfl, hwq⟩ := hrel
            subst hwq
            go_wp2_with fail
            go_roundw
            case rel => exact ⟨k + 1, by omega, by go_num, EZ.out, EZ0.out, by omega, HBZ.out⟩
            case measure => simp [intOf] <;> omega
      · have hk2 : (kind == 1) = false := by simpa using hkind
        obtain ⟨KT, hKT⟩ : ∃ KT, KT = kidT x.nodes sub k ks := ⟨_, rfl⟩
        rw [← hKT] at hkk hnode
        have HKl := Lib.hid (show KT.length = n4 by rw [hKT, kidT_len, HLK.out])
        have hn4m : n4 ≤ 9223372036854775807 := by have h1 := R4.out.le; have h2 := R4.out.max; unfold maxLen at h2; omega
        clear hKT
        go_wp2_with fail
        clear q0 q1 q2 q3 q4
        obtain ⟨W0, hW0⟩ : ∃ W0, W0 = wr := ⟨_, rfl⟩
        subst hW0
        go_loopw [8] (fun i wq => ∃ j : Nat, j ≤ n4 ∧ i = .int .i64 ((j : Nat) : Int) ∧ wq.heap[w.heap.size + 1]? = some (.cells (inN n (I ++ [min 1000 (1 + ETs.sz (KT.take j))])) 3 (0, 0)) ∧ wq.heap[w.heap.size]? = some (.cells #[.slice (some ⟨b, o, none⟩) n c, .int .i64 RT] 32 (0, 0)) ∧ wq.heap[W0.heap.size]? = some (.cells #[.int .i64 kind, .int .i64 server, .int .i64 need, .slice a3 n3 c3, .slice a4 n4 c4] 71 (0, 0)) ∧ W0.heap.size < wq.heap.size ∧ Below w.heap.size w wq) (fun i _ => n4 - (intOf i).toNat)
        case atStart => exact ⟨0, Nat.zero_le _, rfl, by simp only [List.take_zero, ETs.sz]; exact E5.out, E50.out, EN5.out, hs5, HB5.out⟩
        case round =>
          obtain ⟨j, hj, rfl, q1, q0, qn, hsq, hbq⟩ := hrel
          by_cases hltj : j < n4
          · obtain ⟨z, hz⟩ : ∃ z, ks[j]? = some z := ⟨_, List.getElem?_eq_getElem (by have := HLK.out; omega)⟩
            have hzr := HOK.out.kids z (List.mem_of_getElem? hz)
            obtain ⟨kd, rfl⟩ := Int.eq_ofNat_of_zero_le hzr.1
            have hkd2 : kd < k := by omega
            have hkdn : kd < n := by omega
            obtain ⟨b4, o4, ha4, hcell4⟩ := (R4.out.below hbq).at' (by omega)
            have r4 := hcell4 j (.int .i64 kd) (by rw [List.getElem?_map, hz]; rfl)
            have HKK := Lib.hid (hkk.out j kd hz)
            subst ha4
            have hI61 : I.getD kd 0 ≤ 1000 := hIb.out kd hkd2
            obtain ⟨u, hu⟩ : ∃ u, min 1000 (1 + ETs.sz (KT.take j)) = u := ⟨_, rfl⟩
            rw [hu] at q1 HKK
            have hu61 : u ≤ 1000 := by omega
            obtain ⟨d, hd⟩ : ∃ d, I.getD kd 0 = d := ⟨_, rfl⟩
            rw [hd] at hI61 HKK
            have KS : Hid (∀ y : World, Below wr.heap.size wr y → y.heap[w.heap.size + 1]? = some (.cells (inN n (I ++ [u])) 3 (0, 0)) ∧ y.cell? ⟨w.heap.size + 1, k, none⟩ = some (.int .i64 (u : Int)) ∧ y.cell? ⟨w.heap.size + 1, kd, none⟩ = some (.int .i64 (d : Int)) ∧ y.frozen? ⟨w.heap.size + 1, k, none⟩ = false ∧ y.cell? ⟨W0.heap.size, 4, none⟩ = some (.slice (some ⟨b4, o4, none⟩) n4 c4) ∧ y.cell? ⟨b4, o4 + j, none⟩ = some (.int .i64 (kd : Int))) := Lib.hid (fun y hy => by
              have h1 := heap_below hy q1
              refine ⟨h1, (cell_of_row _ _ k _ _ _ h1).trans ?_, (cell_of_row _ _ kd _ _ _ h1).trans ?_, frozen_row h1 k, (open5 (heap_below hy qn)).2.2.2.2, cell_keep hy r4⟩
              · have := inN_new (m := n) (l := I) u (by have := HL.out; omega)
                rw [HL.out] at this; exact this
              · rw [inN_old u (by have := HL.out; omega) (by have := HL.out; omega), hd])
            have n4c := (open5 qn).2.2.2.2
            have Q0 := Lib.hid q0
            have QN := Lib.hid qn
            have HBQ := Lib.hid hbq
            clear hcell4 hz hzr q1 q0 qn hbq hu hd r4
            go_wp2_with fail
            clear n4c
            refine wp_region_store (fun y => Below wr.heap.size wr y) (fun z => ∃ y, Below wr.heap.size wr y ∧ z = y.setCell ⟨w.heap.size + 1, k, none⟩ (.int .i64 ((min 1000 (u + d) : Nat) : Int))) [] 17 (by kernel_rfl) (by kernel_rfl) (by kernel_rfl) (below_drew (Below.refl _ _)) ?_
            simp only [List.take_succ_cons, List.take_zero]
            iterate 14 (refine wpT_step (fun K hK => ?_); go_simp; apply Exists.intro; refine ⟨fun y hy => ?_, ?_, hK _ ?_⟩; (first | exact rfl | (obtain ⟨_, k1, k2, k3, k4, k5⟩ := KS.out y hy; go_simp; first | exact rfl | exact ⟨rfl, hy⟩ | exact hy | exact ⟨rfl, rfl⟩ | (rw [if_pos (by omega)]; exact ⟨rfl, rfl⟩))); (first | exact late_not rfl | (focus (intro _ z hz; go_simp; done))); clear hK K)
            refine wpT_step (fun K hK => ?_)
            go_simp
            refine ⟨.int .i64 ((u : Int) + (d : Int)), fun y hy => ?_, late_not rfl, hK _ ?_⟩
            · rw [show IntKind.i64.wrap ((u : Int) + (d : Int)) = (u : Int) + (d : Int) by unfold IntKind.wrap; simp [IntKind.bits, IntKind.signed]; omega]
            clear hK K
            refine wpT_step (fun K hK => ?_)
            go_simp
            refine ⟨.int .i64 ((min 1000 (u + d) : Nat) : Int), fun y hy => ?_, late_not rfl, hK _ ?_⟩
            · congr 1; omega
            clear hK K
            (refine wpT_step (fun K hK => ?_); go_simp; apply Exists.intro; refine ⟨fun y hy => ?_, ?_, hK _ ?_⟩; (first | exact rfl | (obtain ⟨_, k1, k2, k3, k4, k5⟩ := KS.out y hy; go_simp; first | exact rfl | exact ⟨rfl, hy⟩ | exact hy | exact ⟨rfl, rfl⟩ | (rw [if_pos (by omega)]; exact ⟨rfl, rfl⟩))); (first | exact late_not rfl | (focus (intro _ z hz; go_simp; done))); clear hK K)
            refine wpT_nil ?_
            refine ⟨_, rfl, by go_simp, fun y hy => ?_, ?_⟩
            · obtain ⟨_, k1, k2, k3, k4, k5⟩ := KS.out y hy
              refine ⟨_, ?_, y, hy, rfl⟩
              go_simp
            · rintro z ⟨y, hy, rfl⟩
              obtain ⟨h1, _, _, _, _, _⟩ := KS.out y hy
              generalize hz : y.setCell _ _ = z
              have ez : z.heap[w.heap.size + 1]? = some (.cells (inN n (I ++ [min 1000 (1 + ETs.sz (KT.take (j + 1)))])) 3 (0, 0)) := by
                rw [← hz, heap_set_at h1, HKK.out]
                have := inN_reset (m := n) (l := I) u (min 1000 (u + d))
                rw [HL.out] at this
                exact congrArg (fun q => some (Obj.cells q 3 (0, 0))) this
              have ez0 : z.heap[w.heap.size]? = some (.cells #[.slice (some ⟨b, o, none⟩) n c, .int .i64 RT] 32 (0, 0)) := by
                rw [← hz]; exact heap_set_other (by omega) _ _ (heap_below hy Q0.out)
              have ezn : z.heap[W0.heap.size]? = some (.cells #[.int .i64 kind, .int .i64 server, .int .i64 need, .slice a3 n3 c3, .slice (some ⟨b4, o4, none⟩) n4 c4] 71 (0, 0)) := by
                rw [← hz]; exact heap_set_other (by omega) _ _ (heap_below hy QN.out)
              have hsz2 : W0.heap.size < z.heap.size := by
                have := hy.size
                rw [← hz]; simp; omega
              have hbz : Below w.heap.size w z := by
                rw [← hz]; exact (HBQ.out.trans (hy.mono HBQ.out.size)).setCell (p := ⟨w.heap.size + 1, k, none⟩) (Nat.le_succ _) _
              have EZ := Lib.hid ez
              have EZ0 := Lib.hid ez0
              have EZN := Lib.hid ezn
              have HBZ := Lib.hid hbz
              clear hz ez ez0 ezn hbz h1 hy
              go_simp
              go_wp2_with fail
              go_roundw
              case rel => exact ⟨j + 1, by omega, by go_num, EZ.out, EZ0.out, EZN.out, hsz2, HBZ.out⟩
              case measure => simp [intOf] <;> omega
          · obtain rfl : j = n4 := by omega
            have ez : wr.heap[w.heap.size + 1]? = some (.cells (inN n (szl 1000 x.nodes sub (k + 1))) 3 (0, 0)) := by
              rw [List.take_of_length_le (by have := HKl.out; omega), Nat.add_comm 1] at q1
              rw [HST.out, hnode.out hkind]
              exact q1
            have n4c := (open5 qn).2.2.2.2
            have EZ := Lib.hid ez
            have Q0 := Lib.hid q0
            have HBQ := Lib.hid hbq
            clear ez q1 q0 qn hbq
            go_wp2_with fail
            go_roundw
            case rel => exact ⟨k + 1, by omega, by go_num, EZ.out, Q0.out, by omega, HBQ.out⟩
            case measure => simp [intOf] <;> omega
    · obtain rfl : k = n := by omega
      have HE1 := Lib.hid e1
      have HB := Lib.hid hb
      clear e1 e0 hb
      go_wp2_with fail
      go_ret
      refine ⟨some ⟨w.heap.size + 1, 0, none⟩, rfl, ⟨by rw [List.length_map, szl_len], Nat.le_refl _, by unfold maxLen; omega, fun h => (by cases h), fun _ => ⟨_, 0, rfl, fun i v hv => ?_⟩⟩, HB.out⟩
      have hi : i < k := by
        have := (List.getElem?_eq_some_iff.1 hv).1
        rw [List.length_map, szl_len] at this; exact this
      rw [Nat.zero_add]
      refine ((cell_of_row _ _ i _ _ _ HE1.out).trans (inN_at (by rw [szl_len]; exact Nat.le_refl _) hi)).trans ?_
      rw [← hv, List.getElem?_map, List.getD_eq_getElem?_getD, List.getElem?_eq_getElem (by rw [szl_len]; exact hi)]
      rfl
end Go.Proofs.YtcojmmhclklpoaaGreatDoor
namespace Go.Proofs.YtcojmmhclklpoaaGreatDoor
open Go.RowKit Go.Shelf

end Go.Proofs.YtcojmmhclklpoaaGreatDoor
namespace Go.Proofs.YtcojmmhclklpoaaGreatDoor
open Go.RowKit Go.Shelf

end Go.Proofs.YtcojmmhclklpoaaGreatDoor
namespace Go.Proofs.YtcojmmhclklpoaaGreatDoor
open Go.RowKit Go.Shelf

structure RtV where
  kind : Int
  server : Int
  need : Int
  wv : Value
  nv : Value
  kv : Value
  pv : Value
def rtVC (p : RtV) : List Value := [.int .i64 p.kind, .int .i64 p.server, .int .i64 p.need, p.wv, p.nv, p.kv, p.pv]
theorem rtVC_len (p : RtV) : (rtVC p).length = 7 := rfl
/-- the parts: the weights, or ones -/
def prtT (ws : List Int) (m : Nat) : List Int := if ws = [] then List.replicate m 1 else ws
theorem prtT_nil (m : Nat) : prtT [] m = List.replicate m 1 := rfl
theorem prtT_get {ws : List Int} {m k : Nat} (h : ws = [] ∨ ws.length = m) (hk : k < m) : (prtT ws m)[k]? = some (wgtW ws k) := by
  unfold prtT wgtW
  by_cases e : ws = []
  · rw [if_pos e, if_pos e, List.getElem?_replicate, if_pos hk]
  · rw [if_neg e, if_neg e, List.getD_eq_getElem?_getD, List.getElem?_eq_getElem (by have := h.resolve_left e; omega)]; rfl
inductive RtM (w : World) : RtV → ET → Prop where
  | srv (s : Int) (aw : Option Addr) (cw : Nat) (an : Option Addr) (nn cn : Nat) (hw : Rd w aw 0 cw []) : RtM w ⟨1, s, 0, .slice aw 0 cw, .slice an nn cn, .slice none 0 0, .slice none 0 0⟩ (.srv s)
  | thr (n : Int) (ws : List Int) (ks : List ET) (aw : Option Addr) (nw cw : Nat) (an : Option Addr) (nn cn : Nat) (ak : Option Addr) (nk ck : Nat) (ap : Option Addr) (np cp : Nat) (V : List RtV)
      (hw : Rd w aw nw cw (ws.map (Value.int .i64))) (hl : V.length = ks.length) (hk : RdK 7 w ak nk ck (V.flatMap rtVC)) (hp : Rd w ap np cp ((prtT ws ks.length).map (Value.int .i64)))
      (hr : ∀ (i : Nat) p t, V[i]? = some p → ks[i]? = some t → RtM w p t) : RtM w ⟨2, 0, n, .slice aw nw cw, .slice an nn cn, .slice ak nk ck, .slice ap np cp⟩ (.thr n ws ks)
theorem RtM.keep {w w' : World} {p : RtV} {t : ET} (h : RtM w p t) (hb : Below w.heap.size w w') : RtM w' p t := by
  induction h with
  | srv s aw cw an nn cn hw => exact .srv s aw cw an nn cn (hw.below hb)
  | thr n ws ks aw nw cw an nn cn ak nk ck ap np cp V hw hl hk hp hr ih => exact .thr n ws ks aw nw cw an nn cn ak nk ck ap np cp V (hw.below hb) hl (hk.below hb) (hp.below hb) ih
theorem RtM.shape {w : World} {p : RtV} {t : ET} (h : RtM w p t) : ∃ aw nw cw an nn cn ak nk ck ap np cp, p = ⟨p.kind, p.server, p.need, .slice aw nw cw, .slice an nn cn, .slice ak nk ck, .slice ap np cp⟩ ∧ t.kidsOf.length = nk ∧ p.need = t.needOf := by
  cases h with
  | srv s aw cw an nn cn hw => exact ⟨aw, 0, cw, an, nn, cn, none, 0, 0, none, 0, 0, rfl, rfl, rfl⟩
  | thr n ws ks aw nw cw an nn cn ak nk ck ap np cp V hw hl hk hp hr =>
    refine ⟨aw, nw, cw, an, nn, cn, ak, nk, ck, ap, np, cp, rfl, ?_, rfl⟩
    have h1 := hk.len
    rw [flat_len 7 rtVC rtVC_len] at h1
    show ks.length = nk
    omega
abbrev RtS (S : Nat → Prop) (w : World) (p : RtV) (t : ET) : Prop := RS RtM S w p t
abbrev RB (S : Nat → Prop) (B : Nat) (w : World) (v : Value) (ts : List ET) : Prop := GB 7 rtVC RtM S B w v 112 ts
theorem RB.thr {S SW SP S' : Nat → Prop} {B : Nat} {w : World} {v wv pv : Value} {an : Option Addr} {nn cn : Nat} {ts : List ET} {ws : List Int} (n : Int) (h : RB S B w v ts) (hw : SlS SW w wv ws) (hp : SlS SP w pv (prtT ws ts.length)) (h1 : ∀ g, S g → S' g) (h2 : ∀ g, SW g → S' g) (h3 : ∀ g, v.ownBlock = some g → S' g) (h4 : ∀ g, SP g → S' g) : RtS S' w ⟨2, 0, n, wv, .slice an nn cn, v, pv⟩ (.thr n ws ts) := by
  intro w2 ha
  obtain ⟨V, hV, hr, hV3⟩ := h.row
  obtain ⟨aw, cw, e, r⟩ := hw w2 fun g hg => ha g (h2 g hg)
  obtain ⟨ap, cp, e3, rp⟩ := hp w2 fun g hg => ha g (h4 g hg)
  obtain ⟨ak, ck, e2, rk⟩ := rdK_of_row (rowK_at hr fun g hg => ha g (h3 g hg))
  subst e e2 e3
  exact .thr n ws ts aw _ cw an nn cn ak _ ck ap _ cp V r hV rk rp fun i p t hp ht => hV3 i p t hp ht w2 fun g hg => ha g (h1 g hg)
theorem Tryz.infoRt : (Tryz.prog.info? 112).map (fun i => (i.zero, i.size, i.bytes)) = some (some (.agg #[.int .i64 0, .int .i64 0, .int .i64 0, .slice none 0 0, .slice none 0 0, .slice none 0 0, .slice none 0 0]), 7, 120) := by kernel_rfl
def RetR (S : Nat → Prop) (t : ET) (w : World) (e : Ending) (w' : World) : Prop :=
  ∃ kd sv nd aw nw cw an nn cn ak nk ck ap np cp, e = .returned (.agg #[.int .i64 kd, .int .i64 sv, .int .i64 nd, .slice aw nw cw, .slice an nn cn, .slice ak nk ck, .slice ap np cp]) ∧ RtS (fun g => S g ∨ (w.heap.size ≤ g ∧ g < w'.heap.size)) w' ⟨kd, sv, nd, .slice aw nw cw, .slice an nn cn, .slice ak nk ck, .slice ap np cp⟩ t ∧ Below w.heap.size w w'
def rtA (p : RtV) : Value := .agg #[.int .i64 p.kind, .int .i64 p.server, .int .i64 p.need, p.wv, p.nv, p.kv, p.pv]
theorem open7 {w : World} {B : Nat} {v0 v1 v2 v3 v4 v5 v6 : Value} {t : TypeId} (h : w.heap[B]? = some (.cells #[v0, v1, v2, v3, v4, v5, v6] t (0, 0))) :
    w.cell? ⟨B, 0, none⟩ = some v0 ∧ w.cell? ⟨B, 1, none⟩ = some v1 ∧ w.cell? ⟨B, 2, none⟩ = some v2 ∧ w.cell? ⟨B, 3, none⟩ = some v3 ∧ w.cell? ⟨B, 4, none⟩ = some v4 ∧ w.cell? ⟨B, 5, none⟩ = some v5 ∧ w.cell? ⟨B, 6, none⟩ = some v6 :=
  ⟨cell_of_row _ _ 0 _ _ _ h, cell_of_row _ _ 1 _ _ _ h, cell_of_row _ _ 2 _ _ _ h, cell_of_row _ _ 3 _ _ _ h, cell_of_row _ _ 4 _ _ _ h, cell_of_row _ _ 5 _ _ _ h, cell_of_row _ _ 6 _ _ _ h⟩
theorem frz7 {w : World} {B : Nat} {v0 v1 v2 v3 v4 v5 v6 : Value} {t : TypeId} (h : w.heap[B]? = some (.cells #[v0, v1, v2, v3, v4, v5, v6] t (0, 0))) :
    w.frozen? ⟨B, 0, none⟩ = false ∧ w.frozen? ⟨B, 1, none⟩ = false ∧ w.frozen? ⟨B, 2, none⟩ = false ∧ w.frozen? ⟨B, 3, none⟩ = false ∧ w.frozen? ⟨B, 4, none⟩ = false ∧ w.frozen? ⟨B, 5, none⟩ = false ∧ w.frozen? ⟨B, 6, none⟩ = false :=
  ⟨frozen_row h 0, frozen_row h 1, frozen_row h 2, frozen_row h 3, frozen_row h 4, frozen_row h 5, frozen_row h 6⟩
set_option maxHeartbeats 4000000 in
theorem fin7 {w WF : World} {R : Nat} {v0 v1 v2 v3 v4 v5 v6 u0 u1 u2 u3 u4 u5 u6 : Value} {t : TypeId} (h : w.heap[R]? = some (.cells #[v0, v1, v2, v3, v4, v5, v6] t (0, 0))) (hW : ((((((w.setCell ⟨R, 0, none⟩ u0).setCell ⟨R, 1, none⟩ u1).setCell ⟨R, 2, none⟩ u2).setCell ⟨R, 3, none⟩ u3).setCell ⟨R, 4, none⟩ u4).setCell ⟨R, 5, none⟩ u5).setCell ⟨R, 6, none⟩ u6 = WF) :
    WF.heap[R]? = some (.cells #[u0, u1, u2, u3, u4, u5, u6] t (0, 0)) ∧ (∀ g, g ≠ R → WF.heap[g]? = w.heap[g]?) ∧ WF.heap.size = w.heap.size ∧ (∀ B, B ≤ R → Below B w WF) := by
  subst hW
  refine ⟨heap_set_at (heap_set_at (heap_set_at (heap_set_at (heap_set_at (heap_set_at (heap_set_at h 0 _) 1 _) 2 _) 3 _) 4 _) 5 _) 6 _, fun g hg => ?_, by simp, fun B hB => ?_⟩
  · rw [Below.heap_setCell _ ⟨R, 6, none⟩ _ g hg, Below.heap_setCell _ ⟨R, 5, none⟩ _ g hg, Below.heap_setCell _ ⟨R, 4, none⟩ _ g hg, Below.heap_setCell _ ⟨R, 3, none⟩ _ g hg, Below.heap_setCell _ ⟨R, 2, none⟩ _ g hg, Below.heap_setCell _ ⟨R, 1, none⟩ _ g hg, Below.heap_setCell _ ⟨R, 0, none⟩ _ g hg]
  · exact (((((((Below.refl B w).setCell (p := ⟨R, 0, none⟩) hB _).setCell (p := ⟨R, 1, none⟩) hB _).setCell (p := ⟨R, 2, none⟩) hB _).setCell (p := ⟨R, 3, none⟩) hB _).setCell (p := ⟨R, 4, none⟩) hB _).setCell (p := ⟨R, 5, none⟩) hB _).setCell (p := ⟨R, 6, none⟩) hB _
theorem rtVC_inj {p q : RtV} (h : ∀ j, j < 7 → (rtVC p)[j]? = (rtVC q)[j]?) : p = q := by
  obtain ⟨a0, a1, a2, a3, a4, a5, a6⟩ := p
  obtain ⟨b0, b1, b2, b3, b4, b5, b6⟩ := q
  have h0 := h 0 (by omega)
  have h1 := h 1 (by omega)
  have h2 := h 2 (by omega)
  have h3 := h 3 (by omega)
  have h4 := h 4 (by omega)
  have h5 := h 5 (by omega)
  have h6 := h 6 (by omega)
  simp [rtVC] at h0 h1 h2 h3 h4 h5 h6
  subst h0 h1 h2 h3 h4 h5 h6
  rfl
theorem RtS.kids {S : Nat → Prop} {w : World} {kd sv nd n : Int} {wv nv pv : Value} {ak : Option Addr} {nk ck : Nat} {ws : List Int} {ks : List ET} (h : RtS S w ⟨kd, sv, nd, wv, nv, .slice ak nk ck, pv⟩ (.thr n ws ks)) :
    ∃ V : List RtV, V.length = ks.length ∧ nk = ks.length ∧ RdK 7 w ak nk ck (V.flatMap rtVC) ∧ (∀ (i : Nat) p t, V[i]? = some p → ks[i]? = some t → RtS S w p t) ∧ SlS S w wv ws ∧ SlS S w pv (prtT ws ks.length) ∧ kd = 2 ∧ sv = 0 ∧ nd = n := by
  have hw : SlS S w wv ws := fun w2 ha => by
    cases h w2 ha with
    | thr n ws ks aw nw cw an nn cn ak nk ck ap np cp V hw hl hk hp hr =>
      have := hw.len
      rw [List.length_map] at this
      subst this
      exact ⟨aw, cw, rfl, hw⟩
  have hpp : SlS S w pv (prtT ws ks.length) := fun w2 ha => by
    cases h w2 ha with
    | thr n ws ks aw nw cw an nn cn ak nk ck ap np cp V hw hl hk hp hr =>
      have := hp.len
      rw [List.length_map] at this
      subst this
      exact ⟨ap, cp, rfl, hp⟩
  cases h.r with
  | thr n ws ks aw nw cw an nn cn ak nk ck ap np cp V hw1 hl hk hp1 hr =>
    have hn : nk = ks.length := by
      have h1 := hk.len
      rw [flat_len 7 rtVC rtVC_len] at h1; omega
    refine ⟨V, hl, hn, hk, fun i p t hp ht w2 ha => ?_, hw, hpp, rfl, rfl, rfl⟩
    have hi := (List.getElem?_eq_some_iff.1 ht).1
    obtain ⟨b, o, hak, hc⟩ := RdK.cells hk rtVC_len (by omega)
    subst hak
    have hS : S b := Classical.byContradiction fun hb => by
      have h2 := h (w.putObj b (.deferred none)) (fun g hg => World.putObj_heap_other (fun e => hb (e ▸ hg)))
      cases h2 with
      | thr n ws ks aw nw cw an nn cn ak nk ck ap np cp V2 hw2 hl2 hk2 hp2 hr2 =>
        obtain ⟨b', o', e, hc2⟩ := RdK.cells hk2 rtVC_len (by omega)
        cases e
        obtain ⟨q, hq⟩ : ∃ q, V2[i]? = some q := ⟨_, List.getElem?_eq_getElem (by omega)⟩
        have h3 := hc2 i q hq 0 (by omega)
        have h4 : (w.putObj b (.deferred none)).cell? ⟨b, o + i * 7 + 0, none⟩ = none := by
          unfold World.putObj World.cell?
          simp
          by_cases hlt : b < w.heap.size
          · simp [hlt]
          · simp [hlt]
        rw [h4] at h3
        simp [rtVC] at h3
    cases h w2 ha with
    | thr n ws ks aw nw cw an nn cn ak nk ck ap np cp V2 hw2 hl2 hk2 hp2 hr2 =>
      obtain ⟨b', o', e, hc2⟩ := RdK.cells hk2 rtVC_len (by omega)
      cases e
      obtain ⟨q, hq⟩ : ∃ q, V2[i]? = some q := ⟨_, List.getElem?_eq_getElem (by omega)⟩
      have e : p = q := rtVC_inj fun j hj => by
        rw [← hc i p hp j hj, ← hc2 i q hq j hj]
        exact (World.cell?_of_block (w := w) (w' := w2) (a := ⟨b, o + i * 7 + j, none⟩) (ha b hS)).symm
      subst e
      exact hr2 i p t hq ht
/-- cells of trees are single -/
theorem RtS.one {S : Nat → Prop} {w : World} {p : RtV} {t : ET} (h : RtS S w p t) : ∀ u ∈ rtVC p, u.oneCell' = true := by
  cases h.r <;> (intro u hu; simp [rtVC] at hu; rcases hu with rfl | rfl | rfl | rfl | rfl | rfl | rfl <;> rfl)
theorem one_flat7 {U : List RtV} {ts : List ET} {S : Nat → Prop} {w : World} (hl : U.length = ts.length) (h : ∀ (i : Nat) p s, U[i]? = some p → ts[i]? = some s → RtS S w p s) : ∀ u ∈ U.flatMap rtVC, u.oneCell' = true := by
  intro u hu
  obtain ⟨p, hp, hup⟩ := List.mem_flatMap.1 hu
  obtain ⟨i, hi⟩ := List.getElem?_of_mem hp
  have hlt := (List.getElem?_eq_some_iff.1 hi).1
  exact (h i p _ hi (List.getElem?_eq_getElem (by omega))).one u hup
theorem RtS.shape {S : Nat → Prop} {w : World} {p : RtV} {t : ET} (h : RtS S w p t) : ∃ aw nw cw an nn cn ak ck ap np cp, p = ⟨p.kind, p.server, t.needOf, .slice aw nw cw, .slice an nn cn, .slice ak t.kidsOf.length ck, .slice ap np cp⟩ := by
  obtain ⟨aw, nw, cw, an, nn, cn, ak, nk, ck, ap, np, cp, e, h1, h2⟩ := RtM.shape h.r
  subst h1
  rw [h2] at e
  exact ⟨aw, nw, cw, an, nn, cn, ak, ck, ap, np, cp, e⟩
/-- the row of a tree's kids -/
theorem RtS.kids' {S : Nat → Prop} {w : World} {kd sv nd : Int} {wv nv pv : Value} {ak : Option Addr} {nk ck : Nat} {t : ET} (h : RtS S w ⟨kd, sv, nd, wv, nv, .slice ak nk ck, pv⟩ t) :
    ∃ U : List RtV, U.length = t.kidsOf.length ∧ nk = t.kidsOf.length ∧ RdK 7 w ak nk ck (U.flatMap rtVC) ∧ ∀ (i : Nat) p s, U[i]? = some p → t.kidsOf[i]? = some s → RtS S w p s := by
  cases t with
  | srv s =>
    have := h.r
    cases this
    exact ⟨[], rfl, rfl, RdK.none_ _ _, fun i p s hp => by simp at hp⟩
  | thr n ws ks =>
    obtain ⟨U, h1, h2, h3, h4, _⟩ := h.kids
    exact ⟨U, h1, h2, h3, h4⟩

set_option maxRecDepth 100000 in
set_option maxHeartbeats 4000000 in
theorem rconst_c (p : RtV) (t : ET) (w : World) (h : RtM w p t) :
    Calls Tryz.prog 105 #[rtA p] w fun e w' => e = .returned (.bool t.constB) ∧ Below w.heap.size w w' := by
  unfold rtA
  cases h with
  | srv s aw cw an nn cn hw =>
    clear hw
    go_enter Tryz.func105, Tryz.ntmps105
    go_wp2_with fail
    go_ret
    exact ⟨rfl, (Below.refl _ _).alloc (Nat.le_refl _) _⟩
  | thr n ws ks aw nw cw an nn cn ak nk ck ap np cp V hw hl hk hp hr =>
    have h1 := hk.len
    rw [flat_len 7 rtVC rtVC_len] at h1
    have hn : ((nk : Int) == 0) = ks.isEmpty := nil_emp (by omega)
    clear hw hl hk hp hr h1
    go_enter Tryz.func105, Tryz.ntmps105
    go_wp2_with fail
    go_ret
    exact ⟨rfl, (Below.refl _ _).alloc (Nat.le_refl _) _⟩

/-- a threshold of this form -/
def isB (all : Bool) (t : ET) : Bool := if all = true then t.allB else t.anyB
set_option maxRecDepth 100000 in
set_option maxHeartbeats 4000000 in
theorem is_c (p : RtV) (t : ET) (all : Bool) (w : World) (h : RtM w p t) :
    Calls Tryz.prog 107 #[rtA p, .bool all] w fun e w' => e = .returned (.bool (isB all t)) ∧ Below w.heap.size w w' := by
  unfold rtA
  cases h with
  | srv s aw cw an nn cn hw =>
    clear hw
    have hV : isB all (.srv s) = false := by cases all <;> rfl
    rw [hV]
    go_enter Tryz.func107, Tryz.ntmps107
    go_wp2_with fail
    go_ret
    exact ⟨rfl, (Below.refl _ _).alloc (Nat.le_refl _) _⟩
  | thr n ws ks aw nw cw an nn cn ak nk ck ap np cp V hw hl hk hp hr =>
    have h1 := hk.len
    rw [flat_len 7 rtVC rtVC_len] at h1
    have h2 := hw.len
    rw [List.length_map] at h2
    have hkl : ks.length = nk := by omega
    have hV : isB all (ET.thr n ws ks) = ((decide (0 < nk) && ((nw : Int) == 0)) && (if all = true then (n == (nk : Int)) else (n == 1))) := by
      rw [nil_emp h2]
      have e : (!ks.isEmpty) = decide (0 < nk) := by rw [← hkl]; cases ks <;> simp
      cases all
      · show ((!ks.isEmpty && ws.isEmpty) && decide (n = 1)) = _
        rw [e]
        congr 1
        try (rw [Bool.eq_iff_iff]; simp)
      · show ((!ks.isEmpty && ws.isEmpty) && decide (n = (ks.length : Int))) = _
        rw [e]
        congr 1
        try (rw [Bool.eq_iff_iff]; simp [hkl])
    rw [hV]
    clear hw hl hk hp hr h1 h2 hkl hV
    by_cases hk0 : nk = 0
    · subst hk0
      have hF : ((decide (0 < 0) && ((nw : Int) == 0)) && (if all = true then (n == ((0 : Nat) : Int)) else (n == 1))) = false := by simp
      rw [hF]
      clear hF
      go_enter Tryz.func107, Tryz.ntmps107
      go_wp2_with fail
      go_ret
      exact ⟨rfl, (Below.refl _ _).alloc (Nat.le_refl _) _⟩
    · have hd0 : decide (0 < nk) = true := decide_eq_true (by omega)
      have he0 : ((nk : Int) == 0) = false := beq_eq_false_iff_ne.2 (by omega)
      by_cases hw0 : nw = 0
      · subst hw0
        have hF : ((decide (0 < nk) && (((0 : Nat) : Int) == 0)) && (if all = true then (n == (nk : Int)) else (n == 1))) = (if all = true then (n == (nk : Int)) else (n == 1)) := by rw [hd0]; rfl
        rw [hF]
        clear hF
        cases all
        · rw [if_neg (by simp)]
          go_enter Tryz.func107, Tryz.ntmps107
          go_wp2_with fail
          go_ret
          exact ⟨rfl, (Below.refl _ _).alloc (Nat.le_refl _) _⟩
        · rw [if_pos rfl]
          obtain ⟨q, hq⟩ : ∃ q, (n == (nk : Int)) = q := ⟨_, rfl⟩
          rw [hq]
          cases q
          all_goals
            go_enter Tryz.func107, Tryz.ntmps107
            go_wp2_with fail
            go_ret
            exact ⟨rfl, (Below.refl _ _).alloc (Nat.le_refl _) _⟩
      · have hw1 : ((nw : Int) == 0) = false := by simpa using hw0
        have hw2 : decide ((0 : Int) < (nw : Int)) = true := decide_eq_true (by omega)
        have hw3 : decide (0 < nw) = true := decide_eq_true (by omega)
        have hF : ((decide (0 < nk) && ((nw : Int) == 0)) && (if all = true then (n == (nk : Int)) else (n == 1))) = false := by rw [hw1]; simp
        rw [hF]
        clear hF
        go_enter Tryz.func107, Tryz.ntmps107
        go_wp2_with fail
        go_ret
        exact ⟨rfl, (Below.refl _ _).alloc (Nat.le_refl _) _⟩
end Go.Proofs.YtcojmmhclklpoaaGreatDoor
namespace Go.Proofs.YtcojmmhclklpoaaGreatDoor
open Go.RowKit Go.Shelf

/-- a tree stored where it is handed back -/
theorem rret_fin {S SX : Nat → Prop} {w wY WF : World} {R : Nat} {kd sv nd : Int} {aw : Option Addr} {nw cw : Nat} {an : Option Addr} {nn cn : Nat} {ak : Option Addr} {nk ck : Nat} {ap : Option Addr} {np cp : Nat} {t : ET} {v0 v1 v2 v3 v4 v5 v6 : Value} (h : RtS SX wY ⟨kd, sv, nd, .slice aw nw cw, .slice an nn cn, .slice ak nk ck, .slice ap np cp⟩ t) (hR : w.heap.size ≤ R)
    (hX : ∀ g, SX g → (S g ∨ (w.heap.size ≤ g ∧ g < wY.heap.size)) ∧ g ≠ R) (hb : Below w.heap.size w wY) (gR : wY.heap[R]? = some (.cells #[v0, v1, v2, v3, v4, v5, v6] 112 (0, 0)))
    (hW : ((((((wY.setCell ⟨R, 0, none⟩ (.int .i64 kd)).setCell ⟨R, 1, none⟩ (.int .i64 sv)).setCell ⟨R, 2, none⟩ (.int .i64 nd)).setCell ⟨R, 3, none⟩ (.slice aw nw cw)).setCell ⟨R, 4, none⟩ (.slice an nn cn)).setCell ⟨R, 5, none⟩ (.slice ak nk ck)).setCell ⟨R, 6, none⟩ (.slice ap np cp) = WF) :
    WF.heap[R]? = some (.cells #[.int .i64 kd, .int .i64 sv, .int .i64 nd, .slice aw nw cw, .slice an nn cn, .slice ak nk ck, .slice ap np cp] 112 (0, 0)) ∧ RetR S t w (.returned (.agg #[.int .i64 kd, .int .i64 sv, .int .i64 nd, .slice aw nw cw, .slice an nn cn, .slice ak nk ck, .slice ap np cp])) WF := by
  obtain ⟨e1, e2, e3, e4⟩ := fin7 gR hW
  refine ⟨e1, kd, sv, nd, aw, nw, cw, an, nn, cn, ak, nk, ck, ap, np, cp, rfl, (h.move fun g hg => e2 g (hX g hg).2).mono fun g hg => ?_, hb.trans (e4 _ hR)⟩
  exact (hX g hg).1.imp id (fun h1 => ⟨h1.1, by omega⟩)
abbrev zRt : Array Value := #[.int .i64 0, .int .i64 0, .int .i64 0, .slice none 0 0, .slice none 0 0, .slice none 0 0, .slice none 0 0]

set_option maxRecDepth 100000 in
set_option maxHeartbeats 8000000 in
theorem thr_c (n : Int) (ts : List ET) (S S0 : Nat → Prop) (B : Nat) (kv : Value) (w : World) (h : RB S B w kv ts) (hS : ∀ g, S g → S0 g) (hk : ∀ g, kv.ownBlock = some g → S0 g) (hlt0 : ∀ g, S0 g → g < w.heap.size) (hl : ts.length ≤ 1000) :
    Calls Tryz.prog 106 #[.int .i64 n, kv] w fun e w' => RetR S0 (.thr n [] ts) w e w' := by
  obtain ⟨ak, ck, rfl⟩ := h.shape
  obtain ⟨nk, hnk⟩ : ∃ nk, ts.length = nk := ⟨_, rfl⟩
  rw [hnk] at h hk hl ⊢
  have HH := Lib.hid h
  have HS := Lib.hid hS
  have HK := Lib.hid hk
  have HLT := Lib.hid hlt0
  have HNK := Lib.hid hnk
  clear h hS hk hlt0 hnk
  go_enter Tryz.func106, Tryz.ntmps106
  go_wp2_with fail
  generalize hW2 : (w.alloc _).alloc _ = w2
  obtain ⟨gR, gT, hb2, hs2⟩ := box2' hW2
  have GR := Lib.hid gR
  have GT := Lib.hid gT
  have HB2 := Lib.hid hb2
  have hs2a : w.heap.size + 2 ≤ w2.heap.size := by omega
  clear hW2 gR gT hb2 hs2
  go_loopw [6] (fun q wr => ∃ i pv, i ≤ nk ∧ q = .int .i64 ((i : Nat) : Int) ∧ wr.heap[w.heap.size + 1]? = some (.cells #[.int .i64 2, .int .i64 0, .int .i64 n, .slice none 0 0, .slice none 0 0, .slice ak nk ck, pv] 112 (0, 0)) ∧ wr.ownsRow (w.heap.size + 2) 3 1 pv i ((List.replicate i (1 : Int)).map (Value.int .i64)) ∧ wr.heap[w.heap.size]? = some (.cells zRt 112 (0, 0)) ∧ Below w.heap.size w wr ∧ w.heap.size + 2 ≤ wr.heap.size) (fun q _ => nk - (intOf q).toNat)
  case atStart => exact ⟨0, _, Nat.zero_le _, rfl, GT.out, World.ownsRow_nil _ _ _ _, GR.out, HB2.out, hs2a⟩
  case round =>
    obtain ⟨i, pv, hi, rfl, hT, hrow, hR, hb, hsz⟩ := hrel
    by_cases hlt : i < nk
    · obtain ⟨ap, cp, rfl, _⟩ := rd_of_row hrow
      have hT6 := (open7 hT).2.2.2.2.2.2
      have hrlt := hrow.lt
      have HT := Lib.hid hT
      have HR := Lib.hid hR
      have HROW := Lib.hid hrow
      have HB := Lib.hid hb
      clear hT hR hrow hb
      go_wp2_with (at_builtin; go_must (refine wpList_appK2 1 _ _ 69 8 (.int .i64 0) [.int .i64 1] _ Tryz.underlying69 Tryz.infoInt rfl (by decide) HROW.out (Below.refl (w.heap.size + 2) wr) (by omega) rfl rfl rfl rfl rfl (by intro u hu; simp at hu; subst hu; rfl) (by unfold maxLen; omega) (by omega) ?_))
      intro v8 w8 hown8 hb8 hg8 hs8 hv8
      have hT8 := (hg8.block (w.heap.size + 1) (by omega) (fun e => by have := hrlt _ e.symm; omega)).trans HT.out
      have hR8 := (hg8.block w.heap.size (by omega) (fun e => by have := hrlt _ e.symm; omega)).trans HR.out
      have m6 := (open7 hT8).2.2.2.2.2.2
      have z6 := (frz7 hT8).2.2.2.2.2.2
      have hown8' : w8.ownsRow (w.heap.size + 2) 3 1 v8 (i + 1) ((List.replicate (i + 1) (1 : Int)).map (Value.int .i64)) := by
        rw [List.replicate_succ', List.map_append, List.map_replicate]; first | exact hown8 | (simp only [List.map_replicate] at hown8; exact hown8)
      obtain ⟨a8, c8, rfl, _⟩ := rd_of_row hown8'
      have HT8 := Lib.hid hT8
      have HR8 := Lib.hid hR8
      have HO8 := Lib.hid hown8'
      have HB8 := Lib.hid (HB.out.trans (hb8.mono (by omega)))
      clear hT8 hR8 hown8 hown8' hb8 hg8 hv8 hT6
      go_wp2_with fail
      go_roundw
      case rel =>
        refine ⟨i + 1, _, by omega, by go_num, by rw [heap_set_at HT8.out]; rfl, rowK_at HO8.out fun g hg => Below.heap_setCell _ _ _ _ (by have := (HO8.out.lt g hg).1; show g ≠ w.heap.size + 1; omega), heap_set_other (by omega) _ _ HR8.out, HB8.out.setCell (p := ⟨w.heap.size + 1, 6, none⟩) (Nat.le_succ _) _, by simp; omega⟩
      case measure => simp [intOf] <;> omega
    · obtain rfl : i = nk := by omega
      obtain ⟨ap, cp, rfl, _⟩ := rd_of_row hrow
      obtain ⟨t0, t1, t2, t3, t4, t5, t6⟩ := open7 hT
      obtain ⟨r0, r1, r2, r3, r4, r5, r6⟩ := open7 hR
      obtain ⟨z0, z1, z2, z3, z4, z5, z6⟩ := frz7 hR
      have hrlt := hrow.lt
      have hTR := RB.thr (an := none) (nn := 0) (cn := 0) (S' := fun g => (S0 g ∨ (w.heap.size + 2 ≤ g ∧ g < wr.heap.size))) n (HH.out.below hb) (SlS.nil S wr) (by rw [HNK.out, prtT_nil]; exact SlS.of_row hrow) (fun g hg => .inl (HS.out g hg)) (fun g hg => .inl (HS.out g hg)) (fun g hg => .inl (HK.out g hg)) (fun g hg => .inr (hrlt g hg))
      have HTR := Lib.hid hTR
      have HR := Lib.hid hR
      have HB := Lib.hid hb
      clear hTR hR hT hrow hb
      go_wp2_with fail
      clear t0 t1 t2 t3 t4 t5 t6 r0 r1 r2 r3 r4 r5 r6 z0 z1 z2 z3 z4 z5 z6
      generalize hWF : ((((((wr.setCell _ _).setCell _ _).setCell _ _).setCell _ _).setCell _ _).setCell _ _).setCell _ _ = WF
      obtain ⟨q1, q2⟩ := rret_fin (S := S0) (w := w) HTR.out (Nat.le_refl _) (fun g hg => ⟨hg.imp id (fun h => ⟨by omega, h.2⟩), by
        rcases hg with hg | hg
        · have := HLT.out g hg; omega
        · omega⟩) HB.out HR.out hWF
      refine bodyPost_ret (v := .agg #[.int .i64 2, .int .i64 0, .int .i64 n, .slice none 0 0, .slice none 0 0, .slice ak i ck, .slice ap i cp]) ?_ rfl q2
      exact results_cell_row rfl _ _ _ _ _ _ _ rfl q1 Tryz.underlying112 rfl (by kernel_rfl)

set_option maxRecDepth 100000 in
set_option maxHeartbeats 8000000 in
theorem flat_c (S : Nat → Prop) (p : RtV) (n : Int) (ws : List Int) (ks : List ET) (all : Bool) (w : World) (h : RtS S w p (.thr n ws ks)) (hS : ∀ g, S g → g < w.heap.size) (hz : ETs.sz ks ≤ 1000) :
    Calls Tryz.prog 108 #[rtA p, .bool all] w fun e w' => RetR S (.thr (if all = true then ((mergT (isB all) ks).length : Int) else 1) [] (mergT (isB all) ks)) w e w' := by
  obtain ⟨aw, nw, cw, an, nn, cn, ak, ck, ap, np, cp, hp⟩ := h.shape
  obtain ⟨kd, sv, nd, wv, nv, kv, pv⟩ := p
  simp only [RtV.mk.injEq, true_and] at hp
  obtain ⟨rfl, rfl, rfl, rfl, rfl⟩ := hp
  obtain ⟨V, hV1, hnk2, hV2, hV3, _, _, rfl, rfl, hnd⟩ := h.kids
  rw [show (ET.thr nd ws ks).kidsOf.length = ks.length from rfl] at hV2 h ⊢
  obtain ⟨nk, hnk⟩ : ∃ nk, ks.length = nk := ⟨_, rfl⟩
  rw [hnk] at hV1 hV2 h ⊢
  clear hnk2
  have hnk1 : nk ≤ 1000 := by have := ETs.sz_ge ks; omega
  have HV2 := Lib.hid hV2
  have HV3 := Lib.hid hV3
  have HV1 := Lib.hid hV1
  have HNK := Lib.hid hnk
  have HS := Lib.hid hS
  have HZ := Lib.hid hz
  obtain ⟨form, hform⟩ : ∃ form, isB all = form := ⟨_, rfl⟩
  have HIS := Lib.hid (fun (p : RtV) (t : ET) (u : World) (h : RtM u p t) => is_c p t all u h)
  rw [hform] at HIS ⊢
  have HML := Lib.hid (mergT_len (form := form) ks nk)
  unfold rtA at HIS ⊢
  obtain ⟨M, hM⟩ : ∃ M, mergT form ks = M := ⟨_, rfl⟩
  rw [hM]
  obtain ⟨ML, hMM⟩ : ∃ ML, M.length = ML := ⟨_, rfl⟩
  rw [hMM]
  have HM := Lib.hid hM
  have HMM := Lib.hid hMM
  clear hM hMM
  clear h hV1 hV2 hV3 hS hz hnk hform hnd
  go_enter Tryz.func108, Tryz.ntmps108
  go_wp2_with fail
  generalize hW2 : (w.alloc _).alloc _ = w2
  obtain ⟨gX, gR, hb2, hs2⟩ := box2' hW2
  have GX := Lib.hid gX
  have GR := Lib.hid gR
  have HB2 := Lib.hid hb2
  have hs2a : w.heap.size + 2 ≤ w2.heap.size := by omega
  clear hW2 gX gR hb2 hs2
  go_loopw [5, 6] (fun a5 q wr => ∃ j, j ≤ nk ∧ q = .int .i64 ((j : Nat) : Int) ∧ RB S w2.heap.size wr a5 (mergT form (ks.take j)) ∧ Below w2.heap.size w2 wr) (fun _ q _ => nk - (intOf q).toNat)
  case atStart => exact ⟨0, Nat.zero_le _, rfl, GB.nil _ _ _ _ (fun g hg => by have := HS.out g hg; omega), Below.refl _ _⟩
  case round =>
    obtain ⟨j, hj, rfl, hTB, hbr⟩ := hrel
    have hsz := hbr.size
    have hbw : Below w.heap.size w wr := HB2.out.trans (hbr.mono (by omega))
    have x5 := (open7 (heap_below hbr GX.out)).2.2.2.2.2.1
    by_cases hlt : j < nk
    · obtain ⟨kt, hkt⟩ : ∃ kt, ks[j]? = some kt := ⟨_, List.getElem?_eq_getElem (by have := HNK.out; omega)⟩
      obtain ⟨pk, hpk⟩ : ∃ pk, V[j]? = some pk := ⟨_, List.getElem?_eq_getElem (by have := HV1.out; omega)⟩
      have hts : RtS S wr pk kt := RS.below (HV3.out j pk kt hpk hkt) hbw HS.out
      obtain ⟨b, o, ha, hcells⟩ := RdK.cells (HV2.out.below hbw) rtVC_len (by omega)
      have hc := hcells j pk hpk
      have c0 := hc 0 (by omega)
      have c1 := hc 1 (by omega)
      have c2 := hc 2 (by omega)
      have c3 := hc 3 (by omega)
      have c4 := hc 4 (by omega)
      have c5 := hc 5 (by omega)
      have c6 := hc 6 (by omega)
      obtain ⟨aw5, nw5, cw5, an5, nn5, cn5, ak5, ck5, ap5, np5, cp5, hpk5⟩ := RtS.shape hts
      obtain ⟨kd5, sv5, nd5, wv5, nv5, kv5, pv5⟩ := pk
      simp only [RtV.mk.injEq, true_and] at hpk5
      obtain ⟨hnd5, rfl, rfl, rfl, rfl⟩ := hpk5
      obtain ⟨U, hU1, hU2, hU3, hU4⟩ := RtS.kids' hts
      obtain ⟨nk5, hnk5⟩ : ∃ nk5, kt.kidsOf.length = nk5 := ⟨_, rfl⟩
      rw [hnk5] at hU1 hU2 hU3 hts c5
      simp only [rtVC, Nat.add_zero, List.getElem?_cons_zero, List.getElem?_cons_succ] at c0 c1 c2 c3 c4 c5 c6
      have HMS := Lib.hid (mergT_step (form := form) hkt)
      have hml := mergT_len (form := form) ks (j + 1)
      rw [HMS.out, List.length_append] at hml
      have hz := HZ.out
      obtain ⟨V0, hW1, hW2, hW3⟩ := hTB.row
      obtain ⟨L, hL⟩ : ∃ L, (mergT form (ks.take j)).length = L := ⟨_, rfl⟩
      rw [hL] at hW1 hW2 hml
      obtain ⟨a0, c0', rfl, _⟩ := rdK_of_row hW2
      have HTS := Lib.hid hts
      have HU1 := Lib.hid hU1
      have HU3 := Lib.hid hU3
      have HU4 := Lib.hid hU4
      have HNK5 := Lib.hid hnk5
      have HTB := Lib.hid hTB
      have HW1 := Lib.hid hW1
      have HW2 := Lib.hid hW2
      have HW3 := Lib.hid hW3
      have HBR := Lib.hid hbr
      have HL := Lib.hid hL
      subst ha
      have HCALL := Lib.hid (HIS.out _ kt wr hts.r)
      have hjn : (j : Int) < (nk : Int) := by omega
      clear hts hU1 hU2 hU3 hU4 hnk5 hkt hpk hc hcells hTB hW1 hW2 hW3 hbr hbw hL hnd5
      go_wp2_with fail
      have HC0 := Lib.hid c0
      have HC1 := Lib.hid c1
      have HC2 := Lib.hid c2
      have HC3 := Lib.hid c3
      have HC4 := Lib.hid c4
      have HC5 := Lib.hid c5
      have HC6 := Lib.hid c6
      clear c0 c1 c2 c3 c4 c5 c6 x5
      with_reducible refine HCALL.out.mono ?_
      rintro e w5 ⟨rfl, hb5⟩
      have HB5 := Lib.hid hb5
      have hs5 := hb5.size
      have HBR5 := Lib.hid (Below.next HBR.out hb5)
      have x5 := (open7 (heap_below HBR5.out GX.out)).2.2.2.2.2.1
      have c5 := cell_keep hb5 HC5.out
      have HR5 := Lib.hid (rowK_below HW2.out hb5)
      have HU35 := Lib.hid (HU3.out.below hb5)
      have hV5 := Lib.hid (fun (i : Nat) p nd hp hn => (RS.below (HW3.out i p nd hp hn) HB5.out HTB.out.lt : RtS S w5 p nd))
      have hU5 := Lib.hid (fun (i : Nat) p nd hp hn => (RS.below (HU4.out i p nd hp hn) HB5.out HTB.out.lt : RtS S w5 p nd))
      have hT5 : Hid (RtS S w5 ⟨kd5, sv5, nd5, .slice aw5 nw5 cw5, .slice an5 nn5 cn5, .slice ak5 nk5 ck5, .slice ap5 np5 cp5⟩ kt) := Lib.hid (RS.below HTS.out HB5.out HTB.out.lt)
      clear hb5 HW2 HU3 HW3 HU4 HTS HCALL
      by_cases hf : form kt = true
      · rw [if_pos hf, HNK5.out] at hml
        have HMS2 : Hid (mergT form (ks.take (j + 1)) = mergT form (ks.take j) ++ kt.kidsOf) := Lib.hid (by rw [HMS.out, if_pos hf])
        rw [hf]
        clear hf HMS
        go_wp2_with (at_builtin; go_must (refine wpList_appsK2 7 _ _ 110 120 (.agg #[.int .i64 0, .int .i64 0, .int .i64 0, .slice none 0 0, .slice none 0 0, .slice none 0 0, .slice none 0 0]) ak5 nk5 ck5 (U.flatMap rtVC) Tryz.underlying110 Tryz.infoRt rfl (by decide) HR5.out (Below.refl w2.heap.size w5) (by omega) HU35.out (one_flat7 (by rw [HU1.out, HNK5.out]) hU5.out) rfl rfl rfl rfl (by unfold maxLen; omega) (by omega) ?_))
        intro v6 w6 hown hb6 hg6 hv6
        have hTB6 := GB.pushes (HTB.out.below HB5.out) (by rw [HW1.out, HL.out]) hV5.out (Below.refl _ _) hg6 (by rw [HU1.out, HNK5.out]) (by rw [HL.out, HNK5.out]; exact hown) hv6 hU5.out (fun g hg => ⟨by have := HTB.out.lt g hg; omega, fun e => HTB.out.own g e hg⟩)
        rw [← HMS2.out] at hTB6
        have hTB7 := hTB6.mono (S' := S) (fun g hg => hg.elim id id) (fun g hg => hTB6.lt g (.inl hg)) (fun g e hg => hTB6.own g e (.inl hg))
        have HTB7 := Lib.hid hTB7
        have HB6 := Lib.hid (HBR5.out.trans hb6)
        clear hTB6 hTB7 hb6 hg6 hown hv6 x5 c5
        go_wp2_with fail
        go_roundw
        case rel => exact ⟨j + 1, by omega, by go_num, HTB7.out, HB6.out⟩
        case measure => simp [intOf] <;> omega
      · rw [if_neg hf] at hml
        simp only [List.length_singleton] at hml
        have HMS2 : Hid (mergT form (ks.take (j + 1)) = mergT form (ks.take j) ++ [kt]) := Lib.hid (by rw [HMS.out, if_neg hf])
        rw [show form kt = false by simpa using hf]
        have c0 := cell_keep HB5.out HC0.out
        have c1 := cell_keep HB5.out HC1.out
        have c2 := cell_keep HB5.out HC2.out
        have c3 := cell_keep HB5.out HC3.out
        have c4 := cell_keep HB5.out HC4.out
        have c6 := cell_keep HB5.out HC6.out
        clear hf HMS
        go_wp2_with (at_builtin; go_must (refine wpList_appK2 7 _ _ 110 120 (.agg #[.int .i64 0, .int .i64 0, .int .i64 0, .slice none 0 0, .slice none 0 0, .slice none 0 0, .slice none 0 0]) (rtVC ⟨kd5, sv5, nd5, .slice aw5 nw5 cw5, .slice an5 nn5 cn5, .slice ak5 nk5 ck5, .slice ap5 np5 cp5⟩) _ Tryz.underlying110 Tryz.infoRt rfl (by decide) HR5.out (Below.refl w2.heap.size w5) (by omega) rfl rfl rfl rfl rfl hT5.out.one (by unfold maxLen; omega) (by omega) ?_))
        intro v6 w6 hown hb6 hg6 hs6' hv6
        have hTB6 := GB.pushes (M := [kt]) (U := [⟨kd5, sv5, nd5, .slice aw5 nw5 cw5, .slice an5 nn5 cn5, .slice ak5 nk5 ck5, .slice ap5 np5 cp5⟩]) (SW := S) (HTB.out.below HB5.out) (by rw [HW1.out, HL.out]) hV5.out (Below.refl _ _) hg6 rfl (by rw [HL.out]; exact hown) hv6 (fun i p s hp hs => by
          cases i with
          | zero => simp at hp hs; subst hp hs; exact hT5.out
          | succ i => simp at hp) (fun g hg => ⟨by have := HTB.out.lt g hg; omega, fun e => HTB.out.own g e hg⟩)
        rw [← HMS2.out] at hTB6
        have hTB7 := hTB6.mono (S' := S) (fun g hg => hg.elim id id) (fun g hg => hTB6.lt g (.inl hg)) (fun g e hg => hTB6.own g e (.inl hg))
        have HTB7 := Lib.hid hTB7
        have HB6 := Lib.hid (HBR5.out.trans hb6)
        clear hTB6 hTB7 hb6 hg6 hown hv6 x5 c0 c1 c2 c3 c4 c5 c6
        go_wp2_with fail
        go_roundw
        case rel => exact ⟨j + 1, by omega, by go_num, HTB7.out, HB6.out⟩
        case measure => simp [intOf] <;> omega
    · obtain rfl : j = nk := by omega
      have hml := HML.out
      rw [List.take_of_length_le (by have := HNK.out; omega)] at hTB hml
      have hz := HZ.out
      have hgR := heap_below hbr GR.out
      rw [HM.out] at hTB hml
      obtain ⟨a0, c0', hsh⟩ := hTB.shape
      rw [HMM.out] at hsh
      subst hsh
      have hown := hTB.lt_own
      have HTH := Lib.hid (fun (m : Int) => thr_c m M S (fun g => S g ∨ (w.heap.size + 2 ≤ g ∧ g < wr.heap.size)) w2.heap.size _ wr hTB (fun g hg => .inl hg) (fun g hg => .inr (by have := hown g hg; omega)) (fun g hg => by
        rcases hg with hg | hg
        · have := HS.out g hg; omega
        · exact hg.2) (by omega))
      rw [HMM.out] at hml
      have HGR := Lib.hid hgR
      have HBW := Lib.hid hbw
      have HSW := Lib.hid HS.out
      clear hTB hgR hbr hown hbw
      cases all
      all_goals
        go_wp2_with fail
        clear x5
        with_reducible refine (HTH.out _).mono ?_
        rintro e w6 ⟨kd6, sv6, nd6, aw6, nw6, cw6, an6, nn6, cn6, ak6, nk6, ck6, ap6, np6, cp6, rfl, hT6, hb6⟩
        have hg6 := heap_below hb6 HGR.out
        have hs6 := hb6.size
        obtain ⟨z0, z1, z2, z3, z4, z5, z6⟩ := frz7 hg6
        obtain ⟨r0, r1, r2, r3, r4, r5, r6⟩ := open7 hg6
        have HG6 := Lib.hid hg6
        have HB6 := Lib.hid (Below.next HBW.out hb6)
        have HT6 := Lib.hid hT6
        clear hg6 hb6 hT6
        go_wp2_with fail
        clear z0 z1 z2 z3 z4 z5 z6 r0 r1 r2 r3 r4 r5 r6
        generalize hWF : ((((((w6.setCell _ _).setCell _ _).setCell _ _).setCell _ _).setCell _ _).setCell _ _).setCell _ _ = WF
        obtain ⟨q1, q2⟩ := rret_fin (S := S) (w := w) HT6.out (Nat.le_succ _) (fun g hg => by
          rcases hg with (hg | hg) | hg
          · exact ⟨.inl hg, by have := HSW.out g hg; omega⟩
          · exact ⟨.inr ⟨by omega, by omega⟩, by omega⟩
          · exact ⟨.inr ⟨by omega, by omega⟩, by omega⟩) HB6.out HG6.out hWF
        refine bodyPost_ret (v := .agg #[.int .i64 kd6, .int .i64 sv6, .int .i64 nd6, .slice aw6 nw6 cw6, .slice an6 nn6 cn6, .slice ak6 nk6 ck6, .slice ap6 np6 cp6]) ?_ rfl q2
        exact results_cell_row rfl _ _ _ _ _ _ _ rfl q1 Tryz.underlying112 rfl (by kernel_rfl)
end Go.Proofs.YtcojmmhclklpoaaGreatDoor
namespace Go.Proofs.YtcojmmhclklpoaaGreatDoor
open Go.RowKit Go.Shelf

theorem Rd.blocks {w w2 : World} {a : Option Addr} {n c : Nat} {l : List Value} (h : Rd w a n c l) (ha : ∀ g, g < w.heap.size → w2.heap[g]? = w.heap[g]?) : Rd w2 a n c l := by
  refine ⟨h.len, h.le, h.max, h.nil, fun hn => ?_⟩
  obtain ⟨b, o, hab, hc⟩ := h.at' hn
  refine ⟨b, o, hab, fun i v hv => ?_⟩
  have := hc i v hv
  exact (World.cell?_of_block (w := w) (w' := w2) (a := ⟨b, o + i, none⟩) (ha b (cell_lt this))).trans this
/-- four boxes -/
theorem box4 {w W4 : World} {c0 c1 c2 c3 : Array Value} {t0 t1 t2 t3 : TypeId} (h : (((w.alloc (.cells c0 t0)).alloc (.cells c1 t1)).alloc (.cells c2 t2)).alloc (.cells c3 t3) = W4) :
    W4.heap[w.heap.size]? = some (.cells c0 t0 (0, 0)) ∧ W4.heap[w.heap.size + 1]? = some (.cells c1 t1 (0, 0)) ∧ W4.heap[w.heap.size + 2]? = some (.cells c2 t2 (0, 0)) ∧ W4.heap[w.heap.size + 3]? = some (.cells c3 t3 (0, 0)) ∧ Below w.heap.size w W4 ∧ W4.heap.size = w.heap.size + 4 := by
  obtain ⟨W2, hW2⟩ : ∃ W2, (w.alloc (.cells c0 t0)).alloc (.cells c1 t1) = W2 := ⟨_, rfl⟩
  rw [hW2] at h
  obtain ⟨g0, g1, b1, s1⟩ := box2' hW2
  obtain ⟨g2, g3, b2, s2⟩ := box2' h
  rw [s1] at g2 g3
  exact ⟨heap_below b2 g0, heap_below b2 g1, g2, g3, Below.next b1 b2, by omega⟩
def TeC (x : Xpr) (w0 : World) (f : Nat) : Prop := ∀ (i : Nat), i < f → i < x.nodes.length → ∀ (a : Option Addr) (n c : Nat), XM w0 a n c x.nodes → ∀ (w : World), Below w0.heap.size w0 w → (treF x.nodes noSub f i).sz ≤ 1000 →
  Calls Tryz.prog 78 #[.agg #[.slice a n c, .int .i64 x.root], .int .i64 i] w fun e w' => RetR (fun g => g < w0.heap.size) (treF x.nodes noSub f i) w e w'

set_option maxRecDepth 100000 in
set_option maxHeartbeats 16000000 in
theorem tree_step (x : Xpr) (hx : xprE x = 0) (w0 : World) (f : Nat) (ih : TeC x w0 f) : TeC x w0 (f + 1) := by
  intro i hif hil a n c h w hb0 hsz
  obtain ⟨nd, hnd⟩ : ∃ nd, x.nodes[i]? = some nd := ⟨_, List.getElem?_eq_getElem hil⟩
  have xok := xprE_ok hx
  have ok := xok.node i nd hnd
  have hthr := xprE_thr0 hx i nd hnd
  have hl := h.len
  obtain ⟨b, o, ha, hat⟩ := h.at' (by omega)
  have hM := hat i nd hnd
  obtain ⟨aw, nw, cw, m3, rw3⟩ := hM.ws
  obtain ⟨ak, nk, ck, m4, rk4⟩ := hM.ks
  have hbl : b < w.heap.size := by have := cell_lt hM.c0; have := hb0.size; have h9 : b < w0.heap.size := cell_lt hM.c0; omega
  have m0 := cell_keep hb0 hM.c0
  have m1 := cell_keep hb0 hM.c1
  have m2 := cell_keep hb0 hM.c2
  have m3 := cell_keep hb0 m3
  have m4 := cell_keep hb0 m4
  have m0 : ∀ o1 o2, ((w.alloc o1).alloc o2).cell? ⟨b, o + i * 5, none⟩ = some (.int .i64 nd.kind) := fun o1 o2 => (World.cell?_alloc_lt _ _ _ (by simp; omega)).trans ((World.cell?_alloc_lt _ _ _ hbl).trans m0)
  have m1 : ∀ o1 o2, ((w.alloc o1).alloc o2).cell? ⟨b, o + i * 5 + 1, none⟩ = some (.int .i64 nd.server) := fun o1 o2 => (World.cell?_alloc_lt _ _ _ (by simp; omega)).trans ((World.cell?_alloc_lt _ _ _ hbl).trans m1)
  have m2 : ∀ o1 o2, ((w.alloc o1).alloc o2).cell? ⟨b, o + i * 5 + 2, none⟩ = some (.int .i64 nd.need) := fun o1 o2 => (World.cell?_alloc_lt _ _ _ (by simp; omega)).trans ((World.cell?_alloc_lt _ _ _ hbl).trans m2)
  have m3 : ∀ o1 o2, ((w.alloc o1).alloc o2).cell? ⟨b, o + i * 5 + 3, none⟩ = some (.slice aw nw cw) := fun o1 o2 => (World.cell?_alloc_lt _ _ _ (by simp; omega)).trans ((World.cell?_alloc_lt _ _ _ hbl).trans m3)
  have m4 : ∀ o1 o2, ((w.alloc o1).alloc o2).cell? ⟨b, o + i * 5 + 4, none⟩ = some (.slice ak nk ck) := fun o1 o2 => (World.cell?_alloc_lt _ _ _ (by simp; omega)).trans ((World.cell?_alloc_lt _ _ _ hbl).trans m4)
  have HX := Lib.hid h
  have HB0 := Lib.hid hb0
  have hwl := rw3.len
  have hkl := rk4.len
  rw [List.length_map] at hwl hkl
  subst ha
  obtain ⟨RT, hRT⟩ : ∃ RT, x.root = RT := ⟨_, rfl⟩
  obtain ⟨kind, server, need, ws, ks⟩ := nd
  simp only at m0 m1 m2 m3 rw3 m4 rk4 hwl hkl hthr
  have hin : i < n := by omega
  have hbi : decide ((i : Int) < (n : Int)) = true := decide_eq_true (by omega)
  have hs0 := hb0.size
  by_cases hk1 : kind = 1
  · subst hk1
    have hT : treF x.nodes noSub (f + 1) i = .srv server := by
      have e : x.nodes.getD i nod0 = ⟨1, server, need, ws, ks⟩ := by rw [List.getD_eq_getElem?_getD, hnd]; rfl
      rw [treF, e, if_pos rfl]; rfl
    rw [hT, hRT]
    obtain ⟨l1, l2, l3⟩ := ok.leaf rfl
    simp only at l1 l2 l3
    subst l1 l2 l3
    simp only [List.length_nil] at hwl hkl
    subst hwl hkl
    have HW3 := Lib.hid rw3
    clear hM hat hnd rk4 rw3 ok h hT ih hthr xok hl hsz hb0 hRT
    go_enter Tryz.func78, Tryz.ntmps78
    go_wp2_with fail
    generalize hW3 : (((w.alloc _).alloc _).alloc _).alloc _ = w3
    obtain ⟨gX, gR, gN, gT, hb3, hs3⟩ := box4 hW3
    clear hW3 m0 m1 m2 m3 m4
    obtain ⟨r0, r1, r2, r3, r4, r5, r6⟩ := open7 gR
    obtain ⟨z0, z1, z2, z3, z4, z5, z6⟩ := frz7 gR
    obtain ⟨t0, t1, t2, t3, t4, t5, t6⟩ := open7 gT
    have n4 := (open5 gN).2.2.2.2
    have HR := Lib.hid gR
    have HB3 := Lib.hid hb3
    have HT3 : Hid (RtS (fun g => g < w0.heap.size) w3 ⟨1, server, 0, .slice aw 0 cw, .slice ak 0 ck, .slice none 0 0, .slice none 0 0⟩ (.srv server)) := Lib.hid (fun w2 ha => .srv server aw cw ak 0 ck (HW3.out.blocks fun g hg => (ha g hg).trans ((Below.next HB0.out hb3).block g hg)))
    clear gX gR gN gT hb3
    go_loopw [7] (fun q wr => q = .int .i64 0 ∧ wr = w3) (fun _ _ => 0)
    case atStart => exact ⟨rfl, rfl⟩
    case round =>
      obtain ⟨rfl, rfl⟩ := hrel
      go_wp2_with fail
      clear t0 t1 t2 t3 t4 t5 t6 r0 r1 r2 r3 r4 r5 r6 z0 z1 z2 z3 z4 z5 z6 n4
      generalize hWF : ((((((wr.setCell _ _).setCell _ _).setCell _ _).setCell _ _).setCell _ _).setCell _ _).setCell _ _ = WF
      obtain ⟨q1, q2⟩ := rret_fin (S := fun g => g < w0.heap.size) (w := w) HT3.out (Nat.le_succ _) (fun g hg => ⟨.inl hg, by omega⟩) HB3.out HR.out hWF
      refine bodyPost_ret (v := .agg #[.int .i64 1, .int .i64 server, .int .i64 0, .slice aw 0 cw, .slice ak 0 ck, .slice none 0 0, .slice none 0 0]) ?_ rfl q2
      exact results_cell_row rfl _ _ _ _ _ _ _ rfl q1 Tryz.underlying112 rfl (by kernel_rfl)
  · obtain rfl : kind = 2 := ok.kind.resolve_left hk1
    obtain rfl : server = 0 := hthr hk1
    have hT : treF x.nodes noSub (f + 1) i = .thr need ws (kidT x.nodes noSub f ks) := by
      have e : x.nodes.getD i nod0 = ⟨2, 0, need, ws, ks⟩ := by rw [List.getD_eq_getElem?_getD, hnd]; rfl
      rw [treF, e, if_neg hk1]; rfl
    rw [hT] at hsz ⊢
    rw [ET.sz] at hsz
    obtain ⟨KT, hKT⟩ : ∃ KT, KT = kidT x.nodes noSub f ks := ⟨_, rfl⟩
    rw [← hKT] at hsz ⊢
    have hKl : KT.length = nk := by rw [hKT, kidT_len]; exact hkl.symm
    have hnk : nk ≤ 1000 := by have := ETs.sz_ge KT; omega
    have har : ws = [] ∨ ws.length = nk := ok.arity.imp id (fun e => by simp only at e; omega)
    obtain ⟨PT, hPT⟩ : ∃ PT, PT = prtT ws nk := ⟨_, rfl⟩
    have HPG := Lib.hid (fun k (hk : k < nk) => prtT_get (k := k) har hk)
    have HPP := Lib.hid hPT
    rw [← hPT] at HPG
    have HAR := Lib.hid har
    have HKT := Lib.hid hKT
    have HKL := Lib.hid hKl
    have HKR := Lib.hid ok.kids
    have HW3 := Lib.hid rw3
    have HK4 := Lib.hid rk4
    have HHL := Lib.hid hl
    have HWL := Lib.hid hwl
    have HIH := Lib.hid ih
    have HSZ := Lib.hid hsz
    have HRT := Lib.hid hRT
    rw [hRT]
    clear hsz hT hKT hKl hkl hwl hM hat hnd rw3 rk4 h ok ih hthr xok hl hPT har hb0 hRT
    go_enter Tryz.func78, Tryz.ntmps78
    go_wp2_with fail
    generalize hW3 : (((w.alloc _).alloc _).alloc _).alloc _ = w3
    obtain ⟨gX, gR, gN, gT, hb3, hs3⟩ := box4 hW3
    have GX := Lib.hid gX
    have GR := Lib.hid gR
    have GN := Lib.hid gN
    have GT := Lib.hid gT
    have HB3 := Lib.hid hb3
    clear hW3 m0 m1 m2 m3 m4 gX gR gN gT hb3
    go_loopw [7] (fun q wr => ∃ k kv pv S', k ≤ nk ∧ q = .int .i64 ((k : Nat) : Int) ∧ wr.heap[w.heap.size + 3]? = some (.cells #[.int .i64 2, .int .i64 0, .int .i64 need, .slice aw nw cw, .slice ak nk ck, kv, pv] 112 (0, 0)) ∧ RB S' w3.heap.size wr kv (KT.take k) ∧ wr.ownsRow w3.heap.size 3 1 pv k ((PT.take k).map (Value.int .i64)) ∧ (∀ g, S' g → g < w0.heap.size ∨ w3.heap.size ≤ g) ∧ (∀ g, pv.ownBlock = some g → ¬ S' g ∧ kv.ownBlock ≠ some g) ∧ (∀ g, g < w3.heap.size → g ≠ w.heap.size + 3 → wr.heap[g]? = w3.heap[g]?) ∧ Below w.heap.size w wr ∧ w3.heap.size ≤ wr.heap.size) (fun q _ => nk - (intOf q).toNat)
    case atStart => exact ⟨0, _, _, fun _ => False, Nat.zero_le _, rfl, GT.out, GB.nil _ _ _ _ (fun _ h => h.elim), World.ownsRow_nil _ _ _ _, fun _ h => h.elim, (fun g h => by cases h), fun _ _ _ => rfl, HB3.out, Nat.le_refl _⟩
    case round =>
      obtain ⟨k, kv, pv, S', hk, rfl, hTb, hTB, hPR, hS', hdis, hbk, hbw, hsz⟩ := hrel
      have gN := (hbk (w.heap.size + 2) (by omega) (by omega)).trans GN.out
      have n4 := (open5 gN).2.2.2.2
      by_cases hlt : k < nk
      · obtain ⟨V, hV1, hV2, hV3⟩ := hTB.row
        have hkl : (KT.take k).length = k := by rw [List.length_take]; have := HKL.out; omega
        rw [hkl] at hV2
        obtain ⟨ak2, ck2, rfl, _⟩ := rdK_of_row hV2
        obtain ⟨ap2, cp2, rfl, _⟩ := rd_of_row hPR
        obtain ⟨z, hz⟩ : ∃ z, ks[k]? = some z := ⟨_, List.getElem?_eq_getElem (by have := HKT.out; have := HKL.out; rw [HKT.out, kidT_len] at this; omega)⟩
        have hzr := HKR.out z (List.mem_of_getElem? hz)
        obtain ⟨zn, hzn⟩ := Int.eq_ofNat_of_zero_le hzr.1
        subst hzn
        have hTT := kidT_take x.nodes noSub f ks k zn hz
        rw [← HKT.out, Int.toNat_natCast] at hTT
        obtain ⟨b4, o4, ha4, hc4⟩ := HK4.out.at' (by omega)
        have hc0 := hc4 k (.int .i64 zn) (by rw [List.getElem?_map, hz]; rfl)
        have hb4 : b4 < w0.heap.size := cell_lt hc0
        have hbw0 := Below.next HB0.out hbw
        have hc := cell_keep hbw0 hc0
        have gx := (hbk w.heap.size (by omega) (by omega)).trans GX.out
        obtain ⟨⟨x0, x1⟩, _⟩ := open2 gx
        obtain ⟨n0, n1, n2, n3, n4'⟩ := open5 gN
        have p5 := (open7 hTb).2.2.2.2.2.1
        have hszk : (treF x.nodes noSub f zn).sz ≤ 1000 := by
          have h1 := sz_take KT (k + 1)
          rw [hTT, ETs.sz_app] at h1
          have := HSZ.out
          simp only [ETs.sz] at h1; omega
        have HCALL := Lib.hid (fun (u : World) (hu : Below wr.heap.size wr u) => HIH.out zn (by omega) (by have := HHL.out; omega) (some ⟨b, o, none⟩) n c HX.out u (Below.next hbw0 hu) hszk)
        rw [HRT.out] at HCALL
        obtain ⟨TK, hTK⟩ : ∃ TK, treF x.nodes noSub f zn = TK := ⟨_, rfl⟩
        rw [hTK] at HCALL hTT
        unfold RetR at HCALL
        have HTT := Lib.hid hTT
        have HTB := Lib.hid hTB
        have HTb := Lib.hid hTb
        have HPR := Lib.hid hPR
        have HV1 := Lib.hid hV1
        have HV2 := Lib.hid hV2
        have HV3 := Lib.hid hV3
        have HS' := Lib.hid hS'
        have HDIS := Lib.hid hdis
        have HBK := Lib.hid hbk
        have HBW := Lib.hid hbw
        have HKK := Lib.hid hkl
        obtain ⟨WG, hWG⟩ : ∃ WG, wgtW ws k = WG := ⟨_, rfl⟩
        have HPT : Hid (PT.take (k + 1) = PT.take k ++ [WG]) := Lib.hid (by rw [List.take_add_one, HPG.out k hlt, hWG]; rfl)
        subst ha4
        have HKS := Lib.hid (fun (u : World) (hu : ∀ g, g < w3.heap.size → g ≠ w.heap.size + 3 → u.heap[g]? = wr.heap[g]?) => And.intro (And.intro (And.intro ((World.cell?_of_block (w := wr) (w' := u) (a := ⟨w.heap.size, 0, none⟩) (hu w.heap.size (by omega) (by omega))).trans x0) ((World.cell?_of_block (w := wr) (w' := u) (a := ⟨w.heap.size, 1, none⟩) (hu w.heap.size (by omega) (by omega))).trans x1)) ((World.cell?_of_block (w := wr) (w' := u) (a := ⟨w.heap.size + 2, 4, none⟩) (hu (w.heap.size + 2) (by omega) (by omega))).trans n4)) ((World.cell?_of_block (w := wr) (w' := u) (a := ⟨b4, o4 + k, none⟩) (hu b4 (by omega) (by omega))).trans hc))
        have HKN0 := Lib.hid (fun (u : World) (hu : ∀ g, g < w3.heap.size → g ≠ w.heap.size + 3 → u.heap[g]? = wr.heap[g]?) => And.intro (And.intro (And.intro (And.intro ((World.cell?_of_block (w := wr) (w' := u) (a := ⟨w.heap.size + 2, 0, none⟩) (hu (w.heap.size + 2) (by omega) (by omega))).trans n0) ((World.cell?_of_block (w := wr) (w' := u) (a := ⟨w.heap.size + 2, 1, none⟩) (hu (w.heap.size + 2) (by omega) (by omega))).trans n1)) ((World.cell?_of_block (w := wr) (w' := u) (a := ⟨w.heap.size + 2, 2, none⟩) (hu (w.heap.size + 2) (by omega) (by omega))).trans n2)) ((World.cell?_of_block (w := wr) (w' := u) (a := ⟨w.heap.size + 2, 3, none⟩) (hu (w.heap.size + 2) (by omega) (by omega))).trans n3)) ((World.cell?_of_block (w := wr) (w' := u) (a := ⟨w.heap.size + 2, 4, none⟩) (hu (w.heap.size + 2) (by omega) (by omega))).trans n4))
        obtain ⟨ii, hi0, hz0, hz1, hz2⟩ := info_parts Tryz.infoRt
        have hki : (k : Int) < (nk : Int) := by omega
        clear hTK hTT hTB hTb hPR hV1 hV2 hV3 hS' hdis hbk hbw hkl hz hc4 hc hc0 gx hzr hszk gN n0 n1 n2 n3 n4' x0 x1 hbw0
        go_upto_region 6 with fail
        clear n4
        refine wp_region_noPanic ?_
        refine wp_region_takes (fun u => ((u.cell? ⟨w.heap.size, 0, none⟩ = some (.slice (some ⟨b, o, none⟩) n c) ∧ u.cell? ⟨w.heap.size, 1, none⟩ = some (.int .i64 RT)) ∧ u.cell? ⟨w.heap.size + 2, 4, none⟩ = some (.slice (some ⟨b4, o4, none⟩) nk ck)) ∧ u.cell? ⟨b4, o4 + k, none⟩ = some (.int .i64 (zn : Int))) [0, 2, 3, 4, 5, 6, 7] 6 (by kernel_rfl) (by kernel_rfl) (by kernel_rfl) (fun _ _ _ _ _ h => h) (HKS.out _ (fun g _ _ => rfl)) ?_
        repeat (refine wpTk_cons rfl (fun K hK => ?_); go_simp; apply Exists.intro; refine ⟨fun u q1 q2 q3 q4 => ?_, hK _ ?_⟩; (first | exact rfl | (go_simp; done) | (go_simp; exact rfl)); clear hK K)
        refine wpTk_nil ?_
        refine held_ready (rs := [1, 8]) (by kernel_rfl) (by simp) ?_
        refine AllReadyH.cons rfl (fun K hK => ?_) (AllReadyH.cons rfl (fun K hK => ?_) AllReadyH.nil)
        go_simp
        refine hK.out _ _ (HKS.out _ (fun g _ _ => rfl)) (fun hh => ?_)
        clear hh hK K; try simp only [Act.put, List.setIfInBounds_toArray, List.set_cons_zero, List.set_cons_succ]
        refine held_ready (rs := [8]) (by kernel_rfl) (by simp) ?_
        refine AllReadyH.cons rfl (fun K hK => ?_) AllReadyH.nil
        go_simp
        with_reducible refine (HCALL.out wr.drew (below_drew (Below.refl _ _))).mono ?_
        rintro e w5 ⟨kd5, sv5, nd5, aw5, nw5, cw5, an5, nn5, cn5, ak5, nk5, ck5, ap5, np5, cp5, rfl, hTS, hb5⟩
        have hb5' := below_undrew hb5
        have HTS : Hid (RtS (fun g => g < w0.heap.size ∨ (wr.heap.size ≤ g ∧ g < w5.heap.size)) w5 ⟨kd5, sv5, nd5, .slice aw5 nw5 cw5, .slice an5 nn5 cn5, .slice ak5 nk5 ck5, .slice ap5 np5 cp5⟩ TK) := Lib.hid hTS
        have HB5 := Lib.hid hb5'
        have hs5 := hb5'.size
        have g5 := heap_below hb5' HTb.out
        have p45 := (open7 g5).2.2.2.2.2.1
        have p45b : ∀ ob, (w5.alloc ob).cell? ⟨w.heap.size + 3, 5, none⟩ = some (.slice ak2 k ck2) := fun ob => (World.cell?_alloc_lt _ _ _ (cell_lt p45)).trans p45
        have HROW := Lib.hid (rowK_below HV2.out hb5')
        have G5 := Lib.hid g5
        clear hTS hb5 hb5' g5
        go_simp
        refine hK.out _ _ (HKS.out _ (fun g h1 _ => HB5.out.block g (by omega))) (fun hh => ?_)
        clear hh hK K; try simp only [Act.put, List.setIfInBounds_toArray, List.set_cons_zero, List.set_cons_succ]
        refine held_ready (rs := [9]) (by kernel_rfl) (by simp) ?_
        refine AllReadyH.cons rfl (fun K hK => ?_) AllReadyH.nil
        go_simp
        refine hK.out _ _ (HKS.out _ (fun g h1 _ => (Below.heap_alloc w5 _ g (by omega)).trans (HB5.out.block g (by omega)))) (fun hh => ?_)
        clear hh hK K; try simp only [Act.put, List.setIfInBounds_toArray, List.set_cons_zero, List.set_cons_succ]
        rotate_left
        go_simp
        with_reducible refine (HCALL.out wr.drew (below_drew (Below.refl _ _))).mono ?_
        rintro e w5 ⟨kd5, sv5, nd5, aw5, nw5, cw5, an5, nn5, cn5, ak5, nk5, ck5, ap5, np5, cp5, rfl, hTS, hb5⟩
        have hb5' := below_undrew hb5
        have HTS : Hid (RtS (fun g => g < w0.heap.size ∨ (wr.heap.size ≤ g ∧ g < w5.heap.size)) w5 ⟨kd5, sv5, nd5, .slice aw5 nw5 cw5, .slice an5 nn5 cn5, .slice ak5 nk5 ck5, .slice ap5 np5 cp5⟩ TK) := Lib.hid hTS
        have HB5 := Lib.hid hb5'
        have hs5 := hb5'.size
        have g5 := heap_below hb5' HTb.out
        have p45 := (open7 g5).2.2.2.2.2.1
        have p45b : ∀ ob, (w5.alloc ob).cell? ⟨w.heap.size + 3, 5, none⟩ = some (.slice ak2 k ck2) := fun ob => (World.cell?_alloc_lt _ _ _ (cell_lt p45)).trans p45
        have HROW := Lib.hid (rowK_below HV2.out hb5')
        have G5 := Lib.hid g5
        clear hTS hb5 hb5' g5
        go_simp
        refine hK.out _ _ (HKS.out _ (fun g h1 _ => HB5.out.block g (by omega))) (fun hh => ?_)
        clear hh hK K; try simp only [Act.put, List.setIfInBounds_toArray, List.set_cons_zero, List.set_cons_succ]
        refine held_ready (rs := [1, 9]) (by kernel_rfl) (by simp) ?_
        refine AllReadyH.cons rfl (fun K hK => ?_) (AllReadyH.cons rfl (fun K hK => ?_) AllReadyH.nil)
        go_simp
        refine hK.out _ _ (HKS.out _ (fun g h1 _ => HB5.out.block g (by omega))) (fun hh => ?_)
        clear hh hK K; try simp only [Act.put, List.setIfInBounds_toArray, List.set_cons_zero, List.set_cons_succ]
        refine held_ready (rs := [9]) (by kernel_rfl) (by simp) ?_
        refine AllReadyH.cons rfl (fun K hK => ?_) AllReadyH.nil
        go_simp
        refine hK.out _ _ (HKS.out _ (fun g h1 _ => (Below.heap_alloc w5 _ g (by omega)).trans (HB5.out.block g (by omega)))) (fun hh => ?_)
        clear hh hK K; try simp only [Act.put, List.setIfInBounds_toArray, List.set_cons_zero, List.set_cons_succ]
        rotate_left
        go_simp
        refine hK.out _ _ (HKS.out _ (fun g h1 _ => (Below.heap_alloc w5 _ g (by omega)).trans (HB5.out.block g (by omega)))) (fun hh => ?_)
        clear hh hK K; try simp only [Act.put, List.setIfInBounds_toArray, List.set_cons_zero, List.set_cons_succ]
        refine held_ready (rs := [1]) (by kernel_rfl) (by simp) ?_
        refine AllReadyH.cons rfl (fun K hK => ?_) AllReadyH.nil
        go_simp
        refine hK.out _ _ (HKS.out _ (fun g h1 _ => (Below.heap_alloc w5 _ g (by omega)).trans (HB5.out.block g (by omega)))) (fun hh => ?_)
        clear hh hK K; try simp only [Act.put, List.setIfInBounds_toArray, List.set_cons_zero, List.set_cons_succ]
        all_goals
          refine held_ready (rs := [10]) (by kernel_rfl) (by simp) ?_
          refine AllReadyH.cons rfl (fun K hK => ?_) AllReadyH.nil
          refine step_append_lies _ (by rfl) _ _ _ (by rfl) w3.heap.size 112 ii _ 7 120 Tryz.underlying110 hi0 hz0 hz1 hz2 rfl (by omega) (.slice ak2 k ck2) k _ (by rfl) (HROW.out.alloc _) ⟨w5.heap.size, 0, none⟩ 1 1 (rtVC ⟨kd5, sv5, nd5, .slice aw5 nw5 cw5, .slice an5 nn5 cn5, .slice ak5 nk5 ck5, .slice ap5 np5 cp5⟩) (by rfl) (by rfl) (World.news_of_block (cs := (rtVC ⟨kd5, sv5, nd5, .slice aw5 nw5 cw5, .slice an5 nn5 cn5, .slice ak5 nk5 ck5, .slice ap5 np5 cp5⟩).toArray) (t := 112) (fr := (0, 0)) (heap_alloc_new w5 _)) HTS.out.one (by omega) (by unfold maxLen; omega) (by omega) (by simp; omega) (w5.heap.size + 1) (by simp) ?_
          intro gg cap wA hownA hgrow hat hlt2
          have hko : ∀ g, (Value.slice ak2 k ck2).ownBlock = some g → w3.heap.size ≤ g ∧ g < wr.heap.size := fun g hg => HV2.out.lt g hg
          have hblk : ∀ g, g < w3.heap.size → wA.heap[g]? = wr.heap[g]? := fun g hg => by
            rw [hgrow.block g (by simp; omega) (fun e => by have := hko g e.symm; omega), Below.heap_alloc w5 _ g (by omega)]
            exact HB5.out.block g (by omega)
          have hA := (hblk (w.heap.size + 3) (by omega)).trans HTb.out
          have m5 := (open7 hA).2.2.2.2.2.1
          have z5 := (frz7 hA).2.2.2.2.2.1
          have hV3 := fun (i : Nat) p nd hp hn => RS.below (HV3.out i p nd hp hn) HB5.out HTB.out.lt
          have hTB2 := GB.pushes (M := [TK]) (U := [⟨kd5, sv5, nd5, .slice aw5 nw5 cw5, .slice an5 nn5 cn5, .slice ak5 nk5 ck5, .slice ap5 np5 cp5⟩]) (SW := fun g => g < w0.heap.size ∨ (wr.heap.size ≤ g ∧ g < w5.heap.size)) (x := w5.alloc (.cells (rtVC ⟨kd5, sv5, nd5, .slice aw5 nw5 cw5, .slice an5 nn5 cn5, .slice ak5 nk5 ck5, .slice ap5 np5 cp5⟩).toArray 112)) (u := .slice (some ⟨gg, 0, none⟩) (k + 1) cap) (y := wA) (HTB.out.below HB5.out) HV1.out hV3 ((Below.refl _ _).alloc (Nat.le_refl _) _) hgrow rfl (by rw [HKK.out]; exact hownA) (fun g hg => by
              have e2 : gg = g := by simpa [Value.ownBlock] using hg
              rcases hat with h1 | h1
              · exact .inl (e2 ▸ h1)
              · exact .inr (by omega)) (fun i p nd hp hn => by
              cases i with
              | zero => simp at hp hn; subst hp hn; exact HTS.out
              | succ i => simp at hp) (fun g hg => by
              rcases hg with hg | hg
              · exact ⟨by omega, fun e => by have := (hko g e).1; omega⟩
              · exact ⟨hg.2, fun e => by have := (hko g e).2; omega⟩)
          rw [← HTT.out] at hTB2
          have HTB2 := Lib.hid hTB2
          have HBLK := Lib.hid hblk
          have HBA : Hid (Below w3.heap.size wr wA) := Lib.hid (((HB5.out.mono hsz).alloc (by omega) _).grown hgrow (by simp; omega) (fun g hg => (hko g hg).1))
          have hown6 : ∀ g, (Value.slice (some ⟨gg, 0, none⟩) (k + 1) cap).ownBlock = some g → (Value.slice ak2 k ck2).ownBlock = some g ∨ w5.heap.size ≤ g := fun g hg => by
            have e2 : gg = g := by simpa [Value.ownBlock] using hg
            rcases hat with h1 | h1
            · exact .inl (e2 ▸ h1)
            · exact .inr (by omega)
          have HPA : Hid (wA.ownsRow w3.heap.size 3 1 (.slice ap2 k cp2) k ((PT.take k).map (Value.int .i64))) := Lib.hid (rowK_at HPR.out fun g hg => by
            have hp := HPR.out.lt g hg
            have hne := HDIS.out g hg
            rw [hgrow.block g (by simp; omega) (fun e => hne.2 e.symm), Below.heap_alloc w5 _ g (by omega)]
            exact HB5.out.block g hp.2)
          have hsA : wr.heap.size ≤ wA.heap.size := by have h9 := hgrow.size; simp at h9; omega
          have HA := Lib.hid hA
          have HOWN6 := Lib.hid hown6
          clear hV3 hTB2 hko hown6 hgrow hat hA hownA p45 p45b
          refine hK.out _ _ (HKS.out _ (fun g h1 _ => HBLK.out g h1)) (fun hh => ?_)
          clear hh hK K; try simp only [Act.put, List.setIfInBounds_toArray, List.set_cons_zero, List.set_cons_succ]
          refine held_ready (rs := [11]) (by kernel_rfl) (by simp) ?_
          refine AllReadyH.cons rfl (fun K hK => ?_) AllReadyH.nil
          go_simp
          refine hK.out _ _ (HKS.out _ (fun g h1 _ => HBLK.out g h1)) (fun hh => ?_)
          clear hh hK K; try simp only [Act.put, List.setIfInBounds_toArray, List.set_cons_zero, List.set_cons_succ]
          refine held_ready (rs := [12]) (by kernel_rfl) (by simp) ?_
          refine AllReadyH.cons rfl (fun K hK => ?_) AllReadyH.nil
          go_simp
          refine hK.out _ _ (HKS.out _ (fun g h1 h2 => (Below.heap_setCell _ ⟨w.heap.size + 3, 5, none⟩ _ g h2).trans (HBLK.out g h1))) (fun hh => ?_)
          clear hh hK K; try simp only [Act.put, List.setIfInBounds_toArray, List.set_cons_zero, List.set_cons_succ]
          refine wpAnyH_done (by kernel_rfl) (NoPanic.normal ?_) _
          clear m5 z5
          have hT6x : (wA.setCell ⟨w.heap.size + 3, 5, none⟩ (.slice (some ⟨gg, 0, none⟩) (k + 1) cap)).heap[w.heap.size + 3]? = some (.cells #[.int .i64 2, .int .i64 0, .int .i64 need, .slice aw nw cw, .slice (some ⟨b4, o4, none⟩) nk ck, .slice (some ⟨gg, 0, none⟩) (k + 1) cap, .slice ap2 k cp2] 112 (0, 0)) := by rw [heap_set_at HA.out]; rfl
          have hblk6 : ∀ g, g ≠ w.heap.size + 3 → (wA.setCell ⟨w.heap.size + 3, 5, none⟩ (.slice (some ⟨gg, 0, none⟩) (k + 1) cap)).heap[g]? = wA.heap[g]? := fun g hg => Below.heap_setCell _ ⟨w.heap.size + 3, 5, none⟩ _ g hg
          have hs6x : (wA.setCell ⟨w.heap.size + 3, 5, none⟩ (.slice (some ⟨gg, 0, none⟩) (k + 1) cap)).heap.size = wA.heap.size := by simp
          have hb6x : Below w.heap.size wA (wA.setCell ⟨w.heap.size + 3, 5, none⟩ (.slice (some ⟨gg, 0, none⟩) (k + 1) cap)) := (Below.refl _ _).setCell (p := ⟨w.heap.size + 3, 5, none⟩) (by show w.heap.size ≤ w.heap.size + 3; omega) _
          generalize wA.setCell _ _ = w6 at hT6x hblk6 hs6x hb6x ⊢
          have HT6 := Lib.hid hT6x
          have hs6a : w3.heap.size ≤ w6.heap.size := by omega
          have hS2 : ∀ g, (S' g ∨ (g < w0.heap.size ∨ (wr.heap.size ≤ g ∧ g < w5.heap.size))) → g < w0.heap.size ∨ w3.heap.size ≤ g := fun g hg => by
            rcases hg with hg | hg | hg
            · exact HS'.out g hg
            · exact .inl hg
            · exact .inr (by omega)
          have HTB6 := Lib.hid (HTB2.out.move (w' := w6) (fun g hg => hblk6 g (by have := hS2 g hg; omega)) (fun g hg => hblk6 g (by have := (HTB2.out.lt_own g hg).1; omega)) (by omega))
          have HP6 := Lib.hid (rowK_at HPA.out fun g hg => hblk6 g (by have := (HPA.out.lt g hg).1; omega))
          have HD6 : Hid (∀ g, (Value.slice ap2 k cp2).ownBlock = some g → ¬ (S' g ∨ (g < w0.heap.size ∨ (wr.heap.size ≤ g ∧ g < w5.heap.size))) ∧ (Value.slice (some ⟨gg, 0, none⟩) (k + 1) cap).ownBlock ≠ some g) := Lib.hid (fun g hg => by
            have h1 := HPR.out.lt g hg
            have h2 := HDIS.out g hg
            refine ⟨?_, fun e => ?_⟩
            · rintro (h3 | h3 | h3)
              · exact h2.1 h3
              · omega
              · omega
            · rcases HOWN6.out g e with h3 | h3
              · exact h2.2 h3
              · omega)
          have HBK6 : Hid (∀ g, g < w3.heap.size → g ≠ w.heap.size + 3 → w6.heap[g]? = wr.heap[g]?) := Lib.hid (fun g h1 h2 => (hblk6 g h2).trans (HBLK.out g h1))
          have HBW6 : Hid (Below w.heap.size w w6) := Lib.hid ((HBW.out.trans (HBA.out.mono (by omega))).trans hb6x)
          have HS2 := Lib.hid hS2
          have HKN := Lib.hid (fun (u : World) (hu : ∀ g, g < w3.heap.size → g ≠ w.heap.size + 3 → u.heap[g]? = w6.heap[g]?) => HKN0.out u (fun g h1 h2 => (hu g h1 h2).trans (HBK6.out g h1 h2)))
          have HWG : Hid (∀ u : World, Below w6.heap.size w6 u → Calls Tryz.prog 53 #[.agg #[.int .i64 2, .int .i64 0, .int .i64 need, .slice aw nw cw, .slice (some ⟨b4, o4, none⟩) nk ck], .int .i64 k] u fun e w' => e = .returned (.int .i64 WG) ∧ Below u.heap.size u w') := Lib.hid (fun u hu => by
            have := rwgt_c ⟨2, 0, need, ws, ks⟩ k aw nw cw (some ⟨b4, o4, none⟩) nk ck u (HW3.out.below (Below.next HB0.out (Below.next HBW6.out hu))) (HAR.out.imp id (fun e => by simp only; omega))
            rw [show wgtN ⟨2, 0, need, ws, ks⟩ k = WG from hWG] at this
            exact this)
          have p66 := (open7 HT6.out).2.2.2.2.2.2
          obtain ⟨ij, hj0, hy0, hy1, hy2⟩ := info_parts Tryz.infoInt
          clear hT6x hblk6 hb6x hS2 HTB2 HA HBLK HPA HOWN6 HROW G5 HB5 HTS HCALL p5
          go_upto_region 7 with fail
          refine wp_region_noPanic ?_
          refine wp_region_takes (fun u => ((((u.cell? ⟨w.heap.size + 2, 0, none⟩ = some (.int .i64 2) ∧ u.cell? ⟨w.heap.size + 2, 1, none⟩ = some (.int .i64 0)) ∧ u.cell? ⟨w.heap.size + 2, 2, none⟩ = some (.int .i64 need)) ∧ u.cell? ⟨w.heap.size + 2, 3, none⟩ = some (.slice aw nw cw)) ∧ u.cell? ⟨w.heap.size + 2, 4, none⟩ = some (.slice (some ⟨b4, o4, none⟩) nk ck))) [0, 2, 3] 6 (by kernel_rfl) (by kernel_rfl) (by kernel_rfl) (fun _ _ _ _ _ h => h) (HKN.out _ (fun g _ _ => rfl)) ?_
          repeat (refine wpTk_cons rfl (fun K hK => ?_); go_simp; apply Exists.intro; refine ⟨fun u q1 q2 q3 q4 q5 => ?_, hK _ ?_⟩; (first | exact rfl | (go_simp; done) | (go_simp; exact rfl)); clear hK K)
          refine wpTk_nil ?_
          refine held_ready (rs := [1, 4]) (by kernel_rfl) (by simp) ?_
          refine AllReadyH.cons rfl (fun K hK => ?_) (AllReadyH.cons rfl (fun K hK => ?_) AllReadyH.nil)
          go_simp
          refine hK.out _ _ (HKN.out _ (fun g _ _ => rfl)) (fun hh => ?_)
          clear hh hK K; try simp only [Act.put, List.setIfInBounds_toArray, List.set_cons_zero, List.set_cons_succ]
          refine held_ready (rs := [4]) (by kernel_rfl) (by simp) ?_
          refine AllReadyH.cons rfl (fun K hK => ?_) AllReadyH.nil
          go_simp
          with_reducible refine (HWG.out w6.drew (below_drew (Below.refl _ _))).mono ?_
          rintro e w8 ⟨rfl, hb8⟩
          have hb8' := below_undrew hb8
          have HB8 := Lib.hid hb8'
          have hs8 := hb8'.size
          have g8 := heap_below hb8' HT6.out
          have p86 := (open7 g8).2.2.2.2.2.2
          have p86b : ∀ ob, (w8.alloc ob).cell? ⟨w.heap.size + 3, 6, none⟩ = some (.slice ap2 k cp2) := fun ob => (World.cell?_alloc_lt _ _ _ (cell_lt p86)).trans p86
          have HROW8 := Lib.hid (rowK_below HP6.out hb8')
          clear hb8 hb8' g8
          go_simp
          refine hK.out _ _ (HKN.out _ (fun g h1 _ => HB8.out.block g (by omega))) (fun hh => ?_)
          clear hh hK K; try simp only [Act.put, List.setIfInBounds_toArray, List.set_cons_zero, List.set_cons_succ]
          refine held_ready (rs := [5]) (by kernel_rfl) (by simp) ?_
          refine AllReadyH.cons rfl (fun K hK => ?_) AllReadyH.nil
          go_simp
          refine hK.out _ _ (HKN.out _ (fun g h1 _ => (Below.heap_alloc w8 _ g (by omega)).trans (HB8.out.block g (by omega)))) (fun hh => ?_)
          clear hh hK K; try simp only [Act.put, List.setIfInBounds_toArray, List.set_cons_zero, List.set_cons_succ]
          rotate_left
          go_simp
          with_reducible refine (HWG.out w6.drew (below_drew (Below.refl _ _))).mono ?_
          rintro e w8 ⟨rfl, hb8⟩
          have hb8' := below_undrew hb8
          have HB8 := Lib.hid hb8'
          have hs8 := hb8'.size
          have g8 := heap_below hb8' HT6.out
          have p86 := (open7 g8).2.2.2.2.2.2
          have p86b : ∀ ob, (w8.alloc ob).cell? ⟨w.heap.size + 3, 6, none⟩ = some (.slice ap2 k cp2) := fun ob => (World.cell?_alloc_lt _ _ _ (cell_lt p86)).trans p86
          have HROW8 := Lib.hid (rowK_below HP6.out hb8')
          clear hb8 hb8' g8
          go_simp
          refine hK.out _ _ (HKN.out _ (fun g h1 _ => HB8.out.block g (by omega))) (fun hh => ?_)
          clear hh hK K; try simp only [Act.put, List.setIfInBounds_toArray, List.set_cons_zero, List.set_cons_succ]
          refine held_ready (rs := [1, 5]) (by kernel_rfl) (by simp) ?_
          refine AllReadyH.cons rfl (fun K hK => ?_) (AllReadyH.cons rfl (fun K hK => ?_) AllReadyH.nil)
          go_simp
          refine hK.out _ _ (HKN.out _ (fun g h1 _ => HB8.out.block g (by omega))) (fun hh => ?_)
          clear hh hK K; try simp only [Act.put, List.setIfInBounds_toArray, List.set_cons_zero, List.set_cons_succ]
          refine held_ready (rs := [5]) (by kernel_rfl) (by simp) ?_
          refine AllReadyH.cons rfl (fun K hK => ?_) AllReadyH.nil
          go_simp
          refine hK.out _ _ (HKN.out _ (fun g h1 _ => (Below.heap_alloc w8 _ g (by omega)).trans (HB8.out.block g (by omega)))) (fun hh => ?_)
          clear hh hK K; try simp only [Act.put, List.setIfInBounds_toArray, List.set_cons_zero, List.set_cons_succ]
          rotate_left
          go_simp
          refine hK.out _ _ (HKN.out _ (fun g h1 _ => (Below.heap_alloc w8 _ g (by omega)).trans (HB8.out.block g (by omega)))) (fun hh => ?_)
          clear hh hK K; try simp only [Act.put, List.setIfInBounds_toArray, List.set_cons_zero, List.set_cons_succ]
          refine held_ready (rs := [1]) (by kernel_rfl) (by simp) ?_
          refine AllReadyH.cons rfl (fun K hK => ?_) AllReadyH.nil
          go_simp
          refine hK.out _ _ (HKN.out _ (fun g h1 _ => (Below.heap_alloc w8 _ g (by omega)).trans (HB8.out.block g (by omega)))) (fun hh => ?_)
          clear hh hK K; try simp only [Act.put, List.setIfInBounds_toArray, List.set_cons_zero, List.set_cons_succ]
          all_goals
            refine held_ready (rs := [6]) (by kernel_rfl) (by simp) ?_
            refine AllReadyH.cons rfl (fun K hK => ?_) AllReadyH.nil
            refine step_append_lies _ (by rfl) _ _ _ (by rfl) w3.heap.size 3 ij _ 1 8 Tryz.underlying69 hj0 hy0 hy1 hy2 rfl (by omega) (.slice ap2 k cp2) k _ (by rfl) (HROW8.out.alloc _) ⟨w8.heap.size, 0, none⟩ 1 1 [.int .i64 WG] (by rfl) (by rfl) (World.news_of_block (cs := #[.int .i64 WG]) (t := 3) (fr := (0, 0)) (heap_alloc_new w8 _)) (by simp [Value.oneCell']) (by omega) (by unfold maxLen; omega) (by omega) (by simp; omega) (w8.heap.size + 1) (by simp) ?_
            intro g2 cap2 wB hownB hgrow hat hlt3
            have hpo : ∀ g, (Value.slice ap2 k cp2).ownBlock = some g → w3.heap.size ≤ g ∧ g < w6.heap.size := fun g hg => HP6.out.lt g hg
            have hblk : ∀ g, g < w6.heap.size → (Value.slice ap2 k cp2).ownBlock ≠ some g → wB.heap[g]? = w6.heap[g]? := fun g hg hne => by
              rw [hgrow.block g (by simp; omega) (fun e => hne e.symm), Below.heap_alloc w8 _ g (by omega)]
              exact HB8.out.block g hg
            have hB := (hblk (w.heap.size + 3) (by omega) (fun e => by have := hpo _ e; omega)).trans HT6.out
            have m6 := (open7 hB).2.2.2.2.2.2
            have z6 := (frz7 hB).2.2.2.2.2.2
            have HTB9 := Lib.hid (HTB6.out.move (w' := wB) (fun g hg => hblk g (HTB6.out.lt g hg) (fun e => (HD6.out g e).1 hg)) (fun g hg => hblk g (HTB6.out.lt_own g hg).2 (fun e => (HD6.out g e).2 hg)) (by have h9 := hgrow.size; simp at h9; omega))
            have hownB' : wB.ownsRow w3.heap.size 3 1 (.slice (some ⟨g2, 0, none⟩) (k + 1) cap2) (k + 1) ((PT.take (k + 1)).map (Value.int .i64)) := by rw [HPT.out, List.map_append]; exact hownB
            have HOB := Lib.hid hownB'
            have HBLB := Lib.hid hblk
            have HPO := Lib.hid hpo
            have hownn : ∀ g, (Value.slice (some ⟨g2, 0, none⟩) (k + 1) cap2).ownBlock = some g → (Value.slice ap2 k cp2).ownBlock = some g ∨ w6.heap.size ≤ g := fun g hg => by
              have e2 : g2 = g := by simpa [Value.ownBlock] using hg
              rcases hat with h1 | h1
              · exact .inl (e2 ▸ h1)
              · exact .inr (by omega)
            have HOWNN := Lib.hid hownn
            have HBB : Hid (Below w3.heap.size w6 wB) := Lib.hid (((HB8.out.mono hs6a).alloc (by omega) _).grown hgrow (by simp; omega) (fun g hg => (hpo g hg).1))
            have HB9 := Lib.hid hB
            have hsB : w6.heap.size ≤ wB.heap.size := by have h9 := hgrow.size; simp at h9; omega
            clear hgrow hat hB hownB hownB' hblk hpo hownn p86 p86b
            refine hK.out _ _ (HKN.out _ (fun g h1 h2 => HBLB.out g (by omega) (fun e => by have := (HPO.out g e).1; omega))) (fun hh => ?_)
            clear hh hK K; try simp only [Act.put, List.setIfInBounds_toArray, List.set_cons_zero, List.set_cons_succ]
            refine held_ready (rs := [7]) (by kernel_rfl) (by simp) ?_
            refine AllReadyH.cons rfl (fun K hK => ?_) AllReadyH.nil
            go_simp
            refine hK.out _ _ (HKN.out _ (fun g h1 h2 => HBLB.out g (by omega) (fun e => by have := (HPO.out g e).1; omega))) (fun hh => ?_)
            clear hh hK K; try simp only [Act.put, List.setIfInBounds_toArray, List.set_cons_zero, List.set_cons_succ]
            refine held_ready (rs := [8]) (by kernel_rfl) (by simp) ?_
            refine AllReadyH.cons rfl (fun K hK => ?_) AllReadyH.nil
            go_simp
            refine hK.out _ _ (HKN.out _ (fun g h1 h2 => (Below.heap_setCell _ ⟨w.heap.size + 3, 6, none⟩ _ g h2).trans (HBLB.out g (by omega) (fun e => by have := (HPO.out g e).1; omega)))) (fun hh => ?_)
            clear hh hK K; try simp only [Act.put, List.setIfInBounds_toArray, List.set_cons_zero, List.set_cons_succ]
            refine wpAnyH_done (by kernel_rfl) (NoPanic.normal ?_) _
            clear m6 z6
            go_wp2_with fail
            go_roundw
            case rel =>
              refine ⟨k + 1, .slice (some ⟨gg, 0, none⟩) (k + 1) cap, .slice (some ⟨g2, 0, none⟩) (k + 1) cap2, _, by omega, by go_num, by rw [heap_set_at HB9.out]; rfl, HTB9.out.move (fun g hg => ?_) (fun g hg => ?_) (by simp), rowK_at HOB.out (fun g hg => ?_), HS2.out, fun g hg => ?_, fun g h1 h2 => ?_, ?_, by simp; omega⟩
              · exact Below.heap_setCell _ _ _ _ (by have := HS2.out g hg; show g ≠ w.heap.size + 3; omega)
              · exact Below.heap_setCell _ _ _ _ (by have := (HTB9.out.lt_own g hg).1; show g ≠ w.heap.size + 3; omega)
              · exact Below.heap_setCell _ _ _ _ (by have := (HOB.out.lt g hg).1; show g ≠ w.heap.size + 3; omega)
              · rcases HOWNN.out g hg with h3 | h3
                · exact HD6.out g h3
                · exact ⟨fun hS => by have := HTB6.out.lt g hS; omega, fun e => by have := (HTB6.out.lt_own g e).2; omega⟩
              · rw [Below.heap_setCell _ ⟨w.heap.size + 3, 6, none⟩ _ g h2, HBLB.out g (by omega) (fun e => by have := (HPO.out g e).1; omega), HBK6.out g h1 h2]
                exact HBK.out g h1 h2
              · exact (HBW6.out.trans (HBB.out.mono (by omega))).setCell (p := ⟨w.heap.size + 3, 6, none⟩) (by show w.heap.size ≤ w.heap.size + 3; omega) _
            case measure => simp [intOf] <;> omega
      · obtain rfl : k = nk := by omega
        rw [List.take_of_length_le (by have := HKL.out; omega)] at hTB
        have hpl : PT.length = k := by have := HPP.out; rw [this]; unfold prtT; split; · simp
                                       · rename_i e; exact HAR.out.resolve_left e
        rw [List.take_of_length_le (by omega)] at hPR
        obtain ⟨ak2, ck2, hsh⟩ := hTB.shape
        rw [HKL.out] at hsh
        subst hsh
        obtain ⟨ap2, cp2, rfl, _⟩ := rd_of_row hPR
        obtain ⟨t0, t1, t2, t3, t4, t5, t6⟩ := open7 hTb
        have gR := (hbk (w.heap.size + 1) (by omega) (by omega)).trans GR.out
        obtain ⟨r0, r1, r2, r3, r4, r5, r6⟩ := open7 gR
        obtain ⟨z0, z1, z2, z3, z4, z5, z6⟩ := frz7 gR
        have hbw0 := Below.next HB0.out hbw
        have hlo := hTB.lt_own
        have hlp := hPR.lt
        have hSW : SlS (fun g => g < w0.heap.size) wr (.slice aw nw cw) ws := fun w2 ha => ⟨aw, cw, by rw [← HWL.out], by
          rw [← HWL.out]; exact HW3.out.blocks fun g hg => (ha g hg).trans (hbw0.block g hg)⟩
        have hTR := RB.thr (an := ak) (nn := k) (cn := ck) (S' := fun g => g < w0.heap.size ∨ (w3.heap.size ≤ g ∧ g < wr.heap.size)) need hTB hSW (by rw [HKL.out, ← HPP.out]; exact SlS.of_row hPR) (fun g hg => (hS' g hg).imp id (fun h => ⟨h, hTB.lt g hg⟩)) (fun g hg => .inl hg) (fun g hg => .inr (hlo g hg)) (fun g hg => .inr (hlp g hg))
        have HTR := Lib.hid hTR
        have HGR := Lib.hid gR
        have HBW := Lib.hid hbw
        clear hTR gR hTB hPR hTb hS' hdis hbk hbw hSW hbw0
        go_wp2_with fail
        clear t0 t1 t2 t3 t4 t5 t6 r0 r1 r2 r3 r4 r5 r6 z0 z1 z2 z3 z4 z5 z6 n4
        generalize hWF : ((((((wr.setCell _ _).setCell _ _).setCell _ _).setCell _ _).setCell _ _).setCell _ _).setCell _ _ = WF
        obtain ⟨q1, q2⟩ := rret_fin (S := fun g => g < w0.heap.size) (w := w) HTR.out (Nat.le_succ _) (fun g hg => ⟨hg.imp id (fun h => ⟨by omega, h.2⟩), by
          rcases hg with hg | hg
          · omega
          · omega⟩) HBW.out HGR.out hWF
        refine bodyPost_ret (v := .agg #[.int .i64 2, .int .i64 0, .int .i64 need, .slice aw nw cw, .slice ak k ck, .slice ak2 k ck2, .slice ap2 k cp2]) ?_ rfl q2
        exact results_cell_row rfl _ _ _ _ _ _ _ rfl q1 Tryz.underlying112 rfl (by kernel_rfl)
theorem tree_c (x : Xpr) (hx : xprE x = 0) (w0 : World) : ∀ f, TeC x w0 f
  | 0 => fun i hi => by omega
  | f + 1 => tree_step x hx w0 f (tree_c x hx w0 f)
end Go.Proofs.YtcojmmhclklpoaaGreatDoor
namespace Go.Proofs.YtcojmmhclklpoaaGreatDoor
open Go.RowKit

/-- all blocks are kept but the row's own -/
structure KG (B : Nat) (v v' : Value) (w w' : World) : Prop where
  bel : Below B w w'
  blk : ∀ k, k < w.heap.size → v.ownBlock ≠ some k → w'.heap[k]? = w.heap[k]?
  own : ∀ g, v'.ownBlock = some g → v.ownBlock = some g ∨ w.heap.size ≤ g
/-- .. but for blocks of the call's own -/
structure KGs (s B : Nat) (v v' : Value) (w w' : World) : Prop where
  bel : Below B w w'
  blk : ∀ k, k < s → v.ownBlock ≠ some k → w'.heap[k]? = w.heap[k]?
  own : ∀ g, v'.ownBlock = some g → v.ownBlock = some g ∨ s ≤ g
theorem KG.of_below {B : Nat} (v : Value) {w w' : World} (hB : B ≤ w.heap.size) (h : Below w.heap.size w w') : KG B v v w w' := ⟨h.mono hB, fun k hk _ => h.block k hk, fun _ e => .inl e⟩
theorem KG.s {s B : Nat} {v v' : Value} {w w' : World} (h : KG B v v' w w') (hs : s ≤ w.heap.size) : KGs s B v v' w w' :=
  ⟨h.bel, fun k hk hv => h.blk k (by omega) hv, fun g hg => (h.own g hg).imp id (fun h1 => by omega)⟩
theorem KGs.k {B : Nat} {v v' : Value} {w w' : World} (h : KGs w.heap.size B v v' w w') : KG B v v' w w' := ⟨h.bel, h.blk, h.own⟩
theorem KGs.trans {s B : Nat} {v v' v'' : Value} {w w' w'' : World} (h : KGs s B v v' w w') (k : KGs s B v' v'' w' w'') : KGs s B v v'' w w'' := by
  refine ⟨h.bel.trans k.bel, fun j hj hv => ?_, fun g hg => ?_⟩
  · rw [k.blk j hj (fun e => ?_), h.blk j hj hv]
    rcases h.own j e with h1 | h1
    · exact hv h1
    · omega
  · rcases k.own g hg with h1 | h1
    · exact h.own g h1
    · exact .inr h1
theorem KG.trans {B : Nat} {v v' v'' : Value} {w w' w'' : World} (h : KG B v v' w w') (k : KG B v' v'' w' w'') : KG B v v'' w w'' := KGs.k ((h.s (Nat.le_refl _)).trans (k.s h.bel.size))

/-- what a call finds -/
structure GrI (w0 : World) (B : Nat) (S : Nat → Prop) (v : Value) (nodes : List Nod) (w : World) : Prop where
  bel : Below w0.heap.size w0 w
  xb : XB S B w v 71 nodes
/-- what it returns -/
def GrO (B : Nat) (S : Nat → Prop) (v : Value) (nodes add : List Nod) (w : World) (e : Ending) (w' : World) : Prop :=
  ∃ v' S', e = .returned v' ∧ XB S' B w' v' 71 (nodes ++ add) ∧ KG B v v' w w' ∧ (∀ g, S g → S' g) ∧ (∀ g, S' g → S g ∨ w.heap.size ≤ g)
theorem GrI.below {w0 : World} {B : Nat} {S : Nat → Prop} {v : Value} {nodes : List Nod} {w W2 : World} (h : GrI w0 B S v nodes w) (hb : Below w.heap.size w W2) (hB : w0.heap.size ≤ w.heap.size) : GrI w0 B S v nodes W2 :=
  ⟨h.bel.trans (hb.mono hB), h.xb.below hb⟩
theorem GrO.pre {B : Nat} {S : Nat → Prop} {v : Value} {nodes add : List Nod} {w W2 w' : World} {e : Ending} (hB : B ≤ w.heap.size) (hb : Below w.heap.size w W2) (h : GrO B S v nodes add W2 e w') : GrO B S v nodes add w e w' := by
  obtain ⟨v', S', h1, h2, h3, h4, h5⟩ := h
  have := hb.size
  exact ⟨v', S', h1, h2, (KG.of_below v hB hb).trans h3, h4, fun g hg => (h5 g hg).imp id (fun h6 => by omega)⟩

/-- on the way: the argument's box lies below s; the node's box N and the rows made since lie from s on; the node's kids are now ids -/
structure GrL (w0 w W2 : World) (B N s : Nat) (S SW : Nat → Prop) (v : Value) (nodes : List Nod) (k0 k1 k2 : Value) (wv : Value) (ws : List Int) (v' kv : Value) (S' : Nat → Prop) (add : List Nod) (ids : List Int) (wr : World) : Prop where
  xb : XB S' B wr v' 71 (nodes ++ add)
  kb : KGs w.heap.size B v v' w wr
  sub : ∀ g, S g → S' g
  new : ∀ g, S' g → S g ∨ s ≤ g
  nb : wr.heap[N]? = some (.cells #[k0, k1, k2, wv, kv] 71 (0, 0))
  loc : ∀ g, w.heap.size ≤ g → g < s → wr.heap[g]? = W2.heap[g]?
  own : ∀ g, v'.ownBlock = some g → v.ownBlock = some g ∨ s ≤ g
  sw : SlS SW wr wv ws
  rk : wr.ownsRow s 3 1 kv ids.length (ids.map (Value.int .i64))
  dw : ∀ g, SW g → g < wr.heap.size ∧ g ≠ N ∧ v'.ownBlock ≠ some g ∧ kv.ownBlock ≠ some g
  nw : ∀ g, SW g → s ≤ g
  dk : ∀ g, kv.ownBlock = some g → ¬ S' g ∧ v'.ownBlock ≠ some g
  dn : w.heap.size ≤ s ∧ s ≤ N
  vn : v'.ownBlock ≠ some N
  kn : kv.ownBlock ≠ some N
section
variable {w0 w W2 : World} {B N s : Nat} {S SW : Nat → Prop} {v : Value} {nodes : List Nod} {k0 k1 k2 : Value} {wv : Value} {ws : List Int} {v' kv : Value} {S' : Nat → Prop} {add : List Nod} {ids : List Int} {wr : World}
theorem GrL.start (hI : GrI w0 B S v nodes w) (hB : B ≤ w.heap.size) {W4 : World} (hb : Below w.heap.size w W4) (nb : W4.heap[N]? = some (.cells #[k0, k1, k2, wv, kv] 71 (0, 0))) (loc : ∀ g, w.heap.size ≤ g → g < s → W4.heap[g]? = W2.heap[g]?) (dn : w.heap.size ≤ s ∧ s ≤ N)
    (hw : W4.ownsRow s 3 1 wv ws.length (ws.map (Value.int .i64))) (hk : W4.ownsRow s 3 1 kv ids.length (ids.map (Value.int .i64))) (hd : ∀ g, wv.ownBlock = some g → kv.ownBlock ≠ some g) (hwN : wv.ownBlock ≠ some N) (hkN : kv.ownBlock ≠ some N) :
    GrL w0 w W2 B N s S (fun g => wv.ownBlock = some g) v nodes k0 k1 k2 wv ws v kv S [] ids W4 := by
  refine ⟨by rw [List.append_nil]; exact hI.xb.below hb, (KG.of_below v hB hb).s (Nat.le_refl _), fun _ h => h, fun _ h => .inl h, nb, loc, fun _ h => .inl h, SlS.of_row hw, hk, fun g hg => ?_, fun g hg => (hw.lt g hg).1, fun g hg => ?_, dn, fun e => by have := (hI.xb.lt_own N e).2; omega, hkN⟩
  · have := hw.lt g hg
    exact ⟨this.2, fun e => hwN (e ▸ hg), fun e => by have := (hI.xb.lt_own g e).2; omega, hd g hg⟩
  · have := hk.lt g hg
    exact ⟨fun hS => by have := hI.xb.lt g hS; omega, fun e => by have := (hI.xb.lt_own g e).2; omega⟩
/-- ready for a call -/
theorem GrL.toI (h : GrL w0 w W2 B N s S SW v nodes k0 k1 k2 wv ws v' kv S' add ids wr) (hI : GrI w0 B S v nodes w) (hB : w0.heap.size ≤ B) : GrI w0 B S' v' (nodes ++ add) wr where
  bel := hI.bel.trans (h.kb.bel.mono hB)
  xb := h.xb
/-- behind a call -/
theorem GrL.call (h : GrL w0 w W2 B N s S SW v nodes k0 k1 k2 wv ws v' kv S' add ids wr) (hI : GrI w0 B S v nodes w) {a2 : List Nod} {e : Ending} {w2 : World} (hO : GrO B S' v' (nodes ++ add) a2 wr e w2) :
    ∃ v'' S'', e = .returned v'' ∧ GrL w0 w W2 B N s S SW v nodes k0 k1 k2 wv ws v'' kv S'' (add ++ a2) ids w2 ∧ wr.heap.size ≤ w2.heap.size := by
  obtain ⟨v'', S'', h1, h2, h3, h4, h5⟩ := hO
  have hN : N < wr.heap.size := (Array.getElem?_eq_some_iff.1 h.nb).1
  have hsz := h3.bel.size
  have hdn := h.dn
  have hloc : ∀ g, w.heap.size ≤ g → g < s → v'.ownBlock ≠ some g := fun g g1 g2 e => by
    rcases h.own _ e with h6 | h6
    · have := (hI.xb.lt_own _ h6).2; omega
    · omega
  refine ⟨v'', S'', h1, ⟨by rw [← List.append_assoc]; exact h2, h.kb.trans (h3.s h.kb.bel.size), fun g hg => h4 g (h.sub g hg), fun g hg => ?_, ?_, fun g g1 g2 => ?_, fun g hg => ?_, h.sw.move (fun g hg => ?_), rowK_at h.rk (fun g hg => ?_), fun g hg => ?_, h.nw, fun g hg => ?_, h.dn, fun e => ?_, h.kn⟩, hsz⟩
  · rcases h5 g hg with h6 | h6
    · exact h.new g h6
    · exact .inr (by omega)
  · rw [h3.blk N hN h.vn]; exact h.nb
  · rw [h3.blk g (by omega) (hloc g g1 g2)]; exact h.loc g g1 g2
  · rcases h3.own g hg with h6 | h6
    · exact h.own g h6
    · exact .inr (by omega)
  · obtain ⟨d1, d2, d3, d4⟩ := h.dw g hg
    exact h3.blk g d1 d3
  · have := (h.rk.lt g hg)
    exact h3.blk g this.2 (h.dk g hg).2
  · obtain ⟨d1, d2, d3, d4⟩ := h.dw g hg
    refine ⟨by omega, d2, fun e => ?_, d4⟩
    rcases h3.own g e with h6 | h6
    · exact d3 h6
    · omega
  · obtain ⟨k1, k2⟩ := h.dk g hg
    have hlt := (h.rk.lt g hg)
    refine ⟨fun hS => ?_, fun e => ?_⟩
    · rcases h5 g hS with h6 | h6
      · exact k1 h6
      · omega
    · rcases h3.own g e with h6 | h6
      · exact k2 h6
      · omega
  · rcases h3.own N e with h6 | h6
    · exact h.vn h6
    · omega
/-- a kid is written in place -/
theorem GrL.kid (h : GrL w0 w W2 B N s S SW v nodes k0 k1 k2 wv ws v' kv S' add ids wr) (hB : B ≤ w.heap.size) {z : Int} {k g0 : Nat} (hg0 : kv.ownBlock = some g0) :
    GrL w0 w W2 B N s S SW v nodes k0 k1 k2 wv ws v' kv S' add (ids.set k z) (wr.setCell ⟨g0, k, none⟩ (.int .i64 z)) := by
  have hdn := h.dn
  have hko := h.rk.lt g0 hg0
  have blk : ∀ g, kv.ownBlock ≠ some g → (wr.setCell ⟨g0, k, none⟩ (.int .i64 z)).heap[g]? = wr.heap[g]? := fun g g2 => Below.heap_setCell _ _ _ _ (by show g ≠ g0; intro e; exact g2 (e ▸ hg0))
  have hss : (wr.setCell ⟨g0, k, none⟩ (.int .i64 z)).heap.size = wr.heap.size := by simp
  have hrow : (wr.setCell ⟨g0, k, none⟩ (.int .i64 z)).ownsRow s 3 1 kv (ids.set k z).length ((ids.set k z).map (Value.int .i64)) := by
    rw [List.length_set, List.map_set]
    have hr := h.rk
    obtain ⟨a9, c9, e9, _⟩ := rd_of_row hr
    subst e9
    rcases hr.2 with ⟨h3, _⟩ | ⟨g, cap, cur', h3, _⟩
    · rw [h3] at hg0; cases hg0
    · injection h3 with h4 h5 h6
      subst h4
      have e7 : g = g0 := by simpa [Value.ownBlock] using hg0
      subst e7
      exact (World.ownsRow.stored hr k (.int .i64 z)).1
  refine ⟨h.xb.move (fun g hg' => blk g fun e => (h.dk g e).1 hg') (fun g hg' => blk g fun e => (h.dk g e).2 hg') (by omega), h.kb.trans ⟨?_, fun g g1 g2 => ?_, fun _ e => .inl e⟩, h.sub, h.new, ?_, fun g g1 g2 => ?_, h.own, h.sw.move (fun g hg' => ?_), hrow, fun g hg' => ?_, h.nw, h.dk, h.dn, h.vn, h.kn⟩
  · exact (Below.refl _ _).setCell (p := ⟨g0, k, none⟩) (by show B ≤ g0; omega) _
  · exact blk g fun e => by have := (h.rk.lt g e).1; omega
  · rw [blk N h.kn]; exact h.nb
  · rw [blk g fun e => by have := (h.rk.lt g e).1; omega]; exact h.loc g g1 g2
  · exact blk g (h.dw g hg').2.2.2
  · obtain ⟨d1, d2, d3, d4⟩ := h.dw g hg'
    exact ⟨by omega, d2, d3, d4⟩
/-- the node is written -/
theorem GrL.fin {k sv nn : Int} (h : GrL w0 w W2 B N s S SW v nodes (.int .i64 k) (.int .i64 sv) (.int .i64 nn) wv ws v' kv S' add ids wr) {V : List NodV} (hV : V.length = (nodes ++ add).length) (h3 : ∀ (i : Nat) p nd, V[i]? = some p → (nodes ++ add)[i]? = some nd → NodS S' wr p nd) (hI : GrI w0 B S v nodes w) (hB : B ≤ w.heap.size) (hs : s ≤ wr.heap.size)
    {x : World} {u : Value} {y : World} (hb : Below wr.heap.size wr x) (hg : x.grownBy y v'.ownBlock) (ho : y.ownsRow B 71 5 u ((nodes ++ add).length + 1) (V.flatMap nodVC ++ nodVC (⟨k, sv, nn, wv, kv⟩ : NodV))) (hv : ∀ g, u.ownBlock = some g → v'.ownBlock = some g ∨ wr.heap.size ≤ g) (hsz : x.heap.size ≤ y.heap.size) {e : Ending} (he : e = .returned u) :
    GrO B S v nodes (add ++ [(⟨k, sv, nn, ws, ids⟩ : Nod)]) w e y := by
  have hx := hb.size
  have hdn := h.dn
  have hvl := h.xb.lt_own
  have hbs := h.kb.bel.size
  let T : Nat → Prop := fun g => S' g ∨ SW g ∨ kv.ownBlock = some g
  have hTlt : ∀ g, T g → g < wr.heap.size := fun g hT => by
    rcases hT with h6 | h6 | h6
    · exact h.xb.lt g h6
    · exact (h.dw g h6).1
    · exact (h.rk.lt g h6).2
  have hTv : ∀ g, v'.ownBlock = some g → ¬ T g := fun g e hT => by
    rcases hT with h6 | h6 | h6
    · exact h.xb.own g e h6
    · exact (h.dw g h6).2.2.1 e
    · exact (h.dk g h6).2 e
  have hgx : wr.grownBy y v'.ownBlock := by
    exact ⟨hg.os.trans hb.os, hg.tape.trans hb.tape, hg.output.trans hb.output, by omega, fun g g1 g2 => (hg.block g (by omega) g2).trans (hb.block g g1)⟩
  have hp : NodS T wr ⟨k, sv, nn, wv, kv⟩ ⟨k, sv, nn, ws, ids⟩ := fun w2 ha => by
    obtain ⟨a, c, e1, r1⟩ := h.sw w2 (fun g hg' => ha g (.inr (.inl hg')))
    obtain ⟨a', c', e2, r2⟩ := row_alone h.rk w2 (fun g hg' => ha g (.inr (.inr hg')))
    exact ⟨rfl, rfl, rfl, ⟨a, _, c, e1, r1⟩, ⟨a', _, c', e2, r2⟩⟩
  have hxy : XB T B y u 71 ((nodes ++ add) ++ [(⟨k, sv, nn, ws, ids⟩ : Nod)]) :=
    XB.push (S := T) (p := ⟨k, sv, nn, wv, kv⟩) hV (fun i p nd hp hn => (h3 i p nd hp hn).mono fun g hg' => .inl hg') hTlt hTv ho hp hgx hv (by omega)
  refine ⟨u, T, he, by rw [← List.append_assoc]; exact hxy, ⟨?_, fun g g1 g2 => ?_, fun g e => ?_⟩, fun g hg' => .inl (h.sub g hg'), fun g hT => ?_⟩
  · exact (h.kb.bel.trans (hb.mono (by omega))).grown hg (by omega) (fun g hg' => (hvl g hg').1)
  · rw [hgx.block g (by omega) (fun e => ?_)]
    · exact h.kb.blk g g1 g2
    · rcases h.own g e.symm with h6 | h6
      · exact g2 h6
      · omega
  · rcases hv g e with h6 | h6
    · rcases h.own g h6 with h7 | h7
      · exact .inl h7
      · exact .inr (by omega)
    · exact .inr (by omega)
  · rcases hT with h6 | h6 | h6
    · rcases h.new g h6 with h7 | h7
      · exact .inl h7
      · exact .inr (by omega)
    · exact .inr (by have := h.nw g h6; omega)
    · exact .inr (by have := (h.rk.lt _ h6).1; omega)
end
end Go.Proofs.YtcojmmhclklpoaaGreatDoor
namespace Go.Proofs.YtcojmmhclklpoaaGreatDoor
open Go.RowKit Go.Shelf

set_option maxRecDepth 100000 in
set_option maxHeartbeats 2000000 in
theorem copied_c (kd sv nd : Int) (ws ks : List Int) (aw : Option Addr) (nw cw : Nat) (ak : Option Addr) (nk ck : Nat) (w : World) (h1 : Rd w aw nw cw (ws.map (Value.int .i64))) (h2 : Rd w ak nk ck (ks.map (Value.int .i64))) (hw : nw ≤ 1000000) (hk : nk ≤ 1000000) :
    Calls Tryz.prog 51 #[.agg #[.int .i64 kd, .int .i64 sv, .int .i64 nd, .slice aw nw cw, .slice ak nk ck]] w fun e w' => ∃ wv kv, e = .returned (.agg #[.int .i64 kd, .int .i64 sv, .int .i64 nd, wv, kv]) ∧ w'.ownsRow w.heap.size 3 1 wv nw (ws.map (Value.int .i64)) ∧ w'.ownsRow w.heap.size 3 1 kv nk (ks.map (Value.int .i64)) ∧ (∀ g, wv.ownBlock = some g → kv.ownBlock ≠ some g) ∧ Below w.heap.size w w' := by
  have H1 := Lib.hid h1
  have H2 := Lib.hid h2
  have hn1 := h1.len
  have hn2 := h2.len
  rw [List.length_map] at hn1 hn2
  have HN1 := Lib.hid hn1
  have HN2 := Lib.hid hn2
  clear h1 h2 hn1 hn2
  go_enter Tryz.func51, Tryz.ntmps51
  go_upto_region 1 with fail
  generalize hW2 : (w.alloc _).alloc _ = W2
  obtain ⟨gX, gR, hb2, hs2⟩ := box2' hW2
  have GX := Lib.hid gX
  have GR := Lib.hid gR
  have HB2 := Lib.hid hb2
  have HS2 := Lib.hid hs2
  obtain ⟨n0, n1, n2, n3, n4⟩ := open5 gX
  have n3 : ∀ ob, (W2.alloc ob).cell? ⟨w.heap.size, 3, none⟩ = some (.slice aw nw cw) := fun ob => (World.cell?_alloc_lt _ _ _ (cell_lt n3)).trans n3
  clear hW2 gX gR hb2 hs2 n0 n1 n2 n4
  go_upto_region 2 with (at_builtin; go_must (refine wpList_apps _ _ 69 8 (.int .i64 0) _ _ _ (ws.map (Value.int .i64)) Tryz.underlying69 Tryz.infoInt rfl (World.ownsRow_made W2 #[] 0 (Nat.le_refl _) (Nat.zero_le _) rfl) ((Below.refl _ W2).alloc (Nat.le_refl _) _) (Nat.le_refl _) (H1.out.below (HB2.out.alloc (by have := HS2.out; omega) _)) (by intro u hu; obtain ⟨_, _, rfl⟩ := List.mem_map.1 hu; rfl) rfl rfl rfl rfl (by unfold maxLen; simp; omega) (by simp; omega) ?_))
  intro v1 w1 hown1 hb1 _
  obtain ⟨a1, c1, rfl, _⟩ := rd_of_row hown1
  have gX1 := heap_below hb1 GX.out
  obtain ⟨m0, m1, m2, m3, m4⟩ := open5 gX1
  obtain ⟨z0, z1, z2, z3, z4⟩ := frz5 gX1
  have GX1 := Lib.hid gX1
  have HO1 := Lib.hid hown1
  have HB1 := Lib.hid hb1
  clear gX1 hown1 hb1 n3
  go_upto_region 2 with fail
  generalize hW3 : w1.setCell _ _ = W3
  have gX3 : W3.heap[w.heap.size]? = some (.cells #[.int .i64 kd, .int .i64 sv, .int .i64 nd, .slice a1 nw c1, .slice ak nk ck] 71 (0, 0)) := by rw [← hW3]; exact heap_set_at GX1.out 3 _
  have hk3 : ∀ g, g ≠ w.heap.size → W3.heap[g]? = w1.heap[g]? := fun g hg => by rw [← hW3]; exact Below.heap_setCell _ _ _ _ (by exact hg)
  have hs3 : W3.heap.size = w1.heap.size := by rw [← hW3]; simp
  have hs1 := HB1.out.size
  have hs2 := HS2.out
  have gR3 : W3.heap[w.heap.size + 1]? = some (.cells #[.int .i64 0, .int .i64 0, .int .i64 0, .slice none 0 0, .slice none 0 0] 71 (0, 0)) := by rw [hk3 _ (by omega)]; exact heap_below HB1.out GR.out
  have hb3 : Below w.heap.size w W3 := by
    rw [← hW3]
    exact (HB2.out.trans (HB1.out.mono (by omega))).setCell (p := ⟨w.heap.size, 3, none⟩) (Nat.le_refl _) _
  have ho3 : W3.ownsRow W2.heap.size 3 1 (.slice a1 nw c1) nw (ws.map (Value.int .i64)) := rowK_at HO1.out fun g hg => hk3 g (by have := (HO1.out.lt g hg).1; omega)
  obtain ⟨m0, m1, m2, m3, m4⟩ := open5 gX3
  have m4 : ∀ ob, (W3.alloc ob).cell? ⟨w.heap.size, 4, none⟩ = some (.slice ak nk ck) := fun ob => (World.cell?_alloc_lt _ _ _ (cell_lt m4)).trans m4
  have GX3 := Lib.hid gX3
  have GR3 := Lib.hid gR3
  have HB3 := Lib.hid hb3
  have HO3 := Lib.hid ho3
  have HS3 := Lib.hid (show w.heap.size + 2 ≤ W3.heap.size by omega)
  have HW23 := Lib.hid (show w.heap.size + 2 ≤ W2.heap.size by omega)
  clear hW3 gX3 hk3 hs3 hs1 hs2 gR3 hb3 ho3 z0 z1 z2 z3 z4 GX1 HO1 HB1 H1
  go_upto_region 3 with (at_builtin; go_must (refine wpList_apps _ _ 69 8 (.int .i64 0) _ _ _ (ks.map (Value.int .i64)) Tryz.underlying69 Tryz.infoInt rfl (World.ownsRow_made W3 #[] 0 (Nat.le_refl _) (Nat.zero_le _) rfl) ((Below.refl _ W3).alloc (Nat.le_refl _) _) (Nat.le_refl _) (H2.out.below (HB3.out.alloc (by have := HS3.out; omega) _)) (by intro u hu; obtain ⟨_, _, rfl⟩ := List.mem_map.1 hu; rfl) rfl rfl rfl rfl (by unfold maxLen; simp; omega) (by simp; omega) ?_))
  intro v5 w5 hown5 hb5 _
  obtain ⟨a5, c5, rfl, _⟩ := rd_of_row hown5
  have gX5 := heap_below hb5 GX3.out
  have gR5 := heap_below hb5 GR3.out
  obtain ⟨q0, q1, q2, q3, q4⟩ := open5 gX5
  obtain ⟨z0, z1, z2, z3, z4⟩ := frz5 gX5
  obtain ⟨o0, o1, o2, o3, o4⟩ := open5 gR5
  obtain ⟨y0, y1, y2, y3, y4⟩ := frz5 gR5
  have GX5 := Lib.hid gX5
  have GR5 := Lib.hid gR5
  have HO5 := Lib.hid hown5
  have HB5 := Lib.hid hb5
  clear gX5 gR5 hown5 hb5
  go_wp2_with fail
  generalize hWF : (((((w5.setCell _ _).setCell _ _).setCell _ _).setCell _ _).setCell _ _).setCell _ _ = WF
  have hs5 := HB5.out.size
  have hs3 := HS3.out
  have hs23 := HW23.out
  have e9 : WF.heap[w.heap.size + 1]? = some (.cells #[.int .i64 kd, .int .i64 sv, .int .i64 nd, .slice a1 nw c1, .slice a5 nk c5] 71 (0, 0)) := by
    rw [← hWF]
    exact heap_set_at (heap_set_at (heap_set_at (heap_set_at (heap_set_at (heap_set_other (by omega) _ _ GR5.out) 0 _) 1 _) 2 _) 3 _) 4 _
  have hkF : ∀ g, w.heap.size + 2 ≤ g → WF.heap[g]? = w5.heap[g]? := fun g hg => by
    rw [← hWF, Below.heap_setCell _ _ _ _ (by show g ≠ w.heap.size + 1; omega), Below.heap_setCell _ _ _ _ (by show g ≠ w.heap.size + 1; omega), Below.heap_setCell _ _ _ _ (by show g ≠ w.heap.size + 1; omega), Below.heap_setCell _ _ _ _ (by show g ≠ w.heap.size + 1; omega), Below.heap_setCell _ _ _ _ (by show g ≠ w.heap.size + 1; omega), Below.heap_setCell _ _ _ _ (by show g ≠ w.heap.size; omega)]
  have hbF : Below w.heap.size w WF := by
    rw [← hWF]
    exact ((((((HB3.out.trans (HB5.out.mono (by omega))).setCell (p := ⟨w.heap.size, 4, none⟩) (Nat.le_refl _) _).setCell (p := ⟨w.heap.size + 1, 0, none⟩) (Nat.le_succ _) _).setCell (p := ⟨w.heap.size + 1, 1, none⟩) (Nat.le_succ _) _).setCell (p := ⟨w.heap.size + 1, 2, none⟩) (Nat.le_succ _) _).setCell (p := ⟨w.heap.size + 1, 3, none⟩) (Nat.le_succ _) _).setCell (p := ⟨w.heap.size + 1, 4, none⟩) (Nat.le_succ _) _
  have hwF : WF.ownsRow w.heap.size 3 1 (.slice a1 nw c1) nw (ws.map (Value.int .i64)) := rowK_mono (rowK_at (rowK_below HO3.out HB5.out) fun g hg => hkF g (by have := (HO3.out.lt g hg).1; omega)) (by omega)
  have hkr : WF.ownsRow w.heap.size 3 1 (.slice a5 nk c5) nk (ks.map (Value.int .i64)) := rowK_mono (rowK_at HO5.out fun g hg => hkF g (by have := (HO5.out.lt g hg).1; omega)) (by omega)
  have hdj : ∀ g, (Value.slice a1 nw c1).ownBlock = some g → (Value.slice a5 nk c5).ownBlock ≠ some g := fun g h1 h2 => by
    have := (HO3.out.lt g h1).2; have := (HO5.out.lt g h2).1; omega
  refine bodyPost_ret (v := .agg #[.int .i64 kd, .int .i64 sv, .int .i64 nd, .slice a1 nw c1, .slice a5 nk c5]) ?_ rfl ⟨_, _, rfl, hwF, hkr, hdj, hbF⟩
  exact results_cell_row rfl _ _ _ _ _ _ _ rfl e9 Tryz.underlying71 rfl (by kernel_rfl)
end Go.Proofs.YtcojmmhclklpoaaGreatDoor
namespace Go.Proofs.YtcojmmhclklpoaaGreatDoor
open Go.RowKit Go.Shelf

theorem kid_set {l r : List Int} {k : Nat} {y : Int} (z : Int) (hl : l.length = k) (h : r[k]? = some y) : (l ++ r.drop k)[k]? = some y ∧ (l ++ r.drop k).set k z = (l ++ [z]) ++ r.drop (k + 1) := by
  have hk := (List.getElem?_eq_some_iff.1 h).1
  rw [List.drop_eq_getElem_cons hk]
  refine ⟨?_, ?_⟩
  · rw [List.getElem?_append_right (by omega), hl, Nat.sub_self, List.getElem?_cons_zero, ← h, List.getElem?_eq_getElem hk]
  · rw [List.set_append_right _ _ (by omega), hl, Nat.sub_self, List.set_cons_zero, List.append_assoc]; rfl

/-- three blocks are the same -/
def Eq3 (w u : World) (a b c : Nat) : Prop := u.heap[a]? = w.heap[a]? ∧ u.heap[b]? = w.heap[b]? ∧ u.heap[c]? = w.heap[c]?

def GrC (x : Xpr) (ys : List Xpr) (w0 : World) (f : Nat) : Prop :=
  ∀ (a : Option Addr) (n c : Nat) (la : Option Addr) (ln lc : Nat), XM w0 a n c x.nodes → LM w0 la ln lc ys → ∀ (i : Nat), i < f → i < x.nodes.length → ∀ (w : World) (S : Nat → Prop) (v : Value) (nodes : List Nod), GrI w0 w0.heap.size S v nodes w → nodes.length + (treF x.nodes (subL ys) f i).sz ≤ 1000 →
    Calls Tryz.prog 60 #[v, .agg #[.slice a n c, .int .i64 x.root], .int .i64 i, .slice la ln lc] w fun e w' => GrO w0.heap.size S v nodes ((treF x.nodes (subL ys) f i).post nodes.length) w e w'

set_option maxRecDepth 100000 in
set_option maxHeartbeats 8000000 in
theorem grow_step (x : Xpr) (hx : xprE x = 0) (ys : List Xpr) (hys : ∀ y ∈ ys, xprE y = 0) (w0 : World) (hrec : ∀ y ∈ ys, GrC y [] w0 (y.root.toNat + 1)) (f : Nat) (ih : GrC x ys w0 f) : GrC x ys w0 (f + 1) := by
  intro a n c la ln lc h1 h2 i hif hil w S v nodes hI hsz
  obtain ⟨nd, hnd⟩ : ∃ nd, x.nodes[i]? = some nd := ⟨_, List.getElem?_eq_getElem hil⟩
  have ok := (xprE_ok hx).node i nd hnd
  have hl := h1.len
  obtain ⟨b, o, ha, hat⟩ := h1.at' (by omega)
  have hM := hat i nd hnd
  obtain ⟨aw, nw, cw, m3, rw3⟩ := hM.ws
  obtain ⟨ak, nk, ck, m4, rk4⟩ := hM.ks
  have m0 := cell_keep hI.bel hM.c0
  have m1 := cell_keep hI.bel hM.c1
  have m2 := cell_keep hI.bel hM.c2
  have m3 := cell_keep hI.bel m3
  have m4 := cell_keep hI.bel m4
  have hbl : b < w.heap.size := cell_lt m0
  have m0 : ∀ ob, (w.alloc ob).cell? ⟨b, o + i * 5, none⟩ = some (.int .i64 nd.kind) := fun ob => (World.cell?_alloc_lt _ _ _ hbl).trans m0
  have m1 : ∀ ob, (w.alloc ob).cell? ⟨b, o + i * 5 + 1, none⟩ = some (.int .i64 nd.server) := fun ob => (World.cell?_alloc_lt _ _ _ hbl).trans m1
  have m2 : ∀ ob, (w.alloc ob).cell? ⟨b, o + i * 5 + 2, none⟩ = some (.int .i64 nd.need) := fun ob => (World.cell?_alloc_lt _ _ _ hbl).trans m2
  have m3 : ∀ ob, (w.alloc ob).cell? ⟨b, o + i * 5 + 3, none⟩ = some (.slice aw nw cw) := fun ob => (World.cell?_alloc_lt _ _ _ hbl).trans m3
  have m4 : ∀ ob, (w.alloc ob).cell? ⟨b, o + i * 5 + 4, none⟩ = some (.slice ak nk ck) := fun ob => (World.cell?_alloc_lt _ _ _ hbl).trans m4
  have hH1 := Lib.hid h1
  have hH2 := Lib.hid h2
  have HI := Lib.hid hI
  have hln := h2.len
  have hwl := rw3.len
  have hkl := rk4.len
  rw [List.length_map] at hwl hkl
  have hBw : w0.heap.size ≤ w.heap.size := hI.bel.size
  have hbi : decide ((i : Int) < (n : Int)) = true := decide_eq_true (by omega)
  have hin : i < n := by omega
  by_cases hsub : nd.kind = 1 ∧ nd.server < (ln : Int)
  · obtain ⟨hk1, hsv⟩ := hsub
    obtain ⟨-, hwn, hkn⟩ := ok.leaf hk1
    rw [hwn] at hwl
    rw [hkn] at hkl
    have HCP := Lib.hid (fun u (hu : Below w.heap.size w u) => copied_c nd.kind nd.server nd.need nd.weights nd.kids aw nw cw ak nk ck u ((rw3.below hI.bel).below hu) ((rk4.below hI.bel).below hu) (by simp at hwl; omega) (by simp at hkl; omega))
    obtain ⟨sn, hsn⟩ := Int.eq_ofNat_of_zero_le ok.server.1
    obtain ⟨y, hy⟩ : ∃ y, ys[sn]? = some y := ⟨_, List.getElem?_eq_getElem (by omega)⟩
    have hym := List.mem_of_getElem? hy
    have yok := xprE_ok (hys y hym)
    have hT : treF x.nodes (subL ys) (f + 1) i = treX y := treF_sub _ f i nd hnd hk1 (by rw [hsn, Int.toNat_natCast]; unfold subL; rw [hy]; rfl)
    obtain ⟨b2, o2, ha2, hc2⟩ := h2.at' (by omega)
    obtain ⟨a3, n3, c3, y0, hxm, y1⟩ := hc2 sn y hy
    have y0 := cell_keep hI.bel y0
    have y1 := cell_keep hI.bel y1
    rw [hT] at hsz ⊢
    obtain ⟨kind, server, need, ws, ks⟩ := nd
    simp only at m0 m1 m2 m3 rw3 m4 rk4 hwl hkl hk1 hsv hsn HCP
    subst hk1 hsn
    have hroot := yok.root
    have hr0 : ((y.root.toNat : Nat) : Int) = y.root := Int.toNat_of_nonneg hroot.1
    have HR : Hid (∀ W2 : World, Below w.heap.size w W2 → Calls Tryz.prog 60 #[v, .agg #[.slice a3 n3 c3, .int .i64 y.root], .int .i64 y.root, .slice none 0 0] W2 fun e w' => GrO w0.heap.size S v nodes ((treX y).post nodes.length) W2 e w') := Lib.hid (fun W2 hb => by
      have := hrec y hym a3 n3 c3 none 0 0 hxm (LM.none_ _) y.root.toNat (Nat.lt_succ_self _) (by omega) W2 S v nodes (hI.below hb hI.bel.size) hsz
      rw [hr0] at this
      exact this)
    have HVL : Hid (∀ g, v.ownBlock = some g → g < w.heap.size) := Lib.hid (fun g hg => (hI.xb.lt_own g hg).2)
    have hb2B : b2 < w0.heap.size := cell_lt (hc2 sn y hy).choose_spec.choose_spec.choose_spec.1
    subst ha ha2
    have e2 : decide ((sn : Int) < (ln : Int)) = true := decide_eq_true hsv
    have hsln : sn < ln := by omega
    clear hwl hkl hln hl rw3 rk4 ok hM hat hnd h1 h2 hI hrec hys hym yok hc2 hxm hroot hr0 hT hsz ih hy hsv HI hH1 hH2
    go_enter Tryz.func60, Tryz.ntmps60
    go_wp2_with fail
    generalize hW1 : w.alloc _ = W1
    have hb1 : Below w.heap.size w W1 := by rw [← hW1]; exact (Below.refl _ _).alloc (Nat.le_refl _) _
    have HB1 := Lib.hid hb1
    have hs1 : W1.heap.size = w.heap.size + 1 := by rw [← hW1]; simp
    clear hW1 m0 m1 m2 m3 m4
    with_reducible refine (HCP.out W1 hb1).mono ?_
    rintro e w3 ⟨wv, kv, rfl, hrw, hrk, hdj, hb3⟩
    have hs3 := hb3.size
    have HB3 := Lib.hid (hb1.trans (hb3.mono (by omega)))
    obtain ⟨aw2, cw2, rfl, _⟩ := rd_of_row hrw
    obtain ⟨ak2, ck2, rfl, _⟩ := rd_of_row hrk
    clear hrw hrk hdj hb3 hb1 HCP
    go_upto_region 3 with fail
    generalize hW4 : w3.alloc _ = W4
    have gN : W4.heap[w3.heap.size]? = some (.cells #[.int .i64 1, .int .i64 (sn : Int), .int .i64 need, .slice aw2 nw cw2, .slice ak2 nk ck2] 71 (0, 0)) := by rw [← hW4]; exact heap_alloc_new _ _
    have hb4 : Below w.heap.size w W4 := by rw [← hW4]; exact HB3.out.alloc (by omega) _
    have hs4 : W4.heap.size = w3.heap.size + 1 := by rw [← hW4]; simp
    have k1 := cell_of_row _ _ 1 _ _ _ gN
    have k2 := cell_keep hb4 y0
    have k3 := cell_keep hb4 y1
    have HB4 := Lib.hid hb4
    clear hW4 gN hb4 y0 y1
    refine wp_region_noPanic ?_
    refine wp_region_takes (fun u => u.cell? ⟨w3.heap.size, 1, none⟩ = some (.int .i64 (sn : Int)) ∧ u.cell? ⟨b2, o2 + sn * 2, none⟩ = some (.slice a3 n3 c3) ∧ u.cell? ⟨b2, o2 + sn * 2 + 1, none⟩ = some (.int .i64 y.root)) [0, 1, 2, 3, 4, 5, 6, 7, 8, 9, 10, 11] 2 (by kernel_rfl) (by kernel_rfl) (by kernel_rfl) (fun _ _ _ _ _ h => h) ⟨k1, k2, k3⟩ ?_
    repeat (refine wpTk_cons rfl (fun K hK => ?_); go_simp; apply Exists.intro; refine ⟨fun u q1 q2 q3 => ?_, hK _ ?_⟩; (first | exact rfl | (go_simp; done) | (go_simp; exact rfl)); clear hK K)
    refine wpTk_nil ?_
    refine held_ready (rs := [12]) (by kernel_rfl) (by simp) ?_
    refine AllReadyH.cons rfl (fun K hK => ?_) AllReadyH.nil
    go_simp
    with_reducible refine (HR.out _ (below_drew HB4.out)).mono ?_
    rintro e w5 hO
    obtain ⟨v', S', rfl, hxb, hkb, hS1, hS2⟩ := id hO
    have HO := Lib.hid (hO.pre hBw (below_drew HB4.out))
    have j1 : w5.cell? ⟨w3.heap.size, 1, none⟩ = some (.int .i64 (sn : Int)) := by
      rw [World.cell?_of_block (w := W4) (w' := w5) (a := ⟨w3.heap.size, 1, none⟩) (hkb.blk _ (by show w3.heap.size < W4.heap.size; omega) (fun e => by have := HVL.out _ e; simp at this; omega))]
      exact k1
    have j2 : w5.cell? ⟨b2, o2 + sn * 2, none⟩ = some (.slice a3 n3 c3) := by
      rw [World.cell?_of_block (w := W4) (w' := w5) (a := ⟨b2, o2 + sn * 2, none⟩) (hkb.bel.block _ hb2B)]; exact k2
    have j3 : w5.cell? ⟨b2, o2 + sn * 2 + 1, none⟩ = some (.int .i64 y.root) := by
      rw [World.cell?_of_block (w := W4) (w' := w5) (a := ⟨b2, o2 + sn * 2 + 1, none⟩) (hkb.bel.block _ hb2B)]; exact k3
    clear hO hkb hxb hS1 hS2
    go_simp
    refine hK.out _ _ ⟨j1, j2, j3⟩ (fun hh => ?_)
    clear hh hK K k1 k2 k3
    try simp only [Act.put, List.setIfInBounds_toArray, List.set_cons_zero, List.set_cons_succ]
    refine held_takes (f := 0) (by kernel_rfl) (fun _ _ _ _ _ h => h) ⟨j1, j2, j3⟩ [13] _ _ (by kernel_rfl) ?_
    clear j1 j2 j3
    repeat (refine wpTk_cons rfl (fun K hK => ?_); go_simp; apply Exists.intro; refine ⟨fun u q1 q2 q3 => ?_, hK _ ?_⟩; (first | exact rfl | (go_simp; done) | (go_simp; exact rfl)); clear hK K)
    refine wpTk_nil ?_
    refine wpAnyH_done (by kernel_rfl) (NoPanic.normal ?_) _
    go_wp2_with fail
    go_ret
    exact HO.out
  · have hnone : nd.kind = 1 → subL ys nd.server.toNat = none := fun hk => by
      have h5 : ¬ nd.server < (ln : Int) := fun h => hsub ⟨hk, h⟩
      have := ok.server
      unfold subL
      rw [List.getElem?_eq_none (by omega)]; rfl
    have hplain := treF_plain hx (subL ys) f i nd hnd hnone nodes.length
    obtain ⟨kind, server, need, ws, ks⟩ := nd
    simp only at m0 m1 m2 m3 rw3 m4 rk4 hwl hkl hsub hplain
    obtain ⟨KT, hKT⟩ : ∃ KT, KT = kidT x.nodes (subL ys) f ks := ⟨_, rfl⟩
    have hKl : KT.length = nk := by rw [hKT, kidT_len]; exact hkl.symm
    have hKz := ETs.sz_ge KT
    rw [← hKT] at hplain
    rw [hplain.2] at hsz
    have hnw : nw ≤ 1000 := by rcases ok.arity with h5 | h5 <;> simp only at h5
                               · rw [h5] at hwl; simp at hwl; omega
                               · omega
    have hsel : ((kind == 1) = true ∧ decide (server < (ln : Int)) = false) ∨ (kind == 1) = false := by
      by_cases hk : kind = 1
      · exact .inl ⟨by simp [hk], decide_eq_false fun h => hsub ⟨hk, h⟩⟩
      · exact .inr (by simpa using hk)
    have HPL := Lib.hid hplain
    have hnk : nk ≤ 1000 := by omega
    have HCP := Lib.hid (fun u (hu : Below w.heap.size w u) => copied_c kind server need ws ks aw nw cw ak nk ck u ((rw3.below hI.bel).below hu) ((rk4.below hI.bel).below hu) (by omega) (by omega))
    have HWL := Lib.hid hwl
    have HKL := Lib.hid hkl
    have HLN := Lib.hid hln
    have HHL := Lib.hid hl
    have HKT := Lib.hid hKT
    subst ha
    have hkr : ∀ z ∈ ks, 0 ≤ z ∧ z < (i : Int) := ok.kids
    have HKR := Lib.hid hkr
    have HKs := Lib.hid hKl
    have HSZ := Lib.hid hsz
    clear hkr hKl hsz hKz hwl hkl hln hl hplain hKT rw3 rk4 ok hM hat hnd h1 h2 hI hrec hys
    rcases hsel with ⟨e1, e2⟩ | e1
    all_goals
      go_enter Tryz.func60, Tryz.ntmps60
      go_wp2_with fail
      generalize hW1 : w.alloc _ = W1
      have gX : W1.heap[w.heap.size]? = some (.cells #[.slice (some ⟨b, o, none⟩) n c, .int .i64 x.root] 32 (0, 0)) := by rw [← hW1]; exact heap_alloc_new _ _
      have hb1 : Below w.heap.size w W1 := by rw [← hW1]; exact (Below.refl _ _).alloc (Nat.le_refl _) _
      have hs1 : W1.heap.size = w.heap.size + 1 := by rw [← hW1]; simp
      clear hW1 m0 m1 m2 m3 m4
      with_reducible refine (HCP.out W1 hb1).mono ?_
      rintro e w3 ⟨wv, kv, rfl, hrw, hrk, hdj, hb3⟩
      obtain ⟨W4, hW4⟩ : ∃ W4, W4 = w3.alloc (.cells #[.int .i64 kind, .int .i64 server, .int .i64 need, wv, kv] 71) := ⟨_, rfl⟩
      have gN : W4.heap[w3.heap.size]? = some (.cells #[.int .i64 kind, .int .i64 server, .int .i64 need, wv, kv] 71 (0, 0)) := by rw [hW4]; exact heap_alloc_new _ _
      have hb4 : Below w3.heap.size w3 W4 := by rw [hW4]; exact (Below.refl _ _).alloc (Nat.le_refl _) _
      have hs3 := hb3.size
      have hs4 : W4.heap.size = w3.heap.size + 1 := by rw [hW4]; simp
      obtain ⟨aw2, cw2, rfl, _⟩ := rd_of_row hrw
      obtain ⟨ak2, ck2, rfl, _⟩ := rd_of_row hrk
      have hrw4 : W4.ownsRow (w.heap.size + 1) 3 1 (.slice aw2 nw cw2) ws.length (ws.map (Value.int .i64)) := by
        rw [← hs1, ← HWL.out]
        exact rowK_at hrw fun g hg => hb4.block g (hrw.lt g hg).2
      have hrk4 : W4.ownsRow (w.heap.size + 1) 3 1 (.slice ak2 nk ck2) ks.length (ks.map (Value.int .i64)) := by
        rw [← hs1, ← HKL.out]
        exact rowK_at hrk fun g hg => hb4.block g (hrk.lt g hg).2
      have hL0 := GrL.start (W2 := W1) (N := w3.heap.size) (s := w.heap.size + 1) (ids := ks) HI.out hBw (hb1.trans ((hb3.mono (by omega)).trans (hb4.mono (by omega)))) gN (fun g g1 g2 => by rw [hb4.block g (by omega)]; exact hb3.block g (by omega)) ⟨by omega, by omega⟩ hrw4 hrk4 hdj (fun e => by have := (hrw.lt _ e).2; omega) (fun e => by have := (hrk.lt _ e).2; omega)
      have HL0 := Lib.hid hL0
      have GX := Lib.hid gX
      have hs5 : w.heap.size + 1 ≤ W4.heap.size := by omega
      have hs6 : w3.heap.size < W4.heap.size := by omega
      have hs7 : w.heap.size + 1 ≤ w3.heap.size := by omega
      clear gX gN hb4 hb3 hb1 hrw hrk hdj hrw4 hrk4 hL0 HCP hs1 hs3 hs4
      go_wp2_with fail
      rw [← hW4]
      clear hW4
      go_loopw [0, 10] (fun vq q wr => ∃ vv k S', vv = vq ∧ k ≤ nk ∧ q = .int .i64 ((k : Nat) : Int) ∧ GrL w0 w W1 w0.heap.size w3.heap.size (w.heap.size + 1) S (fun g => (Value.slice aw2 nw cw2).ownBlock = some g) v nodes (.int .i64 kind) (.int .i64 server) (.int .i64 need) (.slice aw2 nw cw2) ws vv (.slice ak2 nk ck2) S' (ETs.post (KT.take k) nodes.length) (ETs.idx (KT.take k) nodes.length ++ ks.drop k) wr ∧ w3.heap.size < wr.heap.size) (fun _ q _ => nk - (intOf q).toNat)
      case atStart => exact ⟨v, 0, S, rfl, Nat.zero_le _, rfl, HL0.out, hs6⟩
      case round =>
        obtain ⟨vv, k, S', rfl, hk, rfl, hL, hsr⟩ := hrel
        have hidl : (ETs.idx (KT.take k) nodes.length).length = k := by rw [ETs.idx_len, List.length_take]; have := HKs.out; omega
        by_cases hlt : k < nk
        · obtain ⟨z, hz⟩ : ∃ z, ks[k]? = some z := ⟨_, List.getElem?_eq_getElem (by have := HKL.out; omega)⟩
          have hzr := HKR.out z (List.mem_of_getElem? hz)
          obtain ⟨zn, hzn⟩ := Int.eq_ofNat_of_zero_le hzr.1
          subst hzn
          have hrk := hL.rk
          have hcl : (ETs.idx (KT.take k) nodes.length ++ ks.drop k).length = nk := by rw [List.length_append, List.length_drop, hidl]; have := HKL.out; omega
          rw [hcl] at hrk
          obtain ⟨mk, hmk⟩ : ∃ mk, nk = mk + 1 := ⟨nk - 1, by omega⟩
          have hrk2 := hrk
          rw [hmk] at hrk2
          obtain ⟨gk, capk, hvk⟩ := ownsRow_succ hrk2
          have hak : ak2 = some ⟨gk, 0, none⟩ := by injection hvk
          have hx0 : (wr.ownsRow (w.heap.size + 1) 3 1 (.slice (some ⟨gk, 0, none⟩) nk ck2) nk ((ETs.idx (KT.take k) nodes.length ++ ks.drop k).map (Value.int .i64))) := by rw [← hak]; exact hrk
          have hcell : ∀ u : World, u.heap[gk]? = wr.heap[gk]? → u.cell? ⟨gk, k, none⟩ = some (.int .i64 zn) := fun u hu => by
            rw [World.cell?_of_block (w := wr) (w' := u) (a := ⟨gk, k, none⟩) hu]
            rw [World.ownsRow.cellAt hx0 k (by omega), List.getElem?_map, (kid_set (y := zn) 0 hidl hz).1]; rfl
          have hgk : w.heap.size + 1 ≤ gk ∧ gk < wr.heap.size := hx0.lt gk rfl
          have hvk2 := (hL.dk gk (by rw [hak]; rfl)).2
          have hT := kidT_take x.nodes (subL ys) f ks k zn hz
          rw [← HKT.out, Int.toNat_natCast] at hT
          have hstep := post_step (KT.take k) (treF x.nodes (subL ys) f zn) nodes.length
          rw [← hT] at hstep
          have hszk := sz_take KT (k + 1)
          have hlen : (nodes ++ ETs.post (KT.take k) nodes.length).length = nodes.length + ETs.sz (KT.take k) := by rw [List.length_append, ETs.post_len]
          have hCall := fun u (hu : Below wr.heap.size wr u) => ih (some ⟨b, o, none⟩) n c la ln lc hH1.out hH2.out zn (by omega) (by have := HHL.out; omega) u S' vv (nodes ++ ETs.post (KT.take k) nodes.length) ((hL.toI HI.out (Nat.le_refl _)).below hu (by have := hL.kb.bel.size; omega)) (by have := HSZ.out; omega)
          rw [hlen] at hCall
          have gx := (hL.loc w.heap.size (Nat.le_refl _) (by omega)).trans GX.out
          have hob := hL.nb
          have p4 := cell_of_row _ _ 4 _ _ _ hob
          subst hak
          have KS : Hid (∀ u : World, Eq3 wr u w.heap.size w3.heap.size gk → u.cell? ⟨w.heap.size, 0, none⟩ = some (.slice (some ⟨b, o, none⟩) n c) ∧ u.cell? ⟨w.heap.size, 1, none⟩ = some (.int .i64 x.root) ∧ u.cell? ⟨w3.heap.size, 4, none⟩ = some (.slice (some ⟨gk, 0, none⟩) nk ck2) ∧ u.cell? ⟨gk, k, none⟩ = some (.int .i64 zn)) := Lib.hid (fun u hu => ⟨cell_of_row _ _ 0 _ _ _ (hu.1.trans gx), cell_of_row _ _ 1 _ _ _ (hu.1.trans gx), cell_of_row _ _ 4 _ _ _ (hu.2.1.trans hob), hcell u hu.2.2⟩)
          have HCALL := Lib.hid hCall
          have HSTEP := Lib.hid hstep
          have HL := Lib.hid hL
          have hvn := hL.vn
          have hvw : vv.ownBlock ≠ some w.heap.size := fun e => by
            rcases hL.own _ e with h6 | h6
            · have := (HI.out.xb.lt_own _ h6).2; omega
            · omega
          clear hCall hstep hL hT hszk hlen hzr hrk hrk2 hx0 hcell gx hob hmk hvk
          go_upto_region 7 with fail
          clear p4
          refine wp_region_noPanic ?_
          refine wp_region_takes (fun u => Eq3 wr u w.heap.size w3.heap.size gk) [0, 1, 2, 3, 4, 5, 6, 7] 2 (by kernel_rfl) (by kernel_rfl) (by kernel_rfl) (fun _ _ _ _ _ h => h) ⟨rfl, rfl, rfl⟩ ?_
          repeat (refine wpTk_cons rfl (fun K hK => ?_); go_simp; apply Exists.intro; refine ⟨fun u u1 => ?_, hK _ ?_⟩; (first | exact rfl | (obtain ⟨q1, q2, q3, q4⟩ := KS.out u u1; go_simp; done) | (obtain ⟨q1, q2, q3, q4⟩ := KS.out u u1; go_simp; exact rfl)); clear hK K)
          refine wpTk_nil ?_
          refine held_ready (rs := [8]) (by kernel_rfl) (by simp) ?_
          refine AllReadyH.cons rfl (fun K hK => ?_) AllReadyH.nil
          go_simp
          with_reducible refine (HCALL.out _ (below_drew (Below.refl _ _))).mono ?_
          rintro e w5 hO
          have hP := hO.pre (by have := HL.out.kb.bel.size; omega) (below_drew (Below.refl _ _))
          have hkb : ∀ g, g < wr.heap.size → vv.ownBlock ≠ some g → w5.heap[g]? = wr.heap[g]? := by
            obtain ⟨_, _, _, _, h9, _⟩ := id hP
            exact h9.blk
          obtain ⟨v5, S5, rfl, hL5, hs5⟩ := HL.out.call HI.out hP
          have hq : Eq3 wr w5 w.heap.size w3.heap.size gk := ⟨hkb _ (by omega) hvw, hkb _ hsr hvn, hkb _ hgk.2 hvk2⟩
          obtain ⟨h51, h52, h53⟩ := HSTEP.out
          rw [← h51] at hL5
          have hRp := (treF x.nodes (subL ys) f zn).sz_pos
          have hl5 : (nodes ++ ETs.post (KT.take (k + 1)) nodes.length).length = (nodes.length + ETs.sz (KT.take k) + (treF x.nodes (subL ys) f zn).sz - 1) + 1 := by rw [List.length_append, ETs.post_len, h53]; omega
          have hszk := sz_take KT (k + 1)
          have hR1 : nodes.length + ETs.sz (KT.take k) + (treF x.nodes (subL ys) f zn).sz - 1 ≤ 1000 := by have := HSZ.out; omega
          generalize (nodes.length + ETs.sz (KT.take k) + (treF x.nodes (subL ys) f zn).sz - 1 : Nat) = R at hl5 h52 hR1
          obtain ⟨a5, c5, hv5, _⟩ := hL5.xb.shape
          rw [hl5] at hv5
          subst hv5
          have hrk5 := hL5.rk
          have hcl : (ETs.idx (KT.take k) nodes.length ++ ks.drop k).length = nk := by rw [List.length_append, List.length_drop, hidl]; have := HKL.out; omega
          rw [hcl] at hrk5
          have t0 : w5.cell? ⟨gk, k, none⟩ = some (.int .i64 zn) := by
            rw [World.ownsRow.cellAt hrk5 k (by omega), List.getElem?_map, (kid_set (y := zn) 0 hidl hz).1]; rfl
          have t1 := World.ownsRow.frozenAt hrk5 k
          have p4 := cell_of_row _ _ 4 _ _ _ hL5.nb
          have HK := Lib.hid (hL5.kid hBw (z := (R : Int)) (k := k) (g0 := gk) rfl)
          rw [(kid_set (y := zn) (R : Int) hidl hz).2, ← h52] at HK
          have hs6 : w3.heap.size < w5.heap.size := by omega
          go_simp
          refine hK.out _ _ hq (fun hh => ?_)
          clear hh hK K
          try simp only [Act.put, List.setIfInBounds_toArray, List.set_cons_zero, List.set_cons_succ]
          refine held_takes (f := 0) (by kernel_rfl) (fun _ _ _ _ _ h => h) hq [9] _ _ (by kernel_rfl) ?_
          clear hq hO hP hkb hL5 h51 h52 h53 hRp hl5 hszk hrk5 hcl HSTEP HCALL HL KS
          repeat (refine wpTk_cons rfl (fun K hK => ?_); go_simp; apply Exists.intro; refine ⟨fun u u1 => ?_, hK _ ?_⟩; (first | exact rfl | (go_simp; done) | (go_simp; exact rfl)); clear hK K)
          refine wpTk_nil ?_
          refine wpAnyH_done (by kernel_rfl) (NoPanic.normal ?_) _
          go_wp2_with fail
          go_roundw
          case rel => exact ⟨_, k + 1, S5, rfl, by omega, by go_num, HK.out, by simpa using hs6⟩
          case measure => simp [intOf] <;> omega
        · have hkn : k = nk := by omega
          subst hkn
          rw [List.take_of_length_le (by have := HKs.out; omega), List.drop_of_length_le (by have := HKL.out; omega), List.append_nil] at hL
          obtain ⟨V, hV1, hV2, hV3⟩ := hL.xb.row
          have hlen : (nodes ++ ETs.post KT nodes.length).length = nodes.length + ETs.sz KT := by rw [List.length_append, ETs.post_len]
          have hn1 : (nodes ++ ETs.post KT nodes.length).length ≤ 1000 := by have := HSZ.out; omega
          obtain ⟨NN, hNN⟩ : ∃ NN, NN = (nodes ++ ETs.post KT nodes.length).length := ⟨_, rfl⟩
          rw [← hNN] at hV2 hn1
          obtain ⟨av, cv, rfl, _⟩ := rdK_of_row hV2
          have HN := Lib.hid hNN
          have HL := Lib.hid hL
          have HV1 := Lib.hid hV1
          have HV3 := Lib.hid hV3
          have n0 := cell_of_row _ _ 0 _ _ _ hL.nb
          have n1 := cell_of_row _ _ 1 _ _ _ hL.nb
          have n2 := cell_of_row _ _ 2 _ _ _ hL.nb
          have n3 := cell_of_row _ _ 3 _ _ _ hL.nb
          have n4 := cell_of_row _ _ 4 _ _ _ hL.nb
          have hBr : w0.heap.size ≤ wr.heap.size := by have := hL.kb.bel.size; omega
          clear hL hV1 hV3 hlen hidl hNN
          go_wp2_with (at_builtin; go_must (refine wpList_appK2 5 _ _ 30 72 (.agg #[.int .i64 0, .int .i64 0, .int .i64 0, .slice none 0 0, .slice none 0 0]) (nodVC ⟨kind, server, need, .slice aw2 nw cw2, .slice ak2 k ck2⟩) _ Tryz.underlying30 Tryz.infoNod rfl (by decide) hV2 (Below.refl w0.heap.size wr) hBr rfl rfl rfl rfl rfl (by intro u hu; unfold nodVC at hu; simp at hu; rcases hu with rfl | rfl | rfl | rfl | rfl <;> rfl) (by unfold maxLen; omega) (by omega) ?_))
          intro v6 w6 hown6 hb6 hg6 hs6 hv6
          go_wp2_with fail
          go_ret
          rw [HPL.out.1]
          exact HL.out.fin HV1.out HV3.out HI.out hBw (by omega) (Below.refl _ _) hg6 (by rw [← HN.out]; exact hown6) hv6 (by omega) rfl
theorem grow_top (x : Xpr) (hx : xprE x = 0) (ys : List Xpr) (hys : ∀ y ∈ ys, xprE y = 0) (w0 : World) (hrec : ∀ y ∈ ys, GrC y [] w0 (y.root.toNat + 1)) : ∀ f, GrC x ys w0 f
  | 0 => fun a n c la ln lc h1 h2 i hi => by omega
  | f + 1 => grow_step x hx ys hys w0 hrec f (grow_top x hx ys hys w0 hrec f)
theorem grow_c (x : Xpr) (hx : xprE x = 0) (ys : List Xpr) (hys : ∀ y ∈ ys, xprE y = 0) (w0 : World) (f : Nat) : GrC x ys w0 f :=
  grow_top x hx ys hys w0 (fun y hy => grow_top y (hys y hy) [] (fun _ h => by cases h) w0 (fun _ h => by cases h) _) f
end Go.Proofs.YtcojmmhclklpoaaGreatDoor
namespace Go.Proofs.YtcojmmhclklpoaaGreatDoor
open Go.RowKit Go.Shelf

section
variable {w0 w W2 : World} {B N s : Nat} {S SW : Nat → Prop} {v : Value} {nodes : List Nod} {k0 k1 k2 : Value} {wv : Value} {ws : List Int} {v' kv : Value} {S' : Nat → Prop} {add : List Nod} {ids : List Int} {wr : World}
theorem GrL.call2 (h : GrL w0 w W2 B N s S SW v nodes k0 k1 k2 wv ws v' kv S' add ids wr) (hI : GrI w0 B S v nodes w) (hSN : ¬ S' N) {a2 : List Nod} {e : Ending} {w2 : World} (hO : GrO B S' v' (nodes ++ add) a2 wr e w2) :
    ∃ v'' S'', e = .returned v'' ∧ GrL w0 w W2 B N s S SW v nodes k0 k1 k2 wv ws v'' kv S'' (add ++ a2) ids w2 ∧ wr.heap.size ≤ w2.heap.size ∧ ¬ S'' N := by
  obtain ⟨v'', S'', h1, h2, h3, h4, h5⟩ := hO
  have hN : N < wr.heap.size := (Array.getElem?_eq_some_iff.1 h.nb).1
  have hsz := h3.bel.size
  have hdn := h.dn
  have hloc : ∀ g, w.heap.size ≤ g → g < s → v'.ownBlock ≠ some g := fun g g1 g2 e => by
    rcases h.own _ e with h6 | h6
    · have := (hI.xb.lt_own _ h6).2; omega
    · omega
  refine ⟨v'', S'', h1, ⟨by rw [← List.append_assoc]; exact h2, h.kb.trans (h3.s h.kb.bel.size), fun g hg => h4 g (h.sub g hg), fun g hg => ?_, ?_, fun g g1 g2 => ?_, fun g hg => ?_, h.sw.move (fun g hg => ?_), rowK_at h.rk (fun g hg => ?_), fun g hg => ?_, h.nw, fun g hg => ?_, h.dn, fun e => ?_, h.kn⟩, hsz, fun hS => (h5 N hS).elim hSN (fun h9 => by omega)⟩
  · rcases h5 g hg with h6 | h6
    · exact h.new g h6
    · exact .inr (by omega)
  · rw [h3.blk N hN h.vn]; exact h.nb
  · rw [h3.blk g (by omega) (hloc g g1 g2)]; exact h.loc g g1 g2
  · rcases h3.own g hg with h6 | h6
    · exact h.own g h6
    · exact .inr (by omega)
  · obtain ⟨d1, d2, d3, d4⟩ := h.dw g hg
    exact h3.blk g d1 d3
  · have := (h.rk.lt g hg)
    exact h3.blk g this.2 (h.dk g hg).2
  · obtain ⟨d1, d2, d3, d4⟩ := h.dw g hg
    refine ⟨by omega, d2, fun e => ?_, d4⟩
    rcases h3.own g e with h6 | h6
    · exact d3 h6
    · omega
  · obtain ⟨k1, k2⟩ := h.dk g hg
    have hlt := (h.rk.lt g hg)
    refine ⟨fun hS => ?_, fun e => ?_⟩
    · rcases h5 g hS with h6 | h6
      · exact k1 h6
      · omega
    · rcases h3.own g e with h6 | h6
      · exact k2 h6
      · omega
  · rcases h3.own N e with h6 | h6
    · exact h.vn h6
    · omega
/-- the row of kids grows, the node's box is written -/
theorem GrL.kidg (h : GrL w0 w W2 B N s S SW v nodes k0 k1 k2 wv ws v' kv S' add ids wr) (hB : B ≤ w.heap.size) (hSN : ¬ S' N) {z : Int} {u : Value} {y : World} (hg : wr.grownBy y kv.ownBlock) (ho : y.ownsRow s 3 1 u (ids.length + 1) (ids.map (Value.int .i64) ++ [.int .i64 z])) (hv : ∀ g, u.ownBlock = some g → kv.ownBlock = some g ∨ wr.heap.size ≤ g) :
    GrL w0 w W2 B N s S SW v nodes k0 k1 k2 wv ws v' u S' add (ids ++ [z]) (y.setCell ⟨N, 4, none⟩ u) := by
  have hdn := h.dn
  have hN : N < wr.heap.size := (Array.getElem?_eq_some_iff.1 h.nb).1
  have hko : ∀ g, kv.ownBlock = some g → s ≤ g ∧ g < wr.heap.size := fun g hg => h.rk.lt g hg
  have hsz := hg.size
  have hvl := h.xb.lt_own
  have blk : ∀ g, g < wr.heap.size → kv.ownBlock ≠ some g → g ≠ N → (y.setCell ⟨N, 4, none⟩ u).heap[g]? = wr.heap[g]? := fun g g1 g2 g3 => by
    rw [Below.heap_setCell _ ⟨N, 4, none⟩ _ g g3, hg.block g g1 (fun e => g2 e.symm)]
  have hnb : y.heap[N]? = some (.cells #[k0, k1, k2, wv, kv] 71 (0, 0)) := by rw [hg.block N hN (fun e => h.kn e.symm)]; exact h.nb
  have huN : u.ownBlock ≠ some N := fun e => by
    rcases hv N e with h6 | h6
    · exact h.kn h6
    · omega
  have hbs := h.kb.bel.size
  have hbel : Below B wr (y.setCell ⟨N, 4, none⟩ u) := (((Below.refl B wr).grown hg (by omega) (fun g hg' => by have := hko g hg'; omega)).setCell (p := ⟨N, 4, none⟩) (by show B ≤ N; omega) _)
  have hrow : (y.setCell ⟨N, 4, none⟩ u).ownsRow s 3 1 u (ids ++ [z]).length ((ids ++ [z]).map (Value.int .i64)) := by
    rw [List.length_append, List.map_append]
    exact rowK_at ho fun g hg' => Below.heap_setCell _ _ _ _ (by show g ≠ N; exact fun e => huN (e ▸ hg'))
  have hss : (y.setCell ⟨N, 4, none⟩ u).heap.size = y.heap.size := by simp
  refine ⟨h.xb.move (fun g hg' => blk g (h.xb.lt g hg') (fun e => (h.dk g e).1 hg') (fun e => hSN (e ▸ hg'))) (fun g hg' => blk g (hvl g hg').2 (fun e => (h.dk g e).2 hg') (fun e => h.vn (e ▸ hg'))) (by omega), h.kb.trans ⟨hbel, fun g g1 g2 => ?_, fun _ e => .inl e⟩, h.sub, h.new, by rw [heap_set_at hnb]; rfl, fun g g1 g2 => ?_, h.own, h.sw.move (fun g hg' => ?_), hrow, fun g hg' => ?_, h.nw, fun g hg' => ?_, h.dn, h.vn, huN⟩
  · exact blk g (by omega) (fun e => by have := hko g e; omega) (by omega)
  · rw [blk g (by omega) (fun e => by have := hko g e; omega) (by omega)]; exact h.loc g g1 g2
  · obtain ⟨d1, d2, d3, d4⟩ := h.dw g hg'
    exact blk g d1 d4 d2
  · obtain ⟨d1, d2, d3, d4⟩ := h.dw g hg'
    refine ⟨by omega, d2, d3, fun e => ?_⟩
    rcases hv g e with h6 | h6
    · exact d4 h6
    · omega
  · rcases hv g hg' with h6 | h6
    · exact h.dk g h6
    · exact ⟨fun hS => by have := h.xb.lt g hS; omega, fun e => by have := (hvl g e).2; omega⟩
end
theorem rowK_base {k B' : Nat} {w : World} {B n : Nat} {e : TypeId} {v : Value} {l : List Value} (h : w.ownsRow B e k v n l) (hb : B' ≤ B) : w.ownsRow B' e k v n l := by
  obtain ⟨h1, h2⟩ := h
  refine ⟨h1, ?_⟩
  rcases h2 with h2 | ⟨g, cap, cur, hv, hb', r⟩
  · exact .inl h2
  · exact .inr ⟨g, cap, cur, hv, by omega, r⟩
/-- a tree in memory, opened -/
theorem RtM.opn {w : World} {p : RtV} {t : ET} (h : RtM w p t) : ∃ (aw : Option Addr) (nw cw : Nat) (an : Option Addr) (nn cn : Nat) (ak : Option Addr) (nk ck : Nat) (ap : Option Addr) (np cp : Nat) (V : List RtV) (ws : List Int), p = ⟨p.kind, p.server, p.need, .slice aw nw cw, .slice an nn cn, .slice ak nk ck, .slice ap np cp⟩ ∧ t.kidsOf.length = nk ∧ V.length = nk ∧ RdK 7 w ak nk ck (V.flatMap rtVC) ∧ (∀ (i : Nat) p s, V[i]? = some p → t.kidsOf[i]? = some s → RtM w p s) ∧ Rd w aw nw cw (ws.map (Value.int .i64)) ∧ (∀ k, t.post k = ETs.post t.kidsOf k ++ [⟨p.kind, p.server, p.need, ws, ETs.idx t.kidsOf k⟩]) ∧ t.sz = ETs.sz t.kidsOf + 1 ∧ (t.ok → (nw = 0 ∨ nw = nk) ∧ ETs.ok t.kidsOf) := by
  cases h with
  | srv s aw cw an nn cn hw =>
    exact ⟨aw, 0, cw, an, nn, cn, none, 0, 0, none, 0, 0, [], [], rfl, rfl, rfl, RdK.none_ _ _, fun i p s hp => by simp at hp, hw, fun k => rfl, rfl, fun _ => ⟨.inl rfl, trivial⟩⟩
  | thr n ws ks aw nw cw an nn cn ak nk ck ap np cp V hw hl hk hp hr =>
    have h1 := hk.len
    rw [flat_len 7 rtVC rtVC_len] at h1
    exact ⟨aw, nw, cw, an, nn, cn, ak, nk, ck, ap, np, cp, V, ws, rfl, by show ks.length = nk; omega, by omega, hk, hr, hw, fun k => rfl, rfl, fun hok => by
      rw [ET.ok] at hok
      have h2 := hw.len
      rw [List.length_map] at h2
      refine ⟨hok.2.2.1.imp (fun e => by rw [h2, e]; rfl) (fun e => by omega), hok.2.2.2⟩⟩

def LiC (w0 : World) (f : Nat) : Prop :=
  ∀ (t : ET), t.sz ≤ f → ∀ (p : RtV), RtM w0 p t → t.ok → ∀ (w : World) (S : Nat → Prop) (v : Value) (nodes : List Nod), GrI w0 w0.heap.size S v nodes w → nodes.length + t.sz ≤ 1000 →
    Calls Tryz.prog 76 #[v, rtA p] w fun e w' => GrO w0.heap.size S v nodes (t.post nodes.length) w e w'

set_option maxRecDepth 100000 in
set_option maxHeartbeats 16000000 in
theorem list_step (w0 : World) (f : Nat) (ih : LiC w0 f) : LiC w0 (f + 1) := by
  intro t htf p h hok w S v nodes hI hsz
  obtain ⟨aw, nw, cw, an, nn, cn, ak, nk, ck, ap, np, cp, V, ws, hp, hnk, hV1, hV2, hV3, hw, hpost, htsz, hok2⟩ := h.opn
  obtain ⟨kd, sv, nd, wv, nv, kv, pv⟩ := p
  simp only [RtV.mk.injEq, true_and] at hp
  obtain ⟨rfl, rfl, rfl, rfl⟩ := hp
  simp only at hpost
  obtain ⟨hnw, hoks⟩ := hok2 hok
  obtain ⟨KT, hKT⟩ : ∃ KT, t.kidsOf = KT := ⟨_, rfl⟩
  rw [hKT] at hnk hV3 hpost htsz hoks
  have hnk1 : nk ≤ 1000 := by have := ETs.sz_ge KT; omega
  have hnw1 : nw ≤ 1000 := by omega
  have hbw := hI.bel
  have hBw := hbw.size
  have HPO := Lib.hid (hpost nodes.length)
  have HI := Lib.hid hI
  have HV1 := Lib.hid hV1
  have HV2 := Lib.hid hV2
  have HV3 := Lib.hid hV3
  have HW := Lib.hid hw
  have HNK := Lib.hid hnk
  have HOK := Lib.hid hoks
  have HSZ := Lib.hid (show nodes.length + (ETs.sz KT + 1) ≤ 1000 by omega)
  have hzf : ETs.sz KT ≤ f := by omega
  have HIH := Lib.hid ih
  have HB := Lib.hid hbw
  have hwl : ws.length = nw := by have := hw.len; rw [List.length_map] at this; omega
  have HWL := Lib.hid hwl
  unfold rtA
  rw [HPO.out]
  clear hpost h hok hok2 hI hV1 hV2 hV3 hw hnk hoks hsz htsz htf ih hbw hKT hnw hwl
  go_enter Tryz.func76, Tryz.ntmps76
  go_upto_region 2 with fail
  generalize hW2 : (w.alloc _).alloc _ = W2
  obtain ⟨gX, gN, hb2, hs2⟩ := box2' hW2
  have GX := Lib.hid gX
  have GN := Lib.hid gN
  have HB2 := Lib.hid hb2
  have x3 : ∀ ob, (W2.alloc ob).cell? ⟨w.heap.size, 3, none⟩ = some (.slice aw nw cw) := fun ob => (World.cell?_alloc_lt _ _ _ (by show w.heap.size < W2.heap.size; omega)).trans (open7 gX).2.2.2.1
  have x3' := (open7 gX).2.2.2.1
  have HR2 := Lib.hid (HW.out.below (Below.next HB.out hb2))
  have hs2a : w.heap.size + 2 ≤ W2.heap.size := by omega
  clear hW2 gX gN hb2 hs2
  go_wp2_with (at_builtin; go_must (refine wpList_apps _ _ 69 8 (.int .i64 0) _ _ _ (ws.map (Value.int .i64)) Tryz.underlying69 Tryz.infoInt rfl (World.ownsRow_made W2 #[] 0 (Nat.le_refl _) (Nat.zero_le _) rfl) ((Below.refl _ W2).alloc (Nat.le_refl _) _) (Nat.le_refl _) (HR2.out.below ((Below.refl _ W2).alloc (Nat.le_refl _) _)) (by intro u hu; obtain ⟨_, _, rfl⟩ := List.mem_map.1 hu; rfl) rfl rfl rfl rfl (by unfold maxLen; simp; omega) (by simp; omega) ?_))
  intro v1 w1 hown1 hb1 _
  have hown1' : w1.ownsRow W2.heap.size 3 1 v1 nw (ws.map (Value.int .i64)) := by simpa using hown1
  obtain ⟨a1, c1, rfl, _⟩ := rd_of_row hown1'
  have gN1 := heap_below hb1 GN.out
  have gX1 := heap_below hb1 GX.out
  have HN1 := Lib.hid gN1
  have HX1 := Lib.hid gX1
  have HO1 := Lib.hid hown1'
  have HB1 := Lib.hid hb1
  have hs1 := hb1.size
  obtain ⟨m0, m1, m2, m3, m4⟩ := open5 gN1
  obtain ⟨z0, z1, z2, z3, z4⟩ := frz5 gN1
  clear hown1 hown1' hb1 gN1 gX1 x3 x3'
  go_wp2_with fail
  clear m0 m1 m2 m3 m4 z0 z1 z2 z3 z4
  generalize hW4 : (w1.setCell _ _).setCell _ _ = w4
  have gN4 : w4.heap[w.heap.size + 1]? = some (.cells #[.int .i64 kd, .int .i64 sv, .int .i64 nd, .slice a1 nw c1, .slice none 0 0] 71 (0, 0)) := by
    rw [← hW4]
    first
    | exact heap_set_at (heap_set_at HN1.out 4 _) 3 _
    | exact heap_set_at (heap_set_at HN1.out 3 _) 4 _
  have hk4 : ∀ g, g ≠ w.heap.size + 1 → w4.heap[g]? = w1.heap[g]? := fun g hg => by
    rw [← hW4]
    first
    | rw [Below.heap_setCell _ ⟨w.heap.size + 1, 3, none⟩ _ g hg, Below.heap_setCell _ ⟨w.heap.size + 1, 4, none⟩ _ g hg]
    | rw [Below.heap_setCell _ ⟨w.heap.size + 1, 4, none⟩ _ g hg, Below.heap_setCell _ ⟨w.heap.size + 1, 3, none⟩ _ g hg]
  have hs4 : w4.heap.size = w1.heap.size := by rw [← hW4]; simp
  have hb4 : Below w.heap.size w w4 := by
    rw [← hW4]
    exact ((HB2.out.trans (HB1.out.mono (by omega))).setCell (p := ⟨w.heap.size + 1, _, none⟩) (Nat.le_succ _) _).setCell (p := ⟨w.heap.size + 1, _, none⟩) (Nat.le_succ _) _
  have hrw4 : w4.ownsRow (w.heap.size + 1) 3 1 (.slice a1 nw c1) ws.length (ws.map (Value.int .i64)) := by
    rw [HWL.out]
    have h9 := rowK_at HO1.out (w' := w4) fun g hg => hk4 g (by have := (HO1.out.lt g hg).1; omega)
    exact rowK_base h9 (by omega)
  have hL0 := GrL.start (W2 := W2) (N := w.heap.size + 1) (s := w.heap.size + 1) (ids := []) HI.out hBw hb4 gN4 (fun g g1 g2 => by rw [hk4 g (by omega)]; exact HB1.out.block g (by omega)) ⟨Nat.le_succ _, Nat.le_refl _⟩ hrw4 (World.ownsRow_nil _ _ _ _) (fun g e e2 => by cases e2) (fun e => by have := (HO1.out.lt _ e).1; omega) (fun e => by cases e)
  have HL0 := Lib.hid hL0
  have hs5 : w.heap.size + 1 < w4.heap.size := by omega
  clear hW4 gN4 hk4 hb4 hrw4 hL0 HN1 HX1 HO1 HB1
  go_loopw [0, 6] (fun vq q wr => ∃ vv k kv S', vv = vq ∧ k ≤ nk ∧ q = .int .i64 ((k : Nat) : Int) ∧ GrL w0 w W2 w0.heap.size (w.heap.size + 1) (w.heap.size + 1) S (fun g => (Value.slice a1 nw c1).ownBlock = some g) v nodes (.int .i64 kd) (.int .i64 sv) (.int .i64 nd) (.slice a1 nw c1) ws vv kv S' (ETs.post (KT.take k) nodes.length) (ETs.idx (KT.take k) nodes.length) wr ∧ w.heap.size + 1 < wr.heap.size ∧ ¬ S' (w.heap.size + 1)) (fun _ q _ => nk - (intOf q).toNat)
  case atStart => exact ⟨v, 0, _, S, rfl, Nat.zero_le _, rfl, HL0.out, hs5, fun hS => by have := HI.out.xb.lt _ hS; omega⟩
  case round =>
    obtain ⟨vv, k, kv, S', rfl, hk, rfl, hL, hsr, hSN⟩ := hrel
    have hidl : (ETs.idx (KT.take k) nodes.length).length = k := by rw [ETs.idx_len, List.length_take]; have := HNK.out; omega
    have gx := (hL.loc w.heap.size (Nat.le_refl _) (by omega)).trans GX.out
    have x5 := (open7 gx).2.2.2.2.2.1
    by_cases hlt : k < nk
    · obtain ⟨kt, hkt⟩ : ∃ kt, KT[k]? = some kt := ⟨_, List.getElem?_eq_getElem (by have := HNK.out; omega)⟩
      obtain ⟨pk, hpk⟩ : ∃ pk, V[k]? = some pk := ⟨_, List.getElem?_eq_getElem (by have := HV1.out; omega)⟩
      have hts := HV3.out k pk kt hpk hkt
      have hbwr : Below w0.heap.size w0 wr := HB.out.trans (hL.kb.bel)
      obtain ⟨b, o, ha, hcells⟩ := RdK.cells (HV2.out.below hbwr) rtVC_len (by omega)
      have hc := hcells k pk hpk
      have c0 := hc 0 (by omega)
      have c1 := hc 1 (by omega)
      have c2 := hc 2 (by omega)
      have c3 := hc 3 (by omega)
      have c4 := hc 4 (by omega)
      have c5 := hc 5 (by omega)
      have c6 := hc 6 (by omega)
      obtain ⟨aw5, nw5, cw5, an5, nn5, cn5, ak5, nk5, ck5, ap5, np5, cp5, hpk5, -, -⟩ := hts.shape
      obtain ⟨kd5, sv5, nd5, wv5, nv5, kv5, pv5⟩ := pk
      simp only [RtV.mk.injEq, true_and] at hpk5
      obtain ⟨rfl, rfl, rfl, rfl⟩ := hpk5
      simp only [rtVC, Nat.add_zero, List.getElem?_cons_zero, List.getElem?_cons_succ] at c0 c1 c2 c3 c4 c5 c6
      have hT : KT.take (k + 1) = KT.take k ++ [kt] := by rw [List.take_add_one, hkt]; rfl
      have hstep := post_step (KT.take k) kt nodes.length
      rw [← hT] at hstep
      have hszk := sz_take KT (k + 1)
      have hktm := List.mem_of_getElem? hkt
      have hktz := ETs.sz_mem KT kt hktm
      have hlen : (nodes ++ ETs.post (KT.take k) nodes.length).length = nodes.length + ETs.sz (KT.take k) := by rw [List.length_append, ETs.post_len]
      have hCall := HIH.out kt (by omega) _ hts ((ETs.ok_iff _).1 HOK.out kt hktm) wr S' vv (nodes ++ ETs.post (KT.take k) nodes.length) (hL.toI HI.out (Nat.le_refl _)) (by have := HSZ.out; omega)
      rw [hlen] at hCall
      unfold rtA at hCall
      have HCALL := Lib.hid hCall
      have HSTEP := Lib.hid hstep
      have HL := Lib.hid hL
      have HSN := Lib.hid hSN
      have hki : (k : Int) < (nk : Int) := by omega
      subst ha
      clear hCall hstep hL hSN hT hts hc hcells hlen hszk hkt hpk hktm hktz gx hbwr
      go_wp2_with fail
      clear c0 c1 c2 c3 c4 c5 c6 x5
      with_reducible refine HCALL.out.mono ?_
      rintro e w5 hO
      obtain ⟨v5, S5, rfl, hL5, hs5', hSN5⟩ := HL.out.call2 HI.out HSN.out hO
      obtain ⟨h51, h52, h53⟩ := HSTEP.out
      rw [← h51] at hL5
      have hRp := kt.sz_pos
      have hl5 : (nodes ++ ETs.post (KT.take (k + 1)) nodes.length).length = (nodes.length + ETs.sz (KT.take k) + kt.sz - 1) + 1 := by rw [List.length_append, ETs.post_len, h53]; omega
      have hszk := sz_take KT (k + 1)
      have hR1 : nodes.length + ETs.sz (KT.take k) + kt.sz - 1 ≤ 1000 := by have := HSZ.out; omega
      generalize (nodes.length + ETs.sz (KT.take k) + kt.sz - 1 : Nat) = R at hl5 h52 hR1
      obtain ⟨a5, c5, hv5, _⟩ := hL5.xb.shape
      rw [hl5] at hv5
      subst hv5
      have hrk5 := hL5.rk
      rw [hidl] at hrk5
      obtain ⟨ak2, ck2, rfl, _⟩ := rd_of_row hrk5
      have p4 := cell_of_row _ _ 4 _ _ _ hL5.nb
      have hrlt := hrk5.lt
      have HL5 := Lib.hid hL5
      have HRK := Lib.hid hrk5
      have H52 := Lib.hid h52
      have HSN5 := Lib.hid hSN5
      have hs5w : w.heap.size + 1 ≤ w5.heap.size := by omega
      have hN5 := hL5.nb
      have HN5 := Lib.hid hN5
      have hkn := hL5.kn
      clear hL5 hrk5 hO h51 h52 h53 hl5 hRp hszk HSTEP HCALL HL HSN hSN5 hN5
      go_wp2_with (at_builtin; go_must (refine wpList_appK2 1 _ _ 69 8 (.int .i64 0) [.int .i64 (R : Int)] _ Tryz.underlying69 Tryz.infoInt rfl (by decide) HRK.out (Below.refl (w.heap.size + 1) w5) hs5w rfl rfl rfl rfl rfl (by intro u hu; simp at hu; subst hu; rfl) (by unfold maxLen; omega) (by omega) ?_))
      intro v8 w8 hown8 hb8 hg8 hs8 hv8
      have hN8 := (hg8.block (w.heap.size + 1) (by omega) (fun e => hkn e.symm)).trans HN5.out
      have m4 := (open5 hN8).2.2.2.2
      have z4 := (frz5 hN8).2.2.2.2
      obtain ⟨a8, c8, rfl, _⟩ := rd_of_row hown8
      have hK := HL5.out.kidg hBw HSN5.out (z := (R : Int)) hg8 (by rw [hidl]; exact hown8) hv8
      rw [← H52.out] at hK
      have HK := Lib.hid hK
      have hs8' := hg8.size
      clear hK hown8 hb8 hg8 hv8 hN8 p4
      go_wp2_with fail
      go_roundw
      case rel => exact ⟨_, k + 1, _, S5, rfl, by omega, by go_num, HK.out, by simp; omega, HSN5.out⟩
      case measure => simp [intOf] <;> omega
    · obtain rfl : k = nk := by omega
      rw [List.take_of_length_le (by have := HNK.out; omega)] at hL hidl
      obtain ⟨V9, hW1, hW2, hW3⟩ := hL.xb.row
      have hlen : (nodes ++ ETs.post KT nodes.length).length = nodes.length + ETs.sz KT := by rw [List.length_append, ETs.post_len]
      have hn1 : (nodes ++ ETs.post KT nodes.length).length ≤ 1000 := by have := HSZ.out; omega
      obtain ⟨NN, hNN⟩ : ∃ NN, NN = (nodes ++ ETs.post KT nodes.length).length := ⟨_, rfl⟩
      rw [← hNN] at hW2 hn1
      obtain ⟨av, cv, rfl, _⟩ := rdK_of_row hW2
      have hrk := hL.rk
      rw [hidl] at hrk
      obtain ⟨ak2, ck2, rfl, _⟩ := rd_of_row hrk
      have HN := Lib.hid hNN
      have HL := Lib.hid hL
      have HW1 := Lib.hid hW1
      have HW3 := Lib.hid hW3
      obtain ⟨n0, n1, n2, n3, n4⟩ := open5 hL.nb
      have hBr : w0.heap.size ≤ wr.heap.size := by omega
      clear hL hW1 hW3 hlen hidl hNN hrk gx
      go_wp2_with (at_builtin; go_must (refine wpList_appK2 5 _ _ 30 72 (.agg #[.int .i64 0, .int .i64 0, .int .i64 0, .slice none 0 0, .slice none 0 0]) (nodVC ⟨kd, sv, nd, .slice a1 nw c1, .slice ak2 k ck2⟩) _ Tryz.underlying30 Tryz.infoNod rfl (by decide) hW2 (Below.refl w0.heap.size wr) hBr rfl rfl rfl rfl rfl (by intro u hu; unfold nodVC at hu; simp at hu; rcases hu with rfl | rfl | rfl | rfl | rfl <;> rfl) (by unfold maxLen; omega) (by omega) ?_))
      intro v6 w6 hown6 hb6 hg6 hs6 hv6
      go_wp2_with fail
      go_ret
      exact HL.out.fin HW1.out HW3.out HI.out hBw (by omega) (Below.refl _ _) hg6 (by rw [← HN.out]; exact hown6) hv6 (by omega) rfl
theorem listed_c (w0 : World) : ∀ f, LiC w0 f
  | 0 => fun t ht => by have := t.sz_pos; omega
  | f + 1 => list_step w0 f (listed_c w0 f)
end Go.Proofs.YtcojmmhclklpoaaGreatDoor
