/- Texts laid together. The reference's Holds of layer 10. The reference's node of layer 10 (printed by rnd.py). The reference's Valid of layer 10. The reference of layer 8: Size, Before, Contains, Range, Accepts, Support, Valid. Eval, the program's and the reference's. Handed drafts, as a law's frame opens them. Handed trees, choices, expressions, descriptions, as a law's frame opens them. Layer 10: the law Eval, walked. Layer 10, plain: the reference's number. No program. The reference's way of writing the nodes of a tree (its row is handed on and returned, a node's kids are written in place): what the memory looks like on the way. Plain lemmas over the model, no program. ref10.copied: a node of its own. The reference's grow: the nodes of a tree in postorder, in a row that is handed on. ref10.sizes: the sizes of all nodes' trees, cut at 1000. -/
import Derived.Test.YtcojmmhclklpoaaGreatDoorGC3
import Derived.Test.YtcojmmhclklpoaaGreatDoorGC4
import Derived.Test.YtcojmmhclklpoaaGreatDoorGC5
import Derived.Test.YtcojmmhclklpoaaGreatDoorGC6
import Derived.Test.YtcojmmhclklpoaaGreatDoorGC7
import Derived.Test.YtcojmmhclklpoaaGreatDoorGC10
import Derived.Test.YtcojmmhclklpoaaGreatDoorProg
import Derived.Deep.OwnRows
import Derived.OpenShut
import Derived.Deep.Slices
import Derived.Deep.Fields
import Derived.ChangeSame
import Derived.RangeFuncBox
namespace Go.Proofs.YtcojmmhclklpoaaGreatDoor
open Go.RowKit Go.Shelf

theorem Tryz.infoBl : (Tryz.prog.info? 4).map (fun i => (i.zero, i.size, i.bytes)) = some (some (.bool false), 1, 1) := by kernel_rfl
theorem make_bool (m : Nat) (hm : m ≤ 1000000) : ∀ w, (Instr.makeSlice 78 (.int .i64 m) (.int .i64 m)).run Tryz.prog w = .ok (.slice (some ⟨w.heap.size, 0, none⟩) m m) (w.alloc (.cells (madeCells #[.bool false] m) 4)) :=
  fun w => run_make_row' 78 4 (.bool false) 1 Tryz.underlying78 Tryz.infoBl rfl .i64 .i64 m (by omega) (by omega) w
/-- so many places, the first ones filled -/
def isN (n : Nat) (l : List Bool) : Array Value := ((l ++ List.replicate (n - l.length) false).map Value.bool).toArray
theorem isN_made (n : Nat) : madeCells #[.bool false] n = isN n [] := by
  apply Array.toList_inj.1
  rw [toList_madeCells_one]; unfold isN; simp
theorem isN_at {n : Nat} {l : List Bool} (h : l.length ≤ n) {i : Nat} (hi : i < n) : (isN n l)[i]? = some (.bool (l.getD i false)) := by
  unfold isN
  rw [List.getElem?_toArray, List.getElem?_map, List.getD_eq_getElem?_getD]
  by_cases h1 : i < l.length
  · rw [List.getElem?_append_left h1, List.getElem?_eq_getElem h1]; rfl
  · rw [List.getElem?_append_right (by omega), List.getElem?_replicate, if_pos (by omega), List.getElem?_eq_none (by omega)]; rfl
theorem isN_set {n : Nat} {l : List Bool} (h : l.length < n) (v : Bool) : (isN n l).setIfInBounds l.length (.bool v) = isN n (l ++ [v]) := by
  unfold isN
  rw [List.setIfInBounds_toArray]
  congr 1
  have e : n - l.length = (n - (l ++ [v]).length) + 1 := by simp; omega
  rw [e, List.replicate_succ, List.map_append, List.map_append, List.map_append, List.map_cons, List.set_append_right _ _ (by simp)]
  simp

set_option maxRecDepth 100000 in
set_option maxHeartbeats 4000000 in
theorem rholds_c (x : Xpr) (hx : XprOk x) (hf : XprFew x) (s : BitVec 16) (a : Option Addr) (n c : Nat) (w : World) (h : XM w a n c x.nodes) :
    Calls Tryz.prog 21 #[.agg #[.slice a n c, .int .i64 x.root], .int .u16 (U s)] w fun e w' => e = .returned (.bool (holdX x s)) ∧ Below w.heap.size w w' := by
  obtain ⟨r, hr⟩ := Int.eq_ofNat_of_zero_le hx.root.1
  have hrn : r < n := by have h1 := hx.root.2; have h2 := h.len; omega
  have hle := h.le
  have hm := h.max
  have hn60 : n ≤ 60 := by have h1 := hx.most; have h2 := h.len; omega
  unfold maxLen at hm
  have HV : Hid (holdX x s = (holdTo x.nodes s n).getD r false) := Lib.hid (by unfold holdX; rw [hr, Int.toNat_natCast, h.len])
  rw [hr]
  have HX := Lib.hid h
  have HO := Lib.hid hx
  have HF := Lib.hid hf
  have HN := Lib.hid h.len
  clear h hx hf hr
  have hmk := make_bool n (by omega)
  obtain ⟨W2, hW2⟩ : ∃ W2, W2 = w.alloc (.cells #[.slice a n c, .int .i64 r] 32) := ⟨_, rfl⟩
  obtain ⟨W3, hW3⟩ : ∃ W3, W3 = W2.alloc (.cells (madeCells #[.bool false] n) 4) := ⟨_, rfl⟩
  have hs2 : W2.heap.size = w.heap.size + 1 := by rw [hW2]; simp
  have hs3 : W3.heap.size = w.heap.size + 2 := by rw [hW3, hW2]; simp
  have hb3 : Below w.heap.size w W3 := by rw [hW3, hW2]; exact ((Below.refl _ w).alloc (Nat.le_refl _) _).alloc (by simp) _
  have g0 : W3.heap[w.heap.size]? = some (.cells #[.slice a n c, .int .i64 r] 32 (0, 0)) := by rw [hW3, hW2]; exact heap_alloc_at (heap_alloc_new _ _) _
  have g1 : W3.heap[w.heap.size + 1]? = some (.cells (isN n []) 4 (0, 0)) := by rw [hW3, ← hs2, isN_made]; exact heap_alloc_new _ _
  have G0 := Lib.hid g0
  have G1 := Lib.hid g1
  have HB3 := Lib.hid hb3
  have HS3 := Lib.hid hs3
  clear g0 g1 hb3 hs3
  go_enter Tryz.func21, Tryz.ntmps21
  go_wp2_with fail
  rw [← hW2]
  try simp only [hs2]
  rw [← hW3]
  clear hW3 hW2 hs2 hmk
  go_loopw [6] (fun i wr => ∃ k : Nat, k ≤ n ∧ i = .int .i64 k ∧ wr.heap[w.heap.size + 1]? = some (.cells (isN n (holdTo x.nodes s k)) 4 (0, 0)) ∧ wr.heap[w.heap.size]? = some (.cells #[.slice a n c, .int .i64 r] 32 (0, 0)) ∧ w.heap.size + 2 ≤ wr.heap.size ∧ Below w.heap.size w wr) (fun i _ => n - (intOf i).toNat)
  case atStart => exact ⟨0, Nat.zero_le _, rfl, G1.out, G0.out, by rw [HS3.out]; exact Nat.le_refl _, HB3.out⟩
  case round =>
    obtain ⟨k, hk, rfl, e1, e0, hsz, hb⟩ := hrel
    by_cases hlt : k < n
    · obtain ⟨nd, hnd⟩ : ∃ nd, x.nodes[k]? = some nd := ⟨_, List.getElem?_eq_getElem (by have := HN.out; omega)⟩
      obtain ⟨b', o', ha, hat⟩ := (HX.out.below hb).at' (by omega)
      have hM := hat k nd hnd
      obtain ⟨a3, n3, c3, m3, r3⟩ := hM.ws
      obtain ⟨a4, n4, c4, m4, r4⟩ := hM.ks
      have m0 := hM.c0
      have m1 := hM.c1
      have m2 := hM.c2
      have HOK := Lib.hid (HO.out.node k nd hnd)
      have hfew := HF.out k nd hnd
      have HST : Hid (holdTo x.nodes s (k + 1) = holdTo x.nodes s k ++ [valN nd (holdTo x.nodes s k) s]) := Lib.hid (by
        rw [holdTo]
        rw [show x.nodes.getD k nod0 = nd by rw [List.getD_eq_getElem?_getD, hnd]; rfl])
      have HL := Lib.hid (holdTo_len x.nodes s k)
      obtain ⟨I, hI⟩ : ∃ I, holdTo x.nodes s k = I := ⟨_, rfl⟩
      rw [hI] at e1 HST HL
      obtain ⟨kind, server, need, ws, ks⟩ := nd
      simp only at m0 m1 m2 hfew r3 r4
      have R3 := Lib.hid r3
      have R4 := Lib.hid r4
      have HB := Lib.hid hb
      have q0 := cell_of_row _ _ 0 _ _ _ e0
      have ea := heap_alloc_at e1 (Obj.cells #[.int .i64 kind, .int .i64 server, .int .i64 need, .slice a3 n3 c3, .slice a4 n4 c4] 71)
      have ea0 := heap_alloc_at e0 (Obj.cells #[.int .i64 kind, .int .i64 server, .int .i64 need, .slice a3 n3 c3, .slice a4 n4 c4] 71)
      have en := heap_alloc_new wr (Obj.cells #[.int .i64 kind, .int .i64 server, .int .i64 need, .slice a3 n3 c3, .slice a4 n4 c4] 71)
      have hbn : Below wr.heap.size wr (wr.alloc (Obj.cells #[.int .i64 kind, .int .i64 server, .int .i64 need, .slice a3 n3 c3, .slice a4 n4 c4] 71)) := (Below.refl _ wr).alloc (Nat.le_refl _) _
      have hlk : ks.length = n4 := by have := R4.out.len; simp at this; omega
      have hle4 := R4.out.le
      have hm4 := R4.out.max
      unfold maxLen at hm4
      subst ha
      clear hM r3 r4 hat hnd hI hb
      go_wp2_with fail
      generalize hWA : wr.alloc _ = WA
      rw [hWA] at ea ea0 en hbn
      have EA := Lib.hid ea
      have EA0 := Lib.hid ea0
      have EN := Lib.hid en
      have HBN := Lib.hid hbn
      have HSA : Hid (w.heap.size + 2 ≤ WA.heap.size ∧ wr.heap.size < WA.heap.size) := Lib.hid (by rw [← hWA]; simp; omega)
      clear hWA ea ea0 en hbn e0 e1 m0 m1 m2 m3 m4 q0
      obtain ⟨W0, hW0⟩ : ∃ W0, W0 = wr := ⟨_, rfl⟩
      subst hW0
      go_loopw [8, 9] (fun v i wq => ∃ j : Nat, j ≤ n4 ∧ i = .int .i64 j ∧ v = .int .i64 (gotTo ⟨kind, server, need, ws, ks⟩ I j) ∧ Below WA.heap.size WA wq) (fun _ i _ => n4 - (intOf i).toNat)
      case atStart => exact ⟨0, Nat.zero_le _, rfl, rfl, Below.refl _ _⟩
      case round =>
        obtain ⟨j, hj, rfl, rfl, hbq⟩ := hrel
        have eqn := heap_below hbq EN.out
        have p0 := cell_of_row _ _ 0 _ _ _ eqn
        have p1 := cell_of_row _ _ 1 _ _ _ eqn
        have p2 := cell_of_row _ _ 2 _ _ _ eqn
        have p3 := cell_of_row _ _ 3 _ _ _ eqn
        have p4 := cell_of_row _ _ 4 _ _ _ eqn
        by_cases hltj : j < n4
        · obtain ⟨z, hz⟩ : ∃ z, ks[j]? = some z := ⟨_, List.getElem?_eq_getElem (by omega)⟩
          have hzr := HOK.out.kids z (List.mem_of_getElem? hz)
          obtain ⟨kd, rfl⟩ := Int.eq_ofNat_of_zero_le hzr.1
          have hkd2 : kd < k := by omega
          obtain ⟨b4, o4, ha4, hcell4⟩ := (R4.out.below (Below.next HBN.out hbq)).at' (by omega)
          have q4 := hcell4 j (.int .i64 kd) (by rw [List.getElem?_map, hz]; rfl)
          have eq1 := heap_below hbq EA.out
          have q1 := cell_of_row _ _ kd _ _ _ eq1 |>.trans (isN_at (by have := HL.out; omega) (by omega))
          have hgs : gotTo ⟨kind, server, need, ws, ks⟩ I (j + 1) = gotTo ⟨kind, server, need, ws, ks⟩ I j + (if I.getD kd false = true then wgtN ⟨kind, server, need, ws, ks⟩ j else 0) := by
            rw [gotTo]
            show _ + (if I.getD ((ks.getD j 0).toNat) false = true then _ else _) = _
            rw [show ks.getD j 0 = (kd : Int) by rw [List.getD_eq_getElem?_getD, hz]; rfl, Int.toNat_natCast]
          have hgb := got_bd HOK.out I j
          have hwb := wgt_pos HOK.out j
          subst ha4
          cases hi : I.getD kd false
          · rw [hi] at q1 hgs
            rw [if_neg (by decide), Int.add_zero] at hgs
            have HGS := Lib.hid hgs
            clear hcell4 hz hgs hi hgb hwb hzr eq1 eqn
            go_wp2_with fail
            go_roundw
            case rel => exact ⟨j + 1, by omega, by go_num, by rw [HGS.out], hbq⟩
            case measure => simp [intOf]; omega
          · rw [hi] at q1 hgs
            rw [if_pos rfl] at hgs
            have HW : Hid (∀ y, Below W0.heap.size W0 y → Calls Tryz.prog 53 #[.agg #[.int .i64 kind, .int .i64 server, .int .i64 need, .slice a3 n3 c3, .slice (some ⟨b4, o4, none⟩) n4 c4], .int .i64 j] y fun e w' => e = .returned (.int .i64 (wgtN ⟨kind, server, need, ws, ks⟩ j)) ∧ Below y.heap.size y w') :=
              Lib.hid (fun y hy => rwgt_c ⟨kind, server, need, ws, ks⟩ j a3 n3 c3 (some ⟨b4, o4, none⟩) n4 c4 y (R3.out.below hy) (by
                rcases HOK.out.arity with h | h
                · exact .inl h
                · right; rw [h]; show j < ks.length; omega))
            obtain ⟨S, hS⟩ : ∃ S, gotTo ⟨kind, server, need, ws, ks⟩ I j = S := ⟨_, rfl⟩
            obtain ⟨G, hG⟩ : ∃ G, wgtN ⟨kind, server, need, ws, ks⟩ j = G := ⟨_, rfl⟩
            rw [hS] at hgs hgb ⊢
            rw [hG] at hgs hwb HW
            have hwr2 : wrap64 (S + G) = S + G := by unfold wrap64; omega
            have HGS := Lib.hid hgs
            have HBQ := Lib.hid hbq
            clear hcell4 hz hgs hi hgb hwb hzr eq1 eqn hS hG hbq
            go_wp2_with fail
            refine (HW.out _ (Below.next HBN.out HBQ.out)).mono ?_
            rintro e w5 ⟨rfl, hb5⟩
            have hb6 := Below.next HBQ.out hb5
            go_wp2_with fail
            go_roundw
            case rel => exact ⟨j + 1, by omega, by go_num, by rw [HGS.out, hwr2], hb6⟩
            case measure => simp [intOf]; omega
        · obtain rfl : j = n4 := by omega
          have eq1 := heap_below hbq EA.out
          have q1 := cell_of_row _ _ k _ _ _ eq1 |>.trans (isN_at (by have := HL.out; omega) (by omega))
          have z1 := frozen_row eq1 k
          have EQ1 := Lib.hid eq1
          have EQ0 := Lib.hid (heap_below hbq EA0.out)
          have HBF := Lib.hid (Below.next HB.out (Below.next HBN.out hbq))
          have HSQ := Lib.hid hbq.size
          obtain ⟨sv, hsv⟩ := Int.eq_ofNat_of_zero_le HOK.out.server.1
          have hs12 := HOK.out.server.2
          simp only at hsv hs12
          subst hsv
          have hhas : hasI s (sv : Int) = hasB s sv := by unfold hasI; rw [decide_eq_true (by omega), decide_eq_true (by omega)]; rfl
          have HVN : Hid (valN ⟨kind, (sv : Int), need, ws, ks⟩ I s = if kind = 1 then hasB s sv else decide (need ≤ gotTo ⟨kind, (sv : Int), need, ws, ks⟩ I j)) := Lib.hid (by unfold valN; simp only [hlk]; rfl)
          rw [HVN.out] at HST
          obtain ⟨S, hS⟩ : ∃ S, gotTo ⟨kind, (sv : Int), need, ws, ks⟩ I j = S := ⟨_, rfl⟩
          rw [hS] at HST ⊢
          have HH : Hid (∀ y, Calls Tryz.prog 54 #[.int .u16 (U s), .int .i64 (sv : Int)] y fun e w' => e = .returned (.bool (hasB s sv)) ∧ y = w') := Lib.hid (fun y => by rw [← hhas]; exact has_c s _ _ y rfl)
          have hk12 := HOK.out.kind
          simp only at hk12
          clear eqn eq1 hS hbq hhas HVN
          rcases hk12 with rfl | rfl
          · rw [if_pos rfl] at HST
            obtain ⟨V, hV⟩ : ∃ V, hasB s sv = V := ⟨_, rfl⟩
            rw [hV] at HST HH
            clear hV
            cases V
            · go_wp2_with fail
              refine (HH.out _).mono ?_
              rintro e w5 ⟨rfl, rfl⟩
              go_wp2_with fail
              go_roundw
              case rel =>
                have hkl := HL.out
                have hsq := HSQ.out
                have hsa := HSA.out
                refine ⟨k + 1, by omega, by go_num, ?_, ?_, ?_, ?_⟩
                · rw [heap_set_at EQ1.out, HST.out, ← hkl, isN_set (by omega)]
                · exact heap_set_other (by omega) _ _ EQ0.out
                · simp [World.setCell]; omega
                · exact HBF.out.setCell (p := ⟨w.heap.size + 1, k, none⟩) (by show w.heap.size ≤ w.heap.size + 1; omega) _
              case measure => simp [intOf]; omega
            · go_wp2_with fail
              refine (HH.out _).mono ?_
              rintro e w5 ⟨rfl, rfl⟩
              go_wp2_with fail
              go_roundw
              case rel =>
                have hkl := HL.out
                have hsq := HSQ.out
                have hsa := HSA.out
                refine ⟨k + 1, by omega, by go_num, ?_, ?_, ?_, ?_⟩
                · rw [heap_set_at EQ1.out, HST.out, ← hkl, isN_set (by omega)]
                · exact heap_set_other (by omega) _ _ EQ0.out
                · simp [World.setCell]; omega
                · exact HBF.out.setCell (p := ⟨w.heap.size + 1, k, none⟩) (by show w.heap.size ≤ w.heap.size + 1; omega) _
              case measure => simp [intOf]; omega
          · rw [if_neg (by decide)] at HST
            by_cases hns : need ≤ S
            · have hd : decide (need ≤ S) = true := decide_eq_true hns
              rw [hd] at HST
              clear hns
              go_wp2_with fail
              go_roundw
              case rel =>
                have hkl := HL.out
                have hsq := HSQ.out
                have hsa := HSA.out
                refine ⟨k + 1, by omega, by go_num, ?_, ?_, ?_, ?_⟩
                · rw [heap_set_at EQ1.out, HST.out, ← hkl, isN_set (by omega)]
                · exact heap_set_other (by omega) _ _ EQ0.out
                · simp [World.setCell]; omega
                · exact HBF.out.setCell (p := ⟨w.heap.size + 1, k, none⟩) (by show w.heap.size ≤ w.heap.size + 1; omega) _
              case measure => simp [intOf]; omega
            · have hd : decide (need ≤ S) = false := decide_eq_false hns
              rw [hd] at HST
              clear hns
              go_wp2_with fail
              go_roundw
              case rel =>
                have hkl := HL.out
                have hsq := HSQ.out
                have hsa := HSA.out
                refine ⟨k + 1, by omega, by go_num, ?_, ?_, ?_, ?_⟩
                · rw [heap_set_at EQ1.out, HST.out, ← hkl, isN_set (by omega)]
                · exact heap_set_other (by omega) _ _ EQ0.out
                · simp [World.setCell]; omega
                · exact HBF.out.setCell (p := ⟨w.heap.size + 1, k, none⟩) (by show w.heap.size ≤ w.heap.size + 1; omega) _
              case measure => simp [intOf]; omega
    · obtain rfl : k = n := by omega
      have hc := cell_of_row _ _ r _ _ _ e1 |>.trans (isN_at (by rw [holdTo_len]; omega) (by omega))
      rw [← HV.out] at hc
      have hc2 := cell_of_row _ _ 1 _ _ _ e0
      go_wp2_with fail
      go_ret
      exact ⟨rfl, hb⟩
end Go.Proofs.YtcojmmhclklpoaaGreatDoor
namespace Go.Proofs.YtcojmmhclklpoaaGreatDoor
open Go.RowKit Go.Shelf

set_option maxRecDepth 100000 in
set_option maxHeartbeats 8000000 in
theorem rnode_c (nd : Nod) (i0 : Nat) (aw : Option Addr) (nw cw : Nat) (ak : Option Addr) (nk ck : Nat) (w : World) (hsum : nw + nk ≤ 9223372036854775807) (hw : Rd w aw nw cw (nd.weights.map (Value.int .i64))) (hk : Rd w ak nk ck (nd.kids.map (Value.int .i64))) :
    Calls Tryz.prog 79 #[.agg #[.int .i64 nd.kind, .int .i64 nd.server, .int .i64 nd.need, .slice aw nw cw, .slice ak nk ck], .int .i64 i0] w fun e w' => e = .returned (.int .i64 (nodE nd i0)) ∧ Below w.heap.size w w' := by
  have hlw : nd.weights.length = nw := by have := hw.len; simp at this; omega
  have hlk : nd.kids.length = nk := by have := hk.len; simp at this; omega
  have hE := nodE_F nd i0
  rw [hlw, hlk] at hE
  obtain ⟨kind, server, need, ws, ks⟩ := nd
  simp only at hw hk hlw hlk hE ⊢
  obtain ⟨V, hV0⟩ : ∃ V, nodE ⟨kind, server, need, ws, ks⟩ i0 = V := ⟨_, rfl⟩
  rw [hV0] at hE ⊢
  obtain ⟨W2, hW2⟩ : ∃ W2, W2 = w.alloc (Obj.cells #[.int .i64 kind, .int .i64 server, .int .i64 need, .slice aw nw cw, .slice ak nk ck] 71) := ⟨_, rfl⟩
  have hb2 : Below w.heap.size w W2 := by rw [hW2]; exact (Below.refl _ w).alloc (Nat.le_refl _) _
  have hle := hw.le
  have hm := hw.max
  have hle2 := hk.le
  have hm2 := hk.max
  unfold maxLen at hm hm2
  have HV := Lib.hid hE
  have HW := Lib.hid (hw.below hb2)
  have HK := Lib.hid (hk.below hb2)
  have HB2 := Lib.hid hb2
  have HLW := Lib.hid hlw
  have HLK := Lib.hid hlk
  have g2 : W2.heap[w.heap.size]? = some (.cells #[.int .i64 kind, .int .i64 server, .int .i64 need, .slice aw nw cw, .slice ak nk ck] 71 (0, 0)) := by rw [hW2]; exact heap_alloc_new _ _
  have q3 := cell_of_row _ _ 3 _ _ _ g2
  have q4 := cell_of_row _ _ 4 _ _ _ g2
  clear g2 hb2 hE hV0 hw hk hlw hlk
  by_cases k1 : kind = 1
  · subst k1
    by_cases n0 : need = 0
    · subst n0
      by_cases w0 : nw = 0 ∧ nk = 0
      · obtain ⟨w0, c0⟩ := w0
        subst w0 c0
        by_cases t0 : server < 0
        · have d0 : decide (server < 0) = true := decide_eq_true t0
          have hV : Hid (V = 7) := Lib.hid (HV.out.trans (by unfold nodF; rw [if_neg (by omega), if_pos (by omega)]))
          clear t0
          go_enter Tryz.func79, Tryz.ntmps79
          go_wp2_with fail
          go_ret
          exact ⟨ret_int hV.out.symm, by rw [← hW2]; exact HB2.out⟩

        have d0 : decide (server < 0) = false := decide_eq_false t0
        by_cases t1 : (12 : Int) ≤ server
        · have d1 : decide ((12 : Int) ≤ server) = true := decide_eq_true t1
          have hV : Hid (V = 7) := Lib.hid (HV.out.trans (by unfold nodF; rw [if_neg (by omega), if_pos (by omega)]))
          clear t0 t1
          go_enter Tryz.func79, Tryz.ntmps79
          go_wp2_with fail
          go_ret
          exact ⟨ret_int hV.out.symm, by rw [← hW2]; exact HB2.out⟩

        have d1 : decide ((12 : Int) ≤ server) = false := decide_eq_false t1
        go_enter Tryz.func79, Tryz.ntmps79
        go_wp2_with fail
        rw [← hW2]
        clear hW2
        go_loopw [5] (fun i wr => ∃ k : Nat, k ≤ 0 ∧ i = .int .i64 k ∧ Hid (∀ (j : Nat) x, j < k → ws[j]? = some x → hvyB x = false) ∧ W2 = wr) (fun i _ => 0 - (intOf i).toNat)
        case atStart => exact ⟨0, Nat.zero_le _, rfl, Lib.hid (fun j x hj => by omega), rfl⟩
        case round =>
          obtain ⟨k, hk, rfl, hno, rfl⟩ := hrel
          by_cases hlt : k < 0
          · omega
          · have hkn : 0 = k := by omega
            have HHV : Hid (ws.any hvyB = false) := Lib.hid (by
              rw [List.any_eq_false]
              intro x hx
              obtain ⟨j, hj⟩ := List.mem_iff_getElem?.1 hx
              rw [hno.out j x (by have := (List.getElem?_eq_some_iff.1 hj).1; have := HLW.out; omega) hj]; decide)
            clear hno
            subst hkn
            have m0 : ¬ (0 < 0 ∧ 0 ≠ 0) := by omega
            have HM0 := Lib.hid m0
            have f1 : decide (0 < 0) = false := decide_eq_false (by omega)
            have hs : True := trivial
            clear hs
            go_wp2_with fail
            go_loopw [6] (fun i wr => ∃ k : Nat, k ≤ 0 ∧ i = .int .i64 k ∧ Hid (∀ (j : Nat) x, j < k → ks[j]? = some x → unkB i0 x = false) ∧ W2 = wr) (fun i _ => 0 - (intOf i).toNat)
            case atStart => exact ⟨0, Nat.zero_le _, rfl, Lib.hid (fun j x hj => by omega), rfl⟩
            case round =>
              obtain ⟨j, hj, rfl, hno, rfl⟩ := hrel
              by_cases hlt2 : j < 0
              · omega
              · have hkn2 : 0 = j := by omega
                have HUN : Hid (ks.any (unkB i0) = false) := Lib.hid (by
                  rw [List.any_eq_false]
                  intro x hx
                  obtain ⟨l, hl⟩ := List.mem_iff_getElem?.1 hx
                  rw [hno.out l x (by have := (List.getElem?_eq_some_iff.1 hl).1; have := HLK.out; omega) hl]; decide)
                have hV : Hid (V = 0) := Lib.hid (HV.out.trans (by
                  have := HM0.out
                  rw [HUN.out, HHV.out]; unfold nodF; rw [if_neg (by omega), if_neg (by simp; omega), if_neg (by omega), if_neg (by decide)]))
                clear hno
                subst hkn2
                go_wp2_with fail
                go_ret
                exact ⟨ret_int hV.out.symm, HB2.out⟩

      · have hd : decide ((0 : Int) < (nw : Int) + (nk : Int)) = true := decide_eq_true (by omega)
        have hd2 : decide (0 < nw + nk) = true := decide_eq_true (by omega)
        have hwr : wrap64 ((nw : Int) + (nk : Int)) = (nw : Int) + (nk : Int) := by unfold wrap64; omega
        have hV : Hid (V = 1) := Lib.hid (HV.out.trans (by unfold nodF; rw [if_pos (by omega)]))
        clear w0
        go_enter Tryz.func79, Tryz.ntmps79
        go_wp2_with fail
        go_ret
        exact ⟨ret_int hV.out.symm, by rw [← hW2]; exact HB2.out⟩

    · have hd : (need != 0) = true := by simpa using n0
      have hV : Hid (V = 1) := Lib.hid (HV.out.trans (by unfold nodF; rw [if_pos (by omega)]))
      clear n0
      go_enter Tryz.func79, Tryz.ntmps79
      go_wp2_with fail
      go_ret
      exact ⟨ret_int hV.out.symm, by rw [← hW2]; exact HB2.out⟩

  · have hk1 : (kind == 1) = false := by simpa using k1
    have hk1' : (kind != 1) = true := by simpa using k1
    by_cases k2 : kind = 2
    · subst k2
      by_cases s0 : server = 0
      · subst s0
        by_cases t0 : need < 0
        · have d0 : decide (need < 0) = true := decide_eq_true t0
          have hV : Hid (V = 7) := Lib.hid (HV.out.trans (by unfold nodF; rw [if_neg (by omega), if_pos (by omega)]))
          clear t0
          go_enter Tryz.func79, Tryz.ntmps79
          go_wp2_with fail
          go_ret
          exact ⟨ret_int hV.out.symm, by rw [← hW2]; exact HB2.out⟩

        have d0 : decide (need < 0) = false := decide_eq_false t0
        by_cases t1 : (100000 : Int) < need
        · have d1 : decide ((100000 : Int) < need) = true := decide_eq_true t1
          have hV : Hid (V = 7) := Lib.hid (HV.out.trans (by unfold nodF; rw [if_neg (by omega), if_pos (by omega)]))
          clear t0 t1
          go_enter Tryz.func79, Tryz.ntmps79
          go_wp2_with fail
          go_ret
          exact ⟨ret_int hV.out.symm, by rw [← hW2]; exact HB2.out⟩

        have d1 : decide ((100000 : Int) < need) = false := decide_eq_false t1
        go_enter Tryz.func79, Tryz.ntmps79
        go_wp2_with fail
        rw [← hW2]
        clear hW2
        go_loopw [5] (fun i wr => ∃ k : Nat, k ≤ nw ∧ i = .int .i64 k ∧ Hid (∀ (j : Nat) x, j < k → ws[j]? = some x → hvyB x = false) ∧ W2 = wr) (fun i _ => nw - (intOf i).toNat)
        case atStart => exact ⟨0, Nat.zero_le _, rfl, Lib.hid (fun j x hj => by omega), rfl⟩
        case round =>
          obtain ⟨k, hk, rfl, hno, rfl⟩ := hrel
          by_cases hlt : k < nw
          · obtain ⟨x, hx⟩ : ∃ x, ws[k]? = some x := ⟨_, List.getElem?_eq_getElem (by have := HLW.out; omega)⟩
            obtain ⟨bb, oo, ha, hcell⟩ := HW.out.at' (by omega)
            have hc := hcell k (.int .i64 x) (by rw [List.getElem?_map, hx]; rfl)
            subst ha
            have hany : hvyB x = true → V = 7 := fun hb => HV.out.trans (by
              have e : ws.any hvyB = true := List.any_eq_true.2 ⟨x, List.mem_of_getElem? hx, hb⟩
              rw [e]; unfold nodF; rw [if_neg (by omega), if_pos (.inr rfl)])
            have hnx : hvyB x = false → ∀ (j : Nat) y, j < k + 1 → ws[j]? = some y → hvyB y = false := fun hb j y hj hy => by
              by_cases h1 : j < k
              · exact hno.out j y h1 hy
              · obtain rfl : j = k := by omega
                rw [hx] at hy; cases hy; exact hb
            have HANY := Lib.hid hany
            have HNX := Lib.hid hnx
            clear hany hnx hno hcell hx
            by_cases b1 : x < 1
            · have e1 : decide (x < 1) = true := decide_eq_true b1
              have hV := Lib.hid (HANY.out (by unfold hvyB; rw [e1]; rfl))
              clear b1
              go_wp2_with fail
              go_ret
              exact ⟨ret_int hV.out.symm, HB2.out⟩
            have e1 : decide (x < 1) = false := decide_eq_false b1
            by_cases b2 : 1000 < x
            · have e2 : decide (1000 < x) = true := decide_eq_true b2
              have hV := Lib.hid (HANY.out (by unfold hvyB; rw [e2]; simp))
              clear b1 b2
              go_wp2_with fail
              go_ret
              exact ⟨ret_int hV.out.symm, HB2.out⟩
            have e2 : decide (1000 < x) = false := decide_eq_false b2
            have HN := Lib.hid (HNX.out (by unfold hvyB; rw [e1, e2]; rfl))
            clear b1 b2
            go_wp2_with fail
            go_roundw
            case rel => exact ⟨k + 1, by omega, by go_num, HN, by first | trivial | rfl⟩
            case measure => simp [intOf]; omega
          · have hkn : nw = k := by omega
            have HHV : Hid (ws.any hvyB = false) := Lib.hid (by
              rw [List.any_eq_false]
              intro x hx
              obtain ⟨j, hj⟩ := List.mem_iff_getElem?.1 hx
              rw [hno.out j x (by have := (List.getElem?_eq_some_iff.1 hj).1; have := HLW.out; omega) hj]; decide)
            clear hno
            subst hkn
            by_cases m0 : 0 < nw ∧ nw ≠ nk
            · have f1 : decide (0 < nw) = true := decide_eq_true m0.1
              have f2 : ((nw : Nat) : Int) ≠ ((nk : Nat) : Int) := by omega
              have f3 : (((nw : Nat) : Int) != ((nk : Nat) : Int)) = true := by simpa using f2
              have hV : Hid (V = 6) := Lib.hid (HV.out.trans (by rw [HHV.out]; unfold nodF; rw [if_neg (by omega), if_neg (by simp; omega), if_pos (by omega)]))
              clear m0 f2
              go_wp2_with fail
              go_ret
              exact ⟨ret_int hV.out.symm, HB2.out⟩
            have HM0 := Lib.hid m0
            have hsame : (nw = 0 ∨ nw = nk) := by omega
            clear m0
            rcases hsame with hs | hs
            · have f1 : decide (0 < nw) = false := decide_eq_false (by omega)
              have f0 : (nw : Nat) = 0 := hs
              clear hs
              go_wp2_with fail
              go_loopw [6] (fun i wr => ∃ k : Nat, k ≤ nk ∧ i = .int .i64 k ∧ Hid (∀ (j : Nat) x, j < k → ks[j]? = some x → unkB i0 x = false) ∧ W2 = wr) (fun i _ => nk - (intOf i).toNat)
              case atStart => exact ⟨0, Nat.zero_le _, rfl, Lib.hid (fun j x hj => by omega), rfl⟩
              case round =>
                obtain ⟨j, hj, rfl, hno, rfl⟩ := hrel
                by_cases hlt2 : j < nk
                · obtain ⟨x, hx⟩ : ∃ x, ks[j]? = some x := ⟨_, List.getElem?_eq_getElem (by have := HLK.out; omega)⟩
                  obtain ⟨bb, oo, ha, hcell⟩ := HK.out.at' (by omega)
                  have hc := hcell j (.int .i64 x) (by rw [List.getElem?_map, hx]; rfl)
                  subst ha
                  have hany : unkB i0 x = true → V = 4 := fun hb => HV.out.trans (by
                    have e : ks.any (unkB i0) = true := List.any_eq_true.2 ⟨x, List.mem_of_getElem? hx, hb⟩
                    have := HM0.out
                    rw [e, HHV.out]; unfold nodF; rw [if_neg (by omega), if_neg (by simp; omega), if_neg (by omega), if_pos rfl])
                  have hnx : unkB i0 x = false → ∀ (l : Nat) y, l < j + 1 → ks[l]? = some y → unkB i0 y = false := fun hb l y hl hy => by
                    by_cases h1 : l < j
                    · exact hno.out l y h1 hy
                    · obtain rfl : l = j := by omega
                      rw [hx] at hy; cases hy; exact hb
                  have HANY := Lib.hid hany
                  have HNX := Lib.hid hnx
                  clear hany hnx hno hcell hx
                  by_cases b1 : x < 0
                  · have e1 : decide (x < 0) = true := decide_eq_true b1
                    have hV := Lib.hid (HANY.out (by unfold unkB; rw [e1]; rfl))
                    clear b1
                    go_wp2_with fail
                    go_ret
                    exact ⟨ret_int hV.out.symm, HB2.out⟩
                  have e1 : decide (x < 0) = false := decide_eq_false b1
                  by_cases b2 : (i0 : Int) ≤ x
                  · have e2 : decide ((i0 : Int) ≤ x) = true := decide_eq_true b2
                    have hV := Lib.hid (HANY.out (by unfold unkB; rw [e2]; simp))
                    clear b1 b2
                    go_wp2_with fail
                    go_ret
                    exact ⟨ret_int hV.out.symm, HB2.out⟩
                  have e2 : decide ((i0 : Int) ≤ x) = false := decide_eq_false b2
                  have HN := Lib.hid (HNX.out (by unfold unkB; rw [e1, e2]; rfl))
                  clear b1 b2
                  go_wp2_with fail
                  go_roundw
                  case rel => exact ⟨j + 1, by omega, by go_num, HN, by first | trivial | rfl⟩
                  case measure => simp [intOf]; omega
                · have hkn2 : nk = j := by omega
                  have HUN : Hid (ks.any (unkB i0) = false) := Lib.hid (by
                    rw [List.any_eq_false]
                    intro x hx
                    obtain ⟨l, hl⟩ := List.mem_iff_getElem?.1 hx
                    rw [hno.out l x (by have := (List.getElem?_eq_some_iff.1 hl).1; have := HLK.out; omega) hl]; decide)
                  have hV : Hid (V = 0) := Lib.hid (HV.out.trans (by
                    have := HM0.out
                    rw [HUN.out, HHV.out]; unfold nodF; rw [if_neg (by omega), if_neg (by simp; omega), if_neg (by omega), if_neg (by decide)]))
                  clear hno
                  subst hkn2
                  go_wp2_with fail
                  go_ret
                  exact ⟨ret_int hV.out.symm, HB2.out⟩
            · by_cases hz : nw = 0
              · have f1 : decide (0 < nw) = false := decide_eq_false (by omega)
                clear hs
                go_wp2_with fail
                go_loopw [6] (fun i wr => ∃ k : Nat, k ≤ nk ∧ i = .int .i64 k ∧ Hid (∀ (j : Nat) x, j < k → ks[j]? = some x → unkB i0 x = false) ∧ W2 = wr) (fun i _ => nk - (intOf i).toNat)
                case atStart => exact ⟨0, Nat.zero_le _, rfl, Lib.hid (fun j x hj => by omega), rfl⟩
                case round =>
                  obtain ⟨j, hj, rfl, hno, rfl⟩ := hrel
                  by_cases hlt2 : j < nk
                  · obtain ⟨x, hx⟩ : ∃ x, ks[j]? = some x := ⟨_, List.getElem?_eq_getElem (by have := HLK.out; omega)⟩
                    obtain ⟨bb, oo, ha, hcell⟩ := HK.out.at' (by omega)
                    have hc := hcell j (.int .i64 x) (by rw [List.getElem?_map, hx]; rfl)
                    subst ha
                    have hany : unkB i0 x = true → V = 4 := fun hb => HV.out.trans (by
                      have e : ks.any (unkB i0) = true := List.any_eq_true.2 ⟨x, List.mem_of_getElem? hx, hb⟩
                      have := HM0.out
                      rw [e, HHV.out]; unfold nodF; rw [if_neg (by omega), if_neg (by simp; omega), if_neg (by omega), if_pos rfl])
                    have hnx : unkB i0 x = false → ∀ (l : Nat) y, l < j + 1 → ks[l]? = some y → unkB i0 y = false := fun hb l y hl hy => by
                      by_cases h1 : l < j
                      · exact hno.out l y h1 hy
                      · obtain rfl : l = j := by omega
                        rw [hx] at hy; cases hy; exact hb
                    have HANY := Lib.hid hany
                    have HNX := Lib.hid hnx
                    clear hany hnx hno hcell hx
                    by_cases b1 : x < 0
                    · have e1 : decide (x < 0) = true := decide_eq_true b1
                      have hV := Lib.hid (HANY.out (by unfold unkB; rw [e1]; rfl))
                      clear b1
                      go_wp2_with fail
                      go_ret
                      exact ⟨ret_int hV.out.symm, HB2.out⟩
                    have e1 : decide (x < 0) = false := decide_eq_false b1
                    by_cases b2 : (i0 : Int) ≤ x
                    · have e2 : decide ((i0 : Int) ≤ x) = true := decide_eq_true b2
                      have hV := Lib.hid (HANY.out (by unfold unkB; rw [e2]; simp))
                      clear b1 b2
                      go_wp2_with fail
                      go_ret
                      exact ⟨ret_int hV.out.symm, HB2.out⟩
                    have e2 : decide ((i0 : Int) ≤ x) = false := decide_eq_false b2
                    have HN := Lib.hid (HNX.out (by unfold unkB; rw [e1, e2]; rfl))
                    clear b1 b2
                    go_wp2_with fail
                    go_roundw
                    case rel => exact ⟨j + 1, by omega, by go_num, HN, by first | trivial | rfl⟩
                    case measure => simp [intOf]; omega
                  · have hkn2 : nk = j := by omega
                    have HUN : Hid (ks.any (unkB i0) = false) := Lib.hid (by
                      rw [List.any_eq_false]
                      intro x hx
                      obtain ⟨l, hl⟩ := List.mem_iff_getElem?.1 hx
                      rw [hno.out l x (by have := (List.getElem?_eq_some_iff.1 hl).1; have := HLK.out; omega) hl]; decide)
                    have hV : Hid (V = 0) := Lib.hid (HV.out.trans (by
                      have := HM0.out
                      rw [HUN.out, HHV.out]; unfold nodF; rw [if_neg (by omega), if_neg (by simp; omega), if_neg (by omega), if_neg (by decide)]))
                    clear hno
                    subst hkn2
                    go_wp2_with fail
                    go_ret
                    exact ⟨ret_int hV.out.symm, HB2.out⟩
              · have f1 : decide (0 < nw) = true := decide_eq_true (by omega)
                have f3 : (((nw : Nat) : Int) != ((nk : Nat) : Int)) = false := by rw [hs]; simp
                clear hs
                go_wp2_with fail
                go_loopw [6] (fun i wr => ∃ k : Nat, k ≤ nk ∧ i = .int .i64 k ∧ Hid (∀ (j : Nat) x, j < k → ks[j]? = some x → unkB i0 x = false) ∧ W2 = wr) (fun i _ => nk - (intOf i).toNat)
                case atStart => exact ⟨0, Nat.zero_le _, rfl, Lib.hid (fun j x hj => by omega), rfl⟩
                case round =>
                  obtain ⟨j, hj, rfl, hno, rfl⟩ := hrel
                  by_cases hlt2 : j < nk
                  · obtain ⟨x, hx⟩ : ∃ x, ks[j]? = some x := ⟨_, List.getElem?_eq_getElem (by have := HLK.out; omega)⟩
                    obtain ⟨bb, oo, ha, hcell⟩ := HK.out.at' (by omega)
                    have hc := hcell j (.int .i64 x) (by rw [List.getElem?_map, hx]; rfl)
                    subst ha
                    have hany : unkB i0 x = true → V = 4 := fun hb => HV.out.trans (by
                      have e : ks.any (unkB i0) = true := List.any_eq_true.2 ⟨x, List.mem_of_getElem? hx, hb⟩
                      have := HM0.out
                      rw [e, HHV.out]; unfold nodF; rw [if_neg (by omega), if_neg (by simp; omega), if_neg (by omega), if_pos rfl])
                    have hnx : unkB i0 x = false → ∀ (l : Nat) y, l < j + 1 → ks[l]? = some y → unkB i0 y = false := fun hb l y hl hy => by
                      by_cases h1 : l < j
                      · exact hno.out l y h1 hy
                      · obtain rfl : l = j := by omega
                        rw [hx] at hy; cases hy; exact hb
                    have HANY := Lib.hid hany
                    have HNX := Lib.hid hnx
                    clear hany hnx hno hcell hx
                    by_cases b1 : x < 0
                    · have e1 : decide (x < 0) = true := decide_eq_true b1
                      have hV := Lib.hid (HANY.out (by unfold unkB; rw [e1]; rfl))
                      clear b1
                      go_wp2_with fail
                      go_ret
                      exact ⟨ret_int hV.out.symm, HB2.out⟩
                    have e1 : decide (x < 0) = false := decide_eq_false b1
                    by_cases b2 : (i0 : Int) ≤ x
                    · have e2 : decide ((i0 : Int) ≤ x) = true := decide_eq_true b2
                      have hV := Lib.hid (HANY.out (by unfold unkB; rw [e2]; simp))
                      clear b1 b2
                      go_wp2_with fail
                      go_ret
                      exact ⟨ret_int hV.out.symm, HB2.out⟩
                    have e2 : decide ((i0 : Int) ≤ x) = false := decide_eq_false b2
                    have HN := Lib.hid (HNX.out (by unfold unkB; rw [e1, e2]; rfl))
                    clear b1 b2
                    go_wp2_with fail
                    go_roundw
                    case rel => exact ⟨j + 1, by omega, by go_num, HN, by first | trivial | rfl⟩
                    case measure => simp [intOf]; omega
                  · have hkn2 : nk = j := by omega
                    have HUN : Hid (ks.any (unkB i0) = false) := Lib.hid (by
                      rw [List.any_eq_false]
                      intro x hx
                      obtain ⟨l, hl⟩ := List.mem_iff_getElem?.1 hx
                      rw [hno.out l x (by have := (List.getElem?_eq_some_iff.1 hl).1; have := HLK.out; omega) hl]; decide)
                    have hV : Hid (V = 0) := Lib.hid (HV.out.trans (by
                      have := HM0.out
                      rw [HUN.out, HHV.out]; unfold nodF; rw [if_neg (by omega), if_neg (by simp; omega), if_neg (by omega), if_neg (by decide)]))
                    clear hno
                    subst hkn2
                    go_wp2_with fail
                    go_ret
                    exact ⟨ret_int hV.out.symm, HB2.out⟩

      · have hd : (server != 0) = true := by simpa using s0
        have hV : Hid (V = 1) := Lib.hid (HV.out.trans (by unfold nodF; rw [if_pos (by omega)]))
        clear s0
        go_enter Tryz.func79, Tryz.ntmps79
        go_wp2_with fail
        go_ret
        exact ⟨ret_int hV.out.symm, by rw [← hW2]; exact HB2.out⟩

    · have hk2 : (kind == 2) = false := by simpa using k2
      have hk2' : (kind != 2) = true := by simpa using k2
      have hV : Hid (V = 1) := Lib.hid (HV.out.trans (by unfold nodF; rw [if_pos (by omega)]))
      clear k1 k2
      go_enter Tryz.func79, Tryz.ntmps79
      go_wp2_with fail
      go_ret
      exact ⟨ret_int hV.out.symm, by rw [← hW2]; exact HB2.out⟩

end Go.Proofs.YtcojmmhclklpoaaGreatDoor
namespace Go.Proofs.YtcojmmhclklpoaaGreatDoor
open Go.RowKit Go.Shelf

/-- no node has so many weights and kids that their number is none of Go's -/
def XprSum (x : Xpr) : Prop := ∀ (k : Nat) nd, x.nodes[k]? = some nd → nd.weights.length + nd.kids.length ≤ 9223372036854775807

set_option maxRecDepth 100000 in
set_option maxHeartbeats 2000000 in
theorem rvalid10_c (x : Xpr) (hs : XprSum x) (a : Option Addr) (n c : Nat) (w : World) (h : XM w a n c x.nodes) :
    Calls Tryz.prog 39 #[.agg #[.slice a n c, .int .i64 x.root]] w fun e w' => e = .returned (.int .i64 (xprE x)) ∧ Below w.heap.size w w' := by
  obtain ⟨W2, hW2⟩ : ∃ W2, W2 = w.alloc (Obj.cells #[.slice a n c, .int .i64 x.root] 32) := ⟨_, rfl⟩
  have hb2 : Below w.heap.size w W2 := by rw [hW2]; exact (Below.refl _ w).alloc (Nat.le_refl _) _
  have HX := Lib.hid (h.below hb2)
  have HN := Lib.hid h.len
  have HSM := Lib.hid hs
  have hle := h.le
  have hm := h.max
  unfold maxLen at hm
  have HB2 := Lib.hid hb2
  clear h hb2 hs
  by_cases hn0 : n = 0
  · subst hn0
    have hV : Hid (xprE x = 9) := by
      show _ = _; unfold xprE; rw [if_pos (List.eq_nil_of_length_eq_zero HN.out)]
    go_enter Tryz.func39, Tryz.ntmps39
    go_wp2_with fail
    go_ret
    exact ⟨ret_int hV.out.symm, by rw [← hW2]; exact HB2.out⟩
  have hne : ((n : Int) == 0) = false := by rw [beq_eq_false_iff_ne]; omega
  have H0 : Hid (x.nodes ≠ []) := Lib.hid (fun e => by have := HN.out; rw [e] at this; simp at this; omega)
  by_cases h60 : 60 < n
  · have hd : decide ((60 : Int) < (n : Int)) = true := decide_eq_true (by omega)
    have hV : Hid (xprE x = 3) := by
      show _ = _; unfold xprE; rw [if_neg H0.out, if_pos (by have := HN.out; omega)]
    clear hn0 h60
    go_enter Tryz.func39, Tryz.ntmps39
    go_wp2_with fail
    go_ret
    exact ⟨ret_int hV.out.symm, by rw [← hW2]; exact HB2.out⟩
  have hd : decide ((60 : Int) < (n : Int)) = false := decide_eq_false (by omega)
  have H60 : Hid (¬ 60 < x.nodes.length) := by show ¬ _; have := HN.out; omega
  have HR : Hid (∀ y : World, Below W2.heap.size W2 y → y.cell? ⟨w.heap.size, 0, none⟩ = some (.slice a n c) ∧ y.cell? ⟨w.heap.size, 1, none⟩ = some (.int .i64 x.root)) := Lib.hid (fun y hy => by
    have g : W2.heap[w.heap.size]? = some (.cells #[.slice a n c, .int .i64 x.root] 32 (0, 0)) := by rw [hW2]; exact heap_alloc_new _ _
    have g' := heap_below hy g
    exact ⟨cell_of_row _ _ 0 _ _ _ g', cell_of_row _ _ 1 _ _ _ g'⟩)
  go_enter Tryz.func39, Tryz.ntmps39
  go_wp2_with fail
  rw [← hW2]
  clear hW2
  go_loopw [3] (fun i wr => ∃ k : Nat, k ≤ n ∧ i = .int .i64 k ∧ Hid (nodsE x.nodes 0 = nodsE (x.nodes.drop k) k) ∧ Below W2.heap.size W2 wr) (fun i _ => n - (intOf i).toNat)
  case atStart => exact ⟨0, Nat.zero_le _, rfl, Lib.hid (by simp), Below.refl _ _⟩
  case round =>
    obtain ⟨k, hk, rfl, hno, hb⟩ := hrel
    obtain ⟨q0, q1⟩ := HR.out wr hb
    by_cases hlt : k < n
    · obtain ⟨nd, hnd⟩ : ∃ nd, x.nodes[k]? = some nd := ⟨_, List.getElem?_eq_getElem (by have := HN.out; omega)⟩
      obtain ⟨b, o, ha, hat⟩ := (HX.out.below hb).at' (by omega)
      have hM := hat k nd hnd
      obtain ⟨a3, n3, c3, m3, r3⟩ := hM.ws
      obtain ⟨a4, n4, c4, m4, r4⟩ := hM.ks
      have m0 := hM.c0
      have m1 := hM.c1
      have m2 := hM.c2
      subst ha
      have hsm := HSM.out k nd hnd
      have HV : Hid (∀ y, Below wr.heap.size wr y → Calls Tryz.prog 79 #[.agg #[.int .i64 nd.kind, .int .i64 nd.server, .int .i64 nd.need, .slice a3 n3 c3, .slice a4 n4 c4], .int .i64 k] y fun e w' => e = .returned (.int .i64 (nodE nd k)) ∧ Below y.heap.size y w') :=
        Lib.hid (fun y hy => rnode_c nd k a3 n3 c3 a4 n4 c4 y (by have h1 := r3.len; have h2 := r4.len; simp at h1 h2; omega) (r3.below hy) (r4.below hy))
      have HHit : Hid (nodE nd k ≠ 0 → xprE x = nodE nd k) := Lib.hid (fun he => xprE_hit H0.out H60.out hnd hno.out he)
      have HNxt : Hid (nodE nd k = 0 → nodsE x.nodes 0 = nodsE (x.nodes.drop (k + 1)) (k + 1)) := Lib.hid (fun he => xprE_next hnd hno.out he)
      obtain ⟨kind, server, need, ws, ks⟩ := nd
      obtain ⟨E, hE⟩ : ∃ E, nodE ⟨kind, server, need, ws, ks⟩ k = E := ⟨_, rfl⟩
      rw [hE] at HV HHit HNxt
      simp only at m0 m1 m2 HV
      clear hM r3 r4 hat hnd hno hE hsm
      by_cases he : E = 0
      · subst he
        have hN := HNxt.out rfl
        have HN2 := Lib.hid hN
        clear hN HHit HNxt
        go_wp2_with fail
        with_reducible refine (HV.out _ (Below.refl _ _)).mono ?_
        rintro e w5 ⟨rfl, hb5⟩
        have hb6 := Below.next hb hb5
        go_wp2_with fail
        go_roundw
        case rel => exact ⟨k + 1, by omega, by go_num, HN2, hb6⟩
        case measure => simp [intOf]; omega
      · have hV := HHit.out he
        have HV2 := Lib.hid hV
        have hE : (E != 0) = true := by simpa using he
        clear hV HHit HNxt he
        go_wp2_with fail
        with_reducible refine (HV.out _ (Below.refl _ _)).mono ?_
        rintro e w5 ⟨rfl, hb5⟩
        have hb6 := Below.next hb hb5
        go_wp2_with fail
        go_ret
        exact ⟨ret_int HV2.out.symm, Below.next HB2.out hb6⟩
    · obtain rfl : k = n := by omega
      have hV := xprE_end H0.out H60.out HN.out hno.out
      clear hno
      obtain ⟨root, hroot⟩ : ∃ r, x.root = r := ⟨_, rfl⟩
      rw [hroot] at hV q1
      by_cases h1 : root < 0
      · have d1 : decide (root < 0) = true := decide_eq_true h1
        rw [if_pos (.inl h1)] at hV
        have HV := Lib.hid hV
        clear hV h1 hroot
        go_wp2_with fail
        go_ret
        exact ⟨ret_int HV.out.symm, Below.next HB2.out hb⟩
      · have d1 : decide (root < 0) = false := decide_eq_false h1
        by_cases h2 : (k : Int) ≤ root
        · have d2 : decide ((k : Int) ≤ root) = true := decide_eq_true h2
          rw [if_pos (.inr h2)] at hV
          have HV := Lib.hid hV
          clear hV h1 hroot h2
          go_wp2_with fail
          go_ret
          exact ⟨ret_int HV.out.symm, Below.next HB2.out hb⟩
        · have d2 : decide ((k : Int) ≤ root) = false := decide_eq_false h2
          rw [if_neg (by omega)] at hV
          have HV := Lib.hid hV
          clear hV h1 hroot h2
          go_wp2_with fail
          go_ret
          exact ⟨ret_int HV.out.symm, Below.next HB2.out hb⟩
end Go.Proofs.YtcojmmhclklpoaaGreatDoor
namespace Go.Proofs.YtcojmmhclklpoaaGreatDoor
open Go.RowKit Go.Shelf

theorem cntTo_succ (x : BitVec 16) (k : Nat) : (memTo x (k + 1)).length = (memTo x k).length + (if hasB x k then 1 else 0) := by
  rw [memTo_succ]; cases hasB x k <;> simp
@[go_sem] theorem b01_conv (b : Bool) : IntKind.i64.wrap (b01 b) = b01 b := by cases b <;> decide

set_option maxRecDepth 100000 in
set_option maxHeartbeats 1000000 in
theorem size8_c (x : BitVec 16) (w : World) :
    Calls Tryz.prog 118 #[.int .u16 (U x)] w fun e w' => e = .returned (.int .i64 (cnt x)) ∧ w' = w := by
  go_enter Tryz.func118, Tryz.ntmps118
  go_wp2_with fail
  go_loop [3, 4] (fun v i => ∃ (k : Nat) (m : Nat), k ≤ 16 ∧ m ≤ k ∧ i = .int .i64 k ∧ v = .int .i64 m ∧ Hid (m = (memTo x k).length)) (fun _ i => 16 - (intOf i).toNat)
  case atStart => exact ⟨0, 0, Nat.zero_le _, Nat.zero_le _, rfl, rfl, rfl⟩
  case round =>
    obtain ⟨k, m, hk, hmk, rfl, rfl, hm⟩ := hrel
    by_cases hlt : k < 16
    · have HS := Lib.hid (cntTo_succ x k)
      cases hb : hasB x k
      · have HB := Lib.hid hb
        have hb0 : b01 (hasB x k) = 0 := by rw [hb]; rfl
        clear hb
        go_wp2_with fail
        go_round
        case rel => exact ⟨k + 1, m, by omega, by omega, by go_num, by (try go_num), by show _ = _; rw [HS.out, HB.out, hm.out]; rfl⟩
        case measure => simp [intOf]; omega
      · have HB := Lib.hid hb
        have hb0 : b01 (hasB x k) = 1 := by rw [hb]; rfl
        clear hb
        go_wp2_with fail
        go_round
        case rel => exact ⟨k + 1, m + 1, by omega, by omega, by go_num, by go_num, by show _ = _; rw [HS.out, HB.out, hm.out]; rfl⟩
        case measure => simp [intOf]; omega
    · have hE : Hid (m = cnt x) := by
        obtain rfl : k = 16 := by omega
        exact hm.out
      go_wp2_with fail
      go_ret
      exact ⟨ret_int (by rw [hE.out]), rfl⟩

/-- x comes before y -/
def befB (x y : BitVec 16) : Bool := decide (keyS x < keyS y)
theorem bef_ne {x y : BitVec 16} (h : cnt x ≠ cnt y) : befB x y = decide (cnt x < cnt y) := by
  unfold befB keyS; have := x.isLt; have := y.isLt
  rw [Bool.eq_iff_iff, decide_eq_true_iff, decide_eq_true_iff]; omega
theorem bef_eq {x y : BitVec 16} (h : cnt x = cnt y) : befB x y = decide (U x < U y) := by
  unfold befB keyS U
  rw [Bool.eq_iff_iff, decide_eq_true_iff, decide_eq_true_iff]; omega

set_option maxRecDepth 100000 in
set_option maxHeartbeats 1000000 in
theorem before8_c (x y : BitVec 16) (w : World) :
    Calls Tryz.prog 92 #[.int .u16 (U x), .int .u16 (U y)] w fun e w' => e = .returned (.bool (befB x y)) ∧ w' = w := by
  by_cases hc : cnt x = cnt y
  · have HE := Lib.hid (bef_eq hc)
    obtain ⟨m, hm⟩ : ∃ m, cnt x = m := ⟨_, rfl⟩
    have H1 := Lib.hid (fun w => size8_c x w)
    have H2 := Lib.hid (fun w => size8_c y w)
    rw [← hc, hm] at H2
    rw [hm] at H1
    clear hc hm
    go_enter Tryz.func92, Tryz.ntmps92
    go_wp2_with fail
    refine (H1.out _).mono ?_
    rintro e w1 ⟨rfl, rfl⟩
    go_wp2_with fail
    refine (H2.out _).mono ?_
    rintro e w1 ⟨rfl, rfl⟩
    go_wp2_with fail
    go_ret
    exact ⟨ret_bool HE.out.symm, rfl⟩
  · have HE := Lib.hid (bef_ne hc)
    obtain ⟨m, hm⟩ : ∃ m, cnt x = m := ⟨_, rfl⟩
    obtain ⟨m2, hm2⟩ : ∃ m, cnt y = m := ⟨_, rfl⟩
    have H1 := Lib.hid (fun w => size8_c x w)
    have H2 := Lib.hid (fun w => size8_c y w)
    rw [hm2] at H2 HE hc
    rw [hm] at H1 HE hc
    have hne : ((m : Int) != (m2 : Int)) = true := by rw [bne_iff_ne]; omega
    have hcm : decide ((m : Int) < m2) = decide (m < m2) := by rw [Bool.eq_iff_iff, decide_eq_true_iff, decide_eq_true_iff]; omega
    have HCM := Lib.hid hcm
    clear hc hm hm2 hcm
    go_enter Tryz.func92, Tryz.ntmps92
    go_wp2_with fail
    refine (H1.out _).mono ?_
    rintro e w1 ⟨rfl, rfl⟩
    go_wp2_with fail
    refine (H2.out _).mono ?_
    rintro e w1 ⟨rfl, rfl⟩
    go_wp2_with fail
    refine (H1.out _).mono ?_
    rintro e w1 ⟨rfl, rfl⟩
    go_wp2_with fail
    refine (H2.out _).mono ?_
    rintro e w1 ⟨rfl, rfl⟩
    go_wp2_with fail
    go_ret
    exact ⟨ret_bool (by rw [HE.out]; (try first | rfl | exact HCM.out | simp)), rfl⟩

set_option maxHeartbeats 400000 in
theorem contains8_c (x y : BitVec 16) (w : World) :
    Calls Tryz.prog 89 #[.int .u16 (U x), .int .u16 (U y)] w fun e w' => e = .returned (.bool (subB x y)) ∧ w' = w := by
  go_enter Tryz.func89, Tryz.ntmps89
  go_wp2
  go_ret
  exact ⟨rfl, rfl⟩
set_option maxHeartbeats 400000 in
theorem range8_c (x : BitVec 16) (w : World) :
    Calls Tryz.prog 72 #[.int .u16 (U x)] w fun e w' => e = .returned (.bool (decide (U x < 4096))) ∧ w' = w := by
  go_enter Tryz.func72, Tryz.ntmps72
  go_wp2
  go_ret
  exact ⟨rfl, rfl⟩

set_option maxRecDepth 100000 in
set_option maxHeartbeats 1000000 in
theorem accepts8_c (l : List (BitVec 16)) (s : BitVec 16) (a : Option Addr) (n c : Nat) (w : World) (h : Rd w a n c (l.map setV2)) :
    Calls Tryz.prog 48 #[.slice a n c, .int .u16 (U s)] w fun e w' => e = .returned (.bool (accS l s)) ∧ w' = w := by
  have hnl : l.length = n := by have := h.len; simp at this; omega
  have hm := h.max
  have hle := h.le
  unfold maxLen at hm
  have HR := Lib.hid h
  have HN := Lib.hid hnl
  clear h hnl
  go_enter Tryz.func48, Tryz.ntmps48
  go_wp2_with fail
  go_loop [5] (fun i => ∃ k : Nat, k ≤ n ∧ i = .int .i64 k ∧ Hid (∀ j, j < k → subB s (l.getD j 0#16) = false)) (fun i => n - (intOf i).toNat)
  case atStart => exact ⟨0, Nat.zero_le _, rfl, Lib.hid (fun j hj => by omega)⟩
  case round =>
    obtain ⟨k, hk, rfl, hno⟩ := hrel
    by_cases hlt : k < n
    · obtain ⟨b, o, ha, hcell⟩ := HR.out.at' (by omega)
      have hkl : k < l.length := by have := HN.out; omega
      have hc := hcell k _ (at_cell hkl)
      subst ha
      have HC := Lib.hid (contains8_c s (l.getD k 0#16) w)
      cases hq : subB s (l.getD k 0#16)
      · have hno' : Hid (∀ j, j < k + 1 → subB s (l.getD j 0#16) = false) := Lib.hid (fun j hj => by
          by_cases h1 : j < k
          · exact hno.out j h1
          · obtain rfl : j = k := by omega
            exact hq)
        rw [hq] at HC
        obtain ⟨x, hx⟩ : ∃ x, l.getD k 0#16 = x := ⟨_, rfl⟩
        rw [hx] at hc HC
        clear hq hcell hno hx hkl
        go_wp2_with fail
        refine HC.out.mono ?_
        rintro e w1 ⟨rfl, rfl⟩
        go_wp2_with fail
        go_round
        case rel => exact ⟨k + 1, by omega, by go_num, hno'⟩
        case measure => simp [intOf]; omega
      · have hA : Hid (accS l s = true) := any_hit (p := fun x => subB s x) hkl hq
        rw [hq] at HC
        obtain ⟨x, hx⟩ : ∃ x, l.getD k 0#16 = x := ⟨_, rfl⟩
        rw [hx] at hc HC
        clear hq hcell hno hx hkl
        go_wp2_with fail
        refine HC.out.mono ?_
        rintro e w1 ⟨rfl, rfl⟩
        go_wp2_with fail
        go_ret
        exact ⟨ret_bool hA.out.symm, rfl⟩
    · have hA : Hid (accS l s = false) := any_none (p := fun x => subB s x) (fun j hj => hno.out j (by have := HN.out; omega))
      clear hno
      go_wp2_with fail
      go_ret
      exact ⟨ret_bool hA.out.symm, rfl⟩

set_option maxRecDepth 100000 in
set_option maxHeartbeats 1000000 in
theorem support8_c (l : List (BitVec 16)) (a : Option Addr) (n c : Nat) (w : World) (h : Rd w a n c (l.map setV2)) :
    Calls Tryz.prog 66 #[.slice a n c] w fun e w' => e = .returned (.int .u16 (U (supS l))) ∧ w' = w := by
  have hn : n ≤ l.length ∧ l.length ≤ n := by have := h.len; simp at this; omega
  obtain ⟨hn1, hn2⟩ := hn
  have hm := h.max
  have hle := h.le
  unfold maxLen at hm
  go_enter Tryz.func66, Tryz.ntmps66
  go_wp2_with fail
  go_loop [3, 4] (fun v i => ∃ (k : Nat) (s : BitVec 16), k ≤ n ∧ i = .int .i64 k ∧ v = .int .u16 (U s) ∧ Hid (s = supS (l.take k))) (fun _ i => n - (intOf i).toNat)
  case atStart => exact ⟨0, 0#16, Nat.zero_le _, rfl, rfl, rfl⟩
  case round =>
    obtain ⟨k, s, hk, rfl, rfl, hs⟩ := hrel
    by_cases hlt : k < n
    · obtain ⟨b, o, ha, hcell⟩ := h.at' (by omega)
      have hc := hcell k _ (at_cell (by omega))
      have HS := Lib.hid (supS_take (l := l) (k := k) (by omega))
      obtain ⟨x, hx⟩ : ∃ x, l.getD k 0#16 = x := ⟨_, rfl⟩
      rw [hx] at hc HS
      subst ha
      clear hcell h hx
      go_wp2_with fail
      go_round
      case rel => exact ⟨k + 1, s ||| x, by omega, by go_num, rfl, by show _ = _; rw [HS.out, hs.out]⟩
      case measure => simp [intOf]; omega
    · have hE : Hid (l.take k = l) := List.take_of_length_le (by omega)
      clear h
      go_wp2_with fail
      go_ret
      exact ⟨by rw [hs.out, hE.out]; rfl, rfl⟩
end Go.Proofs.YtcojmmhclklpoaaGreatDoor
namespace Go.Proofs.YtcojmmhclklpoaaGreatDoor
open Go.RowKit Go.Shelf

def evalS (x : Xpr) (s : BitVec 16) : Bool × Int := if xprE x ≠ 0 then (false, xprE x) else if 4096 ≤ s.toNat then (false, 7) else (holdX x s, 0)

set_option maxRecDepth 100000 in
set_option maxHeartbeats 1000000 in
theorem evalx_c (x : Xpr) (hf : XprFew x) (s : BitVec 16) (a : Option Addr) (n c : Nat) (w : World) (h : XM w a n c x.nodes) :
    Calls Tryz.prog 33 #[.agg #[.slice a n c, .int .i64 x.root], .int .u16 (U s)] w fun e w' => e = .returned (.tuple #[.bool (evalS x s).1, .int .i64 (evalS x s).2]) ∧ Below w.heap.size w w' := by
  have H1 := Lib.hid (fun (v : World) (hb : Below w.heap.size w v) => xpr_c x a n c v (h.below hb))
  obtain ⟨W2, hW2⟩ : ∃ W2, W2 = w.alloc (.cells #[.slice a n c, .int .i64 x.root] 32) := ⟨_, rfl⟩
  have hb2 : Below w.heap.size w W2 := by rw [hW2]; exact (Below.refl _ w).alloc (Nat.le_refl _) _
  have HB2 := Lib.hid hb2
  by_cases hx : xprE x = 0
  · by_cases hs : 4096 ≤ s.toNat
    · have hR : evalS x s = (false, 7) := by unfold evalS; rw [if_neg (by rw [hx]; simp), if_pos hs]
      rw [hR]
      rw [hx] at H1
      have hd : decide (4096 ≤ U s) = true := decide_eq_true (by unfold U; omega)
      clear h hf hx hR hb2 hs
      go_enter Tryz.func33, Tryz.ntmps33
      go_wp2_with fail
      rw [← hW2]
      refine (H1.out W2 HB2.out).mono ?_
      rintro e w1 ⟨rfl, hb1⟩
      go_wp2_with fail
      go_ret2
      exact ⟨rfl, Below.next HB2.out hb1⟩
    · have hR : evalS x s = (holdX x s, 0) := by unfold evalS; rw [if_neg (by rw [hx]; simp), if_neg hs]
      rw [hR]
      exact eval_c x hx hf s (by omega) a n c w h
  · have hR : evalS x s = (false, xprE x) := by unfold evalS; rw [if_pos hx]
    obtain ⟨E, hE⟩ : ∃ E, xprE x = E := ⟨_, rfl⟩
    rw [hR, hE]
    rw [hE] at H1 hx
    have hne : (E != 0) = true := by simpa using hx
    clear h hf hx hR hb2 hE
    go_enter Tryz.func33, Tryz.ntmps33
    go_wp2_with fail
    rw [← hW2]
    refine (H1.out W2 HB2.out).mono ?_
    rintro e w1 ⟨rfl, hb1⟩
    go_wp2_with fail
    go_ret2
    exact ⟨rfl, Below.next HB2.out hb1⟩
set_option maxRecDepth 100000 in
set_option maxHeartbeats 1000000 in
theorem reval_c (x : Xpr) (hx : xprE x = 0) (hs : XprSum x) (hf : XprFew x) (s : BitVec 16) (a : Option Addr) (n c : Nat) (w : World) (h : XM w a n c x.nodes) :
    Calls Tryz.prog 34 #[.agg #[.slice a n c, .int .i64 x.root], .int .u16 (U s)] w fun e w' => e = .returned (.tuple #[.bool (evalS x s).1, .int .i64 (evalS x s).2]) ∧ Below w.heap.size w w' := by
  have H1 := Lib.hid (fun (v : World) (hb : Below w.heap.size w v) => rvalid10_c x hs a n c v (h.below hb))
  have H2 := Lib.hid (fun (v : World) (hb : Below w.heap.size w v) => rholds_c x (xprE_ok hx) hf s a n c v (h.below hb))
  rw [hx] at H1
  obtain ⟨W2, hW2⟩ : ∃ W2, W2 = w.alloc (.cells #[.slice a n c, .int .i64 x.root] 32) := ⟨_, rfl⟩
  have hb2 : Below w.heap.size w W2 := by rw [hW2]; exact (Below.refl _ w).alloc (Nat.le_refl _) _
  have g0 : W2.heap[w.heap.size]? = some (.cells #[.slice a n c, .int .i64 x.root] 32 (0, 0)) := by rw [hW2]; exact heap_alloc_new _ _
  have HB2 := Lib.hid hb2
  have G0 := Lib.hid g0
  have HR := Lib.hid (fun u => range8_c s u)
  by_cases hb : 4096 ≤ s.toNat
  · have hR : evalS x s = (false, 7) := by unfold evalS; rw [if_neg (by rw [hx]; simp), if_pos hb]
    rw [hR]
    have hd : decide (U s < 4096) = false := decide_eq_false (by unfold U; omega)
    clear h hf hx hR hb2 hb g0 hs
    go_enter Tryz.func34, Tryz.ntmps34
    go_wp2_with fail
    rw [← hW2]
    refine (H1.out W2 HB2.out).mono ?_
    rintro e w1 ⟨rfl, hb1⟩
    go_wp2_with fail
    refine (HR.out w1).mono ?_
    rintro e w3 ⟨rfl, rfl⟩
    go_wp2_with fail
    go_ret2
    exact ⟨rfl, Below.next HB2.out hb1⟩
  · have hR : evalS x s = (holdX x s, 0) := by unfold evalS; rw [if_neg (by rw [hx]; simp), if_neg hb]
    rw [hR]
    have hd : decide (U s < 4096) = true := decide_eq_true (by unfold U; omega)
    clear h hf hx hR hb2 hb g0 hs
    go_enter Tryz.func34, Tryz.ntmps34
    go_wp2_with fail
    rw [← hW2]
    refine (H1.out W2 HB2.out).mono ?_
    rintro e w1 ⟨rfl, hb1⟩
    have e1 := heap_below hb1 G0.out
    have q0 := cell_of_row _ _ 0 _ _ _ e1
    have q1 := cell_of_row _ _ 1 _ _ _ e1
    clear e1
    go_wp2_with fail
    refine (HR.out w1).mono ?_
    rintro e w3 ⟨rfl, rfl⟩
    go_wp2_with fail
    refine (H2.out _ (Below.next HB2.out hb1)).mono ?_
    rintro e w5 ⟨rfl, hb5⟩
    go_wp2_with fail
    go_ret2
    exact ⟨rfl, Below.next HB2.out (Below.next hb1 hb5)⟩
end Go.Proofs.YtcojmmhclklpoaaGreatDoor
namespace Go.Proofs.YtcojmmhclklpoaaGreatDoor
open Go.RowKit Go.ChangeShapes Go.WideShapes Go.Deep

section
variable {H : Type} {enc : TypeId × Value → H} {P : Program} {w : World} {base : Nat} {spare : Nat → Bool} {held : Bool}
theorem open_slice_fields {t e : TypeId} {fs : Array Field} {fuel : Nat} {cs : List Value} {x : DataW H × List MemPlace} (ht : P.underlying t = some (.slice e)) (he : P.underlying e = some (.struct fs))
    (hone : oneCellFields P fs = true) (hC : P.cellsOf e = fs.size) (h : DataW.trod enc P w base spare held fuel t cs = some x) :
    (cs = [.slice none 0 0] ∧ x = (.nil, [])) ∨
    ∃ (a : Addr) (len cap m : Nat) (D : Nat → DataW H) (Pl : Nat → List MemPlace), cs = [.slice (some a) len cap] ∧ base ≤ a.block ∧ len ≤ cap ∧ cap ≤ maxLen ∧ m = (if spare a.block then cap else len) ∧
      x = (.slice ((List.range len).map D) ((List.range (m - len)).map fun j => D (len + j)), MemPlace.row a (m * fs.size) ++ (List.range m).flatMap Pl) ∧
      ∀ i, i < m → ∃ (ys : List (DataW H × List MemPlace)) (n : Nat), D i = .agg (ys.map (·.1)) ∧ Pl i = ys.flatMap (·.2) ∧ ys.length = fs.size ∧
        ∀ (j : Nat) (f : Field), fs[j]? = some f → ∃ (v : Value) (y : DataW H × List MemPlace), w.cell? (a.add (i * fs.size + j)) = some v ∧ ys[j]? = some y ∧ DataW.trod enc P w base spare held n f.type [v] = some y := by
  rcases open_slice ht h with h0 | ⟨a, len, cap, m, n, D, Pl, hcs, hb, hl, hm, hmm, hx, hi⟩
  · exact .inl h0
  · refine .inr ⟨a, len, cap, m, D, Pl, hcs, hb, hl, hm, hmm, by rw [hC] at hx; exact hx, fun i him => ?_⟩
    obtain ⟨cs', hc, ht'⟩ := hi i him
    rw [hC] at hc
    obtain ⟨ys, n', hn', hy, hlen, hyl, hf⟩ := DataW.trod_struct he ht'
    obtain ⟨_, hcl, hat⟩ := World.cells?_some hc
    simp only [Prod.mk.injEq] at hy
    refine ⟨ys, n', hy.1, hy.2, hyl, fun j f hj => ?_⟩
    obtain ⟨ho, hk⟩ := hone_of hone j f hj
    have hjl : j < fs.size := (Array.getElem?_eq_some_iff.1 hj).1
    have hcell := hat j hjl
    have hv : cs'[j]? = some (cs'[j]'(by omega)) := List.getElem?_eq_getElem (by omega)
    have h1 := hf j f hj
    rw [ho, hk] at h1
    have hone' : (cs'.drop j).take 1 = [cs'[j]'(by omega)] := by
      rw [List.drop_eq_getElem_cons (by omega)]
      rfl
    rw [hone'] at h1
    have hys : ys[j]? = some (ys[j]'(by omega)) := List.getElem?_eq_getElem (by omega)
    refine ⟨_, _, ?_, hys, h1.trans hys⟩
    rw [← Go.Deep.add_add, hcell, hv]
end

theorem list_of {α : Type} {Q : Nat → α → Prop} : ∀ n, (∀ i, i < n → ∃ r, Q i r) → ∃ L : List α, L.length = n ∧ ∀ i r, L[i]? = some r → Q i r := by
  intro n
  induction n with
  | zero => intro _; exact ⟨[], rfl, fun i r h => by simp at h⟩
  | succ n ih =>
    intro h
    obtain ⟨L, hl, hL⟩ := ih (fun i hi => h i (by omega))
    obtain ⟨r, hr⟩ := h n (by omega)
    refine ⟨L ++ [r], by simp [hl], fun i q hq => ?_⟩
    by_cases hi : i < n
    · rw [List.getElem?_append_left (by omega)] at hq; exact hL i q hq
    · have := (List.getElem?_eq_some_iff.1 hq).1
      simp at this
      obtain rfl : i = n := by omega
      rw [List.getElem?_append_right (by omega), hl, Nat.sub_self] at hq
      cases hq; exact hr

theorem addr_plain {W : World} {a : Addr} {v : Value} (h : W.cell? (a.add 0) = some v) : a = ⟨a.block, a.off, none⟩ := by
  have : a.add 0 = a := by simp [Addr.add]
  rw [this] at h
  unfold World.cell? at h
  cases hs : a.spot with
  | none => cases a; simp_all
  | some s => rw [hs] at h; split at h <;> simp at h

theorem u8_bd {z : Int} (h : (Lit.int .u8 z).wf = true) : 0 ≤ z ∧ z < 256 := by
  simp [Lit.wf, IntKind.min, IntKind.max, IntKind.bits, IntKind.signed] at h; omega
set_option maxRecDepth 100000 in
theorem ints_of {H : Type} {enc : TypeId × Value → H} {W : World} {base : Nat} {held : Bool} {fuel : Nat} {cs : List Value} {x : DataW H × List MemPlace} (h : DataW.trod enc Tryz.prog W base (fun _ => true) held fuel 66 cs = some x) :
    ∃ a n c z, cs = [.slice a n c] ∧ IsInts .u8 W a n c z := by
  rcases open_ints Tryz.underlying66 Tryz.underlying5 (by kernel_rfl) h with ⟨hcs, _⟩ | ⟨x, l, c, zs, hcs, _, hl, hm, hz, _, hcell, hwz⟩
  · exact ⟨_, _, _, _, hcs, .nil⟩
  · exact ⟨_, _, _, _, hcs, .row hl hm (by simpa using hz) hcell hwz⟩
theorem open_pieces {H : Type} {enc : TypeId × Value → H} {w : World} {base : Nat} {held : Bool} {fuel : Nat} {cs : List Value} {x : DataW H × List MemPlace} (h : DataW.trod enc Tryz.prog w base (fun _ => true) held fuel 22 cs = some x) :
    ∃ a n c ps, cs = [.slice a n c] ∧ PM w a n c ps ∧ ∀ p ∈ ps, p.ok := by
  rcases open_slice_fields Tryz.underlying22 Tryz.underlying68 (by kernel_rfl) (by kernel_rfl) h with ⟨hcs, _⟩ | ⟨a, len, cap, m, D, Pl, hcs, _, hl, hm, hmm, _, hi⟩
  · exact ⟨none, 0, 0, [], hcs, ⟨rfl, Nat.le_refl _, by unfold maxLen; omega, fun hn => absurd hn (by decide)⟩, fun r hr => by cases hr⟩
  · have hlm : len ≤ m := by rw [hmm]; split <;> omega
    obtain ⟨L, hL1, hL2⟩ := list_of (α := Pce) (Q := fun i r => (w.cell? (a.add (i * 5 + 0)) = some (.int .u8 r.kind) ∧ w.cell? (a.add (i * 5 + 1)) = some (.int .u8 r.server) ∧ w.cell? (a.add (i * 5 + 2)) = some (.int .u8 r.need) ∧ w.cell? (a.add (i * 5 + 3)) = some (.bool r.heavy) ∧ ∃ a4 n4 c4, w.cell? (a.add (i * 5 + 4)) = some (.slice a4 n4 c4) ∧ Rd w a4 n4 c4 (r.kids.map (Value.int .u8))) ∧ r.ok) len (fun i hil => by
      obtain ⟨ys, n, _, _, _, hf⟩ := hi i (by omega)
      obtain ⟨v0, y0, c0, _, t0⟩ := hf 0 _ rfl
      obtain ⟨v1, y1, c1, _, t1⟩ := hf 1 _ rfl
      obtain ⟨v2, y2, c2, _, t2⟩ := hf 2 _ rfl
      obtain ⟨v3, y3, c3, _, t3⟩ := hf 3 _ rfl
      obtain ⟨v4, y4, c4, _, t4⟩ := hf 4 _ rfl
      obtain ⟨z0, e0, _, b0⟩ := DataW.trod_int Tryz.underlying5 t0
      obtain ⟨z1, e1, _, b1⟩ := DataW.trod_int Tryz.underlying5 t1
      obtain ⟨z2, e2, _, b2⟩ := DataW.trod_int Tryz.underlying5 t2
      obtain ⟨z3, e3, _⟩ := DataW.trod_bool Tryz.underlying4 t3
      obtain ⟨a4, n4, k4, z4, e4, i4⟩ := ints_of t4
      cases e0; cases e1; cases e2; cases e3; cases e4
      exact ⟨⟨z0, z1, z2, z3, z4⟩, ⟨c0, c1, c2, c3, a4, n4, k4, c4, i4.rd⟩, ⟨u8_bd b0, u8_bd b1, u8_bd b2⟩, fun z hz => u8_bd (i4.wf z hz)⟩)
    refine ⟨some a, len, cap, L, hcs, ⟨hL1, hl, hm, fun hn0 => ?_⟩, fun r hr => ?_⟩
    · obtain ⟨x0, hx0⟩ : ∃ x, L[0]? = some x := ⟨_, List.getElem?_eq_getElem (by omega)⟩
      have h0 := (hL2 0 x0 hx0).1.1
      rw [Nat.zero_mul, Nat.zero_add] at h0
      have ha := addr_plain h0
      refine ⟨a.block, a.off, by rw [← ha], fun i p hp => ?_⟩
      obtain ⟨⟨d0, d1, d2, d3, a4, n4, c4, d4, r4⟩, _⟩ := hL2 i p hp
      rw [ha, Addr.add_lit] at d0 d1 d2 d3 d4
      exact ⟨d0, by rw [Nat.add_assoc]; exact d1, by rw [Nat.add_assoc]; exact d2, by rw [Nat.add_assoc]; exact d3, a4, n4, c4, by rw [Nat.add_assoc]; exact d4, r4⟩
    · obtain ⟨i, hi⟩ := List.mem_iff_getElem?.1 hr
      exact (hL2 i r hi).2
theorem list3 {α : Type} (l : List α) (h : (⟨l⟩ : Array α).size = 3) : ∃ a b c, l = [a, b, c] := by
  match l, h with
  | [a, b, c], _ => exact ⟨a, b, c, rfl⟩
set_option maxRecDepth 100000 in
theorem open_draft {H : Type} {enc : TypeId × Value → H} {w : World} {base : Nat} {held : Bool} {fuel : Nat} {c : Value} {x : DataW H × List MemPlace} (h : DataW.trod enc Tryz.prog w base (fun _ => true) held fuel 24 [c] = some x) :
    ∃ a n cc ps, c = .slice a n cc ∧ PM w a n cc ps ∧ ∀ p ∈ ps, p.ok := by
  obtain ⟨xs, n, _, _, _, _, hfl⟩ := DataW.trod_struct Tryz.underlying24 h
  have k8 : Tryz.prog.cellsOf 22 = 1 := by kernel_rfl
  have h0 : DataW.trod enc Tryz.prog w base (fun _ => true) held n 22 (List.take (Tryz.prog.cellsOf 22) [c]) = xs[0]? := hfl 0 _ rfl
  rw [k8] at h0
  have hxl : xs.length = 1 := by assumption
  rw [List.getElem?_eq_getElem (by omega)] at h0
  obtain ⟨a, n1, cc, ps, e0, i0, i1⟩ := open_pieces h0
  simp at e0
  exact ⟨a, n1, cc, ps, e0, i0, i1⟩
/-- a case among the arguments -/
structure IsCase (W : World) (v : Value) (xs ys : List Pce) (b : Int) : Prop where
  val : ∃ a n c a2 n2 c2, v = .agg #[.slice a n c, .slice a2 n2 c2, .int .u16 b] ∧ PM W a n c xs ∧ PM W a2 n2 c2 ys
  okx : ∀ p ∈ xs, p.ok
  oky : ∀ p ∈ ys, p.ok
  num : (Lit.int .u16 b).wf = true
end Go.Proofs.YtcojmmhclklpoaaGreatDoor
namespace Go.Proofs.YtcojmmhclklpoaaGreatDoor
open Go.RowKit Go.ChangeShapes Go.WideShapes Go.Deep

theorem rdK_of {α : Type} (k : Nat) (hk0 : 0 < k) (enc : α → List Value) (hk : ∀ x, (enc x).length = k) {W : World} {a : Addr} {len cap : Nat} (hl : len ≤ cap) (hm : cap ≤ maxLen) (L : List α) (hn : L.length = len)
    (h : ∀ i x, L[i]? = some x → ∀ j, j < k → W.cell? (a.add (i * k + j)) = (enc x)[j]?) : RdK k W (some a) len cap (L.flatMap enc) := by
  refine ⟨by rw [flat_len k enc hk, hn], hl, hm, fun h => (by cases h), fun hn0 => ?_⟩
  obtain ⟨x0, hx0⟩ : ∃ x, L[0]? = some x := ⟨_, List.getElem?_eq_getElem (by omega)⟩
  have h0 := h 0 x0 hx0 0 hk0
  rw [Nat.zero_mul, Nat.zero_add, List.getElem?_eq_getElem (by rw [hk]; exact hk0)] at h0
  have ha := addr_plain h0
  refine ⟨a.block, a.off, by rw [← ha], fun i v hv => ?_⟩
  have hi := (List.getElem?_eq_some_iff.1 hv).1
  rw [flat_len k enc hk, hn] at hi
  have hq : i / k < len := Nat.div_lt_of_lt_mul (by rw [Nat.mul_comm]; exact hi)
  obtain ⟨x, hx⟩ : ∃ x, L[i / k]? = some x := ⟨_, List.getElem?_eq_getElem (by omega)⟩
  have hmod := Nat.mod_lt i hk0
  have h1 := h (i / k) x hx (i % k) hmod
  have h2 := flat_at k enc hk L (i / k) (i % k) x hx hmod
  have e : i / k * k + i % k = i := by rw [Nat.mul_comm]; exact Nat.div_add_mod i k
  rw [e] at h1 h2
  rw [hv] at h2
  rw [ha, Addr.add_lit] at h1
  rw [h1, ← h2]

/-- a description among the arguments -/
structure IsDraft (W : World) (v : Value) (xs : List Pce) : Prop where
  val : ∃ a n c, v = .agg #[.slice a n c] ∧ PM W a n c xs
  okx : ∀ p ∈ xs, p.ok
theorem list1 {α : Type} (l : List α) (h : (⟨l⟩ : Array α).size = 1) : ∃ a, l = [a] := by
  match l, h with
  | [a], _ => exact ⟨a, rfl⟩
theorem list2 {α : Type} (l : List α) (h : (⟨l⟩ : Array α).size = 2) : ∃ a b, l = [a, b] := by
  match l, h with
  | [a, b], _ => exact ⟨a, b, rfl⟩
set_option maxRecDepth 100000 in
theorem open_draftv {H : Type} {enc : TypeId × Value → H} {W : World} {base b0 : Nat} {held : Bool} {v : Value} {d : DataW H} {p : List MemPlace} {r : Reach}
    (hv : Value.okWide Tryz.prog W r b0 24 v) (h : DataW.Trod enc Tryz.prog W base (fun _ => true) held 24 v d p) : ∃ xs, IsDraft W v xs := by
  obtain ⟨cs, rfl, hsz⟩ := okWide_struct Tryz.underlying24 hv
  rw [show Tryz.prog.cellsOf 24 = 1 by kernel_rfl] at hsz
  obtain ⟨l⟩ := cs
  obtain ⟨c0, rfl⟩ := list1 l hsz
  obtain ⟨fuel, hf⟩ := h
  obtain ⟨a, n, cc, ps, e0, h1, h2⟩ := open_draft hf
  subst e0
  exact ⟨ps, ⟨a, n, cc, rfl, h1⟩, h2⟩

/-- a tree among the arguments -/
structure IsTree (W : World) (v : Value) (t : Tre) : Prop where
  val : ∃ a n c, v = .agg #[.slice a n c, .int .i64 t.root] ∧ TM W a n c t.nodes
/-- a choice among the arguments -/
structure IsChoice (W : World) (v : Value) (q : Cho) : Prop where
  val : v = .agg #[.int .i64 q.server, .int .i64 q.first, .int .i64 q.second]
theorem ints64_of {H : Type} {enc : TypeId × Value → H} {W : World} {base : Nat} {held : Bool} {fuel : Nat} {cs : List Value} {x : DataW H × List MemPlace} (h : DataW.trod enc Tryz.prog W base (fun _ => true) held fuel 69 cs = some x) :
    ∃ a n c z, cs = [.slice a n c] ∧ IsInts .i64 W a n c z := by
  rcases open_ints Tryz.underlying69 Tryz.underlying3 (by kernel_rfl) h with ⟨hcs, _⟩ | ⟨x, l, c, zs, hcs, _, hl, hm, hz, _, hcell, hwz⟩
  · exact ⟨_, _, _, _, hcs, .nil⟩
  · exact ⟨_, _, _, _, hcs, .row hl hm (by simpa using hz) hcell hwz⟩
theorem open_nodes {H : Type} {enc : TypeId × Value → H} {w : World} {base : Nat} {held : Bool} {fuel : Nat} {cs : List Value} {x : DataW H × List MemPlace} (h : DataW.trod enc Tryz.prog w base (fun _ => true) held fuel 30 cs = some x) :
    ∃ a n c ns, cs = [.slice a n c] ∧ XM w a n c ns := by
  rcases open_slice_fields Tryz.underlying30 Tryz.underlying71 (by kernel_rfl) (by kernel_rfl) h with ⟨hcs, _⟩ | ⟨a, len, cap, m, D, Pl, hcs, _, hl, hm, hmm, _, hi⟩
  · exact ⟨none, 0, 0, [], hcs, XM.none_ _⟩
  · have hlm : len ≤ m := by rw [hmm]; split <;> omega
    obtain ⟨L, hL1, hL2⟩ := list_of (α := Nod) (Q := fun i r => w.cell? (a.add (i * 5 + 0)) = some (.int .i64 r.kind) ∧ w.cell? (a.add (i * 5 + 1)) = some (.int .i64 r.server) ∧ w.cell? (a.add (i * 5 + 2)) = some (.int .i64 r.need) ∧ (∃ a3 n3 c3, w.cell? (a.add (i * 5 + 3)) = some (.slice a3 n3 c3) ∧ Rd w a3 n3 c3 (r.weights.map (Value.int .i64))) ∧ ∃ a4 n4 c4, w.cell? (a.add (i * 5 + 4)) = some (.slice a4 n4 c4) ∧ Rd w a4 n4 c4 (r.kids.map (Value.int .i64))) len (fun i hil => by
      obtain ⟨ys, n, _, _, _, hf⟩ := hi i (by omega)
      obtain ⟨v0, y0, c0, _, t0⟩ := hf 0 _ rfl
      obtain ⟨v1, y1, c1, _, t1⟩ := hf 1 _ rfl
      obtain ⟨v2, y2, c2, _, t2⟩ := hf 2 _ rfl
      obtain ⟨v3, y3, c3, _, t3⟩ := hf 3 _ rfl
      obtain ⟨v4, y4, c4, _, t4⟩ := hf 4 _ rfl
      obtain ⟨z0, e0, _, _⟩ := DataW.trod_int Tryz.underlying3 t0
      obtain ⟨z1, e1, _, _⟩ := DataW.trod_int Tryz.underlying3 t1
      obtain ⟨z2, e2, _, _⟩ := DataW.trod_int Tryz.underlying3 t2
      obtain ⟨a3, n3, k3, z3, e3, i3⟩ := ints64_of t3
      obtain ⟨a4, n4, k4, z4, e4, i4⟩ := ints64_of t4
      cases e0; cases e1; cases e2; cases e3; cases e4
      exact ⟨⟨z0, z1, z2, z3, z4⟩, c0, c1, c2, ⟨a3, n3, k3, c3, i3.rd⟩, a4, n4, k4, c4, i4.rd⟩)
    refine ⟨some a, len, cap, L, hcs, ⟨hL1, hl, hm, fun h => (by cases h), fun hn0 => ?_⟩⟩
    obtain ⟨x0, hx0⟩ : ∃ x, L[0]? = some x := ⟨_, List.getElem?_eq_getElem (by omega)⟩
    have h0 := (hL2 0 x0 hx0).1
    rw [Nat.zero_mul, Nat.zero_add] at h0
    have ha := addr_plain h0
    refine ⟨a.block, a.off, by rw [← ha], fun i p hp => ?_⟩
    obtain ⟨d0, d1, d2, ⟨a3, n3, c3, d3, r3⟩, a4, n4, c4, d4, r4⟩ := hL2 i p hp
    rw [ha, Addr.add_lit] at d0 d1 d2 d3 d4
    exact ⟨d0, by rw [Nat.add_assoc]; exact d1, by rw [Nat.add_assoc]; exact d2, ⟨a3, n3, c3, by rw [Nat.add_assoc]; exact d3, r3⟩, a4, n4, c4, by rw [Nat.add_assoc]; exact d4, r4⟩
/-- an expression among the arguments -/
structure IsXpr (W : World) (v : Value) (x : Xpr) : Prop where
  val : ∃ a n c, v = .agg #[.slice a n c, .int .i64 x.root] ∧ XM W a n c x.nodes
set_option maxRecDepth 100000 in
theorem open_xpr {H : Type} {enc : TypeId × Value → H} {W : World} {base b0 : Nat} {held : Bool} {v : Value} {d : DataW H} {p : List MemPlace} {r : Reach}
    (hv : Value.okWide Tryz.prog W r b0 32 v) (h : DataW.Trod enc Tryz.prog W base (fun _ => true) held 32 v d p) : ∃ x, IsXpr W v x := by
  obtain ⟨cs, rfl, hsz⟩ := okWide_struct Tryz.underlying32 hv
  rw [show Tryz.prog.cellsOf 32 = 2 by kernel_rfl] at hsz
  obtain ⟨l⟩ := cs
  obtain ⟨c0, c1, rfl⟩ := list2 l hsz
  obtain ⟨fuel, hf⟩ := h
  obtain ⟨xs, n, _, _, _, _, hfl⟩ := DataW.trod_struct Tryz.underlying32 hf
  have k8 : Tryz.prog.cellsOf 30 = 1 := by kernel_rfl
  have ku : Tryz.prog.cellsOf 3 = 1 := by kernel_rfl
  have h0 : DataW.trod enc Tryz.prog W base (fun _ => true) held n 30 (List.take (Tryz.prog.cellsOf 30) [c0, c1]) = xs[0]? := hfl 0 _ rfl
  have h1 : DataW.trod enc Tryz.prog W base (fun _ => true) held n 3 (List.take (Tryz.prog.cellsOf 3) [c1]) = xs[1]? := hfl 1 _ rfl
  rw [k8] at h0
  rw [ku] at h1
  have hxl : xs.length = 2 := by assumption
  rw [List.getElem?_eq_getElem (by omega)] at h0 h1
  obtain ⟨a, n1, cc, ns, e0, i0⟩ := open_nodes h0
  obtain ⟨z, e1, _, _⟩ := DataW.trod_int Tryz.underlying3 h1
  simp at e0 e1
  subst e0 e1
  exact ⟨⟨ns, z⟩, ⟨a, n1, cc, rfl, i0⟩⟩
end Go.Proofs.YtcojmmhclklpoaaGreatDoor
namespace Go.Proofs.YtcojmmhclklpoaaGreatDoor
open Go.RowKit Go.Shelf

theorem madN_small (p : Pce) (i : Nat) : (madN p i).weights.length ≤ 5 ∧ (madN p i).kids.length ≤ 5 := by
  have h5 : mk5 p ≤ 5 := Nat.min_le_right _ _
  unfold madN
  split
  · simp
  · refine ⟨?_, ?_⟩
    · show (mwtTo _ _).length ≤ 5
      unfold mwtTo
      split
      · rw [List.length_map, List.length_take]; omega
      · simp
    · show (mkdTo _ _ _).length ≤ 5
      unfold mkdTo
      rw [List.length_map, List.length_take]; omega
theorem madX_node {ps : List Pce} {k : Nat} {nd : Nod} (h : (madX ps).nodes[k]? = some nd) : nd.weights.length ≤ 5 ∧ nd.kids.length ≤ 5 := by
  unfold madX at h
  by_cases h0 : ps = []
  · rw [if_pos h0] at h
    have := List.mem_of_getElem? h
    simp at this
    subst this
    decide
  · rw [if_neg h0] at h
    obtain ⟨_, rfl⟩ := madT_at h
    exact madN_small _ _
theorem madX_few (ps : List Pce) : XprFew (madX ps) := fun k nd h => by have := madX_node h; omega
theorem madX_sum (ps : List Pce) : XprSum (madX ps) := fun k nd h => by have := madX_node h; omega
theorem U_of_wf' {a : Int} (h : (Lit.int .u16 a).wf = true) : ∃ x : BitVec 16, a = U x := by
  apply U_of
  simp [Lit.wf, IntKind.min, IntKind.max, IntKind.bits, IntKind.signed] at h
  omega
/-- more servers never undo it -/
theorem eval_more {x : Xpr} (s t : BitVec 16) (h : (evalS x s).1 = true) : (evalS x (s ||| t)).2 = 7 ∨ ((evalS x (s ||| t)).2 = 0 ∧ (evalS x (s ||| t)).1 = true) := by
  unfold evalS at h ⊢
  by_cases h1 : xprE x ≠ 0
  · rw [if_pos h1] at h; cases h
  · rw [if_neg h1] at h ⊢
    by_cases h2 : 4096 ≤ s.toNat
    · rw [if_pos h2] at h; cases h
    · rw [if_neg h2] at h
      by_cases h3 : 4096 ≤ (s ||| t).toNat
      · rw [if_pos h3]; exact .inl rfl
      · rw [if_neg h3]
        refine .inr ⟨rfl, holdX_mono (xprE_ok (by simpa using h1)) (fun p hp => ?_) h⟩
        rw [hasB_or, hp]; rfl

set_option maxRecDepth 100000 in
set_option maxHeartbeats 4000000 in
theorem evals_w (v : Value) (xs : List Pce) (a b : Int) (w : World) (ht : HasTab w) (hp : HasPow w) (hr : HasRng w) (hy : HasSyn w) (w0 : IsDraft w v xs) (w1 : (Lit.int .u16 a).wf = true) (w2 : (Lit.int .u16 b).wf = true) :
    Calls Tryz.prog 9 #[v, .int .u16 a, .int .u16 b] w fun e w' => e = .returned (.bool true) ∧ Below w.heap.size w w' := by
  have HA := Lib.hid (fun u (hb : Below w.heap.size w u) => awake10_c u (ht.below hb) (hp.below hb) (hr.below hb) (hy.below hb))
  obtain ⟨s, rfl⟩ := U_of_wf' w1
  obtain ⟨t, rfl⟩ := U_of_wf' w2
  obtain ⟨ax, nx, cx, rfl, hpx⟩ := w0.val
  have HMX := Lib.hid (fun u (hb : Below w.heap.size w u) => made_c xs w0.okx ax nx cx u (hpx.below hb))
  obtain ⟨hxo, _, _⟩ := madX_ok w0.okx
  have hxf := madX_few xs
  have hxs := madX_sum xs
  obtain ⟨X, hX⟩ : ∃ X, madX xs = X := ⟨_, rfl⟩
  rw [hX] at HMX hxo hxf hxs
  have HE := Lib.hid (fun a n c u h => evalx_c X hxf s a n c u h)
  have HE2 := Lib.hid (fun a n c u h => evalx_c X hxf (s ||| t) a n c u h)
  have HR := Lib.hid (fun a n c u h => reval_c X hxo hxs hxf s a n c u h)
  have HM := Lib.hid (eval_more (x := X) s t)
  obtain ⟨R, hR⟩ : ∃ R, evalS X s = R := ⟨_, rfl⟩
  obtain ⟨Q, hQ⟩ : ∃ Q, evalS X (s ||| t) = Q := ⟨_, rfl⟩
  rw [hR] at HE HR HM
  rw [hQ] at HE2 HM
  obtain ⟨v1, e1⟩ := R
  obtain ⟨v2, e2⟩ := Q
  simp only at HE HR HE2 HM
  have hee : (e1 == e1) = true := by simp
  clear hX hxo hxf hxs hR hQ ht hp hr hy w0 hpx w1 w2
  go_enter Tryz.func9, Tryz.ntmps9
  go_wp2_with fail
  obtain ⟨W0, hW0⟩ : ∃ W0, W0 = w.alloc (.cells #[.slice ax nx cx] 24) := ⟨_, rfl⟩
  rw [← hW0]
  have hb0 : Below w.heap.size w W0 := by rw [hW0]; exact (Below.refl _ _).alloc (Nat.le_refl _) _
  have g0 : W0.heap[w.heap.size]? = some (.cells #[.slice ax nx cx] 24 (0, 0)) := by rw [hW0]; exact heap_alloc_new _ _
  with_reducible refine (HA.out W0 hb0).mono ?_
  rintro e w1 ⟨rfl, b1⟩
  have HB1 := Lib.hid (Below.next hb0 b1)
  have r0 := cell_of_row _ _ 0 _ _ _ (heap_below b1 g0)
  clear b1 hb0 g0 hW0
  go_wp2_with fail
  clear r0
  with_reducible refine (HMX.out w1 HB1.out).mono ?_
  rintro e w2 ⟨a2, c2, rfl, hx2, b2⟩
  obtain ⟨N, hN⟩ : ∃ N, X.nodes.length = N := ⟨_, rfl⟩
  obtain ⟨RT, hRT⟩ : ∃ RT, X.root = RT := ⟨_, rfl⟩
  rw [hN] at hx2 ⊢
  rw [hRT] at HE HR HE2 ⊢
  have HX2 := Lib.hid hx2
  have HB2 := Lib.hid (Below.next HB1.out b2)
  clear hx2 b2 hN hRT HMX HA HB1
  go_wp2_with fail
  obtain ⟨W3, hW3⟩ : ∃ W3, W3 = w2.alloc (.cells #[.slice a2 N c2, .int .i64 RT] 32) := ⟨_, rfl⟩
  rw [← hW3]
  have hb3 : Below w2.heap.size w2 W3 := by rw [hW3]; exact (Below.refl _ _).alloc (Nat.le_refl _) _
  have g3 : W3.heap[w2.heap.size]? = some (.cells #[.slice a2 N c2, .int .i64 RT] 32 (0, 0)) := by rw [hW3]; exact heap_alloc_new _ _
  have HX3 := Lib.hid (HX2.out.below hb3)
  have HB3 := Lib.hid (Below.next HB2.out hb3)
  have HG3 := Lib.hid g3
  clear hW3 hb3 g3 HX2 HB2
  with_reducible refine (HE.out a2 N c2 W3 HX3.out).mono ?_
  rintro e w4 ⟨rfl, b4⟩
  have HX4 := Lib.hid (HX3.out.below b4)
  have HB4 := Lib.hid (Below.next HB3.out b4)
  have HG4 := Lib.hid (heap_below b4 HG3.out)
  obtain ⟨⟨r0, r1⟩, _⟩ := open2 HG4.out
  clear b4 HG3 HX3 HB3
  go_wp2_with fail
  clear r0 r1
  with_reducible refine (HR.out a2 N c2 w4 HX4.out).mono ?_
  rintro e w5 ⟨rfl, b5⟩
  have HX5 := Lib.hid (HX4.out.below b5)
  have HB5 := Lib.hid (Below.next HB4.out b5)
  have HG5 := Lib.hid (heap_below b5 HG4.out)
  obtain ⟨⟨r0, r1⟩, _⟩ := open2 HG5.out
  clear b5 HG4 HX4 HB4
  go_wp2_with fail
  clear r0 r1
  with_reducible refine (HE2.out a2 N c2 w5 HX5.out).mono ?_
  rintro e w6 ⟨rfl, b6⟩
  have HB6 := Lib.hid (Below.next HB5.out b6)
  clear b6 HG5 HX5 HB5
  cases v1
  · go_wp2_with fail
    go_ret
    exact ⟨rfl, HB6.out⟩
  · rcases HM.out rfl with rfl | ⟨rfl, rfl⟩
    all_goals
      go_wp2_with fail
      go_ret
      exact ⟨rfl, HB6.out⟩
end Go.Proofs.YtcojmmhclklpoaaGreatDoor
namespace Go.Proofs.YtcojmmhclklpoaaGreatDoor

/-- digits as long as the number is at most 100000: the number, how many, what is left -/
def nRg : Byts → Nat → Nat → Nat × Nat × Byts
  | [], n, k => (n, k, [])
  | c :: r, n, k => if digB c = true ∧ n ≤ 100000 then nRg r (n * 10 + (c.toNat - 48)) (k + 1) else (n, k, c :: r)
def numR (s : Byts) : Option (Nat × Byts) := if (nRg s 0 0).2.1 = 0 ∨ 100000 < (nRg s 0 0).1 then none else some ((nRg s 0 0).1, (nRg s 0 0).2.2)
theorem decFrom_ge : ∀ (l : Byts) (n v : Nat), Lib.decFrom n l = some v → n ≤ v := by
  intro l
  induction l with
  | nil => intro n v h; simp [Lib.decFrom] at h; omega
  | cons c l ih =>
    intro n v h
    rw [Lib.decFrom] at h
    cases hc : Lib.digitVal c with
    | none => rw [hc] at h; cases h
    | some d => rw [hc] at h; have := ih _ _ h; omega
theorem digV {c : UInt8} {d : Nat} (h : digB c = true) (hd : Lib.digitVal c = some d) : d = c.toNat - 48 := by
  have key : ∀ n : Fin 256, ∀ h : digB (UInt8.ofNat n.val) = true, Lib.digitVal (UInt8.ofNat n.val) = some ((UInt8.ofNat n.val).toNat - 48) := by decide +kernel
  have := key ⟨c.toNat, c.toNat_lt⟩ (by simpa using h)
  simp at this
  rw [hd] at this
  simpa using this
theorem nRg_dig : ∀ (l r : Byts) (n v k : Nat), Lib.decFrom n l = some v → v ≤ 100000 → (∀ c ∈ l, digB c = true) → nonD r → nRg (l ++ r) n k = (v, k + l.length, r) := by
  intro l
  induction l with
  | nil =>
    intro r n v k h hv _ hr
    simp [Lib.decFrom] at h
    subst h
    cases r with
    | nil => rfl
    | cons c r =>
      show (if digB c = true ∧ n ≤ 100000 then _ else (n, k, c :: r)) = _
      rw [if_neg (fun q => by rw [hr c r rfl] at q; exact absurd q.1 (by simp))]
      rfl
  | cons c l ih =>
    intro r n v k h hv hd hr
    have hn := decFrom_ge _ _ _ h
    rw [Lib.decFrom] at h
    cases hc : Lib.digitVal c with
    | none => rw [hc] at h; cases h
    | some d =>
      rw [hc] at h
      have hdc := hd c (List.mem_cons_self ..)
      have e := digV hdc hc
      subst e
      show (if digB c = true ∧ n ≤ 100000 then nRg (l ++ r) (n * 10 + (c.toNat - 48)) (k + 1) else _) = _
      rw [if_pos ⟨hdc, by omega⟩, ih r _ v (k + 1) h hv (fun c hc => hd c (List.mem_cons_of_mem _ hc)) hr, List.length_cons]
      congr 2; omega
theorem numR_rd : NumRd numR := ⟨fun v r hv hr => by
  obtain ⟨h1, h2⟩ := dec_from v
  have h3 := nRg_dig _ r 0 v 0 h1 hv h2 hr
  have h4 := dec_len1 v
  unfold numR
  rw [h3]
  rw [if_neg (by simp only; omega)]⟩
end Go.Proofs.YtcojmmhclklpoaaGreatDoor
namespace Go.Proofs.YtcojmmhclklpoaaGreatDoor
open Go.RowKit

/-- all blocks are kept but the row's own -/
structure KG (B : Nat) (v v' : Value) (w w' : World) : Prop where
  bel : Below B w w'
  blk : ∀ k, k < w.heap.size → v.ownBlock ≠ some k → w'.heap[k]? = w.heap[k]?
  own : ∀ g, v'.ownBlock = some g → v.ownBlock = some g ∨ w.heap.size ≤ g
/-- .. but for blocks of the call's own -/
structure KGs (s B : Nat) (v v' : Value) (w w' : World) : Prop where
  bel : Below B w w'
  blk : ∀ k, k < s → v.ownBlock ≠ some k → w'.heap[k]? = w.heap[k]?
  own : ∀ g, v'.ownBlock = some g → v.ownBlock = some g ∨ s ≤ g
theorem KG.of_below {B : Nat} (v : Value) {w w' : World} (hB : B ≤ w.heap.size) (h : Below w.heap.size w w') : KG B v v w w' := ⟨h.mono hB, fun k hk _ => h.block k hk, fun _ e => .inl e⟩
theorem KG.s {s B : Nat} {v v' : Value} {w w' : World} (h : KG B v v' w w') (hs : s ≤ w.heap.size) : KGs s B v v' w w' :=
  ⟨h.bel, fun k hk hv => h.blk k (by omega) hv, fun g hg => (h.own g hg).imp id (fun h1 => by omega)⟩
theorem KGs.k {B : Nat} {v v' : Value} {w w' : World} (h : KGs w.heap.size B v v' w w') : KG B v v' w w' := ⟨h.bel, h.blk, h.own⟩
theorem KGs.trans {s B : Nat} {v v' v'' : Value} {w w' w'' : World} (h : KGs s B v v' w w') (k : KGs s B v' v'' w' w'') : KGs s B v v'' w w'' := by
  refine ⟨h.bel.trans k.bel, fun j hj hv => ?_, fun g hg => ?_⟩
  · rw [k.blk j hj (fun e => ?_), h.blk j hj hv]
    rcases h.own j e with h1 | h1
    · exact hv h1
    · omega
  · rcases k.own g hg with h1 | h1
    · exact h.own g h1
    · exact .inr h1
theorem KG.trans {B : Nat} {v v' v'' : Value} {w w' w'' : World} (h : KG B v v' w w') (k : KG B v' v'' w' w'') : KG B v v'' w w'' := KGs.k ((h.s (Nat.le_refl _)).trans (k.s h.bel.size))

/-- what a call finds -/
structure GrI (w0 : World) (B : Nat) (S : Nat → Prop) (v : Value) (nodes : List Nod) (w : World) : Prop where
  bel : Below w0.heap.size w0 w
  xb : XB S B w v 71 nodes
/-- what it returns -/
def GrO (B : Nat) (S : Nat → Prop) (v : Value) (nodes add : List Nod) (w : World) (e : Ending) (w' : World) : Prop :=
  ∃ v' S', e = .returned v' ∧ XB S' B w' v' 71 (nodes ++ add) ∧ KG B v v' w w' ∧ (∀ g, S g → S' g) ∧ (∀ g, S' g → S g ∨ w.heap.size ≤ g)
theorem GrI.below {w0 : World} {B : Nat} {S : Nat → Prop} {v : Value} {nodes : List Nod} {w W2 : World} (h : GrI w0 B S v nodes w) (hb : Below w.heap.size w W2) (hB : w0.heap.size ≤ w.heap.size) : GrI w0 B S v nodes W2 :=
  ⟨h.bel.trans (hb.mono hB), h.xb.below hb⟩
theorem GrO.pre {B : Nat} {S : Nat → Prop} {v : Value} {nodes add : List Nod} {w W2 w' : World} {e : Ending} (hB : B ≤ w.heap.size) (hb : Below w.heap.size w W2) (h : GrO B S v nodes add W2 e w') : GrO B S v nodes add w e w' := by
  obtain ⟨v', S', h1, h2, h3, h4, h5⟩ := h
  have := hb.size
  exact ⟨v', S', h1, h2, (KG.of_below v hB hb).trans h3, h4, fun g hg => (h5 g hg).imp id (fun h6 => by omega)⟩

/-- on the way: the argument's box lies below s; the node's box N and the rows made since lie from s on; the node's kids are now ids -/
structure GrL (w0 w W2 : World) (B N s : Nat) (S SW : Nat → Prop) (v : Value) (nodes : List Nod) (k0 k1 k2 : Value) (wv : Value) (ws : List Int) (v' kv : Value) (S' : Nat → Prop) (add : List Nod) (ids : List Int) (wr : World) : Prop where
  xb : XB S' B wr v' 71 (nodes ++ add)
  kb : KGs w.heap.size B v v' w wr
  sub : ∀ g, S g → S' g
  new : ∀ g, S' g → S g ∨ s ≤ g
  nb : wr.heap[N]? = some (.cells #[k0, k1, k2, wv, kv] 71 (0, 0))
  loc : ∀ g, w.heap.size ≤ g → g < s → wr.heap[g]? = W2.heap[g]?
  own : ∀ g, v'.ownBlock = some g → v.ownBlock = some g ∨ s ≤ g
  sw : SlS SW wr wv ws
  rk : wr.ownsRow s 3 1 kv ids.length (ids.map (Value.int .i64))
  dw : ∀ g, SW g → g < wr.heap.size ∧ g ≠ N ∧ v'.ownBlock ≠ some g ∧ kv.ownBlock ≠ some g
  nw : ∀ g, SW g → s ≤ g
  dk : ∀ g, kv.ownBlock = some g → ¬ S' g ∧ v'.ownBlock ≠ some g
  dn : w.heap.size ≤ s ∧ s ≤ N
  vn : v'.ownBlock ≠ some N
  kn : kv.ownBlock ≠ some N
section
variable {w0 w W2 : World} {B N s : Nat} {S SW : Nat → Prop} {v : Value} {nodes : List Nod} {k0 k1 k2 : Value} {wv : Value} {ws : List Int} {v' kv : Value} {S' : Nat → Prop} {add : List Nod} {ids : List Int} {wr : World}
theorem GrL.start (hI : GrI w0 B S v nodes w) (hB : B ≤ w.heap.size) {W4 : World} (hb : Below w.heap.size w W4) (nb : W4.heap[N]? = some (.cells #[k0, k1, k2, wv, kv] 71 (0, 0))) (loc : ∀ g, w.heap.size ≤ g → g < s → W4.heap[g]? = W2.heap[g]?) (dn : w.heap.size ≤ s ∧ s ≤ N)
    (hw : W4.ownsRow s 3 1 wv ws.length (ws.map (Value.int .i64))) (hk : W4.ownsRow s 3 1 kv ids.length (ids.map (Value.int .i64))) (hd : ∀ g, wv.ownBlock = some g → kv.ownBlock ≠ some g) (hwN : wv.ownBlock ≠ some N) (hkN : kv.ownBlock ≠ some N) :
    GrL w0 w W2 B N s S (fun g => wv.ownBlock = some g) v nodes k0 k1 k2 wv ws v kv S [] ids W4 := by
  refine ⟨by rw [List.append_nil]; exact hI.xb.below hb, (KG.of_below v hB hb).s (Nat.le_refl _), fun _ h => h, fun _ h => .inl h, nb, loc, fun _ h => .inl h, SlS.of_row hw, hk, fun g hg => ?_, fun g hg => (hw.lt g hg).1, fun g hg => ?_, dn, fun e => by have := (hI.xb.lt_own N e).2; omega, hkN⟩
  · have := hw.lt g hg
    exact ⟨this.2, fun e => hwN (e ▸ hg), fun e => by have := (hI.xb.lt_own g e).2; omega, hd g hg⟩
  · have := hk.lt g hg
    exact ⟨fun hS => by have := hI.xb.lt g hS; omega, fun e => by have := (hI.xb.lt_own g e).2; omega⟩
/-- ready for a call -/
theorem GrL.toI (h : GrL w0 w W2 B N s S SW v nodes k0 k1 k2 wv ws v' kv S' add ids wr) (hI : GrI w0 B S v nodes w) (hB : w0.heap.size ≤ B) : GrI w0 B S' v' (nodes ++ add) wr where
  bel := hI.bel.trans (h.kb.bel.mono hB)
  xb := h.xb
/-- behind a call -/
theorem GrL.call (h : GrL w0 w W2 B N s S SW v nodes k0 k1 k2 wv ws v' kv S' add ids wr) (hI : GrI w0 B S v nodes w) {a2 : List Nod} {e : Ending} {w2 : World} (hO : GrO B S' v' (nodes ++ add) a2 wr e w2) :
    ∃ v'' S'', e = .returned v'' ∧ GrL w0 w W2 B N s S SW v nodes k0 k1 k2 wv ws v'' kv S'' (add ++ a2) ids w2 ∧ wr.heap.size ≤ w2.heap.size := by
  obtain ⟨v'', S'', h1, h2, h3, h4, h5⟩ := hO
  have hN : N < wr.heap.size := (Array.getElem?_eq_some_iff.1 h.nb).1
  have hsz := h3.bel.size
  have hdn := h.dn
  have hloc : ∀ g, w.heap.size ≤ g → g < s → v'.ownBlock ≠ some g := fun g g1 g2 e => by
    rcases h.own _ e with h6 | h6
    · have := (hI.xb.lt_own _ h6).2; omega
    · omega
  refine ⟨v'', S'', h1, ⟨by rw [← List.append_assoc]; exact h2, h.kb.trans (h3.s h.kb.bel.size), fun g hg => h4 g (h.sub g hg), fun g hg => ?_, ?_, fun g g1 g2 => ?_, fun g hg => ?_, h.sw.move (fun g hg => ?_), rowK_at h.rk (fun g hg => ?_), fun g hg => ?_, h.nw, fun g hg => ?_, h.dn, fun e => ?_, h.kn⟩, hsz⟩
  · rcases h5 g hg with h6 | h6
    · exact h.new g h6
    · exact .inr (by omega)
  · rw [h3.blk N hN h.vn]; exact h.nb
  · rw [h3.blk g (by omega) (hloc g g1 g2)]; exact h.loc g g1 g2
  · rcases h3.own g hg with h6 | h6
    · exact h.own g h6
    · exact .inr (by omega)
  · obtain ⟨d1, d2, d3, d4⟩ := h.dw g hg
    exact h3.blk g d1 d3
  · have := (h.rk.lt g hg)
    exact h3.blk g this.2 (h.dk g hg).2
  · obtain ⟨d1, d2, d3, d4⟩ := h.dw g hg
    refine ⟨by omega, d2, fun e => ?_, d4⟩
    rcases h3.own g e with h6 | h6
    · exact d3 h6
    · omega
  · obtain ⟨k1, k2⟩ := h.dk g hg
    have hlt := (h.rk.lt g hg)
    refine ⟨fun hS => ?_, fun e => ?_⟩
    · rcases h5 g hS with h6 | h6
      · exact k1 h6
      · omega
    · rcases h3.own g e with h6 | h6
      · exact k2 h6
      · omega
  · rcases h3.own N e with h6 | h6
    · exact h.vn h6
    · omega
/-- a kid is written in place -/
theorem GrL.kid (h : GrL w0 w W2 B N s S SW v nodes k0 k1 k2 wv ws v' kv S' add ids wr) (hB : B ≤ w.heap.size) {z : Int} {k g0 : Nat} (hg0 : kv.ownBlock = some g0) :
    GrL w0 w W2 B N s S SW v nodes k0 k1 k2 wv ws v' kv S' add (ids.set k z) (wr.setCell ⟨g0, k, none⟩ (.int .i64 z)) := by
  have hdn := h.dn
  have hko := h.rk.lt g0 hg0
  have blk : ∀ g, kv.ownBlock ≠ some g → (wr.setCell ⟨g0, k, none⟩ (.int .i64 z)).heap[g]? = wr.heap[g]? := fun g g2 => Below.heap_setCell _ _ _ _ (by show g ≠ g0; intro e; exact g2 (e ▸ hg0))
  have hss : (wr.setCell ⟨g0, k, none⟩ (.int .i64 z)).heap.size = wr.heap.size := by simp
  have hrow : (wr.setCell ⟨g0, k, none⟩ (.int .i64 z)).ownsRow s 3 1 kv (ids.set k z).length ((ids.set k z).map (Value.int .i64)) := by
    rw [List.length_set, List.map_set]
    have hr := h.rk
    obtain ⟨a9, c9, e9, _⟩ := rd_of_row hr
    subst e9
    rcases hr.2 with ⟨h3, _⟩ | ⟨g, cap, cur', h3, _⟩
    · rw [h3] at hg0; cases hg0
    · injection h3 with h4 h5 h6
      subst h4
      have e7 : g = g0 := by simpa [Value.ownBlock] using hg0
      subst e7
      exact (World.ownsRow.stored hr k (.int .i64 z)).1
  refine ⟨h.xb.move (fun g hg' => blk g fun e => (h.dk g e).1 hg') (fun g hg' => blk g fun e => (h.dk g e).2 hg') (by omega), h.kb.trans ⟨?_, fun g g1 g2 => ?_, fun _ e => .inl e⟩, h.sub, h.new, ?_, fun g g1 g2 => ?_, h.own, h.sw.move (fun g hg' => ?_), hrow, fun g hg' => ?_, h.nw, h.dk, h.dn, h.vn, h.kn⟩
  · exact (Below.refl _ _).setCell (p := ⟨g0, k, none⟩) (by show B ≤ g0; omega) _
  · exact blk g fun e => by have := (h.rk.lt g e).1; omega
  · rw [blk N h.kn]; exact h.nb
  · rw [blk g fun e => by have := (h.rk.lt g e).1; omega]; exact h.loc g g1 g2
  · exact blk g (h.dw g hg').2.2.2
  · obtain ⟨d1, d2, d3, d4⟩ := h.dw g hg'
    exact ⟨by omega, d2, d3, d4⟩
/-- the node is written -/
theorem GrL.fin {k sv nn : Int} (h : GrL w0 w W2 B N s S SW v nodes (.int .i64 k) (.int .i64 sv) (.int .i64 nn) wv ws v' kv S' add ids wr) {V : List NodV} (hV : V.length = (nodes ++ add).length) (h3 : ∀ (i : Nat) p nd, V[i]? = some p → (nodes ++ add)[i]? = some nd → NodS S' wr p nd) (hI : GrI w0 B S v nodes w) (hB : B ≤ w.heap.size) (hs : s ≤ wr.heap.size)
    {x : World} {u : Value} {y : World} (hb : Below wr.heap.size wr x) (hg : x.grownBy y v'.ownBlock) (ho : y.ownsRow B 71 5 u ((nodes ++ add).length + 1) (V.flatMap nodVC ++ nodVC (⟨k, sv, nn, wv, kv⟩ : NodV))) (hv : ∀ g, u.ownBlock = some g → v'.ownBlock = some g ∨ wr.heap.size ≤ g) (hsz : x.heap.size ≤ y.heap.size) {e : Ending} (he : e = .returned u) :
    GrO B S v nodes (add ++ [(⟨k, sv, nn, ws, ids⟩ : Nod)]) w e y := by
  have hx := hb.size
  have hdn := h.dn
  have hvl := h.xb.lt_own
  have hbs := h.kb.bel.size
  let T : Nat → Prop := fun g => S' g ∨ SW g ∨ kv.ownBlock = some g
  have hTlt : ∀ g, T g → g < wr.heap.size := fun g hT => by
    rcases hT with h6 | h6 | h6
    · exact h.xb.lt g h6
    · exact (h.dw g h6).1
    · exact (h.rk.lt g h6).2
  have hTv : ∀ g, v'.ownBlock = some g → ¬ T g := fun g e hT => by
    rcases hT with h6 | h6 | h6
    · exact h.xb.own g e h6
    · exact (h.dw g h6).2.2.1 e
    · exact (h.dk g h6).2 e
  have hgx : wr.grownBy y v'.ownBlock := by
    exact ⟨hg.os.trans hb.os, hg.tape.trans hb.tape, hg.output.trans hb.output, by omega, fun g g1 g2 => (hg.block g (by omega) g2).trans (hb.block g g1)⟩
  have hp : NodS T wr ⟨k, sv, nn, wv, kv⟩ ⟨k, sv, nn, ws, ids⟩ := fun w2 ha => by
    obtain ⟨a, c, e1, r1⟩ := h.sw w2 (fun g hg' => ha g (.inr (.inl hg')))
    obtain ⟨a', c', e2, r2⟩ := row_alone h.rk w2 (fun g hg' => ha g (.inr (.inr hg')))
    exact ⟨rfl, rfl, rfl, ⟨a, _, c, e1, r1⟩, ⟨a', _, c', e2, r2⟩⟩
  have hxy : XB T B y u 71 ((nodes ++ add) ++ [(⟨k, sv, nn, ws, ids⟩ : Nod)]) :=
    XB.push (S := T) (p := ⟨k, sv, nn, wv, kv⟩) hV (fun i p nd hp hn => (h3 i p nd hp hn).mono fun g hg' => .inl hg') hTlt hTv ho hp hgx hv (by omega)
  refine ⟨u, T, he, by rw [← List.append_assoc]; exact hxy, ⟨?_, fun g g1 g2 => ?_, fun g e => ?_⟩, fun g hg' => .inl (h.sub g hg'), fun g hT => ?_⟩
  · exact (h.kb.bel.trans (hb.mono (by omega))).grown hg (by omega) (fun g hg' => (hvl g hg').1)
  · rw [hgx.block g (by omega) (fun e => ?_)]
    · exact h.kb.blk g g1 g2
    · rcases h.own g e.symm with h6 | h6
      · exact g2 h6
      · omega
  · rcases hv g e with h6 | h6
    · rcases h.own g h6 with h7 | h7
      · exact .inl h7
      · exact .inr (by omega)
    · exact .inr (by omega)
  · rcases hT with h6 | h6 | h6
    · rcases h.new g h6 with h7 | h7
      · exact .inl h7
      · exact .inr (by omega)
    · exact .inr (by have := h.nw g h6; omega)
    · exact .inr (by have := (h.rk.lt _ h6).1; omega)
end
end Go.Proofs.YtcojmmhclklpoaaGreatDoor
namespace Go.Proofs.YtcojmmhclklpoaaGreatDoor
open Go.RowKit Go.Shelf

set_option maxRecDepth 100000 in
set_option maxHeartbeats 2000000 in
theorem copied_c (kd sv nd : Int) (ws ks : List Int) (aw : Option Addr) (nw cw : Nat) (ak : Option Addr) (nk ck : Nat) (w : World) (h1 : Rd w aw nw cw (ws.map (Value.int .i64))) (h2 : Rd w ak nk ck (ks.map (Value.int .i64))) (hw : nw ≤ 1000000) (hk : nk ≤ 1000000) :
    Calls Tryz.prog 51 #[.agg #[.int .i64 kd, .int .i64 sv, .int .i64 nd, .slice aw nw cw, .slice ak nk ck]] w fun e w' => ∃ wv kv, e = .returned (.agg #[.int .i64 kd, .int .i64 sv, .int .i64 nd, wv, kv]) ∧ w'.ownsRow w.heap.size 3 1 wv nw (ws.map (Value.int .i64)) ∧ w'.ownsRow w.heap.size 3 1 kv nk (ks.map (Value.int .i64)) ∧ (∀ g, wv.ownBlock = some g → kv.ownBlock ≠ some g) ∧ Below w.heap.size w w' := by
  have H1 := Lib.hid h1
  have H2 := Lib.hid h2
  have hn1 := h1.len
  have hn2 := h2.len
  rw [List.length_map] at hn1 hn2
  have HN1 := Lib.hid hn1
  have HN2 := Lib.hid hn2
  clear h1 h2 hn1 hn2
  go_enter Tryz.func51, Tryz.ntmps51
  go_upto_region 1 with fail
  generalize hW2 : (w.alloc _).alloc _ = W2
  obtain ⟨gX, gR, hb2, hs2⟩ := box2' hW2
  have GX := Lib.hid gX
  have GR := Lib.hid gR
  have HB2 := Lib.hid hb2
  have HS2 := Lib.hid hs2
  obtain ⟨n0, n1, n2, n3, n4⟩ := open5 gX
  have n3 : ∀ ob, (W2.alloc ob).cell? ⟨w.heap.size, 3, none⟩ = some (.slice aw nw cw) := fun ob => (World.cell?_alloc_lt _ _ _ (cell_lt n3)).trans n3
  clear hW2 gX gR hb2 hs2 n0 n1 n2 n4
  go_upto_region 2 with (at_builtin; go_must (refine wpList_apps _ _ 69 8 (.int .i64 0) _ _ _ (ws.map (Value.int .i64)) Tryz.underlying69 Tryz.infoInt rfl (World.ownsRow_made W2 #[] 0 (Nat.le_refl _) (Nat.zero_le _) rfl) ((Below.refl _ W2).alloc (Nat.le_refl _) _) (Nat.le_refl _) (H1.out.below (HB2.out.alloc (by have := HS2.out; omega) _)) (by intro u hu; obtain ⟨_, _, rfl⟩ := List.mem_map.1 hu; rfl) rfl rfl rfl rfl (by unfold maxLen; simp; omega) (by simp; omega) ?_))
  intro v1 w1 hown1 hb1 _
  obtain ⟨a1, c1, rfl, _⟩ := rd_of_row hown1
  have gX1 := heap_below hb1 GX.out
  obtain ⟨m0, m1, m2, m3, m4⟩ := open5 gX1
  obtain ⟨z0, z1, z2, z3, z4⟩ := frz5 gX1
  have GX1 := Lib.hid gX1
  have HO1 := Lib.hid hown1
  have HB1 := Lib.hid hb1
  clear gX1 hown1 hb1 n3
  go_upto_region 2 with fail
  generalize hW3 : w1.setCell _ _ = W3
  have gX3 : W3.heap[w.heap.size]? = some (.cells #[.int .i64 kd, .int .i64 sv, .int .i64 nd, .slice a1 nw c1, .slice ak nk ck] 71 (0, 0)) := by rw [← hW3]; exact heap_set_at GX1.out 3 _
  have hk3 : ∀ g, g ≠ w.heap.size → W3.heap[g]? = w1.heap[g]? := fun g hg => by rw [← hW3]; exact Below.heap_setCell _ _ _ _ (by exact hg)
  have hs3 : W3.heap.size = w1.heap.size := by rw [← hW3]; simp
  have hs1 := HB1.out.size
  have hs2 := HS2.out
  have gR3 : W3.heap[w.heap.size + 1]? = some (.cells #[.int .i64 0, .int .i64 0, .int .i64 0, .slice none 0 0, .slice none 0 0] 71 (0, 0)) := by rw [hk3 _ (by omega)]; exact heap_below HB1.out GR.out
  have hb3 : Below w.heap.size w W3 := by
    rw [← hW3]
    exact (HB2.out.trans (HB1.out.mono (by omega))).setCell (p := ⟨w.heap.size, 3, none⟩) (Nat.le_refl _) _
  have ho3 : W3.ownsRow W2.heap.size 3 1 (.slice a1 nw c1) nw (ws.map (Value.int .i64)) := rowK_at HO1.out fun g hg => hk3 g (by have := (HO1.out.lt g hg).1; omega)
  obtain ⟨m0, m1, m2, m3, m4⟩ := open5 gX3
  have m4 : ∀ ob, (W3.alloc ob).cell? ⟨w.heap.size, 4, none⟩ = some (.slice ak nk ck) := fun ob => (World.cell?_alloc_lt _ _ _ (cell_lt m4)).trans m4
  have GX3 := Lib.hid gX3
  have GR3 := Lib.hid gR3
  have HB3 := Lib.hid hb3
  have HO3 := Lib.hid ho3
  have HS3 := Lib.hid (show w.heap.size + 2 ≤ W3.heap.size by omega)
  have HW23 := Lib.hid (show w.heap.size + 2 ≤ W2.heap.size by omega)
  clear hW3 gX3 hk3 hs3 hs1 hs2 gR3 hb3 ho3 z0 z1 z2 z3 z4 GX1 HO1 HB1 H1
  go_upto_region 3 with (at_builtin; go_must (refine wpList_apps _ _ 69 8 (.int .i64 0) _ _ _ (ks.map (Value.int .i64)) Tryz.underlying69 Tryz.infoInt rfl (World.ownsRow_made W3 #[] 0 (Nat.le_refl _) (Nat.zero_le _) rfl) ((Below.refl _ W3).alloc (Nat.le_refl _) _) (Nat.le_refl _) (H2.out.below (HB3.out.alloc (by have := HS3.out; omega) _)) (by intro u hu; obtain ⟨_, _, rfl⟩ := List.mem_map.1 hu; rfl) rfl rfl rfl rfl (by unfold maxLen; simp; omega) (by simp; omega) ?_))
  intro v5 w5 hown5 hb5 _
  obtain ⟨a5, c5, rfl, _⟩ := rd_of_row hown5
  have gX5 := heap_below hb5 GX3.out
  have gR5 := heap_below hb5 GR3.out
  obtain ⟨q0, q1, q2, q3, q4⟩ := open5 gX5
  obtain ⟨z0, z1, z2, z3, z4⟩ := frz5 gX5
  obtain ⟨o0, o1, o2, o3, o4⟩ := open5 gR5
  obtain ⟨y0, y1, y2, y3, y4⟩ := frz5 gR5
  have GX5 := Lib.hid gX5
  have GR5 := Lib.hid gR5
  have HO5 := Lib.hid hown5
  have HB5 := Lib.hid hb5
  clear gX5 gR5 hown5 hb5
  go_wp2_with fail
  generalize hWF : (((((w5.setCell _ _).setCell _ _).setCell _ _).setCell _ _).setCell _ _).setCell _ _ = WF
  have hs5 := HB5.out.size
  have hs3 := HS3.out
  have hs23 := HW23.out
  have e9 : WF.heap[w.heap.size + 1]? = some (.cells #[.int .i64 kd, .int .i64 sv, .int .i64 nd, .slice a1 nw c1, .slice a5 nk c5] 71 (0, 0)) := by
    rw [← hWF]
    exact heap_set_at (heap_set_at (heap_set_at (heap_set_at (heap_set_at (heap_set_other (by omega) _ _ GR5.out) 0 _) 1 _) 2 _) 3 _) 4 _
  have hkF : ∀ g, w.heap.size + 2 ≤ g → WF.heap[g]? = w5.heap[g]? := fun g hg => by
    rw [← hWF, Below.heap_setCell _ _ _ _ (by show g ≠ w.heap.size + 1; omega), Below.heap_setCell _ _ _ _ (by show g ≠ w.heap.size + 1; omega), Below.heap_setCell _ _ _ _ (by show g ≠ w.heap.size + 1; omega), Below.heap_setCell _ _ _ _ (by show g ≠ w.heap.size + 1; omega), Below.heap_setCell _ _ _ _ (by show g ≠ w.heap.size + 1; omega), Below.heap_setCell _ _ _ _ (by show g ≠ w.heap.size; omega)]
  have hbF : Below w.heap.size w WF := by
    rw [← hWF]
    exact ((((((HB3.out.trans (HB5.out.mono (by omega))).setCell (p := ⟨w.heap.size, 4, none⟩) (Nat.le_refl _) _).setCell (p := ⟨w.heap.size + 1, 0, none⟩) (Nat.le_succ _) _).setCell (p := ⟨w.heap.size + 1, 1, none⟩) (Nat.le_succ _) _).setCell (p := ⟨w.heap.size + 1, 2, none⟩) (Nat.le_succ _) _).setCell (p := ⟨w.heap.size + 1, 3, none⟩) (Nat.le_succ _) _).setCell (p := ⟨w.heap.size + 1, 4, none⟩) (Nat.le_succ _) _
  have hwF : WF.ownsRow w.heap.size 3 1 (.slice a1 nw c1) nw (ws.map (Value.int .i64)) := rowK_mono (rowK_at (rowK_below HO3.out HB5.out) fun g hg => hkF g (by have := (HO3.out.lt g hg).1; omega)) (by omega)
  have hkr : WF.ownsRow w.heap.size 3 1 (.slice a5 nk c5) nk (ks.map (Value.int .i64)) := rowK_mono (rowK_at HO5.out fun g hg => hkF g (by have := (HO5.out.lt g hg).1; omega)) (by omega)
  have hdj : ∀ g, (Value.slice a1 nw c1).ownBlock = some g → (Value.slice a5 nk c5).ownBlock ≠ some g := fun g h1 h2 => by
    have := (HO3.out.lt g h1).2; have := (HO5.out.lt g h2).1; omega
  refine bodyPost_ret (v := .agg #[.int .i64 kd, .int .i64 sv, .int .i64 nd, .slice a1 nw c1, .slice a5 nk c5]) ?_ rfl ⟨_, _, rfl, hwF, hkr, hdj, hbF⟩
  exact results_cell_row rfl _ _ _ _ _ _ _ rfl e9 Tryz.underlying71 rfl (by kernel_rfl)
end Go.Proofs.YtcojmmhclklpoaaGreatDoor
namespace Go.Proofs.YtcojmmhclklpoaaGreatDoor
open Go.RowKit Go.Shelf

theorem kid_set {l r : List Int} {k : Nat} {y : Int} (z : Int) (hl : l.length = k) (h : r[k]? = some y) : (l ++ r.drop k)[k]? = some y ∧ (l ++ r.drop k).set k z = (l ++ [z]) ++ r.drop (k + 1) := by
  have hk := (List.getElem?_eq_some_iff.1 h).1
  rw [List.drop_eq_getElem_cons hk]
  refine ⟨?_, ?_⟩
  · rw [List.getElem?_append_right (by omega), hl, Nat.sub_self, List.getElem?_cons_zero, ← h, List.getElem?_eq_getElem hk]
  · rw [List.set_append_right _ _ (by omega), hl, Nat.sub_self, List.set_cons_zero, List.append_assoc]; rfl

/-- three blocks are the same -/
def Eq3 (w u : World) (a b c : Nat) : Prop := u.heap[a]? = w.heap[a]? ∧ u.heap[b]? = w.heap[b]? ∧ u.heap[c]? = w.heap[c]?

def GrC (x : Xpr) (ys : List Xpr) (w0 : World) (f : Nat) : Prop :=
  ∀ (a : Option Addr) (n c : Nat) (la : Option Addr) (ln lc : Nat), XM w0 a n c x.nodes → LM w0 la ln lc ys → ∀ (i : Nat), i < f → i < x.nodes.length → ∀ (w : World) (S : Nat → Prop) (v : Value) (nodes : List Nod), GrI w0 w0.heap.size S v nodes w → nodes.length + (treF x.nodes (subL ys) f i).sz ≤ 1000 →
    Calls Tryz.prog 60 #[v, .agg #[.slice a n c, .int .i64 x.root], .int .i64 i, .slice la ln lc] w fun e w' => GrO w0.heap.size S v nodes ((treF x.nodes (subL ys) f i).post nodes.length) w e w'

set_option maxRecDepth 100000 in
set_option maxHeartbeats 8000000 in
theorem grow_step (x : Xpr) (hx : xprE x = 0) (ys : List Xpr) (hys : ∀ y ∈ ys, xprE y = 0) (w0 : World) (hrec : ∀ y ∈ ys, GrC y [] w0 (y.root.toNat + 1)) (f : Nat) (ih : GrC x ys w0 f) : GrC x ys w0 (f + 1) := by
  intro a n c la ln lc h1 h2 i hif hil w S v nodes hI hsz
  obtain ⟨nd, hnd⟩ : ∃ nd, x.nodes[i]? = some nd := ⟨_, List.getElem?_eq_getElem hil⟩
  have ok := (xprE_ok hx).node i nd hnd
  have hl := h1.len
  obtain ⟨b, o, ha, hat⟩ := h1.at' (by omega)
  have hM := hat i nd hnd
  obtain ⟨aw, nw, cw, m3, rw3⟩ := hM.ws
  obtain ⟨ak, nk, ck, m4, rk4⟩ := hM.ks
  have m0 := cell_keep hI.bel hM.c0
  have m1 := cell_keep hI.bel hM.c1
  have m2 := cell_keep hI.bel hM.c2
  have m3 := cell_keep hI.bel m3
  have m4 := cell_keep hI.bel m4
  have hbl : b < w.heap.size := cell_lt m0
  have m0 : ∀ ob, (w.alloc ob).cell? ⟨b, o + i * 5, none⟩ = some (.int .i64 nd.kind) := fun ob => (World.cell?_alloc_lt _ _ _ hbl).trans m0
  have m1 : ∀ ob, (w.alloc ob).cell? ⟨b, o + i * 5 + 1, none⟩ = some (.int .i64 nd.server) := fun ob => (World.cell?_alloc_lt _ _ _ hbl).trans m1
  have m2 : ∀ ob, (w.alloc ob).cell? ⟨b, o + i * 5 + 2, none⟩ = some (.int .i64 nd.need) := fun ob => (World.cell?_alloc_lt _ _ _ hbl).trans m2
  have m3 : ∀ ob, (w.alloc ob).cell? ⟨b, o + i * 5 + 3, none⟩ = some (.slice aw nw cw) := fun ob => (World.cell?_alloc_lt _ _ _ hbl).trans m3
  have m4 : ∀ ob, (w.alloc ob).cell? ⟨b, o + i * 5 + 4, none⟩ = some (.slice ak nk ck) := fun ob => (World.cell?_alloc_lt _ _ _ hbl).trans m4
  have hH1 := Lib.hid h1
  have hH2 := Lib.hid h2
  have HI := Lib.hid hI
  have hln := h2.len
  have hwl := rw3.len
  have hkl := rk4.len
  rw [List.length_map] at hwl hkl
  have hBw : w0.heap.size ≤ w.heap.size := hI.bel.size
  have hbi : decide ((i : Int) < (n : Int)) = true := decide_eq_true (by omega)
  have hin : i < n := by omega
  by_cases hsub : nd.kind = 1 ∧ nd.server < (ln : Int)
  · obtain ⟨hk1, hsv⟩ := hsub
    obtain ⟨-, hwn, hkn⟩ := ok.leaf hk1
    rw [hwn] at hwl
    rw [hkn] at hkl
    have HCP := Lib.hid (fun u (hu : Below w.heap.size w u) => copied_c nd.kind nd.server nd.need nd.weights nd.kids aw nw cw ak nk ck u ((rw3.below hI.bel).below hu) ((rk4.below hI.bel).below hu) (by simp at hwl; omega) (by simp at hkl; omega))
    obtain ⟨sn, hsn⟩ := Int.eq_ofNat_of_zero_le ok.server.1
    obtain ⟨y, hy⟩ : ∃ y, ys[sn]? = some y := ⟨_, List.getElem?_eq_getElem (by omega)⟩
    have hym := List.mem_of_getElem? hy
    have yok := xprE_ok (hys y hym)
    have hT : treF x.nodes (subL ys) (f + 1) i = treX y := treF_sub _ f i nd hnd hk1 (by rw [hsn, Int.toNat_natCast]; unfold subL; rw [hy]; rfl)
    obtain ⟨b2, o2, ha2, hc2⟩ := h2.at' (by omega)
    obtain ⟨a3, n3, c3, y0, hxm, y1⟩ := hc2 sn y hy
    have y0 := cell_keep hI.bel y0
    have y1 := cell_keep hI.bel y1
    rw [hT] at hsz ⊢
    obtain ⟨kind, server, need, ws, ks⟩ := nd
    simp only at m0 m1 m2 m3 rw3 m4 rk4 hwl hkl hk1 hsv hsn HCP
    subst hk1 hsn
    have hroot := yok.root
    have hr0 : ((y.root.toNat : Nat) : Int) = y.root := Int.toNat_of_nonneg hroot.1
    have HR : Hid (∀ W2 : World, Below w.heap.size w W2 → Calls Tryz.prog 60 #[v, .agg #[.slice a3 n3 c3, .int .i64 y.root], .int .i64 y.root, .slice none 0 0] W2 fun e w' => GrO w0.heap.size S v nodes ((treX y).post nodes.length) W2 e w') := Lib.hid (fun W2 hb => by
      have := hrec y hym a3 n3 c3 none 0 0 hxm (LM.none_ _) y.root.toNat (Nat.lt_succ_self _) (by omega) W2 S v nodes (hI.below hb hI.bel.size) hsz
      rw [hr0] at this
      exact this)
    have HVL : Hid (∀ g, v.ownBlock = some g → g < w.heap.size) := Lib.hid (fun g hg => (hI.xb.lt_own g hg).2)
    have hb2B : b2 < w0.heap.size := cell_lt (hc2 sn y hy).choose_spec.choose_spec.choose_spec.1
    subst ha ha2
    have e2 : decide ((sn : Int) < (ln : Int)) = true := decide_eq_true hsv
    have hsln : sn < ln := by omega
    clear hwl hkl hln hl rw3 rk4 ok hM hat hnd h1 h2 hI hrec hys hym yok hc2 hxm hroot hr0 hT hsz ih hy hsv HI hH1 hH2
    go_enter Tryz.func60, Tryz.ntmps60
    go_wp2_with fail
    generalize hW1 : w.alloc _ = W1
    have hb1 : Below w.heap.size w W1 := by rw [← hW1]; exact (Below.refl _ _).alloc (Nat.le_refl _) _
    have HB1 := Lib.hid hb1
    have hs1 : W1.heap.size = w.heap.size + 1 := by rw [← hW1]; simp
    clear hW1 m0 m1 m2 m3 m4
    with_reducible refine (HCP.out W1 hb1).mono ?_
    rintro e w3 ⟨wv, kv, rfl, hrw, hrk, hdj, hb3⟩
    have hs3 := hb3.size
    have HB3 := Lib.hid (hb1.trans (hb3.mono (by omega)))
    obtain ⟨aw2, cw2, rfl, _⟩ := rd_of_row hrw
    obtain ⟨ak2, ck2, rfl, _⟩ := rd_of_row hrk
    clear hrw hrk hdj hb3 hb1 HCP
    go_upto_region 3 with fail
    generalize hW4 : w3.alloc _ = W4
    have gN : W4.heap[w3.heap.size]? = some (.cells #[.int .i64 1, .int .i64 (sn : Int), .int .i64 need, .slice aw2 nw cw2, .slice ak2 nk ck2] 71 (0, 0)) := by rw [← hW4]; exact heap_alloc_new _ _
    have hb4 : Below w.heap.size w W4 := by rw [← hW4]; exact HB3.out.alloc (by omega) _
    have hs4 : W4.heap.size = w3.heap.size + 1 := by rw [← hW4]; simp
    have k1 := cell_of_row _ _ 1 _ _ _ gN
    have k2 := cell_keep hb4 y0
    have k3 := cell_keep hb4 y1
    have HB4 := Lib.hid hb4
    clear hW4 gN hb4 y0 y1
    refine wp_region_noPanic ?_
    refine wp_region_takes (fun u => u.cell? ⟨w3.heap.size, 1, none⟩ = some (.int .i64 (sn : Int)) ∧ u.cell? ⟨b2, o2 + sn * 2, none⟩ = some (.slice a3 n3 c3) ∧ u.cell? ⟨b2, o2 + sn * 2 + 1, none⟩ = some (.int .i64 y.root)) [0, 1, 2, 3, 4, 5, 6, 7, 8, 9, 10, 11] 2 (by kernel_rfl) (by kernel_rfl) (by kernel_rfl) (fun _ _ _ _ _ h => h) ⟨k1, k2, k3⟩ ?_
    repeat (refine wpTk_cons rfl (fun K hK => ?_); go_simp; apply Exists.intro; refine ⟨fun u q1 q2 q3 => ?_, hK _ ?_⟩; (first | exact rfl | (go_simp; done) | (go_simp; exact rfl)); clear hK K)
    refine wpTk_nil ?_
    refine held_ready (rs := [12]) (by kernel_rfl) (by simp) ?_
    refine AllReadyH.cons rfl (fun K hK => ?_) AllReadyH.nil
    go_simp
    with_reducible refine (HR.out _ (below_drew HB4.out)).mono ?_
    rintro e w5 hO
    obtain ⟨v', S', rfl, hxb, hkb, hS1, hS2⟩ := id hO
    have HO := Lib.hid (hO.pre hBw (below_drew HB4.out))
    have j1 : w5.cell? ⟨w3.heap.size, 1, none⟩ = some (.int .i64 (sn : Int)) := by
      rw [World.cell?_of_block (w := W4) (w' := w5) (a := ⟨w3.heap.size, 1, none⟩) (hkb.blk _ (by show w3.heap.size < W4.heap.size; omega) (fun e => by have := HVL.out _ e; simp at this; omega))]
      exact k1
    have j2 : w5.cell? ⟨b2, o2 + sn * 2, none⟩ = some (.slice a3 n3 c3) := by
      rw [World.cell?_of_block (w := W4) (w' := w5) (a := ⟨b2, o2 + sn * 2, none⟩) (hkb.bel.block _ hb2B)]; exact k2
    have j3 : w5.cell? ⟨b2, o2 + sn * 2 + 1, none⟩ = some (.int .i64 y.root) := by
      rw [World.cell?_of_block (w := W4) (w' := w5) (a := ⟨b2, o2 + sn * 2 + 1, none⟩) (hkb.bel.block _ hb2B)]; exact k3
    clear hO hkb hxb hS1 hS2
    go_simp
    refine hK.out _ _ ⟨j1, j2, j3⟩ (fun hh => ?_)
    clear hh hK K k1 k2 k3
    try simp only [Act.put, List.setIfInBounds_toArray, List.set_cons_zero, List.set_cons_succ]
    refine held_takes (f := 0) (by kernel_rfl) (fun _ _ _ _ _ h => h) ⟨j1, j2, j3⟩ [13] _ _ (by kernel_rfl) ?_
    clear j1 j2 j3
    repeat (refine wpTk_cons rfl (fun K hK => ?_); go_simp; apply Exists.intro; refine ⟨fun u q1 q2 q3 => ?_, hK _ ?_⟩; (first | exact rfl | (go_simp; done) | (go_simp; exact rfl)); clear hK K)
    refine wpTk_nil ?_
    refine wpAnyH_done (by kernel_rfl) (NoPanic.normal ?_) _
    go_wp2_with fail
    go_ret
    exact HO.out
  · have hnone : nd.kind = 1 → subL ys nd.server.toNat = none := fun hk => by
      have h5 : ¬ nd.server < (ln : Int) := fun h => hsub ⟨hk, h⟩
      have := ok.server
      unfold subL
      rw [List.getElem?_eq_none (by omega)]; rfl
    have hplain := treF_plain hx (subL ys) f i nd hnd hnone nodes.length
    obtain ⟨kind, server, need, ws, ks⟩ := nd
    simp only at m0 m1 m2 m3 rw3 m4 rk4 hwl hkl hsub hplain
    obtain ⟨KT, hKT⟩ : ∃ KT, KT = kidT x.nodes (subL ys) f ks := ⟨_, rfl⟩
    have hKl : KT.length = nk := by rw [hKT, kidT_len]; exact hkl.symm
    have hKz := ETs.sz_ge KT
    rw [← hKT] at hplain
    rw [hplain.2] at hsz
    have hnw : nw ≤ 1000 := by rcases ok.arity with h5 | h5 <;> simp only at h5
                               · rw [h5] at hwl; simp at hwl; omega
                               · omega
    have hsel : ((kind == 1) = true ∧ decide (server < (ln : Int)) = false) ∨ (kind == 1) = false := by
      by_cases hk : kind = 1
      · exact .inl ⟨by simp [hk], decide_eq_false fun h => hsub ⟨hk, h⟩⟩
      · exact .inr (by simpa using hk)
    have HPL := Lib.hid hplain
    have hnk : nk ≤ 1000 := by omega
    have HCP := Lib.hid (fun u (hu : Below w.heap.size w u) => copied_c kind server need ws ks aw nw cw ak nk ck u ((rw3.below hI.bel).below hu) ((rk4.below hI.bel).below hu) (by omega) (by omega))
    have HWL := Lib.hid hwl
    have HKL := Lib.hid hkl
    have HLN := Lib.hid hln
    have HHL := Lib.hid hl
    have HKT := Lib.hid hKT
    subst ha
    have hkr : ∀ z ∈ ks, 0 ≤ z ∧ z < (i : Int) := ok.kids
    have HKR := Lib.hid hkr
    have HKs := Lib.hid hKl
    have HSZ := Lib.hid hsz
    clear hkr hKl hsz hKz hwl hkl hln hl hplain hKT rw3 rk4 ok hM hat hnd h1 h2 hI hrec hys
    rcases hsel with ⟨e1, e2⟩ | e1
    all_goals
      go_enter Tryz.func60, Tryz.ntmps60
      go_wp2_with fail
      generalize hW1 : w.alloc _ = W1
      have gX : W1.heap[w.heap.size]? = some (.cells #[.slice (some ⟨b, o, none⟩) n c, .int .i64 x.root] 32 (0, 0)) := by rw [← hW1]; exact heap_alloc_new _ _
      have hb1 : Below w.heap.size w W1 := by rw [← hW1]; exact (Below.refl _ _).alloc (Nat.le_refl _) _
      have hs1 : W1.heap.size = w.heap.size + 1 := by rw [← hW1]; simp
      clear hW1 m0 m1 m2 m3 m4
      with_reducible refine (HCP.out W1 hb1).mono ?_
      rintro e w3 ⟨wv, kv, rfl, hrw, hrk, hdj, hb3⟩
      obtain ⟨W4, hW4⟩ : ∃ W4, W4 = w3.alloc (.cells #[.int .i64 kind, .int .i64 server, .int .i64 need, wv, kv] 71) := ⟨_, rfl⟩
      have gN : W4.heap[w3.heap.size]? = some (.cells #[.int .i64 kind, .int .i64 server, .int .i64 need, wv, kv] 71 (0, 0)) := by rw [hW4]; exact heap_alloc_new _ _
      have hb4 : Below w3.heap.size w3 W4 := by rw [hW4]; exact (Below.refl _ _).alloc (Nat.le_refl _) _
      have hs3 := hb3.size
      have hs4 : W4.heap.size = w3.heap.size + 1 := by rw [hW4]; simp
      obtain ⟨aw2, cw2, rfl, _⟩ := rd_of_row hrw
      obtain ⟨ak2, ck2, rfl, _⟩ := rd_of_row hrk
      have hrw4 : W4.ownsRow (w.heap.size + 1) 3 1 (.slice aw2 nw cw2) ws.length (ws.map (Value.int .i64)) := by
        rw [← hs1, ← HWL.out]
        exact rowK_at hrw fun g hg => hb4.block g (hrw.lt g hg).2
      have hrk4 : W4.ownsRow (w.heap.size + 1) 3 1 (.slice ak2 nk ck2) ks.length (ks.map (Value.int .i64)) := by
        rw [← hs1, ← HKL.out]
        exact rowK_at hrk fun g hg => hb4.block g (hrk.lt g hg).2
      have hL0 := GrL.start (W2 := W1) (N := w3.heap.size) (s := w.heap.size + 1) (ids := ks) HI.out hBw (hb1.trans ((hb3.mono (by omega)).trans (hb4.mono (by omega)))) gN (fun g g1 g2 => by rw [hb4.block g (by omega)]; exact hb3.block g (by omega)) ⟨by omega, by omega⟩ hrw4 hrk4 hdj (fun e => by have := (hrw.lt _ e).2; omega) (fun e => by have := (hrk.lt _ e).2; omega)
      have HL0 := Lib.hid hL0
      have GX := Lib.hid gX
      have hs5 : w.heap.size + 1 ≤ W4.heap.size := by omega
      have hs6 : w3.heap.size < W4.heap.size := by omega
      have hs7 : w.heap.size + 1 ≤ w3.heap.size := by omega
      clear gX gN hb4 hb3 hb1 hrw hrk hdj hrw4 hrk4 hL0 HCP hs1 hs3 hs4
      go_wp2_with fail
      rw [← hW4]
      clear hW4
      go_loopw [0, 10] (fun vq q wr => ∃ vv k S', vv = vq ∧ k ≤ nk ∧ q = .int .i64 ((k : Nat) : Int) ∧ GrL w0 w W1 w0.heap.size w3.heap.size (w.heap.size + 1) S (fun g => (Value.slice aw2 nw cw2).ownBlock = some g) v nodes (.int .i64 kind) (.int .i64 server) (.int .i64 need) (.slice aw2 nw cw2) ws vv (.slice ak2 nk ck2) S' (ETs.post (KT.take k) nodes.length) (ETs.idx (KT.take k) nodes.length ++ ks.drop k) wr ∧ w3.heap.size < wr.heap.size) (fun _ q _ => nk - (intOf q).toNat)
      case atStart => exact ⟨v, 0, S, rfl, Nat.zero_le _, rfl, HL0.out, hs6⟩
      case round =>
        obtain ⟨vv, k, S', rfl, hk, rfl, hL, hsr⟩ := hrel
        have hidl : (ETs.idx (KT.take k) nodes.length).length = k := by rw [ETs.idx_len, List.length_take]; have := HKs.out; omega
        by_cases hlt : k < nk
        · obtain ⟨z, hz⟩ : ∃ z, ks[k]? = some z := ⟨_, List.getElem?_eq_getElem (by have := HKL.out; omega)⟩
          have hzr := HKR.out z (List.mem_of_getElem? hz)
          obtain ⟨zn, hzn⟩ := Int.eq_ofNat_of_zero_le hzr.1
          subst hzn
          have hrk := hL.rk
          have hcl : (ETs.idx (KT.take k) nodes.length ++ ks.drop k).length = nk := by rw [List.length_append, List.length_drop, hidl]; have := HKL.out; omega
          rw [hcl] at hrk
          obtain ⟨mk, hmk⟩ : ∃ mk, nk = mk + 1 := ⟨nk - 1, by omega⟩
          have hrk2 := hrk
          rw [hmk] at hrk2
          obtain ⟨gk, capk, hvk⟩ := ownsRow_succ hrk2
          have hak : ak2 = some ⟨gk, 0, none⟩ := by injection hvk
          have hx0 : (wr.ownsRow (w.heap.size + 1) 3 1 (.slice (some ⟨gk, 0, none⟩) nk ck2) nk ((ETs.idx (KT.take k) nodes.length ++ ks.drop k).map (Value.int .i64))) := by rw [← hak]; exact hrk
          have hcell : ∀ u : World, u.heap[gk]? = wr.heap[gk]? → u.cell? ⟨gk, k, none⟩ = some (.int .i64 zn) := fun u hu => by
            rw [World.cell?_of_block (w := wr) (w' := u) (a := ⟨gk, k, none⟩) hu]
            rw [World.ownsRow.cellAt hx0 k (by omega), List.getElem?_map, (kid_set (y := zn) 0 hidl hz).1]; rfl
          have hgk : w.heap.size + 1 ≤ gk ∧ gk < wr.heap.size := hx0.lt gk rfl
          have hvk2 := (hL.dk gk (by rw [hak]; rfl)).2
          have hT := kidT_take x.nodes (subL ys) f ks k zn hz
          rw [← HKT.out, Int.toNat_natCast] at hT
          have hstep := post_step (KT.take k) (treF x.nodes (subL ys) f zn) nodes.length
          rw [← hT] at hstep
          have hszk := sz_take KT (k + 1)
          have hlen : (nodes ++ ETs.post (KT.take k) nodes.length).length = nodes.length + ETs.sz (KT.take k) := by rw [List.length_append, ETs.post_len]
          have hCall := fun u (hu : Below wr.heap.size wr u) => ih (some ⟨b, o, none⟩) n c la ln lc hH1.out hH2.out zn (by omega) (by have := HHL.out; omega) u S' vv (nodes ++ ETs.post (KT.take k) nodes.length) ((hL.toI HI.out (Nat.le_refl _)).below hu (by have := hL.kb.bel.size; omega)) (by have := HSZ.out; omega)
          rw [hlen] at hCall
          have gx := (hL.loc w.heap.size (Nat.le_refl _) (by omega)).trans GX.out
          have hob := hL.nb
          have p4 := cell_of_row _ _ 4 _ _ _ hob
          subst hak
          have KS : Hid (∀ u : World, Eq3 wr u w.heap.size w3.heap.size gk → u.cell? ⟨w.heap.size, 0, none⟩ = some (.slice (some ⟨b, o, none⟩) n c) ∧ u.cell? ⟨w.heap.size, 1, none⟩ = some (.int .i64 x.root) ∧ u.cell? ⟨w3.heap.size, 4, none⟩ = some (.slice (some ⟨gk, 0, none⟩) nk ck2) ∧ u.cell? ⟨gk, k, none⟩ = some (.int .i64 zn)) := Lib.hid (fun u hu => ⟨cell_of_row _ _ 0 _ _ _ (hu.1.trans gx), cell_of_row _ _ 1 _ _ _ (hu.1.trans gx), cell_of_row _ _ 4 _ _ _ (hu.2.1.trans hob), hcell u hu.2.2⟩)
          have HCALL := Lib.hid hCall
          have HSTEP := Lib.hid hstep
          have HL := Lib.hid hL
          have hvn := hL.vn
          have hvw : vv.ownBlock ≠ some w.heap.size := fun e => by
            rcases hL.own _ e with h6 | h6
            · have := (HI.out.xb.lt_own _ h6).2; omega
            · omega
          clear hCall hstep hL hT hszk hlen hzr hrk hrk2 hx0 hcell gx hob hmk hvk
          go_upto_region 7 with fail
          clear p4
          refine wp_region_noPanic ?_
          refine wp_region_takes (fun u => Eq3 wr u w.heap.size w3.heap.size gk) [0, 1, 2, 3, 4, 5, 6, 7] 2 (by kernel_rfl) (by kernel_rfl) (by kernel_rfl) (fun _ _ _ _ _ h => h) ⟨rfl, rfl, rfl⟩ ?_
          repeat (refine wpTk_cons rfl (fun K hK => ?_); go_simp; apply Exists.intro; refine ⟨fun u u1 => ?_, hK _ ?_⟩; (first | exact rfl | (obtain ⟨q1, q2, q3, q4⟩ := KS.out u u1; go_simp; done) | (obtain ⟨q1, q2, q3, q4⟩ := KS.out u u1; go_simp; exact rfl)); clear hK K)
          refine wpTk_nil ?_
          refine held_ready (rs := [8]) (by kernel_rfl) (by simp) ?_
          refine AllReadyH.cons rfl (fun K hK => ?_) AllReadyH.nil
          go_simp
          with_reducible refine (HCALL.out _ (below_drew (Below.refl _ _))).mono ?_
          rintro e w5 hO
          have hP := hO.pre (by have := HL.out.kb.bel.size; omega) (below_drew (Below.refl _ _))
          have hkb : ∀ g, g < wr.heap.size → vv.ownBlock ≠ some g → w5.heap[g]? = wr.heap[g]? := by
            obtain ⟨_, _, _, _, h9, _⟩ := id hP
            exact h9.blk
          obtain ⟨v5, S5, rfl, hL5, hs5⟩ := HL.out.call HI.out hP
          have hq : Eq3 wr w5 w.heap.size w3.heap.size gk := ⟨hkb _ (by omega) hvw, hkb _ hsr hvn, hkb _ hgk.2 hvk2⟩
          obtain ⟨h51, h52, h53⟩ := HSTEP.out
          rw [← h51] at hL5
          have hRp := (treF x.nodes (subL ys) f zn).sz_pos
          have hl5 : (nodes ++ ETs.post (KT.take (k + 1)) nodes.length).length = (nodes.length + ETs.sz (KT.take k) + (treF x.nodes (subL ys) f zn).sz - 1) + 1 := by rw [List.length_append, ETs.post_len, h53]; omega
          have hszk := sz_take KT (k + 1)
          have hR1 : nodes.length + ETs.sz (KT.take k) + (treF x.nodes (subL ys) f zn).sz - 1 ≤ 1000 := by have := HSZ.out; omega
          generalize (nodes.length + ETs.sz (KT.take k) + (treF x.nodes (subL ys) f zn).sz - 1 : Nat) = R at hl5 h52 hR1
          obtain ⟨a5, c5, hv5, _⟩ := hL5.xb.shape
          rw [hl5] at hv5
          subst hv5
          have hrk5 := hL5.rk
          have hcl : (ETs.idx (KT.take k) nodes.length ++ ks.drop k).length = nk := by rw [List.length_append, List.length_drop, hidl]; have := HKL.out; omega
          rw [hcl] at hrk5
          have t0 : w5.cell? ⟨gk, k, none⟩ = some (.int .i64 zn) := by
            rw [World.ownsRow.cellAt hrk5 k (by omega), List.getElem?_map, (kid_set (y := zn) 0 hidl hz).1]; rfl
          have t1 := World.ownsRow.frozenAt hrk5 k
          have p4 := cell_of_row _ _ 4 _ _ _ hL5.nb
          have HK := Lib.hid (hL5.kid hBw (z := (R : Int)) (k := k) (g0 := gk) rfl)
          rw [(kid_set (y := zn) (R : Int) hidl hz).2, ← h52] at HK
          have hs6 : w3.heap.size < w5.heap.size := by omega
          go_simp
          refine hK.out _ _ hq (fun hh => ?_)
          clear hh hK K
          try simp only [Act.put, List.setIfInBounds_toArray, List.set_cons_zero, List.set_cons_succ]
          refine held_takes (f := 0) (by kernel_rfl) (fun _ _ _ _ _ h => h) hq [9] _ _ (by kernel_rfl) ?_
          clear hq hO hP hkb hL5 h51 h52 h53 hRp hl5 hszk hrk5 hcl HSTEP HCALL HL KS
          repeat (refine wpTk_cons rfl (fun K hK => ?_); go_simp; apply Exists.intro; refine ⟨fun u u1 => ?_, hK _ ?_⟩; (first | exact rfl | (go_simp; done) | (go_simp; exact rfl)); clear hK K)
          refine wpTk_nil ?_
          refine wpAnyH_done (by kernel_rfl) (NoPanic.normal ?_) _
          go_wp2_with fail
          go_roundw
          case rel => exact ⟨_, k + 1, S5, rfl, by omega, by go_num, HK.out, by simpa using hs6⟩
          case measure => simp [intOf] <;> omega
        · have hkn : k = nk := by omega
          subst hkn
          rw [List.take_of_length_le (by have := HKs.out; omega), List.drop_of_length_le (by have := HKL.out; omega), List.append_nil] at hL
          obtain ⟨V, hV1, hV2, hV3⟩ := hL.xb.row
          have hlen : (nodes ++ ETs.post KT nodes.length).length = nodes.length + ETs.sz KT := by rw [List.length_append, ETs.post_len]
          have hn1 : (nodes ++ ETs.post KT nodes.length).length ≤ 1000 := by have := HSZ.out; omega
          obtain ⟨NN, hNN⟩ : ∃ NN, NN = (nodes ++ ETs.post KT nodes.length).length := ⟨_, rfl⟩
          rw [← hNN] at hV2 hn1
          obtain ⟨av, cv, rfl, _⟩ := rdK_of_row hV2
          have HN := Lib.hid hNN
          have HL := Lib.hid hL
          have HV1 := Lib.hid hV1
          have HV3 := Lib.hid hV3
          have n0 := cell_of_row _ _ 0 _ _ _ hL.nb
          have n1 := cell_of_row _ _ 1 _ _ _ hL.nb
          have n2 := cell_of_row _ _ 2 _ _ _ hL.nb
          have n3 := cell_of_row _ _ 3 _ _ _ hL.nb
          have n4 := cell_of_row _ _ 4 _ _ _ hL.nb
          have hBr : w0.heap.size ≤ wr.heap.size := by have := hL.kb.bel.size; omega
          clear hL hV1 hV3 hlen hidl hNN
          go_wp2_with (at_builtin; go_must (refine wpList_appK2 5 _ _ 30 72 (.agg #[.int .i64 0, .int .i64 0, .int .i64 0, .slice none 0 0, .slice none 0 0]) (nodVC ⟨kind, server, need, .slice aw2 nw cw2, .slice ak2 k ck2⟩) _ Tryz.underlying30 Tryz.infoNod rfl (by decide) hV2 (Below.refl w0.heap.size wr) hBr rfl rfl rfl rfl rfl (by intro u hu; unfold nodVC at hu; simp at hu; rcases hu with rfl | rfl | rfl | rfl | rfl <;> rfl) (by unfold maxLen; omega) (by omega) ?_))
          intro v6 w6 hown6 hb6 hg6 hs6 hv6
          go_wp2_with fail
          go_ret
          rw [HPL.out.1]
          exact HL.out.fin HV1.out HV3.out HI.out hBw (by omega) (Below.refl _ _) hg6 (by rw [← HN.out]; exact hown6) hv6 (by omega) rfl
theorem grow_top (x : Xpr) (hx : xprE x = 0) (ys : List Xpr) (hys : ∀ y ∈ ys, xprE y = 0) (w0 : World) (hrec : ∀ y ∈ ys, GrC y [] w0 (y.root.toNat + 1)) : ∀ f, GrC x ys w0 f
  | 0 => fun a n c la ln lc h1 h2 i hi => by omega
  | f + 1 => grow_step x hx ys hys w0 hrec f (grow_top x hx ys hys w0 hrec f)
theorem grow_c (x : Xpr) (hx : xprE x = 0) (ys : List Xpr) (hys : ∀ y ∈ ys, xprE y = 0) (w0 : World) (f : Nat) : GrC x ys w0 f :=
  grow_top x hx ys hys w0 (fun y hy => grow_top y (hys y hy) [] (fun _ h => by cases h) w0 (fun _ h => by cases h) _) f
end Go.Proofs.YtcojmmhclklpoaaGreatDoor
namespace Go.Proofs.YtcojmmhclklpoaaGreatDoor
open Go.RowKit Go.Shelf

/-- m places for numbers, the first ones filled -/
def inN (m : Nat) (l : List Nat) : Array Value := ((l ++ List.replicate (m - l.length) 0).map fun k => Value.int .i64 ((k : Nat) : Int)).toArray
theorem inN_at {m : Nat} {l : List Nat} (h : l.length ≤ m) {i : Nat} (hi : i < m) : (inN m l)[i]? = some (.int .i64 ((l.getD i 0 : Nat) : Int)) := by
  unfold inN
  rw [List.getElem?_toArray, List.getElem?_map, List.getD_eq_getElem?_getD]
  by_cases h1 : i < l.length
  · rw [List.getElem?_append_left h1, List.getElem?_eq_getElem h1]; rfl
  · rw [List.getElem?_append_right (by omega), List.getElem?_replicate, if_pos (by omega), List.getElem?_eq_none (by omega)]; rfl
theorem inN_set {m : Nat} {l : List Nat} (h : l.length < m) (v : Nat) : (inN m l).setIfInBounds l.length (.int .i64 (v : Int)) = inN m (l ++ [v]) := by
  unfold inN
  rw [List.setIfInBounds_toArray]
  congr 1
  have e : m - l.length = (m - (l ++ [v]).length) + 1 := by simp; omega
  rw [e, List.replicate_succ, List.map_append, List.map_append, List.map_append, List.map_cons, List.set_append_right _ _ (by simp)]
  simp
theorem inN_reset {m : Nat} {l : List Nat} (u v : Nat) : (inN m (l ++ [u])).setIfInBounds l.length (.int .i64 (v : Int)) = inN m (l ++ [v]) := by
  unfold inN
  rw [List.setIfInBounds_toArray]
  congr 1
  rw [List.append_assoc, List.append_assoc, List.map_append, List.map_append, List.set_append_right _ _ (by simp)]
  simp
theorem inN_old {m : Nat} {l : List Nat} (u : Nat) {i : Nat} (h : l.length < m) (hi : i < l.length) : (inN m (l ++ [u]))[i]? = some (.int .i64 ((l.getD i 0 : Nat) : Int)) := by
  rw [inN_at (by simp; omega) (by omega), List.getD_eq_getElem?_getD, List.getElem?_append_left hi, ← List.getD_eq_getElem?_getD]
theorem inN_new {m : Nat} {l : List Nat} (u : Nat) (h : l.length < m) : (inN m (l ++ [u]))[l.length]? = some (.int .i64 (u : Int)) := by
  rw [inN_at (by simp; omega) h, List.getD_eq_getElem?_getD, List.getElem?_append_right (Nat.le_refl _), Nat.sub_self]; rfl
theorem inN_all (l : List Nat) : inN l.length l = (l.map fun k => Value.int .i64 ((k : Nat) : Int)).toArray := by
  unfold inN; simp
theorem make_ints (m : Nat) (hm : m ≤ 1000000) : ∀ w, (Instr.makeSlice 69 (.int .i64 m) (.int .i64 m)).run Tryz.prog w = .ok (.slice (some ⟨w.heap.size, 0, none⟩) m m) (w.alloc (.cells (madeCells #[.int .i64 0] m) 3)) :=
  fun w => run_make_row' 69 3 (.int .i64 0) 8 Tryz.underlying69 Tryz.infoInt rfl .i64 .i64 m (by omega) (by omega) w
theorem inN_made (m : Nat) : madeCells #[.int .i64 0] m = inN m [] := by
  apply Array.toList_inj.1
  rw [toList_madeCells_one]; unfold inN; simp

set_option maxRecDepth 100000 in
set_option maxHeartbeats 4000000 in
theorem rsizes_c (x : Xpr) (hx : xprE x = 0) (hf : XprFew x) (sub : Nat → Option ET) (ls : List Nat) (hsub : ∀ s, s < 12 → subZ 1000 sub s = if s < ls.length then ls.getD s 0 else 1) (a : Option Addr) (n c : Nat) (la : Option Addr) (ln lc : Nat) (w : World) (h : XM w a n c x.nodes) (hl : Rd w la ln lc (ls.map fun k => Value.int .i64 ((k : Nat) : Int))) :
    Calls Tryz.prog 59 #[.agg #[.slice a n c, .int .i64 x.root], .slice la ln lc] w fun e w' => ∃ a', e = .returned (.slice a' n n) ∧ Rd w' a' n n ((szl 1000 x.nodes sub n).map fun k => Value.int .i64 ((k : Nat) : Int)) ∧ Below w.heap.size w w' := by
  have ok := xprE_ok hx
  have hle := h.le
  have hm := h.max
  have hn60 : n ≤ 60 := by have h1 := ok.most; have h2 := h.len; omega
  have hn0 : 0 < n := by have h1 := ok.pos; have h2 := h.len; omega
  unfold maxLen at hm
  have HX := Lib.hid h
  have HO := Lib.hid ok
  have HXX := Lib.hid hx
  have HN := Lib.hid h.len
  have HLS := Lib.hid hl
  have HSB := Lib.hid hsub
  have HFW := Lib.hid hf
  obtain ⟨RT, hRT⟩ : ∃ RT, x.root = RT := ⟨_, rfl⟩
  rw [hRT]
  clear h hx ok hl hsub hf hRT
  have hmk := make_ints n (by omega)
  obtain ⟨b, o, rfl, _⟩ := HX.out.at' hn0
  go_enter Tryz.func59, Tryz.ntmps59
  go_wp2_with fail
  generalize hWS : (w.alloc _).alloc _ = WS
  rw [inN_made] at hWS
  obtain ⟨g0, g1, hbS, hS⟩ := box2' hWS
  have HS := Lib.hid hS
  have HBS := Lib.hid hbS
  have G0 := Lib.hid g0
  have G1 := Lib.hid g1
  clear hWS hS hbS g0 g1 hmk
  go_loopw [6] (fun i wr => ∃ k : Nat, k ≤ n ∧ i = .int .i64 k ∧ wr.heap[w.heap.size + 1]? = some (.cells (inN n (szl 1000 x.nodes sub k)) 3 (0, 0)) ∧ wr.heap[w.heap.size]? = some (.cells #[.slice (some ⟨b, o, none⟩) n c, .int .i64 RT] 32 (0, 0)) ∧ w.heap.size + 2 ≤ wr.heap.size ∧ Below w.heap.size w wr) (fun i _ => n - (intOf i).toNat)
  case atStart => exact ⟨0, Nat.zero_le _, rfl, G1.out, G0.out, by rw [HS.out]; exact Nat.le_refl _, HBS.out⟩
  case round =>
    obtain ⟨k, hk, rfl, e1, e0, hsz, hb⟩ := hrel
    by_cases hlt : k < n
    · obtain ⟨nd, hnd⟩ : ∃ nd, x.nodes[k]? = some nd := ⟨_, List.getElem?_eq_getElem (by have := HN.out; omega)⟩
      obtain ⟨b', o', ha, hat⟩ := HX.out.at' (by omega)
      cases ha
      have hM := hat k nd hnd
      obtain ⟨a3, n3, c3, m3, r3⟩ := hM.ws
      obtain ⟨a4, n4, c4, m4, r4⟩ := hM.ks
      have m0 := cell_keep hb hM.c0
      have m1 := cell_keep hb hM.c1
      have m2 := cell_keep hb hM.c2
      have m3 := cell_keep hb m3
      have m4 := cell_keep hb m4
      obtain ⟨x0, x1⟩ := (open2 e0).1
      have HOK := Lib.hid (HO.out.node k nd hnd)
      have HST := Lib.hid (szl_succ 1000 x.nodes sub k)
      have HL := Lib.hid (szl_len 1000 x.nodes sub k)
      have hkk := Lib.hid (fun j kd hj => sz_kid HXX.out 1000 sub k nd hnd j kd hj)
      have hIb := Lib.hid (fun i (hi : i < k) => show (szl 1000 x.nodes sub k).getD i 0 ≤ 1000 from by rw [szl_get _ _ _ _ _ hi]; omega)
      obtain ⟨I, hI⟩ : ∃ I, szl 1000 x.nodes sub k = I := ⟨_, rfl⟩
      have hleaf := Lib.hid (fun hk1 => sz_leaf (x := x) 1000 (by omega) sub k nd hnd hk1)
      have hnode := Lib.hid (fun hk1 => sz_node HXX.out 1000 sub k nd hnd hk1)
      rw [hI] at e1 HST HL hkk hIb
      obtain ⟨kind, server, need, ws, ks⟩ := nd
      simp only at m0 m1 m2 r3 r4 hleaf hnode hkk
      have R4 := Lib.hid r4
      have HB := Lib.hid hb
      have hlk : ks.length = n4 := by have := R4.out.len; simp at this; omega
      have HLK := Lib.hid hlk
      clear hM r3 r4 hat hnd hI hb hlk
      have ea := heap_alloc_at e1 (Obj.cells #[.int .i64 kind, .int .i64 server, .int .i64 need, .slice a3 n3 c3, .slice a4 n4 c4] 71)
      have ea0 := heap_alloc_at e0 (Obj.cells #[.int .i64 kind, .int .i64 server, .int .i64 need, .slice a3 n3 c3, .slice a4 n4 c4] 71)
      have en := heap_alloc_new wr (Obj.cells #[.int .i64 kind, .int .i64 server, .int .i64 need, .slice a3 n3 c3, .slice a4 n4 c4] 71)
      have hbn : Below wr.heap.size wr (wr.alloc (Obj.cells #[.int .i64 kind, .int .i64 server, .int .i64 need, .slice a3 n3 c3, .slice a4 n4 c4] 71)) := (Below.refl _ wr).alloc (Nat.le_refl _) _
      have za := frozen_row ea k
      have zb := (cell_of_row _ _ k _ _ _ ea).trans (inN_at (by have := HL.out; omega) hlt)
      have EA := Lib.hid ea
      have EA0 := Lib.hid ea0
      have EN := Lib.hid en
      have HBN := Lib.hid hbn
      clear ea ea0 en hbn e1 e0
      go_upto_region 7 with fail
      generalize hW5 : (wr.alloc _).setCell _ _ = W5
      have e5 : W5.heap[w.heap.size + 1]? = some (.cells (inN n (I ++ [1])) 3 (0, 0)) := by
        rw [← hW5, heap_set_at EA.out]
        have := inN_set (m := n) (l := I) (by have := HL.out; omega) 1
        rw [HL.out] at this
        rw [← this]; rfl
      have e50 : W5.heap[w.heap.size]? = some (.cells #[.slice (some ⟨b, o, none⟩) n c, .int .i64 RT] 32 (0, 0)) := by rw [← hW5]; exact heap_set_other (by omega) _ _ EA0.out
      have en5 : W5.heap[wr.heap.size]? = some (.cells #[.int .i64 kind, .int .i64 server, .int .i64 need, .slice a3 n3 c3, .slice a4 n4 c4] 71 (0, 0)) := by rw [← hW5]; exact heap_set_other (by omega) _ _ EN.out
      have hb5 : Below w.heap.size w W5 := by rw [← hW5]; exact (HB.out.trans (HBN.out.mono HB.out.size)).setCell (p := ⟨w.heap.size + 1, k, none⟩) (Nat.le_succ _) _
      have hs5 : wr.heap.size < W5.heap.size := (Array.getElem?_eq_some_iff.1 en5).1
      have E5 := Lib.hid e5
      have E50 := Lib.hid e50
      have EN5 := Lib.hid en5
      have HB5 := Lib.hid hb5
      clear hW5 e5 e50 en5 hb5 za zb m0 m1 m2 m3 m4 x0 x1 EA EA0 EN HBN
      obtain ⟨q0, q1, q2, q3, q4⟩ := open5 EN5.out
      by_cases hkind : kind = 1
      · subst hkind
        obtain ⟨sv, rfl⟩ := Int.eq_ofNat_of_zero_le HOK.out.server.1
        have hsv12 := HOK.out.server.2
        simp only at hsv12
        obtain ⟨hnd0, hws0, hks⟩ := HOK.out.leaf rfl
        simp only at hks hnd0 hws0
        subst hks hnd0 hws0
        have hn0 : n4 = 0 := HLK.out.symm
        subst hn0
        have hsb := HSB.out sv (by omega)
        have hln := HLS.out.len
        rw [List.length_map] at hln
        have hlf := hleaf.out rfl
        rw [Int.toNat_natCast, hsb] at hlf
        by_cases hsl : sv < ls.length
        · rw [if_pos hsl] at hlf
          obtain ⟨b7, o7, ha7, hc7⟩ := HLS.out.at' (by omega)
          have r7 := cell_keep HB5.out (hc7 sv (.int .i64 ((ls.getD sv 0 : Nat) : Int)) (by rw [List.getElem?_map, List.getD_eq_getElem?_getD, List.getElem?_eq_getElem hsl]; rfl))
          have za := frozen_row E5.out k
          have zb := (cell_of_row _ _ k _ _ _ E5.out).trans (inN_at (by simp; have := HL.out; omega) hlt)
          have d1 : decide (sv < ln) = true := decide_eq_true (by omega)
          have d2 : decide ((sv : Int) < (ln : Int)) = true := decide_eq_true (by omega)
          have hsn : sv < ln := by omega
          have HLF := Lib.hid hlf
          subst ha7
          clear hlf hc7 hsb hln
          obtain ⟨VV, hVV⟩ : ∃ VV, ls.getD sv 0 = VV := ⟨_, rfl⟩
          rw [hVV] at r7 HLF
          clear hVV hsl
          obtain ⟨W6, hW6⟩ : ∃ u, u = W5.setCell ⟨w.heap.size + 1, k, none⟩ (.int .i64 (VV : Int)) := ⟨_, rfl⟩
          have EZ : Hid (W6.heap[w.heap.size + 1]? = some (.cells (inN n (szl 1000 x.nodes sub (k + 1))) 3 (0, 0))) := Lib.hid (by
            rw [hW6, heap_set_at E5.out, HST.out, HLF.out]
            have := inN_reset (m := n) (l := I) 1 VV
            rw [HL.out] at this
            exact congrArg (fun q => some (Obj.cells q 3 (0, 0))) this)
          have EZ0 := Lib.hid (show W6.heap[w.heap.size]? = some (.cells #[.slice (some ⟨b, o, none⟩) n c, .int .i64 RT] 32 (0, 0)) by rw [hW6]; exact heap_set_other (by omega) _ _ E50.out)
          have hen6 : W6.heap[wr.heap.size]? = some (.cells #[.int .i64 1, .int .i64 (sv : Int), .int .i64 0, .slice a3 n3 c3, .slice a4 0 c4] 71 (0, 0)) := by rw [hW6]; exact heap_set_other (by omega) _ _ EN5.out
          have HBZ : Hid (Below w.heap.size w W6) := Lib.hid (by rw [hW6]; exact HB5.out.setCell (p := ⟨w.heap.size + 1, k, none⟩) (Nat.le_succ _) _)
          have hs6 : W6.heap.size = W5.heap.size := by rw [hW6]; simp
          have n46 := (open5 hen6).2.2.2.2
          have hsi : w.heap.size + 2 ≤ W6.heap.size := by omega
          have HW6 := Lib.hid hW6
          clear hen6 hs6 hW6
          go_wp2_with fail
          rw [← HW6.out]
          clear za zb r7
          go_loopw [8] (fun i wq => i = .int .i64 ((0 : Nat) : Int) ∧ wq = W6) (fun _ _ => 0)
          case atStart => exact ⟨rfl, rfl⟩
          case round =>
            obtain ⟨rfl, hwq⟩ := hrel
            subst hwq
            go_wp2_with fail
            go_roundw
            case rel => exact ⟨k + 1, by omega, by go_num, EZ.out, EZ0.out, by omega, HBZ.out⟩
            case measure => simp [intOf] <;> omega
        · rw [if_neg hsl] at hlf
          have d1 : decide (sv < ln) = false := decide_eq_false (by omega)
          have d2 : decide ((sv : Int) < (ln : Int)) = false := decide_eq_false (by omega)
          have HLF := Lib.hid hlf
          clear hlf hsb hln hsl
          have EZ : Hid (W5.heap[w.heap.size + 1]? = some (.cells (inN n (szl 1000 x.nodes sub (k + 1))) 3 (0, 0))) := Lib.hid (by rw [HST.out, HLF.out]; exact E5.out)
          have EZ0 := E50
          have HBZ := HB5
          go_wp2_with fail
          go_loopw [8] (fun i wq => i = .int .i64 ((0 : Nat) : Int) ∧ wq = W5) (fun _ _ => 0)
          case atStart => exact ⟨rfl, rfl⟩
          case round =>
            obtain ⟨rfl, hwq⟩ := hrel
            subst hwq
            go_wp2_with fail
            go_roundw
            case rel => exact ⟨k + 1, by omega, by go_num, EZ.out, EZ0.out, by omega, HBZ.out⟩
            case measure => simp [intOf] <;> omega
      · have hk2 : (kind == 1) = false := by simpa using hkind
        obtain ⟨KT, hKT⟩ : ∃ KT, KT = kidT x.nodes sub k ks := ⟨_, rfl⟩
        rw [← hKT] at hkk hnode
        have HKl := Lib.hid (show KT.length = n4 by rw [hKT, kidT_len, HLK.out])
        have hn4m : n4 ≤ 9223372036854775807 := by have h1 := R4.out.le; have h2 := R4.out.max; unfold maxLen at h2; omega
        clear hKT
        go_wp2_with fail
        clear q0 q1 q2 q3 q4
        obtain ⟨W0, hW0⟩ : ∃ W0, W0 = wr := ⟨_, rfl⟩
        subst hW0
        go_loopw [8] (fun i wq => ∃ j : Nat, j ≤ n4 ∧ i = .int .i64 ((j : Nat) : Int) ∧ wq.heap[w.heap.size + 1]? = some (.cells (inN n (I ++ [min 1000 (1 + ETs.sz (KT.take j))])) 3 (0, 0)) ∧ wq.heap[w.heap.size]? = some (.cells #[.slice (some ⟨b, o, none⟩) n c, .int .i64 RT] 32 (0, 0)) ∧ wq.heap[W0.heap.size]? = some (.cells #[.int .i64 kind, .int .i64 server, .int .i64 need, .slice a3 n3 c3, .slice a4 n4 c4] 71 (0, 0)) ∧ W0.heap.size < wq.heap.size ∧ Below w.heap.size w wq) (fun i _ => n4 - (intOf i).toNat)
        case atStart => exact ⟨0, Nat.zero_le _, rfl, by simp only [List.take_zero, ETs.sz]; exact E5.out, E50.out, EN5.out, hs5, HB5.out⟩
        case round =>
          obtain ⟨j, hj, rfl, q1, q0, qn, hsq, hbq⟩ := hrel
          by_cases hltj : j < n4
          · obtain ⟨z, hz⟩ : ∃ z, ks[j]? = some z := ⟨_, List.getElem?_eq_getElem (by have := HLK.out; omega)⟩
            have hzr := HOK.out.kids z (List.mem_of_getElem? hz)
            obtain ⟨kd, rfl⟩ := Int.eq_ofNat_of_zero_le hzr.1
            have hkd2 : kd < k := by omega
            have hkdn : kd < n := by omega
            obtain ⟨b4, o4, ha4, hcell4⟩ := (R4.out.below hbq).at' (by omega)
            have r4 := hcell4 j (.int .i64 kd) (by rw [List.getElem?_map, hz]; rfl)
            have HKK := Lib.hid (hkk.out j kd hz)
            subst ha4
            have hI61 : I.getD kd 0 ≤ 1000 := hIb.out kd hkd2
            obtain ⟨u, hu⟩ : ∃ u, min 1000 (1 + ETs.sz (KT.take j)) = u := ⟨_, rfl⟩
            rw [hu] at q1 HKK
            have hu61 : u ≤ 1000 := by omega
            obtain ⟨d, hd⟩ : ∃ d, I.getD kd 0 = d := ⟨_, rfl⟩
            rw [hd] at hI61 HKK
            have KS : Hid (∀ y : World, Below wr.heap.size wr y → y.heap[w.heap.size + 1]? = some (.cells (inN n (I ++ [u])) 3 (0, 0)) ∧ y.cell? ⟨w.heap.size + 1, k, none⟩ = some (.int .i64 (u : Int)) ∧ y.cell? ⟨w.heap.size + 1, kd, none⟩ = some (.int .i64 (d : Int)) ∧ y.frozen? ⟨w.heap.size + 1, k, none⟩ = false ∧ y.cell? ⟨W0.heap.size, 4, none⟩ = some (.slice (some ⟨b4, o4, none⟩) n4 c4) ∧ y.cell? ⟨b4, o4 + j, none⟩ = some (.int .i64 (kd : Int))) := Lib.hid (fun y hy => by
              have h1 := heap_below hy q1
              refine ⟨h1, (cell_of_row _ _ k _ _ _ h1).trans ?_, (cell_of_row _ _ kd _ _ _ h1).trans ?_, frozen_row h1 k, (open5 (heap_below hy qn)).2.2.2.2, cell_keep hy r4⟩
              · have := inN_new (m := n) (l := I) u (by have := HL.out; omega)
                rw [HL.out] at this; exact this
              · rw [inN_old u (by have := HL.out; omega) (by have := HL.out; omega), hd])
            have n4c := (open5 qn).2.2.2.2
            have Q0 := Lib.hid q0
            have QN := Lib.hid qn
            have HBQ := Lib.hid hbq
            clear hcell4 hz hzr q1 q0 qn hbq hu hd r4
            go_wp2_with fail
            clear n4c
            refine wp_region_store (fun y => Below wr.heap.size wr y) (fun z => ∃ y, Below wr.heap.size wr y ∧ z = y.setCell ⟨w.heap.size + 1, k, none⟩ (.int .i64 ((min 1000 (u + d) : Nat) : Int))) [] 17 (by kernel_rfl) (by kernel_rfl) (by kernel_rfl) (below_drew (Below.refl _ _)) ?_
            simp only [List.take_succ_cons, List.take_zero]
            iterate 14 (refine wpT_step (fun K hK => ?_); go_simp; apply Exists.intro; refine ⟨fun y hy => ?_, ?_, hK _ ?_⟩; (first | exact rfl | (obtain ⟨_, k1, k2, k3, k4, k5⟩ := KS.out y hy; go_simp; first | exact rfl | exact ⟨rfl, hy⟩ | exact hy | exact ⟨rfl, rfl⟩ | (rw [if_pos (by omega)]; exact ⟨rfl, rfl⟩))); (first | exact late_not rfl | (focus (intro _ z hz; go_simp; done))); clear hK K)
            refine wpT_step (fun K hK => ?_)
            go_simp
            refine ⟨.int .i64 ((u : Int) + (d : Int)), fun y hy => ?_, late_not rfl, hK _ ?_⟩
            · rw [show IntKind.i64.wrap ((u : Int) + (d : Int)) = (u : Int) + (d : Int) by unfold IntKind.wrap; simp [IntKind.bits, IntKind.signed]; omega]
            clear hK K
            refine wpT_step (fun K hK => ?_)
            go_simp
            refine ⟨.int .i64 ((min 1000 (u + d) : Nat) : Int), fun y hy => ?_, late_not rfl, hK _ ?_⟩
            · congr 1; omega
            clear hK K
            (refine wpT_step (fun K hK => ?_); go_simp; apply Exists.intro; refine ⟨fun y hy => ?_, ?_, hK _ ?_⟩; (first | exact rfl | (obtain ⟨_, k1, k2, k3, k4, k5⟩ := KS.out y hy; go_simp; first | exact rfl | exact ⟨rfl, hy⟩ | exact hy | exact ⟨rfl, rfl⟩ | (rw [if_pos (by omega)]; exact ⟨rfl, rfl⟩))); (first | exact late_not rfl | (focus (intro _ z hz; go_simp; done))); clear hK K)
            refine wpT_nil ?_
            refine ⟨_, rfl, by go_simp, fun y hy => ?_, ?_⟩
            · obtain ⟨_, k1, k2, k3, k4, k5⟩ := KS.out y hy
              refine ⟨_, ?_, y, hy, rfl⟩
              go_simp
            · rintro z ⟨y, hy, rfl⟩
              obtain ⟨h1, _, _, _, _, _⟩ := KS.out y hy
              generalize hz : y.setCell _ _ = z
              have ez : z.heap[w.heap.size + 1]? = some (.cells (inN n (I ++ [min 1000 (1 + ETs.sz (KT.take (j + 1)))])) 3 (0, 0)) := by
                rw [← hz, heap_set_at h1, HKK.out]
                have := inN_reset (m := n) (l := I) u (min 1000 (u + d))
                rw [HL.out] at this
                exact congrArg (fun q => some (Obj.cells q 3 (0, 0))) this
              have ez0 : z.heap[w.heap.size]? = some (.cells #[.slice (some ⟨b, o, none⟩) n c, .int .i64 RT] 32 (0, 0)) := by
                rw [← hz]; exact heap_set_other (by omega) _ _ (heap_below hy Q0.out)
              have ezn : z.heap[W0.heap.size]? = some (.cells #[.int .i64 kind, .int .i64 server, .int .i64 need, .slice a3 n3 c3, .slice (some ⟨b4, o4, none⟩) n4 c4] 71 (0, 0)) := by
                rw [← hz]; exact heap_set_other (by omega) _ _ (heap_below hy QN.out)
              have hsz2 : W0.heap.size < z.heap.size := by
                have := hy.size
                rw [← hz]; simp; omega
              have hbz : Below w.heap.size w z := by
                rw [← hz]; exact (HBQ.out.trans (hy.mono HBQ.out.size)).setCell (p := ⟨w.heap.size + 1, k, none⟩) (Nat.le_succ _) _
              have EZ := Lib.hid ez
              have EZ0 := Lib.hid ez0
              have EZN := Lib.hid ezn
              have HBZ := Lib.hid hbz
              clear hz ez ez0 ezn hbz h1 hy
              go_simp
              go_wp2_with fail
              go_roundw
              case rel => exact ⟨j + 1, by omega, by go_num, EZ.out, EZ0.out, EZN.out, hsz2, HBZ.out⟩
              case measure => simp [intOf] <;> omega
          · obtain rfl : j = n4 := by omega
            have ez : wr.heap[w.heap.size + 1]? = some (.cells (inN n (szl 1000 x.nodes sub (k + 1))) 3 (0, 0)) := by
              rw [List.take_of_length_le (by have := HKl.out; omega), Nat.add_comm 1] at q1
              rw [HST.out, hnode.out hkind]
              exact q1
            have n4c := (open5 qn).2.2.2.2
            have EZ := Lib.hid ez
            have Q0 := Lib.hid q0
            have HBQ := Lib.hid hbq
            clear ez q1 q0 qn hbq
            go_wp2_with fail
            go_roundw
            case rel => exact ⟨k + 1, by omega, by go_num, EZ.out, Q0.out, by omega, HBQ.out⟩
            case measure => simp [intOf] <;> omega
    · obtain rfl : k = n := by omega
      have HE1 := Lib.hid e1
      have HB := Lib.hid hb
      clear e1 e0 hb
      go_wp2_with fail
      go_ret
      refine ⟨some ⟨w.heap.size + 1, 0, none⟩, rfl, ⟨by rw [List.length_map, szl_len], Nat.le_refl _, by unfold maxLen; omega, fun h => (by cases h), fun _ => ⟨_, 0, rfl, fun i v hv => ?_⟩⟩, HB.out⟩
      have hi : i < k := by
        have := (List.getElem?_eq_some_iff.1 hv).1
        rw [List.length_map, szl_len] at this; exact this
      rw [Nat.zero_add]
      refine ((cell_of_row _ _ i _ _ _ HE1.out).trans (inN_at (by rw [szl_len]; exact Nat.le_refl _) hi)).trans ?_
      rw [← hv, List.getElem?_map, List.getD_eq_getElem?_getD, List.getElem?_eq_getElem (by rw [szl_len]; exact hi)]
      rfl
end Go.Proofs.YtcojmmhclklpoaaGreatDoor
