/- Texts laid together. The reference's Holds of layer 10. The reference's node of layer 10 (printed by rnd.py). The reference's Valid of layer 10. The reference of layer 8: Size, Before, Contains, Range, Accepts, Support, Valid. The reference's Servers and Family of layer 10. The reference's Formed. The reference's right and Check of layer 20. Layer 20: the law Check, walked (printed by p20e.py). -/
import Derived.Test.YtflpkkebampmfaaGreatDoorGIntersectCheck2
import Derived.Test.YtflpkkebampmfaaGreatDoorGIntersectCheck3
import Derived.Test.YtflpkkebampmfaaGreatDoorGIntersectCheck4
import Derived.Test.YtflpkkebampmfaaGreatDoorGIntersectCheck6
import Derived.Test.YtflpkkebampmfaaGreatDoorGIntersectCheck7
import Derived.Test.YtflpkkebampmfaaGreatDoorGIntersectCheck8
import Derived.Test.YtflpkkebampmfaaGreatDoorGIntersectCheck9
import Derived.Deep.OwnRows
import Derived.Deep.CutRange
import Derived.Deep.DeepCutAuto
namespace Go.Proofs.YtflpkkebampmfaaGreatDoor
open Go.RowKit Go.Shelf

theorem Tryz.infoBl : (Tryz.prog.info? 4).map (fun i => (i.zero, i.size, i.bytes)) = some (some (.bool false), 1, 1) := by kernel_rfl
theorem make_bool (m : Nat) (hm : m ≤ 1000000) : ∀ w, (Instr.makeSlice 86 (.int .i64 m) (.int .i64 m)).run Tryz.prog w = .ok (.slice (some ⟨w.heap.size, 0, none⟩) m m) (w.alloc (.cells (madeCells #[.bool false] m) 4)) :=
  fun w => run_make_row' 86 4 (.bool false) 1 Tryz.underlying86 Tryz.infoBl rfl .i64 .i64 m (by omega) (by omega) w
/-- so many places, the first ones filled -/
def isN (n : Nat) (l : List Bool) : Array Value := ((l ++ List.replicate (n - l.length) false).map Value.bool).toArray
theorem isN_made (n : Nat) : madeCells #[.bool false] n = isN n [] := by
  apply Array.toList_inj.1
  rw [toList_madeCells_one]; unfold isN; simp
theorem isN_at {n : Nat} {l : List Bool} (h : l.length ≤ n) {i : Nat} (hi : i < n) : (isN n l)[i]? = some (.bool (l.getD i false)) := by
  unfold isN
  rw [List.getElem?_toArray, List.getElem?_map, List.getD_eq_getElem?_getD]
  by_cases h1 : i < l.length
  · rw [List.getElem?_append_left h1, List.getElem?_eq_getElem h1]; rfl
  · rw [List.getElem?_append_right (by omega), List.getElem?_replicate, if_pos (by omega), List.getElem?_eq_none (by omega)]; rfl
theorem isN_set {n : Nat} {l : List Bool} (h : l.length < n) (v : Bool) : (isN n l).setIfInBounds l.length (.bool v) = isN n (l ++ [v]) := by
  unfold isN
  rw [List.setIfInBounds_toArray]
  congr 1
  have e : n - l.length = (n - (l ++ [v]).length) + 1 := by simp; omega
  rw [e, List.replicate_succ, List.map_append, List.map_append, List.map_append, List.map_cons, List.set_append_right _ _ (by simp)]
  simp

set_option maxRecDepth 100000 in
set_option maxHeartbeats 4000000 in
theorem rholds_c (x : Xpr) (hx : XprOk x) (hf : XprFew x) (s : BitVec 16) (a : Option Addr) (n c : Nat) (w : World) (h : XM w a n c x.nodes) :
    Calls Tryz.prog 22 #[.agg #[.slice a n c, .int .i64 x.root], .int .u16 (U s)] w fun e w' => e = .returned (.bool (holdX x s)) ∧ Below w.heap.size w w' := by
  obtain ⟨r, hr⟩ := Int.eq_ofNat_of_zero_le hx.root.1
  have hrn : r < n := by have h1 := hx.root.2; have h2 := h.len; omega
  have hle := h.le
  have hm := h.max
  have hn60 : n ≤ 60 := by have h1 := hx.most; have h2 := h.len; omega
  unfold maxLen at hm
  have HV : Hid (holdX x s = (holdTo x.nodes s n).getD r false) := Lib.hid (by unfold holdX; rw [hr, Int.toNat_natCast, h.len])
  rw [hr]
  have HX := Lib.hid h
  have HO := Lib.hid hx
  have HF := Lib.hid hf
  have HN := Lib.hid h.len
  clear h hx hf hr
  have hmk := make_bool n (by omega)
  obtain ⟨W2, hW2⟩ : ∃ W2, W2 = w.alloc (.cells #[.slice a n c, .int .i64 r] 30) := ⟨_, rfl⟩
  obtain ⟨W3, hW3⟩ : ∃ W3, W3 = W2.alloc (.cells (madeCells #[.bool false] n) 4) := ⟨_, rfl⟩
  have hs2 : W2.heap.size = w.heap.size + 1 := by rw [hW2]; simp
  have hs3 : W3.heap.size = w.heap.size + 2 := by rw [hW3, hW2]; simp
  have hb3 : Below w.heap.size w W3 := by rw [hW3, hW2]; exact ((Below.refl _ w).alloc (Nat.le_refl _) _).alloc (by simp) _
  have g0 : W3.heap[w.heap.size]? = some (.cells #[.slice a n c, .int .i64 r] 30 (0, 0)) := by rw [hW3, hW2]; exact heap_alloc_at (heap_alloc_new _ _) _
  have g1 : W3.heap[w.heap.size + 1]? = some (.cells (isN n []) 4 (0, 0)) := by rw [hW3, ← hs2, isN_made]; exact heap_alloc_new _ _
  have G0 := Lib.hid g0
  have G1 := Lib.hid g1
  have HB3 := Lib.hid hb3
  have HS3 := Lib.hid hs3
  clear g0 g1 hb3 hs3
  go_enter Tryz.func22, Tryz.ntmps22
  go_wp2_with fail
  rw [← hW2]
  try simp only [hs2]
  rw [← hW3]
  clear hW3 hW2 hs2 hmk
  go_loopw [6] (fun i wr => ∃ k : Nat, k ≤ n ∧ i = .int .i64 k ∧ wr.heap[w.heap.size + 1]? = some (.cells (isN n (holdTo x.nodes s k)) 4 (0, 0)) ∧ wr.heap[w.heap.size]? = some (.cells #[.slice a n c, .int .i64 r] 30 (0, 0)) ∧ w.heap.size + 2 ≤ wr.heap.size ∧ Below w.heap.size w wr) (fun i _ => n - (intOf i).toNat)
  case atStart => exact ⟨0, Nat.zero_le _, rfl, G1.out, G0.out, by rw [HS3.out]; exact Nat.le_refl _, HB3.out⟩
  case round =>
    obtain ⟨k, hk, rfl, e1, e0, hsz, hb⟩ := hrel
    by_cases hlt : k < n
    · obtain ⟨nd, hnd⟩ : ∃ nd, x.nodes[k]? = some nd := ⟨_, List.getElem?_eq_getElem (by have := HN.out; omega)⟩
      obtain ⟨b', o', ha, hat⟩ := (HX.out.below hb).at' (by omega)
      have hM := hat k nd hnd
      obtain ⟨a3, n3, c3, m3, r3⟩ := hM.ws
      obtain ⟨a4, n4, c4, m4, r4⟩ := hM.ks
      have m0 := hM.c0
      have m1 := hM.c1
      have m2 := hM.c2
      have HOK := Lib.hid (HO.out.node k nd hnd)
      have hfew := HF.out k nd hnd
      have HST : Hid (holdTo x.nodes s (k + 1) = holdTo x.nodes s k ++ [valN nd (holdTo x.nodes s k) s]) := Lib.hid (by
        rw [holdTo]
        rw [show x.nodes.getD k nod0 = nd by rw [List.getD_eq_getElem?_getD, hnd]; rfl])
      have HL := Lib.hid (holdTo_len x.nodes s k)
      obtain ⟨I, hI⟩ : ∃ I, holdTo x.nodes s k = I := ⟨_, rfl⟩
      rw [hI] at e1 HST HL
      obtain ⟨kind, server, need, ws, ks⟩ := nd
      simp only at m0 m1 m2 hfew r3 r4
      have R3 := Lib.hid r3
      have R4 := Lib.hid r4
      have HB := Lib.hid hb
      have q0 := cell_of_row _ _ 0 _ _ _ e0
      have ea := heap_alloc_at e1 (Obj.cells #[.int .i64 kind, .int .i64 server, .int .i64 need, .slice a3 n3 c3, .slice a4 n4 c4] 58)
      have ea0 := heap_alloc_at e0 (Obj.cells #[.int .i64 kind, .int .i64 server, .int .i64 need, .slice a3 n3 c3, .slice a4 n4 c4] 58)
      have en := heap_alloc_new wr (Obj.cells #[.int .i64 kind, .int .i64 server, .int .i64 need, .slice a3 n3 c3, .slice a4 n4 c4] 58)
      have hbn : Below wr.heap.size wr (wr.alloc (Obj.cells #[.int .i64 kind, .int .i64 server, .int .i64 need, .slice a3 n3 c3, .slice a4 n4 c4] 58)) := (Below.refl _ wr).alloc (Nat.le_refl _) _
      have hlk : ks.length = n4 := by have := R4.out.len; simp at this; omega
      have hle4 := R4.out.le
      have hm4 := R4.out.max
      unfold maxLen at hm4
      subst ha
      clear hM r3 r4 hat hnd hI hb
      go_wp2_with fail
      generalize hWA : wr.alloc _ = WA
      rw [hWA] at ea ea0 en hbn
      have EA := Lib.hid ea
      have EA0 := Lib.hid ea0
      have EN := Lib.hid en
      have HBN := Lib.hid hbn
      have HSA : Hid (w.heap.size + 2 ≤ WA.heap.size ∧ wr.heap.size < WA.heap.size) := Lib.hid (by rw [← hWA]; simp; omega)
      clear hWA ea ea0 en hbn e0 e1 m0 m1 m2 m3 m4 q0
      obtain ⟨W0, hW0⟩ : ∃ W0, W0 = wr := ⟨_, rfl⟩
      subst hW0
      go_loopw [8, 9] (fun v i wq => ∃ j : Nat, j ≤ n4 ∧ i = .int .i64 j ∧ v = .int .i64 (gotTo ⟨kind, server, need, ws, ks⟩ I j) ∧ Below WA.heap.size WA wq) (fun _ i _ => n4 - (intOf i).toNat)
      case atStart => exact ⟨0, Nat.zero_le _, rfl, rfl, Below.refl _ _⟩
      case round =>
        obtain ⟨j, hj, rfl, rfl, hbq⟩ := hrel
        have eqn := heap_below hbq EN.out
        have p0 := cell_of_row _ _ 0 _ _ _ eqn
        have p1 := cell_of_row _ _ 1 _ _ _ eqn
        have p2 := cell_of_row _ _ 2 _ _ _ eqn
        have p3 := cell_of_row _ _ 3 _ _ _ eqn
        have p4 := cell_of_row _ _ 4 _ _ _ eqn
        by_cases hltj : j < n4
        · obtain ⟨z, hz⟩ : ∃ z, ks[j]? = some z := ⟨_, List.getElem?_eq_getElem (by omega)⟩
          have hzr := HOK.out.kids z (List.mem_of_getElem? hz)
          obtain ⟨kd, rfl⟩ := Int.eq_ofNat_of_zero_le hzr.1
          have hkd2 : kd < k := by omega
          obtain ⟨b4, o4, ha4, hcell4⟩ := (R4.out.below (Below.next HBN.out hbq)).at' (by omega)
          have q4 := hcell4 j (.int .i64 kd) (by rw [List.getElem?_map, hz]; rfl)
          have eq1 := heap_below hbq EA.out
          have q1 := cell_of_row _ _ kd _ _ _ eq1 |>.trans (isN_at (by have := HL.out; omega) (by omega))
          have hgs : gotTo ⟨kind, server, need, ws, ks⟩ I (j + 1) = gotTo ⟨kind, server, need, ws, ks⟩ I j + (if I.getD kd false = true then wgtN ⟨kind, server, need, ws, ks⟩ j else 0) := by
            rw [gotTo]
            show _ + (if I.getD ((ks.getD j 0).toNat) false = true then _ else _) = _
            rw [show ks.getD j 0 = (kd : Int) by rw [List.getD_eq_getElem?_getD, hz]; rfl, Int.toNat_natCast]
          have hgb := got_bd HOK.out I j
          have hwb := wgt_pos HOK.out j
          subst ha4
          cases hi : I.getD kd false
          · rw [hi] at q1 hgs
            rw [if_neg (by decide), Int.add_zero] at hgs
            have HGS := Lib.hid hgs
            clear hcell4 hz hgs hi hgb hwb hzr eq1 eqn
            go_wp2_with fail
            go_roundw
            case rel => exact ⟨j + 1, by omega, by go_num, by rw [HGS.out], hbq⟩
            case measure => simp [intOf]; omega
          · rw [hi] at q1 hgs
            rw [if_pos rfl] at hgs
            have HW : Hid (∀ y, Below W0.heap.size W0 y → Calls Tryz.prog 34 #[.agg #[.int .i64 kind, .int .i64 server, .int .i64 need, .slice a3 n3 c3, .slice (some ⟨b4, o4, none⟩) n4 c4], .int .i64 j] y fun e w' => e = .returned (.int .i64 (wgtN ⟨kind, server, need, ws, ks⟩ j)) ∧ Below y.heap.size y w') :=
              Lib.hid (fun y hy => rwgt_c ⟨kind, server, need, ws, ks⟩ j a3 n3 c3 (some ⟨b4, o4, none⟩) n4 c4 y (R3.out.below hy) (by
                rcases HOK.out.arity with h | h
                · exact .inl h
                · right; rw [h]; show j < ks.length; omega))
            obtain ⟨S, hS⟩ : ∃ S, gotTo ⟨kind, server, need, ws, ks⟩ I j = S := ⟨_, rfl⟩
            obtain ⟨G, hG⟩ : ∃ G, wgtN ⟨kind, server, need, ws, ks⟩ j = G := ⟨_, rfl⟩
            rw [hS] at hgs hgb ⊢
            rw [hG] at hgs hwb HW
            have hwr2 : wrap64 (S + G) = S + G := by unfold wrap64; omega
            have HGS := Lib.hid hgs
            have HBQ := Lib.hid hbq
            clear hcell4 hz hgs hi hgb hwb hzr eq1 eqn hS hG hbq
            go_wp2_with fail
            refine (HW.out _ (Below.next HBN.out HBQ.out)).mono ?_
            rintro e w5 ⟨rfl, hb5⟩
            have hb6 := Below.next HBQ.out hb5
            go_wp2_with fail
            go_roundw
            case rel => exact ⟨j + 1, by omega, by go_num, by rw [HGS.out, hwr2], hb6⟩
            case measure => simp [intOf]; omega
        · obtain rfl : j = n4 := by omega
          have eq1 := heap_below hbq EA.out
          have q1 := cell_of_row _ _ k _ _ _ eq1 |>.trans (isN_at (by have := HL.out; omega) (by omega))
          have z1 := frozen_row eq1 k
          have EQ1 := Lib.hid eq1
          have EQ0 := Lib.hid (heap_below hbq EA0.out)
          have HBF := Lib.hid (Below.next HB.out (Below.next HBN.out hbq))
          have HSQ := Lib.hid hbq.size
          obtain ⟨sv, hsv⟩ := Int.eq_ofNat_of_zero_le HOK.out.server.1
          have hs12 := HOK.out.server.2
          simp only at hsv hs12
          subst hsv
          have hhas : hasI s (sv : Int) = hasB s sv := by unfold hasI; rw [decide_eq_true (by omega), decide_eq_true (by omega)]; rfl
          have HVN : Hid (valN ⟨kind, (sv : Int), need, ws, ks⟩ I s = if kind = 1 then hasB s sv else decide (need ≤ gotTo ⟨kind, (sv : Int), need, ws, ks⟩ I j)) := Lib.hid (by unfold valN; simp only [hlk]; rfl)
          rw [HVN.out] at HST
          obtain ⟨S, hS⟩ : ∃ S, gotTo ⟨kind, (sv : Int), need, ws, ks⟩ I j = S := ⟨_, rfl⟩
          rw [hS] at HST ⊢
          have HH : Hid (∀ y, Calls Tryz.prog 39 #[.int .u16 (U s), .int .i64 (sv : Int)] y fun e w' => e = .returned (.bool (hasB s sv)) ∧ y = w') := Lib.hid (fun y => by rw [← hhas]; exact has_c s _ _ y rfl)
          have hk12 := HOK.out.kind
          simp only at hk12
          clear eqn eq1 hS hbq hhas HVN
          rcases hk12 with rfl | rfl
          · rw [if_pos rfl] at HST
            obtain ⟨V, hV⟩ : ∃ V, hasB s sv = V := ⟨_, rfl⟩
            rw [hV] at HST HH
            clear hV
            cases V
            · go_wp2_with fail
              refine (HH.out _).mono ?_
              rintro e w5 ⟨rfl, rfl⟩
              go_wp2_with fail
              go_roundw
              case rel =>
                have hkl := HL.out
                have hsq := HSQ.out
                have hsa := HSA.out
                refine ⟨k + 1, by omega, by go_num, ?_, ?_, ?_, ?_⟩
                · rw [heap_set_at EQ1.out, HST.out, ← hkl, isN_set (by omega)]
                · exact heap_set_other (by omega) _ _ EQ0.out
                · simp [World.setCell]; omega
                · exact HBF.out.setCell (p := ⟨w.heap.size + 1, k, none⟩) (by show w.heap.size ≤ w.heap.size + 1; omega) _
              case measure => simp [intOf]; omega
            · go_wp2_with fail
              refine (HH.out _).mono ?_
              rintro e w5 ⟨rfl, rfl⟩
              go_wp2_with fail
              go_roundw
              case rel =>
                have hkl := HL.out
                have hsq := HSQ.out
                have hsa := HSA.out
                refine ⟨k + 1, by omega, by go_num, ?_, ?_, ?_, ?_⟩
                · rw [heap_set_at EQ1.out, HST.out, ← hkl, isN_set (by omega)]
                · exact heap_set_other (by omega) _ _ EQ0.out
                · simp [World.setCell]; omega
                · exact HBF.out.setCell (p := ⟨w.heap.size + 1, k, none⟩) (by show w.heap.size ≤ w.heap.size + 1; omega) _
              case measure => simp [intOf]; omega
          · rw [if_neg (by decide)] at HST
            by_cases hns : need ≤ S
            · have hd : decide (need ≤ S) = true := decide_eq_true hns
              rw [hd] at HST
              clear hns
              go_wp2_with fail
              go_roundw
              case rel =>
                have hkl := HL.out
                have hsq := HSQ.out
                have hsa := HSA.out
                refine ⟨k + 1, by omega, by go_num, ?_, ?_, ?_, ?_⟩
                · rw [heap_set_at EQ1.out, HST.out, ← hkl, isN_set (by omega)]
                · exact heap_set_other (by omega) _ _ EQ0.out
                · simp [World.setCell]; omega
                · exact HBF.out.setCell (p := ⟨w.heap.size + 1, k, none⟩) (by show w.heap.size ≤ w.heap.size + 1; omega) _
              case measure => simp [intOf]; omega
            · have hd : decide (need ≤ S) = false := decide_eq_false hns
              rw [hd] at HST
              clear hns
              go_wp2_with fail
              go_roundw
              case rel =>
                have hkl := HL.out
                have hsq := HSQ.out
                have hsa := HSA.out
                refine ⟨k + 1, by omega, by go_num, ?_, ?_, ?_, ?_⟩
                · rw [heap_set_at EQ1.out, HST.out, ← hkl, isN_set (by omega)]
                · exact heap_set_other (by omega) _ _ EQ0.out
                · simp [World.setCell]; omega
                · exact HBF.out.setCell (p := ⟨w.heap.size + 1, k, none⟩) (by show w.heap.size ≤ w.heap.size + 1; omega) _
              case measure => simp [intOf]; omega
    · obtain rfl : k = n := by omega
      have hc := cell_of_row _ _ r _ _ _ e1 |>.trans (isN_at (by rw [holdTo_len]; omega) (by omega))
      rw [← HV.out] at hc
      have hc2 := cell_of_row _ _ 1 _ _ _ e0
      go_wp2_with fail
      go_ret
      exact ⟨rfl, hb⟩
end Go.Proofs.YtflpkkebampmfaaGreatDoor
namespace Go.Proofs.YtflpkkebampmfaaGreatDoor
open Go.RowKit Go.Shelf

set_option maxRecDepth 100000 in
set_option maxHeartbeats 8000000 in
theorem rnode_c (nd : Nod) (i0 : Nat) (aw : Option Addr) (nw cw : Nat) (ak : Option Addr) (nk ck : Nat) (w : World) (hsum : nw + nk ≤ 9223372036854775807) (hw : Rd w aw nw cw (nd.weights.map (Value.int .i64))) (hk : Rd w ak nk ck (nd.kids.map (Value.int .i64))) :
    Calls Tryz.prog 35 #[.agg #[.int .i64 nd.kind, .int .i64 nd.server, .int .i64 nd.need, .slice aw nw cw, .slice ak nk ck], .int .i64 i0] w fun e w' => e = .returned (.int .i64 (nodE nd i0)) ∧ Below w.heap.size w w' := by
  have hlw : nd.weights.length = nw := by have := hw.len; simp at this; omega
  have hlk : nd.kids.length = nk := by have := hk.len; simp at this; omega
  have hE := nodE_F nd i0
  rw [hlw, hlk] at hE
  obtain ⟨kind, server, need, ws, ks⟩ := nd
  simp only at hw hk hlw hlk hE ⊢
  obtain ⟨V, hV0⟩ : ∃ V, nodE ⟨kind, server, need, ws, ks⟩ i0 = V := ⟨_, rfl⟩
  rw [hV0] at hE ⊢
  obtain ⟨W2, hW2⟩ : ∃ W2, W2 = w.alloc (Obj.cells #[.int .i64 kind, .int .i64 server, .int .i64 need, .slice aw nw cw, .slice ak nk ck] 58) := ⟨_, rfl⟩
  have hb2 : Below w.heap.size w W2 := by rw [hW2]; exact (Below.refl _ w).alloc (Nat.le_refl _) _
  have hle := hw.le
  have hm := hw.max
  have hle2 := hk.le
  have hm2 := hk.max
  unfold maxLen at hm hm2
  have HV := Lib.hid hE
  have HW := Lib.hid (hw.below hb2)
  have HK := Lib.hid (hk.below hb2)
  have HB2 := Lib.hid hb2
  have HLW := Lib.hid hlw
  have HLK := Lib.hid hlk
  have g2 : W2.heap[w.heap.size]? = some (.cells #[.int .i64 kind, .int .i64 server, .int .i64 need, .slice aw nw cw, .slice ak nk ck] 58 (0, 0)) := by rw [hW2]; exact heap_alloc_new _ _
  have q3 := cell_of_row _ _ 3 _ _ _ g2
  have q4 := cell_of_row _ _ 4 _ _ _ g2
  clear g2 hb2 hE hV0 hw hk hlw hlk
  by_cases k1 : kind = 1
  · subst k1
    by_cases n0 : need = 0
    · subst n0
      by_cases w0 : nw = 0 ∧ nk = 0
      · obtain ⟨w0, c0⟩ := w0
        subst w0 c0
        by_cases t0 : server < 0
        · have d0 : decide (server < 0) = true := decide_eq_true t0
          have hV : Hid (V = 7) := Lib.hid (HV.out.trans (by unfold nodF; rw [if_neg (by omega), if_pos (by omega)]))
          clear t0
          go_enter Tryz.func35, Tryz.ntmps35
          go_wp2_with fail
          go_ret
          exact ⟨ret_int hV.out.symm, by rw [← hW2]; exact HB2.out⟩

        have d0 : decide (server < 0) = false := decide_eq_false t0
        by_cases t1 : (12 : Int) ≤ server
        · have d1 : decide ((12 : Int) ≤ server) = true := decide_eq_true t1
          have hV : Hid (V = 7) := Lib.hid (HV.out.trans (by unfold nodF; rw [if_neg (by omega), if_pos (by omega)]))
          clear t0 t1
          go_enter Tryz.func35, Tryz.ntmps35
          go_wp2_with fail
          go_ret
          exact ⟨ret_int hV.out.symm, by rw [← hW2]; exact HB2.out⟩

        have d1 : decide ((12 : Int) ≤ server) = false := decide_eq_false t1
        go_enter Tryz.func35, Tryz.ntmps35
        go_wp2_with fail
        rw [← hW2]
        clear hW2
        go_loopw [5] (fun i wr => ∃ k : Nat, k ≤ 0 ∧ i = .int .i64 k ∧ Hid (∀ (j : Nat) x, j < k → ws[j]? = some x → hvyB x = false) ∧ W2 = wr) (fun i _ => 0 - (intOf i).toNat)
        case atStart => exact ⟨0, Nat.zero_le _, rfl, Lib.hid (fun j x hj => by omega), rfl⟩
        case round =>
          obtain ⟨k, hk, rfl, hno, rfl⟩ := hrel
          by_cases hlt : k < 0
          · omega
          · have hkn : 0 = k := by omega
            have HHV : Hid (ws.any hvyB = false) := Lib.hid (by
              rw [List.any_eq_false]
              intro x hx
              obtain ⟨j, hj⟩ := List.mem_iff_getElem?.1 hx
              rw [hno.out j x (by have := (List.getElem?_eq_some_iff.1 hj).1; have := HLW.out; omega) hj]; decide)
            clear hno
            subst hkn
            have m0 : ¬ (0 < 0 ∧ 0 ≠ 0) := by omega
            have HM0 := Lib.hid m0
            have f1 : decide (0 < 0) = false := decide_eq_false (by omega)
            have hs : True := trivial
            clear hs
            go_wp2_with fail
            go_loopw [6] (fun i wr => ∃ k : Nat, k ≤ 0 ∧ i = .int .i64 k ∧ Hid (∀ (j : Nat) x, j < k → ks[j]? = some x → unkB i0 x = false) ∧ W2 = wr) (fun i _ => 0 - (intOf i).toNat)
            case atStart => exact ⟨0, Nat.zero_le _, rfl, Lib.hid (fun j x hj => by omega), rfl⟩
            case round =>
              obtain ⟨j, hj, rfl, hno, rfl⟩ := hrel
              by_cases hlt2 : j < 0
              · omega
              · have hkn2 : 0 = j := by omega
                have HUN : Hid (ks.any (unkB i0) = false) := Lib.hid (by
                  rw [List.any_eq_false]
                  intro x hx
                  obtain ⟨l, hl⟩ := List.mem_iff_getElem?.1 hx
                  rw [hno.out l x (by have := (List.getElem?_eq_some_iff.1 hl).1; have := HLK.out; omega) hl]; decide)
                have hV : Hid (V = 0) := Lib.hid (HV.out.trans (by
                  have := HM0.out
                  rw [HUN.out, HHV.out]; unfold nodF; rw [if_neg (by omega), if_neg (by simp; omega), if_neg (by omega), if_neg (by decide)]))
                clear hno
                subst hkn2
                go_wp2_with fail
                go_ret
                exact ⟨ret_int hV.out.symm, HB2.out⟩

      · have hd : decide ((0 : Int) < (nw : Int) + (nk : Int)) = true := decide_eq_true (by omega)
        have hd2 : decide (0 < nw + nk) = true := decide_eq_true (by omega)
        have hwr : wrap64 ((nw : Int) + (nk : Int)) = (nw : Int) + (nk : Int) := by unfold wrap64; omega
        have hV : Hid (V = 1) := Lib.hid (HV.out.trans (by unfold nodF; rw [if_pos (by omega)]))
        clear w0
        go_enter Tryz.func35, Tryz.ntmps35
        go_wp2_with fail
        go_ret
        exact ⟨ret_int hV.out.symm, by rw [← hW2]; exact HB2.out⟩

    · have hd : (need != 0) = true := by simpa using n0
      have hV : Hid (V = 1) := Lib.hid (HV.out.trans (by unfold nodF; rw [if_pos (by omega)]))
      clear n0
      go_enter Tryz.func35, Tryz.ntmps35
      go_wp2_with fail
      go_ret
      exact ⟨ret_int hV.out.symm, by rw [← hW2]; exact HB2.out⟩

  · have hk1 : (kind == 1) = false := by simpa using k1
    have hk1' : (kind != 1) = true := by simpa using k1
    by_cases k2 : kind = 2
    · subst k2
      by_cases s0 : server = 0
      · subst s0
        by_cases t0 : need < 0
        · have d0 : decide (need < 0) = true := decide_eq_true t0
          have hV : Hid (V = 7) := Lib.hid (HV.out.trans (by unfold nodF; rw [if_neg (by omega), if_pos (by omega)]))
          clear t0
          go_enter Tryz.func35, Tryz.ntmps35
          go_wp2_with fail
          go_ret
          exact ⟨ret_int hV.out.symm, by rw [← hW2]; exact HB2.out⟩

        have d0 : decide (need < 0) = false := decide_eq_false t0
        by_cases t1 : (100000 : Int) < need
        · have d1 : decide ((100000 : Int) < need) = true := decide_eq_true t1
          have hV : Hid (V = 7) := Lib.hid (HV.out.trans (by unfold nodF; rw [if_neg (by omega), if_pos (by omega)]))
          clear t0 t1
          go_enter Tryz.func35, Tryz.ntmps35
          go_wp2_with fail
          go_ret
          exact ⟨ret_int hV.out.symm, by rw [← hW2]; exact HB2.out⟩

        have d1 : decide ((100000 : Int) < need) = false := decide_eq_false t1
        go_enter Tryz.func35, Tryz.ntmps35
        go_wp2_with fail
        rw [← hW2]
        clear hW2
        go_loopw [5] (fun i wr => ∃ k : Nat, k ≤ nw ∧ i = .int .i64 k ∧ Hid (∀ (j : Nat) x, j < k → ws[j]? = some x → hvyB x = false) ∧ W2 = wr) (fun i _ => nw - (intOf i).toNat)
        case atStart => exact ⟨0, Nat.zero_le _, rfl, Lib.hid (fun j x hj => by omega), rfl⟩
        case round =>
          obtain ⟨k, hk, rfl, hno, rfl⟩ := hrel
          by_cases hlt : k < nw
          · obtain ⟨x, hx⟩ : ∃ x, ws[k]? = some x := ⟨_, List.getElem?_eq_getElem (by have := HLW.out; omega)⟩
            obtain ⟨bb, oo, ha, hcell⟩ := HW.out.at' (by omega)
            have hc := hcell k (.int .i64 x) (by rw [List.getElem?_map, hx]; rfl)
            subst ha
            have hany : hvyB x = true → V = 7 := fun hb => HV.out.trans (by
              have e : ws.any hvyB = true := List.any_eq_true.2 ⟨x, List.mem_of_getElem? hx, hb⟩
              rw [e]; unfold nodF; rw [if_neg (by omega), if_pos (.inr rfl)])
            have hnx : hvyB x = false → ∀ (j : Nat) y, j < k + 1 → ws[j]? = some y → hvyB y = false := fun hb j y hj hy => by
              by_cases h1 : j < k
              · exact hno.out j y h1 hy
              · obtain rfl : j = k := by omega
                rw [hx] at hy; cases hy; exact hb
            have HANY := Lib.hid hany
            have HNX := Lib.hid hnx
            clear hany hnx hno hcell hx
            by_cases b1 : x < 1
            · have e1 : decide (x < 1) = true := decide_eq_true b1
              have hV := Lib.hid (HANY.out (by unfold hvyB; rw [e1]; rfl))
              clear b1
              go_wp2_with fail
              go_ret
              exact ⟨ret_int hV.out.symm, HB2.out⟩
            have e1 : decide (x < 1) = false := decide_eq_false b1
            by_cases b2 : 1000 < x
            · have e2 : decide (1000 < x) = true := decide_eq_true b2
              have hV := Lib.hid (HANY.out (by unfold hvyB; rw [e2]; simp))
              clear b1 b2
              go_wp2_with fail
              go_ret
              exact ⟨ret_int hV.out.symm, HB2.out⟩
            have e2 : decide (1000 < x) = false := decide_eq_false b2
            have HN := Lib.hid (HNX.out (by unfold hvyB; rw [e1, e2]; rfl))
            clear b1 b2
            go_wp2_with fail
            go_roundw
            case rel => exact ⟨k + 1, by omega, by go_num, HN, by first | trivial | rfl⟩
            case measure => simp [intOf]; omega
          · have hkn : nw = k := by omega
            have HHV : Hid (ws.any hvyB = false) := Lib.hid (by
              rw [List.any_eq_false]
              intro x hx
              obtain ⟨j, hj⟩ := List.mem_iff_getElem?.1 hx
              rw [hno.out j x (by have := (List.getElem?_eq_some_iff.1 hj).1; have := HLW.out; omega) hj]; decide)
            clear hno
            subst hkn
            by_cases m0 : 0 < nw ∧ nw ≠ nk
            · have f1 : decide (0 < nw) = true := decide_eq_true m0.1
              have f2 : ((nw : Nat) : Int) ≠ ((nk : Nat) : Int) := by omega
              have f3 : (((nw : Nat) : Int) != ((nk : Nat) : Int)) = true := by simpa using f2
              have hV : Hid (V = 6) := Lib.hid (HV.out.trans (by rw [HHV.out]; unfold nodF; rw [if_neg (by omega), if_neg (by simp; omega), if_pos (by omega)]))
              clear m0 f2
              go_wp2_with fail
              go_ret
              exact ⟨ret_int hV.out.symm, HB2.out⟩
            have HM0 := Lib.hid m0
            have hsame : (nw = 0 ∨ nw = nk) := by omega
            clear m0
            rcases hsame with hs | hs
            · have f1 : decide (0 < nw) = false := decide_eq_false (by omega)
              have f0 : (nw : Nat) = 0 := hs
              clear hs
              go_wp2_with fail
              go_loopw [6] (fun i wr => ∃ k : Nat, k ≤ nk ∧ i = .int .i64 k ∧ Hid (∀ (j : Nat) x, j < k → ks[j]? = some x → unkB i0 x = false) ∧ W2 = wr) (fun i _ => nk - (intOf i).toNat)
              case atStart => exact ⟨0, Nat.zero_le _, rfl, Lib.hid (fun j x hj => by omega), rfl⟩
              case round =>
                obtain ⟨j, hj, rfl, hno, rfl⟩ := hrel
                by_cases hlt2 : j < nk
                · obtain ⟨x, hx⟩ : ∃ x, ks[j]? = some x := ⟨_, List.getElem?_eq_getElem (by have := HLK.out; omega)⟩
                  obtain ⟨bb, oo, ha, hcell⟩ := HK.out.at' (by omega)
                  have hc := hcell j (.int .i64 x) (by rw [List.getElem?_map, hx]; rfl)
                  subst ha
                  have hany : unkB i0 x = true → V = 4 := fun hb => HV.out.trans (by
                    have e : ks.any (unkB i0) = true := List.any_eq_true.2 ⟨x, List.mem_of_getElem? hx, hb⟩
                    have := HM0.out
                    rw [e, HHV.out]; unfold nodF; rw [if_neg (by omega), if_neg (by simp; omega), if_neg (by omega), if_pos rfl])
                  have hnx : unkB i0 x = false → ∀ (l : Nat) y, l < j + 1 → ks[l]? = some y → unkB i0 y = false := fun hb l y hl hy => by
                    by_cases h1 : l < j
                    · exact hno.out l y h1 hy
                    · obtain rfl : l = j := by omega
                      rw [hx] at hy; cases hy; exact hb
                  have HANY := Lib.hid hany
                  have HNX := Lib.hid hnx
                  clear hany hnx hno hcell hx
                  by_cases b1 : x < 0
                  · have e1 : decide (x < 0) = true := decide_eq_true b1
                    have hV := Lib.hid (HANY.out (by unfold unkB; rw [e1]; rfl))
                    clear b1
                    go_wp2_with fail
                    go_ret
                    exact ⟨ret_int hV.out.symm, HB2.out⟩
                  have e1 : decide (x < 0) = false := decide_eq_false b1
                  by_cases b2 : (i0 : Int) ≤ x
                  · have e2 : decide ((i0 : Int) ≤ x) = true := decide_eq_true b2
                    have hV := Lib.hid (HANY.out (by unfold unkB; rw [e2]; simp))
                    clear b1 b2
                    go_wp2_with fail
                    go_ret
                    exact ⟨ret_int hV.out.symm, HB2.out⟩
                  have e2 : decide ((i0 : Int) ≤ x) = false := decide_eq_false b2
                  have HN := Lib.hid (HNX.out (by unfold unkB; rw [e1, e2]; rfl))
                  clear b1 b2
                  go_wp2_with fail
                  go_roundw
                  case rel => exact ⟨j + 1, by omega, by go_num, HN, by first | trivial | rfl⟩
                  case measure => simp [intOf]; omega
                · have hkn2 : nk = j := by omega
                  have HUN : Hid (ks.any (unkB i0) = false) := Lib.hid (by
                    rw [List.any_eq_false]
                    intro x hx
                    obtain ⟨l, hl⟩ := List.mem_iff_getElem?.1 hx
                    rw [hno.out l x (by have := (List.getElem?_eq_some_iff.1 hl).1; have := HLK.out; omega) hl]; decide)
                  have hV : Hid (V = 0) := Lib.hid (HV.out.trans (by
                    have := HM0.out
                    rw [HUN.out, HHV.out]; unfold nodF; rw [if_neg (by omega), if_neg (by simp; omega), if_neg (by omega), if_neg (by decide)]))
                  clear hno
                  subst hkn2
                  go_wp2_with fail
                  go_ret
                  exact ⟨ret_int hV.out.symm, HB2.out⟩
            · by_cases hz : nw = 0
              · have f1 : decide (0 < nw) = false := decide_eq_false (by omega)
                clear hs
                go_wp2_with fail
                go_loopw [6] (fun i wr => ∃ k : Nat, k ≤ nk ∧ i = .int .i64 k ∧ Hid (∀ (j : Nat) x, j < k → ks[j]? = some x → unkB i0 x = false) ∧ W2 = wr) (fun i _ => nk - (intOf i).toNat)
                case atStart => exact ⟨0, Nat.zero_le _, rfl, Lib.hid (fun j x hj => by omega), rfl⟩
                case round =>
                  obtain ⟨j, hj, rfl, hno, rfl⟩ := hrel
                  by_cases hlt2 : j < nk
                  · obtain ⟨x, hx⟩ : ∃ x, ks[j]? = some x := ⟨_, List.getElem?_eq_getElem (by have := HLK.out; omega)⟩
                    obtain ⟨bb, oo, ha, hcell⟩ := HK.out.at' (by omega)
                    have hc := hcell j (.int .i64 x) (by rw [List.getElem?_map, hx]; rfl)
                    subst ha
                    have hany : unkB i0 x = true → V = 4 := fun hb => HV.out.trans (by
                      have e : ks.any (unkB i0) = true := List.any_eq_true.2 ⟨x, List.mem_of_getElem? hx, hb⟩
                      have := HM0.out
                      rw [e, HHV.out]; unfold nodF; rw [if_neg (by omega), if_neg (by simp; omega), if_neg (by omega), if_pos rfl])
                    have hnx : unkB i0 x = false → ∀ (l : Nat) y, l < j + 1 → ks[l]? = some y → unkB i0 y = false := fun hb l y hl hy => by
                      by_cases h1 : l < j
                      · exact hno.out l y h1 hy
                      · obtain rfl : l = j := by omega
                        rw [hx] at hy; cases hy; exact hb
                    have HANY := Lib.hid hany
                    have HNX := Lib.hid hnx
                    clear hany hnx hno hcell hx
                    by_cases b1 : x < 0
                    · have e1 : decide (x < 0) = true := decide_eq_true b1
                      have hV := Lib.hid (HANY.out (by unfold unkB; rw [e1]; rfl))
                      clear b1
                      go_wp2_with fail
                      go_ret
                      exact ⟨ret_int hV.out.symm, HB2.out⟩
                    have e1 : decide (x < 0) = false := decide_eq_false b1
                    by_cases b2 : (i0 : Int) ≤ x
                    · have e2 : decide ((i0 : Int) ≤ x) = true := decide_eq_true b2
                      have hV := Lib.hid (HANY.out (by unfold unkB; rw [e2]; simp))
                      clear b1 b2
                      go_wp2_with fail
                      go_ret
                      exact ⟨ret_int hV.out.symm, HB2.out⟩
                    have e2 : decide ((i0 : Int) ≤ x) = false := decide_eq_false b2
                    have HN := Lib.hid (HNX.out (by unfold unkB; rw [e1, e2]; rfl))
                    clear b1 b2
                    go_wp2_with fail
                    go_roundw
                    case rel => exact ⟨j + 1, by omega, by go_num, HN, by first | trivial | rfl⟩
                    case measure => simp [intOf]; omega
                  · have hkn2 : nk = j := by omega
                    have HUN : Hid (ks.any (unkB i0) = false) := Lib.hid (by
                      rw [List.any_eq_false]
                      intro x hx
                      obtain ⟨l, hl⟩ := List.mem_iff_getElem?.1 hx
                      rw [hno.out l x (by have := (List.getElem?_eq_some_iff.1 hl).1; have := HLK.out; omega) hl]; decide)
                    have hV : Hid (V = 0) := Lib.hid (HV.out.trans (by
                      have := HM0.out
                      rw [HUN.out, HHV.out]; unfold nodF; rw [if_neg (by omega), if_neg (by simp; omega), if_neg (by omega), if_neg (by decide)]))
                    clear hno
                    subst hkn2
                    go_wp2_with fail
                    go_ret
                    exact ⟨ret_int hV.out.symm, HB2.out⟩
              · have f1 : decide (0 < nw) = true := decide_eq_true (by omega)
                have f3 : (((nw : Nat) : Int) != ((nk : Nat) : Int)) = false := by rw [hs]; simp
                clear hs
                go_wp2_with fail
                go_loopw [6] (fun i wr => ∃ k : Nat, k ≤ nk ∧ i = .int .i64 k ∧ Hid (∀ (j : Nat) x, j < k → ks[j]? = some x → unkB i0 x = false) ∧ W2 = wr) (fun i _ => nk - (intOf i).toNat)
                case atStart => exact ⟨0, Nat.zero_le _, rfl, Lib.hid (fun j x hj => by omega), rfl⟩
                case round =>
                  obtain ⟨j, hj, rfl, hno, rfl⟩ := hrel
                  by_cases hlt2 : j < nk
                  · obtain ⟨x, hx⟩ : ∃ x, ks[j]? = some x := ⟨_, List.getElem?_eq_getElem (by have := HLK.out; omega)⟩
                    obtain ⟨bb, oo, ha, hcell⟩ := HK.out.at' (by omega)
                    have hc := hcell j (.int .i64 x) (by rw [List.getElem?_map, hx]; rfl)
                    subst ha
                    have hany : unkB i0 x = true → V = 4 := fun hb => HV.out.trans (by
                      have e : ks.any (unkB i0) = true := List.any_eq_true.2 ⟨x, List.mem_of_getElem? hx, hb⟩
                      have := HM0.out
                      rw [e, HHV.out]; unfold nodF; rw [if_neg (by omega), if_neg (by simp; omega), if_neg (by omega), if_pos rfl])
                    have hnx : unkB i0 x = false → ∀ (l : Nat) y, l < j + 1 → ks[l]? = some y → unkB i0 y = false := fun hb l y hl hy => by
                      by_cases h1 : l < j
                      · exact hno.out l y h1 hy
                      · obtain rfl : l = j := by omega
                        rw [hx] at hy; cases hy; exact hb
                    have HANY := Lib.hid hany
                    have HNX := Lib.hid hnx
                    clear hany hnx hno hcell hx
                    by_cases b1 : x < 0
                    · have e1 : decide (x < 0) = true := decide_eq_true b1
                      have hV := Lib.hid (HANY.out (by unfold unkB; rw [e1]; rfl))
                      clear b1
                      go_wp2_with fail
                      go_ret
                      exact ⟨ret_int hV.out.symm, HB2.out⟩
                    have e1 : decide (x < 0) = false := decide_eq_false b1
                    by_cases b2 : (i0 : Int) ≤ x
                    · have e2 : decide ((i0 : Int) ≤ x) = true := decide_eq_true b2
                      have hV := Lib.hid (HANY.out (by unfold unkB; rw [e2]; simp))
                      clear b1 b2
                      go_wp2_with fail
                      go_ret
                      exact ⟨ret_int hV.out.symm, HB2.out⟩
                    have e2 : decide ((i0 : Int) ≤ x) = false := decide_eq_false b2
                    have HN := Lib.hid (HNX.out (by unfold unkB; rw [e1, e2]; rfl))
                    clear b1 b2
                    go_wp2_with fail
                    go_roundw
                    case rel => exact ⟨j + 1, by omega, by go_num, HN, by first | trivial | rfl⟩
                    case measure => simp [intOf]; omega
                  · have hkn2 : nk = j := by omega
                    have HUN : Hid (ks.any (unkB i0) = false) := Lib.hid (by
                      rw [List.any_eq_false]
                      intro x hx
                      obtain ⟨l, hl⟩ := List.mem_iff_getElem?.1 hx
                      rw [hno.out l x (by have := (List.getElem?_eq_some_iff.1 hl).1; have := HLK.out; omega) hl]; decide)
                    have hV : Hid (V = 0) := Lib.hid (HV.out.trans (by
                      have := HM0.out
                      rw [HUN.out, HHV.out]; unfold nodF; rw [if_neg (by omega), if_neg (by simp; omega), if_neg (by omega), if_neg (by decide)]))
                    clear hno
                    subst hkn2
                    go_wp2_with fail
                    go_ret
                    exact ⟨ret_int hV.out.symm, HB2.out⟩

      · have hd : (server != 0) = true := by simpa using s0
        have hV : Hid (V = 1) := Lib.hid (HV.out.trans (by unfold nodF; rw [if_pos (by omega)]))
        clear s0
        go_enter Tryz.func35, Tryz.ntmps35
        go_wp2_with fail
        go_ret
        exact ⟨ret_int hV.out.symm, by rw [← hW2]; exact HB2.out⟩

    · have hk2 : (kind == 2) = false := by simpa using k2
      have hk2' : (kind != 2) = true := by simpa using k2
      have hV : Hid (V = 1) := Lib.hid (HV.out.trans (by unfold nodF; rw [if_pos (by omega)]))
      clear k1 k2
      go_enter Tryz.func35, Tryz.ntmps35
      go_wp2_with fail
      go_ret
      exact ⟨ret_int hV.out.symm, by rw [← hW2]; exact HB2.out⟩

end Go.Proofs.YtflpkkebampmfaaGreatDoor
namespace Go.Proofs.YtflpkkebampmfaaGreatDoor
open Go.RowKit Go.Shelf

/-- no node has so many weights and kids that their number is none of Go's -/
def XprSum (x : Xpr) : Prop := ∀ (k : Nat) nd, x.nodes[k]? = some nd → nd.weights.length + nd.kids.length ≤ 9223372036854775807

set_option maxRecDepth 100000 in
set_option maxHeartbeats 2000000 in
theorem rvalid10_c (x : Xpr) (hs : XprSum x) (a : Option Addr) (n c : Nat) (w : World) (h : XM w a n c x.nodes) :
    Calls Tryz.prog 18 #[.agg #[.slice a n c, .int .i64 x.root]] w fun e w' => e = .returned (.int .i64 (xprE x)) ∧ Below w.heap.size w w' := by
  obtain ⟨W2, hW2⟩ : ∃ W2, W2 = w.alloc (Obj.cells #[.slice a n c, .int .i64 x.root] 30) := ⟨_, rfl⟩
  have hb2 : Below w.heap.size w W2 := by rw [hW2]; exact (Below.refl _ w).alloc (Nat.le_refl _) _
  have HX := Lib.hid (h.below hb2)
  have HN := Lib.hid h.len
  have HSM := Lib.hid hs
  have hle := h.le
  have hm := h.max
  unfold maxLen at hm
  have HB2 := Lib.hid hb2
  clear h hb2 hs
  by_cases hn0 : n = 0
  · subst hn0
    have hV : Hid (xprE x = 9) := by
      show _ = _; unfold xprE; rw [if_pos (List.eq_nil_of_length_eq_zero HN.out)]
    go_enter Tryz.func18, Tryz.ntmps18
    go_wp2_with fail
    go_ret
    exact ⟨ret_int hV.out.symm, by rw [← hW2]; exact HB2.out⟩
  have hne : ((n : Int) == 0) = false := by rw [beq_eq_false_iff_ne]; omega
  have H0 : Hid (x.nodes ≠ []) := Lib.hid (fun e => by have := HN.out; rw [e] at this; simp at this; omega)
  by_cases h60 : 60 < n
  · have hd : decide ((60 : Int) < (n : Int)) = true := decide_eq_true (by omega)
    have hV : Hid (xprE x = 3) := by
      show _ = _; unfold xprE; rw [if_neg H0.out, if_pos (by have := HN.out; omega)]
    clear hn0 h60
    go_enter Tryz.func18, Tryz.ntmps18
    go_wp2_with fail
    go_ret
    exact ⟨ret_int hV.out.symm, by rw [← hW2]; exact HB2.out⟩
  have hd : decide ((60 : Int) < (n : Int)) = false := decide_eq_false (by omega)
  have H60 : Hid (¬ 60 < x.nodes.length) := by show ¬ _; have := HN.out; omega
  have HR : Hid (∀ y : World, Below W2.heap.size W2 y → y.cell? ⟨w.heap.size, 0, none⟩ = some (.slice a n c) ∧ y.cell? ⟨w.heap.size, 1, none⟩ = some (.int .i64 x.root)) := Lib.hid (fun y hy => by
    have g : W2.heap[w.heap.size]? = some (.cells #[.slice a n c, .int .i64 x.root] 30 (0, 0)) := by rw [hW2]; exact heap_alloc_new _ _
    have g' := heap_below hy g
    exact ⟨cell_of_row _ _ 0 _ _ _ g', cell_of_row _ _ 1 _ _ _ g'⟩)
  go_enter Tryz.func18, Tryz.ntmps18
  go_wp2_with fail
  rw [← hW2]
  clear hW2
  go_loopw [3] (fun i wr => ∃ k : Nat, k ≤ n ∧ i = .int .i64 k ∧ Hid (nodsE x.nodes 0 = nodsE (x.nodes.drop k) k) ∧ Below W2.heap.size W2 wr) (fun i _ => n - (intOf i).toNat)
  case atStart => exact ⟨0, Nat.zero_le _, rfl, Lib.hid (by simp), Below.refl _ _⟩
  case round =>
    obtain ⟨k, hk, rfl, hno, hb⟩ := hrel
    obtain ⟨q0, q1⟩ := HR.out wr hb
    by_cases hlt : k < n
    · obtain ⟨nd, hnd⟩ : ∃ nd, x.nodes[k]? = some nd := ⟨_, List.getElem?_eq_getElem (by have := HN.out; omega)⟩
      obtain ⟨b, o, ha, hat⟩ := (HX.out.below hb).at' (by omega)
      have hM := hat k nd hnd
      obtain ⟨a3, n3, c3, m3, r3⟩ := hM.ws
      obtain ⟨a4, n4, c4, m4, r4⟩ := hM.ks
      have m0 := hM.c0
      have m1 := hM.c1
      have m2 := hM.c2
      subst ha
      have hsm := HSM.out k nd hnd
      have HV : Hid (∀ y, Below wr.heap.size wr y → Calls Tryz.prog 35 #[.agg #[.int .i64 nd.kind, .int .i64 nd.server, .int .i64 nd.need, .slice a3 n3 c3, .slice a4 n4 c4], .int .i64 k] y fun e w' => e = .returned (.int .i64 (nodE nd k)) ∧ Below y.heap.size y w') :=
        Lib.hid (fun y hy => rnode_c nd k a3 n3 c3 a4 n4 c4 y (by have h1 := r3.len; have h2 := r4.len; simp at h1 h2; omega) (r3.below hy) (r4.below hy))
      have HHit : Hid (nodE nd k ≠ 0 → xprE x = nodE nd k) := Lib.hid (fun he => xprE_hit H0.out H60.out hnd hno.out he)
      have HNxt : Hid (nodE nd k = 0 → nodsE x.nodes 0 = nodsE (x.nodes.drop (k + 1)) (k + 1)) := Lib.hid (fun he => xprE_next hnd hno.out he)
      obtain ⟨kind, server, need, ws, ks⟩ := nd
      obtain ⟨E, hE⟩ : ∃ E, nodE ⟨kind, server, need, ws, ks⟩ k = E := ⟨_, rfl⟩
      rw [hE] at HV HHit HNxt
      simp only at m0 m1 m2 HV
      clear hM r3 r4 hat hnd hno hE hsm
      by_cases he : E = 0
      · subst he
        have hN := HNxt.out rfl
        have HN2 := Lib.hid hN
        clear hN HHit HNxt
        go_wp2_with fail
        with_reducible refine (HV.out _ (Below.refl _ _)).mono ?_
        rintro e w5 ⟨rfl, hb5⟩
        have hb6 := Below.next hb hb5
        go_wp2_with fail
        go_roundw
        case rel => exact ⟨k + 1, by omega, by go_num, HN2, hb6⟩
        case measure => simp [intOf]; omega
      · have hV := HHit.out he
        have HV2 := Lib.hid hV
        have hE : (E != 0) = true := by simpa using he
        clear hV HHit HNxt he
        go_wp2_with fail
        with_reducible refine (HV.out _ (Below.refl _ _)).mono ?_
        rintro e w5 ⟨rfl, hb5⟩
        have hb6 := Below.next hb hb5
        go_wp2_with fail
        go_ret
        exact ⟨ret_int HV2.out.symm, Below.next HB2.out hb6⟩
    · obtain rfl : k = n := by omega
      have hV := xprE_end H0.out H60.out HN.out hno.out
      clear hno
      obtain ⟨root, hroot⟩ : ∃ r, x.root = r := ⟨_, rfl⟩
      rw [hroot] at hV q1
      by_cases h1 : root < 0
      · have d1 : decide (root < 0) = true := decide_eq_true h1
        rw [if_pos (.inl h1)] at hV
        have HV := Lib.hid hV
        clear hV h1 hroot
        go_wp2_with fail
        go_ret
        exact ⟨ret_int HV.out.symm, Below.next HB2.out hb⟩
      · have d1 : decide (root < 0) = false := decide_eq_false h1
        by_cases h2 : (k : Int) ≤ root
        · have d2 : decide ((k : Int) ≤ root) = true := decide_eq_true h2
          rw [if_pos (.inr h2)] at hV
          have HV := Lib.hid hV
          clear hV h1 hroot h2
          go_wp2_with fail
          go_ret
          exact ⟨ret_int HV.out.symm, Below.next HB2.out hb⟩
        · have d2 : decide ((k : Int) ≤ root) = false := decide_eq_false h2
          rw [if_neg (by omega)] at hV
          have HV := Lib.hid hV
          clear hV h1 hroot h2
          go_wp2_with fail
          go_ret
          exact ⟨ret_int HV.out.symm, Below.next HB2.out hb⟩
end Go.Proofs.YtflpkkebampmfaaGreatDoor
namespace Go.Proofs.YtflpkkebampmfaaGreatDoor
open Go.RowKit Go.Shelf

theorem cntTo_succ (x : BitVec 16) (k : Nat) : (memTo x (k + 1)).length = (memTo x k).length + (if hasB x k then 1 else 0) := by
  rw [memTo_succ]; cases hasB x k <;> simp
@[go_sem] theorem b01_conv (b : Bool) : IntKind.i64.wrap (b01 b) = b01 b := by cases b <;> decide

/-- x comes before y -/
def befB (x y : BitVec 16) : Bool := decide (keyS x < keyS y)
theorem bef_ne {x y : BitVec 16} (h : cnt x ≠ cnt y) : befB x y = decide (cnt x < cnt y) := by
  unfold befB keyS; have := x.isLt; have := y.isLt
  rw [Bool.eq_iff_iff, decide_eq_true_iff, decide_eq_true_iff]; omega
theorem bef_eq {x y : BitVec 16} (h : cnt x = cnt y) : befB x y = decide (U x < U y) := by
  unfold befB keyS U
  rw [Bool.eq_iff_iff, decide_eq_true_iff, decide_eq_true_iff]; omega

set_option maxHeartbeats 400000 in
theorem contains8_c (x y : BitVec 16) (w : World) :
    Calls Tryz.prog 38 #[.int .u16 (U x), .int .u16 (U y)] w fun e w' => e = .returned (.bool (subB x y)) ∧ w' = w := by
  go_enter Tryz.func38, Tryz.ntmps38
  go_wp2
  go_ret
  exact ⟨rfl, rfl⟩
set_option maxRecDepth 100000 in
set_option maxHeartbeats 1000000 in
theorem accepts8_c (l : List (BitVec 16)) (s : BitVec 16) (a : Option Addr) (n c : Nat) (w : World) (h : Rd w a n c (l.map setV2)) :
    Calls Tryz.prog 21 #[.slice a n c, .int .u16 (U s)] w fun e w' => e = .returned (.bool (accS l s)) ∧ w' = w := by
  have hnl : l.length = n := by have := h.len; simp at this; omega
  have hm := h.max
  have hle := h.le
  unfold maxLen at hm
  have HR := Lib.hid h
  have HN := Lib.hid hnl
  clear h hnl
  go_enter Tryz.func21, Tryz.ntmps21
  go_wp2_with fail
  go_loop [5] (fun i => ∃ k : Nat, k ≤ n ∧ i = .int .i64 k ∧ Hid (∀ j, j < k → subB s (l.getD j 0#16) = false)) (fun i => n - (intOf i).toNat)
  case atStart => exact ⟨0, Nat.zero_le _, rfl, Lib.hid (fun j hj => by omega)⟩
  case round =>
    obtain ⟨k, hk, rfl, hno⟩ := hrel
    by_cases hlt : k < n
    · obtain ⟨b, o, ha, hcell⟩ := HR.out.at' (by omega)
      have hkl : k < l.length := by have := HN.out; omega
      have hc := hcell k _ (at_cell hkl)
      subst ha
      have HC := Lib.hid (contains8_c s (l.getD k 0#16) w)
      cases hq : subB s (l.getD k 0#16)
      · have hno' : Hid (∀ j, j < k + 1 → subB s (l.getD j 0#16) = false) := Lib.hid (fun j hj => by
          by_cases h1 : j < k
          · exact hno.out j h1
          · obtain rfl : j = k := by omega
            exact hq)
        rw [hq] at HC
        obtain ⟨x, hx⟩ : ∃ x, l.getD k 0#16 = x := ⟨_, rfl⟩
        rw [hx] at hc HC
        clear hq hcell hno hx hkl
        go_wp2_with fail
        refine HC.out.mono ?_
        rintro e w1 ⟨rfl, rfl⟩
        go_wp2_with fail
        go_round
        case rel => exact ⟨k + 1, by omega, by go_num, hno'⟩
        case measure => simp [intOf]; omega
      · have hA : Hid (accS l s = true) := any_hit (p := fun x => subB s x) hkl hq
        rw [hq] at HC
        obtain ⟨x, hx⟩ : ∃ x, l.getD k 0#16 = x := ⟨_, rfl⟩
        rw [hx] at hc HC
        clear hq hcell hno hx hkl
        go_wp2_with fail
        refine HC.out.mono ?_
        rintro e w1 ⟨rfl, rfl⟩
        go_wp2_with fail
        go_ret
        exact ⟨ret_bool hA.out.symm, rfl⟩
    · have hA : Hid (accS l s = false) := any_none (p := fun x => subB s x) (fun j hj => hno.out j (by have := HN.out; omega))
      clear hno
      go_wp2_with fail
      go_ret
      exact ⟨ret_bool hA.out.symm, rfl⟩

end Go.Proofs.YtflpkkebampmfaaGreatDoor
namespace Go.Proofs.YtflpkkebampmfaaGreatDoor
open Go.RowKit Go.Shelf

set_option maxRecDepth 100000 in
set_option maxHeartbeats 2000000 in
theorem rservers_c (x : Xpr) (hx : XprOk x) (a : Option Addr) (n c : Nat) (w : World) (h : XM w a n c x.nodes) :
    Calls Tryz.prog 20 #[.agg #[.slice a n c, .int .i64 x.root]] w fun e w' => e = .returned (.int .u16 (U (srvX x))) ∧ Below w.heap.size w w' := by
  obtain ⟨W2, hW2⟩ : ∃ W2, W2 = w.alloc (.cells #[.slice a n c, .int .i64 x.root] 30) := ⟨_, rfl⟩
  have hb2 : Below w.heap.size w W2 := by rw [hW2]; exact (Below.refl _ w).alloc (Nat.le_refl _) _
  have g2 : W2.heap[w.heap.size]? = some (.cells #[.slice a n c, .int .i64 x.root] 30 (0, 0)) := by rw [hW2]; exact heap_alloc_new _ _
  obtain ⟨⟨q0, q1⟩, _⟩ := open2 g2
  have HX := Lib.hid (h.below hb2)
  have HO := Lib.hid hx
  have HN := Lib.hid h.len
  have hle := h.le
  have hm := h.max
  unfold maxLen at hm
  have HB2 := Lib.hid hb2
  have HE : Hid (srvTo x.nodes n = srvX x) := by show _ = _; unfold srvX; rw [HN.out]
  clear h hb2 hx g2
  go_enter Tryz.func20, Tryz.ntmps20
  go_wp2_with fail
  rw [← hW2]
  clear hW2
  go_loopw [3, 4] (fun v i wr => ∃ k : Nat, k ≤ n ∧ i = .int .i64 k ∧ v = .int .u16 (U (srvTo x.nodes k)) ∧ wr = W2) (fun _ i _ => n - (intOf i).toNat)
  case atStart => exact ⟨0, Nat.zero_le _, rfl, rfl, rfl⟩
  case round =>
    obtain ⟨k, hk, rfl, rfl, rfl⟩ := hrel
    by_cases hlt : k < n
    · obtain ⟨nd, hnd⟩ : ∃ nd, x.nodes[k]? = some nd := ⟨_, List.getElem?_eq_getElem (by have := HN.out; omega)⟩
      obtain ⟨b, o, ha, hat⟩ := HX.out.at' (by omega)
      have hM := hat k nd hnd
      have m0 := hM.c0
      have m1 := hM.c1
      have hst := srvTo_succ hnd
      have HOK := Lib.hid (HO.out.node k nd hnd)
      obtain ⟨S, hS⟩ : ∃ S, srvTo x.nodes k = S := ⟨_, rfl⟩
      rw [hS] at hst ⊢
      subst ha
      obtain ⟨kind, server, need, ws, ks⟩ := nd
      simp only at m0 m1 hst
      clear hM hat hnd hS
      by_cases hkind : kind = 1
      · subst hkind
        obtain ⟨sv, rfl⟩ := Int.eq_ofNat_of_zero_le HOK.out.server.1
        rw [if_pos rfl, Int.toNat_natCast] at hst
        have HST := Lib.hid hst
        have hsv := HOK.out.server.2
        simp only at hsv
        clear hst
        go_wp2_with fail
        go_roundw
        case rel => exact ⟨k + 1, by omega, by go_num, by rw [HST.out], trivial⟩
        case measure => simp [intOf]; omega
      · have hk2 : (kind == 1) = false := by simpa using hkind
        rw [if_neg hkind] at hst
        have HST := Lib.hid hst
        clear hst hkind
        go_wp2_with fail
        go_roundw
        case rel => exact ⟨k + 1, by omega, by go_num, by rw [HST.out], trivial⟩
        case measure => simp [intOf]; omega
    · obtain rfl : k = n := by omega
      rw [HE.out]
      go_wp2_with fail
      go_ret
      exact ⟨rfl, HB2.out⟩

theorem foldl_take_succ {α β : Type} (f : β → α → β) (z : β) {l : List α} {k : Nat} {y : α} (h : l[k]? = some y) : (l.take (k + 1)).foldl f z = f ((l.take k).foldl f z) y := by
  rw [List.take_add_one, h]; simp

/-- the sets found so far -/
def famTo (x : Xpr) (k : Nat) : List (BitVec 16) := ((subsS (srvX x)).take k).foldl (famStep x) []
theorem famTo_succ {x : Xpr} {k : Nat} {s : BitVec 16} (h : (subsS (srvX x))[k]? = some s) : famTo x (k + 1) = famStep x (famTo x k) s := by
  unfold famTo; exact foldl_take_succ _ _ h
theorem famTo_all (x : Xpr) {k : Nat} (h : (subsS (srvX x)).length = k) : famTo x k = famS x := by
  unfold famTo famS famOf; rw [← h, List.take_length]
theorem famTo_len (x : Xpr) (k : Nat) : (famTo x k).length ≤ k := by
  unfold famTo
  have := famFold_le x ((subsS (srvX x)).take k) []
  rw [List.length_take] at this
  simp at this
  omega

set_option maxRecDepth 100000 in
set_option maxHeartbeats 4000000 in
theorem rfamily_c (x : Xpr) (hx : xprE x = 0) (hf : XprFew x) (hs : XprSum x) (a : Option Addr) (n c : Nat) (w : World) (h : XM w a n c x.nodes) :
    Calls Tryz.prog 7 #[.agg #[.slice a n c, .int .i64 x.root]] w fun e w' => ∃ a' c', e = .returned (.tuple #[.slice a' (famE x).1.length c', .int .i64 (famE x).2]) ∧ Rd w' a' (famE x).1.length c' ((famE x).1.map setV2) ∧ Below w.heap.size w w' := by
  have H1 := Lib.hid (fun (u : World) (hb : Below w.heap.size w u) => rvalid10_c x hs a n c u (h.below hb))
  rw [hx] at H1
  have H2 := Lib.hid (fun (u : World) (hb : Below w.heap.size w u) => rservers_c x (xprE_ok hx) a n c u (h.below hb))
  have H3 := Lib.hid (fun (u : World) => rsubsets_c (srvX x) (U (srvX x)) u rfl)
  have H4 := Lib.hid (fun (s : BitVec 16) (u : World) (hb : Below w.heap.size w u) => rholds_c x (xprE_ok hx) hf s a n c u (h.below hb))
  have hcnt : (subsS (srvX x)).length ≤ 65536 := by
    rw [subsM_len]
    have h1 : cnt (srvX x) ≤ 16 := cnt_le _
    exact Nat.pow_le_pow_right (n := 2) (by decide) h1
  obtain ⟨L, hL⟩ : ∃ L, (subsS (srvX x)).length = L := ⟨_, rfl⟩
  have HE : Hid (famE x = if 400 < (famS x).length then ([], 3) else (famS x, 0)) := by show _ = _; unfold famE; rw [if_neg (by simpa using hx)]
  have HL := Lib.hid hL
  rw [hL] at hcnt
  obtain ⟨W2, hW2⟩ : ∃ W2, W2 = w.alloc (.cells #[.slice a n c, .int .i64 x.root] 30) := ⟨_, rfl⟩
  have hb2 : Below w.heap.size w W2 := by rw [hW2]; exact (Below.refl _ w).alloc (Nat.le_refl _) _
  have g2 : W2.heap[w.heap.size]? = some (.cells #[.slice a n c, .int .i64 x.root] 30 (0, 0)) := by rw [hW2]; exact heap_alloc_new _ _
  obtain ⟨⟨q0, q1⟩, _⟩ := open2 g2
  have HB2 := Lib.hid hb2
  have HG2 := Lib.hid g2
  clear hb2 g2 h hx hf hs hL
  go_enter Tryz.func7, Tryz.ntmps7
  go_wp2_with fail
  rw [← hW2]
  with_reducible refine (H1.out W2 HB2.out).mono ?_
  rintro e w1 ⟨rfl, hb1⟩
  have hg1 := heap_below hb1 HG2.out
  obtain ⟨⟨q0, q1⟩, _⟩ := open2 hg1
  have HB1 := Lib.hid (Below.next HB2.out hb1)
  have HG1 := Lib.hid hg1
  clear hb1 hg1 hW2
  go_wp2_with fail
  with_reducible refine (H2.out w1 HB1.out).mono ?_
  rintro e w3 ⟨rfl, hb3⟩
  have HB3 := Lib.hid (Below.next HB1.out hb3)
  have HG3 := Lib.hid (heap_below hb3 HG1.out)
  clear hb3 q0 q1
  go_wp2_with fail
  with_reducible refine (H3.out w3).mono ?_
  rintro e w4 ⟨v4, rfl, hown4, hb4⟩
  obtain ⟨aS, cS, rfl, hrd4⟩ := hown4.rdn L (by rw [List.length_map]; exact HL.out)
  have hml := hrd4.max
  have hle := hrd4.le
  unfold maxLen at hml
  have HB4 := Lib.hid (Below.next HB3.out hb4)
  have HG4 := Lib.hid (heap_below hb4 HG3.out)
  have HRD := Lib.hid hrd4
  clear hown4 hb4 hrd4
  go_wp2_with fail
  go_loopw [5, 7] (fun v i wr => ∃ k : Nat, k ≤ L ∧ i = .int .i64 k ∧ wr.ownsRow w4.heap.size 26 1 v (famTo x k).length ((famTo x k).map setV2) ∧ Below w4.heap.size w4 wr) (fun _ i _ => L - (intOf i).toNat)
  case atStart => exact ⟨0, Nat.zero_le _, rfl, World.ownsRow_nil _ _ _ _, Below.refl _ _⟩
  case round =>
    obtain ⟨k, hk, rfl, hrow, hb⟩ := hrel
    by_cases hlt : k < L
    · obtain ⟨s, hsk⟩ : ∃ s, (subsS (srvX x))[k]? = some s := ⟨_, List.getElem?_eq_getElem (by have := HL.out; omega)⟩
      obtain ⟨bS, oS, hA, hcS⟩ := (HRD.out.below hb).at' (by omega)
      have m0 := hcS k (.int .u16 (U s)) (by rw [List.getElem?_map, hsk]; rfl)
      have HFS := Lib.hid (famTo_succ hsk)
      have HLE := Lib.hid (famTo_len x k)
      have hk2 : (famTo x k).length ≤ 65536 := Nat.le_trans HLE.out (by omega)
      obtain ⟨O, hO⟩ : ∃ O, famTo x k = O := ⟨_, rfl⟩
      rw [hO] at hrow HFS HLE hk2
      obtain ⟨ao, co, rfl, hro⟩ := rd_of_row hrow
      have HA := Lib.hid (fun (u : World) (hu : Below wr.heap.size wr u) => accepts8_c O s ao O.length co u (hro.below hu))
      have HH := Lib.hid (fun (u : World) (hu : Below wr.heap.size wr u) => H4.out s u (Below.next HB4.out (Below.next hb hu)))
      have HKS := Lib.hid (fun (u : World) (hu : Below wr.heap.size wr u) => And.intro (cell_keep hu m0) (open2 (heap_below (Below.next hb hu) HG4.out)).1)
      have HB := Lib.hid hb
      have HROW := Lib.hid hrow
      subst hA
      obtain ⟨A, hAc⟩ : ∃ A, accS O s = A := ⟨_, rfl⟩
      rw [hAc] at HA
      have HAC := Lib.hid hAc
      clear hcS hsk hO hrow hb hro hAc
      cases A
      · obtain ⟨V, hV⟩ : ∃ V, holdX x s = V := ⟨_, rfl⟩
        rw [hV] at HH
        have HST : Hid (famStep x O s = if V = true then O ++ [s] else O) := Lib.hid (by unfold famStep; rw [if_neg (by rw [HAC.out]; decide), hV])
        clear hV
        go_wp2_with fail
        refine wp_region_quiet (C := fun y => Below wr.heap.size wr y) (by kernel_rfl) (by kernel_rfl) (below_drew (Below.refl _ _)) ?_
        repeat (refine wpQuiet_step (fun K hK => ?_); go_simp; (first | (refine hK _ ?_; clear hK K) | (apply Exists.intro; refine ⟨fun y hy => ?_, hK _ ?_⟩; (first | exact rfl | exact ⟨rfl, hy⟩ | ((refine (HA.out y hy).mono ?_); (rintro e w3 ⟨rfl, rfl⟩; exact ⟨rfl, hy⟩)) | ((refine (HH.out y hy).mono ?_); (rintro e w3 ⟨rfl, h3⟩; exact ⟨rfl, Below.next hy h3⟩)) | (obtain ⟨q1, q2, q3⟩ := HKS.out y hy; go_simp; first | exact rfl | exact ⟨rfl, hy⟩ | exact hy)); clear hK K)))
        refine wpQuiet_nil ?_
        intro wq hwq
        have HBQ := Lib.hid (Below.next HB.out hwq)
        have hrq := rowK_below HROW.out hwq
        have mq := (HKS.out wq hwq).1
        cases V
        · rw [if_neg (by decide)] at HST
          have HRQ := Lib.hid hrq
          clear hrq mq hwq
          go_wp2_with fail
          go_roundw
          case rel => exact ⟨k + 1, by omega, by go_num, by rw [HFS.out, HST.out]; exact HRQ.out, HBQ.out⟩
          case measure => simp [intOf]; omega
        · rw [if_pos rfl] at HST
          have hbq := HBQ.out
          clear hwq
          go_wp2_with (at_builtin; go_must (refine wpList_app _ _ 32 2 (.int .u16 0) (.int .u16 (U s)) _ Tryz.underlying32 Tryz.infoSet rfl hrq hbq (Nat.le_refl _) rfl rfl rfl rfl rfl (by unfold maxLen; omega) (by omega) ?_))
          intro v' w9 hown9 hb9 _ _
          have HO9 := Lib.hid hown9
          have HB9 := Lib.hid hb9
          clear hown9 hb9 hrq hbq mq
          go_wp2_with fail
          go_roundw
          case rel => exact ⟨k + 1, by omega, by go_num, by rw [HFS.out, HST.out, List.length_append, List.map_append]; exact HO9.out, HB9.out⟩
          case measure => simp [intOf]; omega
      · have HST : Hid (famStep x O s = O) := Lib.hid (by unfold famStep; rw [if_pos HAC.out])
        go_wp2_with fail
        refine wp_region_quiet (C := fun y => Below wr.heap.size wr y) (by kernel_rfl) (by kernel_rfl) (below_drew (Below.refl _ _)) ?_
        repeat (refine wpQuiet_step (fun K hK => ?_); go_simp; (first | (refine hK _ ?_; clear hK K) | (apply Exists.intro; refine ⟨fun y hy => ?_, hK _ ?_⟩; (first | exact rfl | exact ⟨rfl, hy⟩ | ((refine (HA.out y hy).mono ?_); (rintro e w3 ⟨rfl, rfl⟩; exact ⟨rfl, hy⟩)) | (obtain ⟨q1, q2, q3⟩ := HKS.out y hy; go_simp; first | exact rfl | exact ⟨rfl, hy⟩ | exact hy)); clear hK K)))
        refine wpQuiet_nil ?_
        intro wq hwq
        have HBQ := Lib.hid (Below.next HB.out hwq)
        have HRQ := Lib.hid (rowK_below HROW.out hwq)
        clear hwq
        go_wp2_with fail
        go_roundw
        case rel => exact ⟨k + 1, by omega, by go_num, by rw [HFS.out, HST.out]; exact HRQ.out, HBQ.out⟩
        case measure => simp [intOf]; omega
    · obtain rfl : k = L := by omega
      have hft := famTo_all x HL.out
      rw [hft] at hrow
      have hfl := famTo_len x k
      rw [hft] at hfl
      have HBF := Lib.hid (Below.next HB4.out hb)
      obtain ⟨O, hO⟩ : ∃ O, famS x = O := ⟨_, rfl⟩
      rw [hO] at hrow hfl HE
      obtain ⟨ao, co, rfl, hro⟩ := rd_of_row hrow
      have HRO := Lib.hid hro
      clear hft hO hrow hro hb
      by_cases h4 : 400 < O.length
      · rw [if_pos h4] at HE
        have hd : decide ((400 : Int) < (O.length : Int)) = true := decide_eq_true (by omega)
        clear h4
        go_wp2_with fail
        go_ret2
        rw [HE.out]
        exact ⟨none, 0, rfl, Rd.none_ _, HBF.out⟩
      · rw [if_neg h4] at HE
        have hd : decide ((400 : Int) < (O.length : Int)) = false := decide_eq_false (by omega)
        clear h4
        go_wp2_with fail
        go_ret2
        rw [HE.out]
        exact ⟨ao, co, rfl, HRO.out, HBF.out⟩
end Go.Proofs.YtflpkkebampmfaaGreatDoor
namespace Go.Proofs.YtflpkkebampmfaaGreatDoor
open Go.RowKit Go.Shelf

set_option maxRecDepth 100000 in
set_option maxHeartbeats 4000000 in
theorem rformed_c (t : Tre) (a : Option Addr) (n c : Nat) (w : World) (h : TM w a n c t.nodes) :
    Calls Tryz.prog 26 #[.agg #[.slice a n c, .int .i64 t.root]] w fun e w' => e = .returned (.bool (formC t)) ∧ Below w.heap.size w w' := by
  obtain ⟨nodes, root⟩ := t
  have hnl := TM.len h
  simp only at h hnl ⊢
  have hm := RdK.max h
  have hle := RdK.le h
  unfold maxLen at hm
  obtain ⟨V, hV⟩ : ∃ V, formC ⟨nodes, root⟩ = V := ⟨_, rfl⟩
  rw [hV]
  have HV := Lib.hid hV
  have HN := Lib.hid hnl
  have HM := Lib.hid h
  obtain ⟨W2, hW2⟩ : ∃ W2, W2 = w.alloc (.cells #[.slice a n c, .int .i64 root] 38) := ⟨_, rfl⟩
  have hb2 : Below w.heap.size w W2 := by rw [hW2]; exact (Below.refl _ w).alloc (Nat.le_refl _) _
  have HB2 := Lib.hid hb2
  clear hV hnl h hb2
  by_cases c1 : n < 1
  · have d1 : decide ((n : Int) < 1) = true := decide_eq_true (by omega)
    have HF : Hid (V = false) := Lib.hid (HV.out.symm.trans (formC_size (by unfold sizeC; simp only; rw [HN.out, decide_eq_false (show ¬ 1 ≤ n by omega)]; rfl)))
    clear c1
    go_enter Tryz.func26, Tryz.ntmps26
    go_wp2_with fail
    go_ret
    exact ⟨ret_bool HF.out.symm, by rw [← hW2]; exact HB2.out⟩
  have d1 : decide ((n : Int) < 1) = false := decide_eq_false (by omega)
  by_cases c2 : 8191 < n
  · have d2 : decide ((8191 : Int) < (n : Int)) = true := decide_eq_true (by omega)
    have HF : Hid (V = false) := Lib.hid (HV.out.symm.trans (formC_size (by unfold sizeC; simp only; rw [HN.out, decide_eq_false (show ¬ n ≤ 8191 by omega)]; simp)))
    clear c1 c2
    go_enter Tryz.func26, Tryz.ntmps26
    go_wp2_with fail
    go_ret
    exact ⟨ret_bool HF.out.symm, by rw [← hW2]; exact HB2.out⟩
  have d2 : decide ((8191 : Int) < (n : Int)) = false := decide_eq_false (by omega)
  by_cases c3 : root < 0
  · have d3 : decide (root < 0) = true := decide_eq_true (by omega)
    have HF : Hid (V = false) := Lib.hid (HV.out.symm.trans (formC_size (by unfold sizeC; simp only; rw [HN.out, decide_eq_false (show ¬ 0 ≤ root by omega)]; simp)))
    clear c1 c2 c3
    go_enter Tryz.func26, Tryz.ntmps26
    go_wp2_with fail
    go_ret
    exact ⟨ret_bool HF.out.symm, by rw [← hW2]; exact HB2.out⟩
  have d3 : decide (root < 0) = false := decide_eq_false (by omega)
  by_cases c4 : (n : Int) ≤ root
  · have d4 : decide ((n : Int) ≤ root) = true := decide_eq_true (by omega)
    have HF : Hid (V = false) := Lib.hid (HV.out.symm.trans (formC_size (by unfold sizeC; simp only; rw [HN.out, decide_eq_false (show ¬ root < (n : Int) by omega)]; simp)))
    clear c1 c2 c3 c4
    go_enter Tryz.func26, Tryz.ntmps26
    go_wp2_with fail
    go_ret
    exact ⟨ret_bool HF.out.symm, by rw [← hW2]; exact HB2.out⟩
  have d4 : decide ((n : Int) ≤ root) = false := decide_eq_false (by omega)
  have HSZ : Hid (sizeC ⟨nodes, root⟩ = true) := Lib.hid (by
    unfold sizeC; simp only; rw [HN.out]; simp; omega)
  have hmk := make_int n (by omega)
  go_enter Tryz.func26, Tryz.ntmps26
  go_wp2_with fail
  rw [← hW2]
  obtain ⟨W3, hW3⟩ : ∃ W3, W3 = W2.alloc (.cells (madeCells #[.int .i64 0] n) 3) := ⟨_, rfl⟩
  have hs2 : W2.heap.size = w.heap.size + 1 := by rw [hW2]; simp
  have hF0 : FrW w W3 a n c root (parTo nodes 0) := by
    refine ⟨by rw [hW3, hW2]; exact heap_alloc_at (heap_alloc_new _ _) _, ?_, by rw [hW3]; exact HB2.out.alloc HB2.out.size _⟩
    rw [← hs2, hW3, psA_made]
    unfold parTo
    rw [List.take_zero, List.foldl_nil, HN.out]
    exact heap_alloc_new _ _
  have HF0 := Lib.hid hF0
  rw [← hW3]
  clear hW3 hW2 hs2 hF0 hmk
  go_loopw [5] (fun i wr => ∃ k : Nat, k ≤ n ∧ i = .int .i64 k ∧ Hid (∀ (i : Nat) c, i < k → nodes[i]? = some c → nodC c i = true) ∧ FrW w wr a n c root (parTo nodes k)) (fun i _ => n - (intOf i).toNat)
  case atStart => exact ⟨0, Nat.zero_le _, rfl, Lib.hid (fun i c hi => by omega), HF0.out⟩
  case round =>
    obtain ⟨k, hk, rfl, hall, hfr⟩ := hrel
    by_cases hlt : k < n
    · obtain ⟨x, hx⟩ : ∃ x, nodes[k]? = some x := ⟨_, List.getElem?_eq_getElem (by have := HN.out; omega)⟩
      obtain ⟨b, o, ha, hat⟩ := TM.at3 (RdK.below HM.out hfr.bel) (by omega)
      obtain ⟨m0, m1, m2⟩ := hat k x hx
      subst ha
      have hps := parTo_succ hx
      have hbad : ∀ (hb : nodC x k = false), V = false := fun hb => HV.out.symm.trans (formC_bad (t := ⟨nodes, root⟩) hx hb)
      have hgood : ∀ (hb : nodC x k = true), ∀ (i : Nat) c, i < k + 1 → nodes[i]? = some c → nodC c i = true := fun hb i c hi hc => by
        by_cases h1 : i < k
        · exact hall.out i c h1 hc
        · obtain rfl : i = k := by omega
          rw [hx] at hc; cases hc; exact hb
      have HBAD := Lib.hid hbad
      have HGOOD := Lib.hid hgood
      have HLE := Lib.hid (parTo_le nodes k)
      have HGE := Lib.hid (parTo_nonneg nodes k)
      have HPL : Hid ((parTo nodes k).length = n) := Lib.hid (by rw [parTo_len]; exact HN.out)
      obtain ⟨ps, hpp⟩ : ∃ ps, parTo nodes k = ps := ⟨_, rfl⟩
      rw [hpp] at hfr hps HLE HGE HPL
      have HPS := Lib.hid hps
      obtain ⟨sv, fi, se⟩ := x
      simp only at m0 m1 m2
      have hfa := hfr.alloc (.cells #[.int .i64 sv, .int .i64 fi, .int .i64 se] 72)
      have HFA := Lib.hid hfa
      have q0 := cell_of_row _ _ 0 _ _ _ hfr.box
      clear hbad hgood hps hpp hx hat hall
      by_cases hl : leafC ⟨sv, fi, se⟩ = true
      · have hnc := nodC_lf (i := k) hl
        have hsv : sv = -1 ∨ sv = -2 := by
          unfold leafC at hl; simpa using hl
        have HPE : Hid (parTo nodes (k + 1) = ps) := Lib.hid (by rw [HPS.out, parStep_leaf hl])
        simp only at hnc
        by_cases e1 : fi = 0
        · by_cases e2 : se = 0
          · subst e1 e2
            have HG := Lib.hid (HGOOD.out (by rw [hnc]; rfl))
            clear hnc hl
            rcases hsv with rfl | rfl
            · go_wp2_with fail
              go_roundw
              case rel => exact ⟨k + 1, by omega, by go_num, HG, by rw [HPE.out]; exact HFA.out⟩
              case measure => simp [intOf]; omega
            · go_wp2_with fail
              go_roundw
              case rel => exact ⟨k + 1, by omega, by go_num, HG, by rw [HPE.out]; exact HFA.out⟩
              case measure => simp [intOf]; omega
          · subst e1
            have HF := Lib.hid (HBAD.out (by rw [hnc, decide_eq_false e2]; simp))
            have de : (se != 0) = true := by simpa using e2
            clear hnc hl e2
            rcases hsv with rfl | rfl
            · go_wp2_with fail
              go_ret
              exact ⟨ret_bool HF.out.symm, HFA.out.bel⟩
            · go_wp2_with fail
              go_ret
              exact ⟨ret_bool HF.out.symm, HFA.out.bel⟩
        · have HF := Lib.hid (HBAD.out (by rw [hnc, decide_eq_false e1]; simp))
          have de : (fi != 0) = true := by simpa using e1
          clear hnc hl e1
          rcases hsv with rfl | rfl
          · go_wp2_with fail
            go_ret
            exact ⟨ret_bool HF.out.symm, HFA.out.bel⟩
          · go_wp2_with fail
            go_ret
            exact ⟨ret_bool HF.out.symm, HFA.out.bel⟩
      · have hl' : leafC ⟨sv, fi, se⟩ = false := by simpa using hl
        have hs1 : (sv == -1) = false := by unfold leafC at hl'; simp at hl'; simpa using hl'.1
        have hs2 : (sv == -2) = false := by unfold leafC at hl'; simp at hl'; simpa using hl'.2
        have HL := Lib.hid hl'
        clear hl hl'
        by_cases g1 : sv < 0
        · have e1 : decide (sv < 0) = true := decide_eq_true g1
          have HF := Lib.hid (HBAD.out (nodC_srv HL.out (.inl g1)))
          clear g1
          go_wp2_with fail
          go_ret
          exact ⟨ret_bool HF.out.symm, HFA.out.bel⟩
        have e1 : decide (sv < 0) = false := decide_eq_false g1
        by_cases g2 : 12 ≤ sv
        · have e2 : decide ((12 : Int) ≤ sv) = true := decide_eq_true g2
          have HF := Lib.hid (HBAD.out (nodC_srv HL.out (.inr g2)))
          clear g1 g2
          go_wp2_with fail
          go_ret
          exact ⟨ret_bool HF.out.symm, HFA.out.bel⟩
        have e2 : decide ((12 : Int) ≤ sv) = false := decide_eq_false g2
        have HNT := Lib.hid (fun hk => nodC_two (i := k) HL.out (show (0 : Int) ≤ sv by omega) (show sv < 12 by omega) hk)
        have HPE : Hid (parTo nodes (k + 1) = bumpS (bumpS ps fi) se) := Lib.hid (by rw [HPS.out, parStep_two HL.out]; rfl)
        have HKB := Lib.hid (fun (j : Nat) (z : Int) => nodC_kid (i := k) (j := j) (z := z) HL.out)
        simp only at HNT HKB
        clear g1 g2
        by_cases z0 : fi < 0
        · have e3 : decide (fi < 0) = true := decide_eq_true z0
          have HF := Lib.hid (HBAD.out (HKB.out 0 fi rfl (.inl z0)))
          clear z0
          go_wp2_with fail
          go_ret
          exact ⟨ret_bool HF.out.symm, HFA.out.bel⟩
        have e3 : decide (fi < 0) = false := decide_eq_false z0
        by_cases y0 : se < 0
        · have e4 : decide (se < 0) = true := decide_eq_true y0
          have HF := Lib.hid (HBAD.out (HKB.out 1 se rfl (.inl y0)))
          clear z0 y0
          go_wp2_with fail
          go_ret
          exact ⟨ret_bool HF.out.symm, HFA.out.bel⟩
        have e4 : decide (se < 0) = false := decide_eq_false y0
        by_cases z1 : (k : Int) ≤ fi
        · have e5 : decide ((k : Int) ≤ fi) = true := decide_eq_true z1
          have HF := Lib.hid (HBAD.out (HKB.out 0 fi rfl (.inr z1)))
          clear z0 y0 z1
          go_wp2_with fail
          go_ret
          exact ⟨ret_bool HF.out.symm, HFA.out.bel⟩
        have e5 : decide ((k : Int) ≤ fi) = false := decide_eq_false z1
        by_cases y1 : (k : Int) ≤ se
        · have e6 : decide ((k : Int) ≤ se) = true := decide_eq_true y1
          have HF := Lib.hid (HBAD.out (HKB.out 1 se rfl (.inr y1)))
          clear z0 y0 z1 y1
          go_wp2_with fail
          go_ret
          exact ⟨ret_bool HF.out.symm, HFA.out.bel⟩
        have e6 : decide ((k : Int) ≤ se) = false := decide_eq_false y1
        have HG := Lib.hid (HGOOD.out (HNT.out (fun j z hz => by
          match j, hz with
          | 0, hz => cases hz; omega
          | 1, hz => cases hz; omega)))
        obtain ⟨p, rfl⟩ := Int.eq_ofNat_of_zero_le (show 0 ≤ fi by omega)
        obtain ⟨q, rfl⟩ := Int.eq_ofNat_of_zero_le (show 0 ≤ se by omega)
        have hpk : p < k := by omega
        have hqk : q < k := by omega
        have hnew := heap_alloc_new wr (Obj.cells #[.int .i64 sv, .int .i64 (p : Int), .int .i64 (q : Int)] 72)
        have hws : w.heap.size + 1 < wr.heap.size := (Array.getElem?_eq_some_iff.1 hfr.row).1
        have hnew2 := heap_set_other (B := wr.heap.size) (B' := w.heap.size + 1) (by omega) p (.int .i64 (ps.getD p 0 + 1)) hnew
        have hps := (cell_of_row _ _ p _ _ _ HFA.out.row).trans (psA_at (by have h2 := HPL.out; omega))
        have hfz := frozen_row HFA.out.row p
        have hset := HFA.out.set p
        have hps2 := (cell_of_row _ _ q _ _ _ hset.row).trans (psA_at (by rw [bump_len]; have h2 := HPL.out; omega))
        have hfz2 := frozen_row hset.row q
        have n2 := cell_of_row _ _ 2 _ _ _ hnew2
        have hset2 := hset.set q
        have hle1 := HLE.out p
        have hge1 := HGE.out p
        have hle2 := HLE.out q
        have hge2 := HGE.out q
        have hbl := bump_le ps (p : Int) q
        have hbg := bump_ge ps (p : Int) q
        obtain ⟨X, hX⟩ : ∃ X, ps.getD p 0 = X := ⟨_, rfl⟩
        obtain ⟨Y, hY⟩ : ∃ Y, (bumpS ps (p : Int)).getD q 0 = Y := ⟨_, rfl⟩
        rw [hX] at hps hset hset2 hle1 hge1 hps2 hfz2 n2
        rw [hY] at hps2 hset2 hbl hbg
        have hwr : wrap64 (X + 1) = X + 1 := by unfold wrap64; omega
        have hwr2 : wrap64 (Y + 1) = Y + 1 := by unfold wrap64; omega
        have HSET2 := Lib.hid hset2
        clear z0 z1 y0 y1 hset hset2 hle1 hge1 hle2 hge2 hbl hbg hX hY hnew hnew2 hfr hfa hws
        go_wp2_with fail
        go_roundw
        case rel => exact ⟨k + 1, by omega, by go_num, HG, by rw [HPE.out]; exact HSET2.out⟩
        case measure => simp [intOf]; omega
    · obtain rfl : k = n := by omega
      have HND : Hid (nodsC nodes = true) := Lib.hid (nodsC_all fun i c hc => hall.out i c (by have := (List.getElem?_eq_some_iff.1 hc).1; have := HN.out; omega) hc)
      have HFR := Lib.hid hfr
      clear hall hfr
      go_wp2_with fail
      have HFP : Hid (∀ i, i < k → parB root (parTo nodes k) i = false → V = false) := Lib.hid (fun i hi hb => HV.out.symm.trans (formC_par (t := ⟨nodes, root⟩) (i := i) (by have := HN.out; simp only; omega) (by simp only; rw [HN.out]; exact hb)))
      have HOK : Hid ((∀ i, i < k → parB root (parTo nodes k) i = true) → V = true) := Lib.hid (fun h => HV.out.symm.trans (formC_ok (t := ⟨nodes, root⟩) HSZ.out HND.out (fun i hi => by simp only at hi ⊢; rw [HN.out] at hi ⊢; exact h i hi)))
      have HPN := Lib.hid (parTo_nonneg nodes k)
      have HPL : Hid ((parTo nodes k).length = k) := Lib.hid (by rw [parTo_len]; exact HN.out)
      obtain ⟨ps, hpp⟩ : ∃ ps, parTo nodes k = ps := ⟨_, rfl⟩
      rw [hpp] at HFR HFP HOK HPN HPL
      clear hpp
      go_loopw [7] (fun i wr => ∃ j : Nat, j ≤ k ∧ i = .int .i64 j ∧ Hid (∀ i, i < j → parB root ps i = true) ∧ FrW w wr a k c root ps) (fun i _ => k - (intOf i).toNat)
      case atStart => exact ⟨0, Nat.zero_le _, rfl, Lib.hid (fun i hi => by omega), HFR.out⟩
      case round =>
        obtain ⟨j, hj, rfl, hpar, hfj⟩ := hrel
        by_cases hltj : j < k
        · have q1 := cell_of_row _ _ 1 _ _ _ hfj.box
          have hps := (cell_of_row _ _ j _ _ _ hfj.row).trans (psA_at (by have h2 := HPL.out; omega))
          have hX0 := HPN.out j
          have hB := HFP.out j hltj
          have hG : parB root ps j = true → ∀ i, i < j + 1 → parB root ps i = true := fun hb i hi => by
            by_cases h1 : i < j
            · exact hpar.out i h1
            · obtain rfl : i = j := by omega
              exact hb
          unfold parB at hB
          obtain ⟨X, hX⟩ : ∃ X, ps.getD j 0 = X := ⟨_, rfl⟩
          have hPB : parB root ps j = if (j : Int) = root then X == 0 else X == 1 := by unfold parB; rw [hX]
          rw [hX] at hps hX0 hB
          have HG := Lib.hid hG
          have HB := Lib.hid hB
          have HPB := Lib.hid hPB
          have HFJ := Lib.hid hfj
          clear hB hG hPB hX hpar hfj
          by_cases hr : (j : Int) = root
          · have t1 : ((j : Int) == root) = true := by simpa using hr
            by_cases x0 : X = 0
            · subst x0
              have HG2 := Lib.hid (HG.out (by rw [HPB.out, if_pos hr]; rfl))
              have t3 : ((j : Int) != root) = false := by rw [bne, t1]; rfl
              clear hr
              go_wp2_with fail
              go_roundw
              case rel => exact ⟨j + 1, by omega, by go_num, HG2, HFJ.out⟩
              case measure => simp [intOf]; omega
            · have t2 : (X == 0) = false := by simpa using x0
              have t3 : (X != 0) = true := by simpa using x0
              have HF := Lib.hid (HB.out (by rw [if_pos hr]; exact t2))
              clear hr x0
              go_wp2_with fail
              go_ret
              exact ⟨ret_bool HF.out.symm, HFJ.out.bel⟩
          · have t1 : ((j : Int) == root) = false := by simpa using hr
            have t2 : ((j : Int) != root) = true := by simpa using hr
            by_cases x1 : X = 1
            · subst x1
              have HG2 := Lib.hid (HG.out (by rw [HPB.out, if_neg hr]; rfl))
              clear hr
              go_wp2_with fail
              go_roundw
              case rel => exact ⟨j + 1, by omega, by go_num, HG2, HFJ.out⟩
              case measure => simp [intOf]; omega
            · have t3 : (X != 1) = true := by simpa using x1
              have HF := Lib.hid (HB.out (by rw [if_neg hr]; simpa using x1))
              clear hr x1
              go_wp2_with fail
              go_ret
              exact ⟨ret_bool HF.out.symm, HFJ.out.bel⟩
        · obtain rfl : j = k := by omega
          have HT := Lib.hid (HOK.out hpar.out)
          clear hpar
          go_wp2_with fail
          go_ret
          exact ⟨ret_bool HT.out.symm, hfj.bel⟩
end Go.Proofs.YtflpkkebampmfaaGreatDoor
namespace Go.Proofs.YtflpkkebampmfaaGreatDoor
open Go.RowKit Go.Shelf

/-- three arguments laid -/
theorem args3 (w : World) (u0 u1 v0 v1 t0 t1 : Value) (e f g : TypeId) {W : World} (hW : W = ((w.alloc (.cells #[u0, u1] e)).alloc (.cells #[v0, v1] f)).alloc (.cells #[t0, t1] g)) :
    Below w.heap.size w W ∧ W.heap.size = w.heap.size + 3 ∧ ∀ y, Below W.heap.size W y → (y.cell? ⟨w.heap.size, 0, none⟩ = some u0 ∧ y.cell? ⟨w.heap.size, 1, none⟩ = some u1) ∧ (y.cell? ⟨w.heap.size + 1, 0, none⟩ = some v0 ∧ y.cell? ⟨w.heap.size + 1, 1, none⟩ = some v1) ∧ y.cell? ⟨w.heap.size + 1 + 1, 0, none⟩ = some t0 ∧ y.cell? ⟨w.heap.size + 1 + 1, 1, none⟩ = some t1 := by
  refine ⟨by rw [hW]; exact (((Below.refl _ w).alloc (Nat.le_refl _) _).alloc (by simp) _).alloc (by simp; omega) _, by rw [hW]; simp, fun y hy => ?_⟩
  have g0 : W.heap[w.heap.size]? = some (.cells #[u0, u1] e (0, 0)) := by rw [hW]; exact heap_alloc_at (heap_alloc_at (heap_alloc_new _ _) _) _
  have g1 : W.heap[w.heap.size + 1]? = some (.cells #[v0, v1] f (0, 0)) := by
    rw [hW]
    have := heap_alloc_new (w.alloc (.cells #[u0, u1] e)) (.cells #[v0, v1] f)
    rw [World.size_alloc] at this
    exact heap_alloc_at this _
  have g2 : W.heap[w.heap.size + 1 + 1]? = some (.cells #[t0, t1] g (0, 0)) := by
    rw [hW]
    have := heap_alloc_new ((w.alloc (.cells #[u0, u1] e)).alloc (.cells #[v0, v1] f)) (.cells #[t0, t1] g)
    rw [World.size_alloc, World.size_alloc] at this
    exact this
  have e0 := heap_below hy g0
  have e1 := heap_below hy g1
  have e2 := heap_below hy g2
  exact ⟨⟨cell_of_row _ _ 0 _ _ _ e0, cell_of_row _ _ 1 _ _ _ e0⟩, ⟨cell_of_row _ _ 0 _ _ _ e1, cell_of_row _ _ 1 _ _ _ e1⟩, cell_of_row _ _ 0 _ _ _ e2, cell_of_row _ _ 1 _ _ _ e2⟩

/-- what a walk over a certificate leans on -/
structure RtW (x y : Xpr) (w0 : World) (a1 : Option Addr) (n1 c1 : Nat) (a2 : Option Addr) (n2 c2 : Nat) (a : Option Addr) (n c : Nat) (nodes : List Cho) : Prop where
  tm : TM w0 a n c nodes
  sx : ∀ (z : BitVec 16) (u : World), Below w0.heap.size w0 u → Calls Tryz.prog 22 #[.agg #[.slice a1 n1 c1, .int .i64 x.root], .int .u16 (U (4095#16 &&& ~~~z))] u fun e w' => e = .returned (.bool (holdX x (4095#16 &&& ~~~z))) ∧ Below u.heap.size u w'
  sy : ∀ (z : BitVec 16) (u : World), Below w0.heap.size w0 u → Calls Tryz.prog 22 #[.agg #[.slice a2 n2 c2, .int .i64 y.root], .int .u16 (U (4095#16 &&& ~~~z))] u fun e w' => e = .returned (.bool (holdX y (4095#16 &&& ~~~z))) ∧ Below u.heap.size u w'
theorem bits_swap (s : Nat) (m : BitVec 16) : (m &&& bitS s == 0#16) = (bitS s &&& m == 0#16) := by rw [BitVec.and_comm]

set_option maxRecDepth 100000 in
set_option maxHeartbeats 4000000 in
theorem right_p {x y : Xpr} {b : BitVec 16} {w0 : World} {a1 : Option Addr} {n1 c1 : Nat} {a2 : Option Addr} {n2 c2 : Nat} {a : Option Addr} {n c : Nat} {rt : Int} {nodes : List Cho} (C : RtW x y w0 a1 n1 c1 a2 n2 c2 a n c nodes) (hn : nodsC nodes = true) :
    ∀ (f i : Nat) (p q : BitVec 16) (u : World), i < n → i < f → Below w0.heap.size w0 u →
    Calls Tryz.prog 27 #[.agg #[.slice a1 n1 c1, .int .i64 x.root], .agg #[.slice a2 n2 c2, .int .i64 y.root], .int .u16 (U b), .agg #[.slice a n c, .int .i64 rt], .int .i64 i, .int .u16 (U p), .int .u16 (U q)] u fun e w' => e = .returned (.bool (rightF x y b nodes f i p q)) ∧ Below u.heap.size u w' := by
  have HC := Lib.hid C
  have HNO := Lib.hid hn
  have hle := RdK.le C.tm
  have hm := RdK.max C.tm
  unfold maxLen at hm
  have HNL := Lib.hid (TM.len C.tm)
  clear C hn
  intro f
  induction f with
  | zero => intro i p q u _ h; omega
  | succ f ih =>
    intro i p q u hin hif hb
    have HIH := Lib.hid ih
    clear ih
    obtain ⟨nd, hnd⟩ : ∃ nd, nodes[i]? = some nd := ⟨_, List.getElem?_eq_getElem (by have := HNL.out; omega)⟩
    have hnc := nodsC_at HNO.out (i := i) (by have := HNL.out; omega)
    rw [List.getD_eq_getElem?_getD, hnd] at hnc
    have hnc : nodC nd i = true := hnc
    have HRX := Lib.hid (rightF_x (x := x) (y := y) (b := b) (f := f) (p := p) (q := q) hnd)
    have HRY := Lib.hid (rightF_y (x := x) (y := y) (b := b) (f := f) (p := p) (q := q) hnd)
    have HRN := Lib.hid (fun s => rightF_n (x := x) (y := y) (b := b) (f := f) (p := p) (q := q) (s := s) hnd)
    obtain ⟨UA, hUA⟩ : ∃ UA, UA = ((u.alloc (.cells #[.slice a1 n1 c1, .int .i64 x.root] 30)).alloc (.cells #[.slice a2 n2 c2, .int .i64 y.root] 30)).alloc (.cells #[.slice a n c, .int .i64 rt] 38) := ⟨_, rfl⟩
    obtain ⟨hbA, hsA, hcA⟩ := args3 u _ _ _ _ _ _ _ _ _ hUA
    obtain ⟨bb, oo, ha, hat⟩ := TM.at3 (RdK.below HC.out.tm (Below.next hb hbA)) (by omega)
    obtain ⟨m0, m1, m2⟩ := hat i nd hnd
    subst ha
    obtain ⟨sv, fi, se⟩ := nd
    simp only at m0 m1 m2 HRX HRY HRN
    obtain ⟨U1, hU1⟩ : ∃ U1, U1 = UA.alloc (.cells #[.int .i64 sv, .int .i64 fi, .int .i64 se] 72) := ⟨_, rfl⟩
    have hb1 : Below UA.heap.size UA U1 := by rw [hU1]; exact (Below.refl _ UA).alloc (Nat.le_refl _) _
    obtain ⟨⟨g40, g41⟩, ⟨g50, g51⟩, g60, g61⟩ := hcA UA (Below.refl _ _)
    obtain ⟨⟨h40, h41⟩, ⟨h50, h51⟩, h60, h61⟩ := hcA U1 hb1
    have HCA := Lib.hid hcA
    have HSA := Lib.hid hsA
    have HB1 := Lib.hid (Below.next hbA hb1)
    have HB2 := Lib.hid (Below.next hb (Below.next hbA hb1))
    have HC1 : Hid (U1.heap[UA.heap.size]? = some (.cells #[.int .i64 sv, .int .i64 fi, .int .i64 se] 72 (0, 0))) := Lib.hid (by rw [hU1]; exact heap_alloc_new _ _)
    have HB01 := Lib.hid hb1
    clear hat hb1 hbA hb hcA
    rw [hU1] at h40 h41 h50 h51 h60 h61
    by_cases s1 : sv = -1
    · have HR := Lib.hid (HRX.out s1)
      have HS := Lib.hid (HC.out.sx q U1 HB2.out)
      subst s1
      clear hnc
      obtain ⟨V, hV⟩ : ∃ V, holdX x (4095#16 &&& ~~~q) = V := ⟨_, rfl⟩
      rw [hV] at HS HR
      clear hV
      rw [hUA] at g40 g41 g50 g51 g60 g61 m0 m1 m2 h40 h41 h50 h51 h60 h61 hsA
      go_enter Tryz.func27, Tryz.ntmps27
      go_wp2_with fail
      rw [← hUA, ← hU1]
      with_reducible refine HS.out.mono ?_
      rintro e w1 ⟨rfl, hb1⟩
      go_wp2_with fail
      go_ret
      exact ⟨ret_bool (by rw [HR.out]), Below.next HB1.out hb1⟩
    by_cases s2 : sv = -2
    · have HR := Lib.hid (HRY.out s2)
      have HS := Lib.hid (HC.out.sy p U1 HB2.out)
      subst s2
      clear hnc s1
      obtain ⟨V, hV⟩ : ∃ V, holdX y (4095#16 &&& ~~~p) = V := ⟨_, rfl⟩
      rw [hV] at HS HR
      clear hV
      rw [hUA] at g40 g41 g50 g51 g60 g61 m0 m1 m2 h40 h41 h50 h51 h60 h61 hsA
      go_enter Tryz.func27, Tryz.ntmps27
      go_wp2_with fail
      rw [← hUA, ← hU1]
      with_reducible refine HS.out.mono ?_
      rintro e w1 ⟨rfl, hb1⟩
      go_wp2_with fail
      go_ret
      exact ⟨ret_bool (by rw [HR.out]), Below.next HB1.out hb1⟩
    have hlf : leafC ⟨sv, fi, se⟩ = false := by unfold leafC; rw [decide_eq_false s1, decide_eq_false s2]; rfl
    obtain ⟨⟨hs0, hs12⟩, ⟨hf0, hfk⟩, hse0, hsek⟩ := nodC_leaf hnc hlf
    simp only at hs0 hs12 hf0 hfk hse0 hsek
    have t1 : (sv == -1) = false := by simpa using s1
    have t2 : (sv == -2) = false := by simpa using s2
    obtain ⟨s, rfl⟩ := Int.eq_ofNat_of_zero_le hs0
    obtain ⟨fk, rfl⟩ := Int.eq_ofNat_of_zero_le hf0
    obtain ⟨sk, rfl⟩ := Int.eq_ofNat_of_zero_le hse0
    have HR := Lib.hid (HRN.out s rfl)
    clear hnc hlf s1 s2 hs0 hf0 hse0
    have hs16 : min s 16 = s := by omega
    have hsw := bits_swap s (b ||| p ||| q)
    cases hz : (bitS s &&& (b ||| p ||| q)) == 0#16
    · rw [hz] at HR hsw
      have hz3 : ((b ||| p ||| q) &&& bitS s != 0#16) = true := by rw [bne, hsw]; rfl
      clear hz
      rw [hUA] at g40 g41 g50 g51 g60 g61 m0 m1 m2 h40 h41 h50 h51 h60 h61 hsA
      go_enter Tryz.func27, Tryz.ntmps27
      go_wp2_with fail
      rw [← hUA, ← hU1]
      go_ret
      exact ⟨ret_bool (by rw [HR.out]; rfl), HB1.out⟩
    · rw [hz, if_pos rfl] at HR
      rw [hz] at hsw
      have hz3 : ((b ||| p ||| q) &&& bitS s != 0#16) = false := by rw [bne, hsw]; rfl
      have hfn : fk < n := by omega
      have hsn : sk < n := by omega
      have hff : fk < f := by omega
      have hsf : sk < f := by omega
      have HI1 := Lib.hid (HIH.out fk (p ||| bitS s) q U1 hfn hff HB2.out)
      have HI2 := Lib.hid (fun (v : World) (hv : Below U1.heap.size U1 v) => HIH.out sk p (q ||| bitS s) v hsn hsf (Below.next HB2.out hv))
      have HK : Hid (∀ v : World, Below U1.heap.size U1 v → v.cell? ⟨UA.heap.size, 2, none⟩ = some (.int .i64 sk)) :=
        Lib.hid (fun v hv => cell_of_row _ _ 2 _ _ _ (heap_below hv HC1.out))
      obtain ⟨r1, hr1⟩ : ∃ r, rightF x y b nodes f fk (p ||| bitS s) q = r := ⟨_, rfl⟩
      obtain ⟨r2, hr2⟩ : ∃ r, rightF x y b nodes f sk p (q ||| bitS s) = r := ⟨_, rfl⟩
      rw [hr1] at HI1 HR
      rw [hr2] at HI2 HR
      clear hr1 hr2 hz
      cases r1
      · rw [hUA] at g40 g41 g50 g51 g60 g61 m0 m1 m2 h40 h41 h50 h51 h60 h61 hsA
        go_enter Tryz.func27, Tryz.ntmps27
        go_wp2_with fail
        rw [← hUA, ← hU1]
        with_reducible refine HI1.out.mono ?_
        rintro e w1 ⟨rfl, hb1⟩
        go_wp2_with fail
        go_ret
        exact ⟨ret_bool (by rw [HR.out]; rfl), Below.next HB1.out hb1⟩
      · rw [hUA] at g40 g41 g50 g51 g60 g61 m0 m1 m2 h40 h41 h50 h51 h60 h61 hsA
        go_enter Tryz.func27, Tryz.ntmps27
        go_wp2_with fail
        rw [← hUA, ← hU1]
        with_reducible refine HI1.out.mono ?_
        rintro e w1 ⟨rfl, hb1⟩
        obtain ⟨⟨k40, k41⟩, ⟨k50, k51⟩, k60, k61⟩ := HCA.out w1 (Below.next HB01.out hb1)
        have k2 := HK.out w1 hb1
        rw [HSA.out] at k2
        go_wp2_with fail
        with_reducible refine (HI2.out w1 hb1).mono ?_
        rintro e w2 ⟨rfl, hb2⟩
        go_wp2_with fail
        go_ret
        exact ⟨ret_bool (by rw [HR.out]; rfl), Below.next HB1.out (Below.next hb1 hb2)⟩

set_option maxRecDepth 100000 in
set_option maxHeartbeats 4000000 in
theorem rcheck_c (x y : Xpr) (b : BitVec 16) (hx : xprE x = 0) (hy : xprE y = 0) (hfx : XprFew x) (hfy : XprFew y) (hsx : XprSum x) (hsy : XprSum y) (t : Tre) (a1 : Option Addr) (n1 c1 : Nat) (a2 : Option Addr) (n2 c2 : Nat) (a : Option Addr) (n c : Nat) (w : World) (h1 : XM w a1 n1 c1 x.nodes) (h2 : XM w a2 n2 c2 y.nodes) (h : TM w a n c t.nodes) :
    Calls Tryz.prog 11 #[.agg #[.slice a1 n1 c1, .int .i64 x.root], .agg #[.slice a2 n2 c2, .int .i64 y.root], .int .u16 (U b), .agg #[.slice a n c, .int .i64 t.root]] w fun e w' => e = .returned (.bool (certC x y b t)) ∧ Below w.heap.size w w' := by
  have H1 := Lib.hid (fun (u : World) (hb : Below w.heap.size w u) => rvalid10_c x hsx a1 n1 c1 u (h1.below hb))
  have H2 := Lib.hid (fun (u : World) (hb : Below w.heap.size w u) => rvalid10_c y hsy a2 n2 c2 u (h2.below hb))
  rw [hx] at H1
  rw [hy] at H2
  have H3 := Lib.hid (fun (u : World) (hb : Below w.heap.size w u) => rformed_c t a n c u (RdK.below h hb))
  have HRW := Lib.hid (show ∀ (u : World), Below w.heap.size w u → RtW x y u a1 n1 c1 a2 n2 c2 a n c t.nodes from fun u hb =>
    { tm := RdK.below h hb
      sx := fun z v hv => rholds_c x (xprE_ok hx) hfx (4095#16 &&& ~~~z) a1 n1 c1 v (h1.below (Below.next hb hv))
      sy := fun z v hv => rholds_c y (xprE_ok hy) hfy (4095#16 &&& ~~~z) a2 n2 c2 v (h2.below (Below.next hb hv)) })
  have HNL := Lib.hid (TM.len h)
  clear h1 h2 h hx hy hfx hfy hsx hsy
  obtain ⟨W4, hW4⟩ : ∃ W4, W4 = ((w.alloc (.cells #[.slice a1 n1 c1, .int .i64 x.root] 30)).alloc (.cells #[.slice a2 n2 c2, .int .i64 y.root] 30)).alloc (.cells #[.slice a n c, .int .i64 t.root] 38) := ⟨_, rfl⟩
  obtain ⟨hb4, hs4, hc⟩ := args3 w _ _ _ _ _ _ _ _ _ hW4
  obtain ⟨⟨q0, q1⟩, ⟨q2, q3⟩, q5, q6⟩ := hc W4 (Below.refl _ _)
  have HB4 := Lib.hid hb4
  have HC := Lib.hid hc
  clear hb4 hc
  obtain ⟨F, hF⟩ : ∃ F, formC t = F := ⟨_, rfl⟩
  rw [hF] at H3
  cases F
  · have HV : Hid (certC x y b t = false) := by show _ = _; unfold certC; rw [hF]; rfl
    clear hF
    go_enter Tryz.func11, Tryz.ntmps11
    go_wp2_with fail
    rw [← hW4]
    with_reducible refine (H1.out W4 HB4.out).mono ?_
    rintro e w1 ⟨rfl, hb1⟩
    obtain ⟨⟨q0, q1⟩, ⟨q2, q3⟩, q5, q6⟩ := HC.out w1 hb1
    go_wp2_with fail
    with_reducible refine (H2.out w1 (Below.next HB4.out hb1)).mono ?_
    rintro e w2 ⟨rfl, hb2⟩
    obtain ⟨⟨q0, q1⟩, ⟨q2, q3⟩, q5, q6⟩ := HC.out w2 (Below.next hb1 hb2)
    go_wp2_with fail
    with_reducible refine (H3.out w2 (Below.next HB4.out (Below.next hb1 hb2))).mono ?_
    rintro e w3 ⟨rfl, hb3⟩
    go_wp2_with fail
    go_ret
    exact ⟨ret_bool HV.out.symm, Below.next HB4.out (Below.next hb1 (Below.next hb2 hb3))⟩
  · obtain ⟨⟨_, _, hr0, hrn⟩, hnods, _⟩ := formC_parts hF
    have HV : Hid (certC x y b t = rightF x y b t.nodes t.nodes.length t.root 0#16 0#16) := by show _ = _; unfold certC; rw [hF]; rfl
    have HND := Lib.hid hnods
    obtain ⟨r, hr⟩ := Int.eq_ofNat_of_zero_le hr0
    have hrn' : r < n := by have := HNL.out; omega
    rw [hr] at HV hW4 q6 HC H3
    rw [hr]
    rw [HNL.out] at HV
    clear hF hr0 hrn hnods hr
    have HP := Lib.hid (fun (u : World) (hb : Below w.heap.size w u) => right_p (b := b) (rt := (r : Int)) (HRW.out u hb) HND.out n r 0#16 0#16 u hrn' hrn' (Below.refl _ _))
    rw [← HV.out, U_zero] at HP
    go_enter Tryz.func11, Tryz.ntmps11
    go_wp2_with fail
    rw [← hW4]
    with_reducible refine (H1.out W4 HB4.out).mono ?_
    rintro e w1 ⟨rfl, hb1⟩
    obtain ⟨⟨q0, q1⟩, ⟨q2, q3⟩, q5, q6⟩ := HC.out w1 hb1
    go_wp2_with fail
    with_reducible refine (H2.out w1 (Below.next HB4.out hb1)).mono ?_
    rintro e w2 ⟨rfl, hb2⟩
    obtain ⟨⟨q0, q1⟩, ⟨q2, q3⟩, q5, q6⟩ := HC.out w2 (Below.next hb1 hb2)
    go_wp2_with fail
    with_reducible refine (H3.out w2 (Below.next HB4.out (Below.next hb1 hb2))).mono ?_
    rintro e w3 ⟨rfl, hb3⟩
    obtain ⟨⟨q0, q1⟩, ⟨q2, q3⟩, q5, q6⟩ := HC.out w3 (Below.next hb1 (Below.next hb2 hb3))
    go_wp2_with fail
    with_reducible refine (HP.out w3 (Below.next HB4.out (Below.next hb1 (Below.next hb2 hb3)))).mono ?_
    rintro e w5 ⟨rfl, hb5⟩
    go_wp2_with fail
    go_ret
    exact ⟨rfl, Below.next HB4.out (Below.next hb1 (Below.next hb2 (Below.next hb3 hb5)))⟩
end Go.Proofs.YtflpkkebampmfaaGreatDoor
namespace Go.Proofs.YtflpkkebampmfaaGreatDoor
open Go.RowKit Go.Shelf

theorem madN_small (p : Pce) (i : Nat) : (madN p i).weights.length ≤ 5 ∧ (madN p i).kids.length ≤ 5 := by
  have h5 : mk5 p ≤ 5 := Nat.min_le_right _ _
  unfold madN
  split
  · simp
  · refine ⟨?_, ?_⟩
    · show (mwtTo _ _).length ≤ 5
      unfold mwtTo
      split
      · rw [List.length_map, List.length_take]; omega
      · simp
    · show (mkdTo _ _ _).length ≤ 5
      unfold mkdTo
      rw [List.length_map, List.length_take]; omega
theorem madX_node {ps : List Pce} {k : Nat} {nd : Nod} (h : (madX ps).nodes[k]? = some nd) : nd.weights.length ≤ 5 ∧ nd.kids.length ≤ 5 := by
  unfold madX at h
  by_cases h0 : ps = []
  · rw [if_pos h0] at h
    have := List.mem_of_getElem? h
    simp at this
    subst this
    decide
  · rw [if_neg h0] at h
    obtain ⟨_, rfl⟩ := madT_at h
    exact madN_small _ _
theorem madX_few (ps : List Pce) : XprFew (madX ps) := fun k nd h => by have := madX_node h; omega
theorem madX_sum (ps : List Pce) : XprSum (madX ps) := fun k nd h => by have := madX_node h; omega
theorem U_of_wf' {a : Int} (h : (Lit.int .u16 a).wf = true) : ∃ x : BitVec 16, a = U x := by
  apply U_of
  simp [Lit.wf, IntKind.min, IntKind.max, IntKind.bits, IntKind.signed] at h
  omega

set_option maxRecDepth 100000 in
set_option maxHeartbeats 4000000 in
theorem check_w (v : Value) (xs ys : List Pce) (b : Int) (v2 : Value) (t : Tre) (w : World) (ht : HasTab w) (hr : HasRng w) (hy : HasSyn w) (w0 : IsCase w v xs ys b) (w1 : IsTree w v2 t) :
    Calls Tryz.prog 4 #[v, v2] w fun e w' => e = .returned (.bool true) ∧ Below w.heap.size w w' := by
  have HA := Lib.hid (fun u (hb : Below w.heap.size w u) => awake20_c u (ht.below hb) (hr.below hb) (hy.below hb))
  obtain ⟨bv, rfl⟩ := U_of_wf' w0.num
  obtain ⟨ax, nx, cx, ay, ny, cy, rfl, hpx, hpy⟩ := w0.val
  obtain ⟨at', nt, ct, rfl, htm⟩ := w1.val
  have hnt := TM.len htm
  have HTM := Lib.hid (fun u (hb : Below w.heap.size w u) => RdK.below htm hb)
  have HMX := Lib.hid (fun u (hb : Below w.heap.size w u) => made_r xs w0.okx ax nx cx u (hpx.below hb))
  have HMY := Lib.hid (fun u (hb : Below w.heap.size w u) => made_r ys w0.oky ay ny cy u (hpy.below hb))
  obtain ⟨hxo, _, hx6⟩ := madX_ok w0.okx
  obtain ⟨hyo, _, hy6⟩ := madX_ok w0.oky
  have hxf := madX_few xs
  have hyf := madX_few ys
  have hxs := madX_sum xs
  have hys := madX_sum ys
  obtain ⟨X, hX⟩ : ∃ X, madX xs = X := ⟨_, rfl⟩
  obtain ⟨Y, hY⟩ : ∃ Y, madX ys = Y := ⟨_, rfl⟩
  rw [hX] at HMX hxo hxf hxs hx6
  rw [hY] at HMY hyo hyf hys hy6
  have HCK := Lib.hid (fun a1 n1 c1 a2 n2 c2 u h1 h2 (hb : Below w.heap.size w u) => check_c X Y bv hxo hyo hxf hyf t a1 n1 c1 a2 n2 c2 at' nt ct u h1 h2 (RdK.below htm hb))
  have HRC := Lib.hid (fun a1 n1 c1 a2 n2 c2 u h1 h2 (hb : Below w.heap.size w u) => rcheck_c X Y bv hxo hyo hxf hyf hxs hys t a1 n1 c1 a2 n2 c2 at' nt ct u h1 h2 (RdK.below htm hb))
  have HFX := Lib.hid (fun a n c u h => rfamily_c X hxo hxf hxs a n c u h)
  have HFY := Lib.hid (fun a n c u h => rfamily_c Y hyo hyf hys a n c u h)
  rw [famE_six hxo hx6] at HFX
  rw [famE_six hyo hy6] at HFY
  simp only at HFX HFY
  have HSZ := Lib.hid (fun u => size_c at' nt ct t.root u)
  obtain ⟨V, hV⟩ : ∃ V, certC X Y bv t = V := ⟨_, rfl⟩
  have HLW : Hid (V = true → famsB (famS X) (famS Y) bv = true) := Lib.hid (fun h => check_law (xprE_ok hxo) (xprE_ok hyo) (hV.trans h))
  rw [hV] at HCK HRC
  obtain ⟨FX, hFX⟩ : ∃ F, famS X = F := ⟨_, rfl⟩
  obtain ⟨FY, hFY⟩ : ∃ F, famS Y = F := ⟨_, rfl⟩
  rw [hFX] at HFX HLW
  rw [hFY] at HFY HLW
  obtain ⟨LX, hLX⟩ : ∃ L, FX.length = L := ⟨_, rfl⟩
  obtain ⟨LY, hLY⟩ : ∃ L, FY.length = L := ⟨_, rfl⟩
  rw [hLX] at HFX
  rw [hLY] at HFY
  obtain ⟨W2, hW2⟩ : ∃ W2, W2 = (w.alloc (.cells #[.slice ax nx cx, .slice ay ny cy, .int .u16 (U bv)] 46)).alloc (.cells #[.slice at' nt ct, .int .i64 t.root] 38) := ⟨_, rfl⟩
  have hb2 : Below w.heap.size w W2 := by rw [hW2]; exact ((Below.refl _ w).alloc (Nat.le_refl _) _).alloc (by simp) _
  have g2 : W2.heap[w.heap.size]? = some (.cells #[.slice ax nx cx, .slice ay ny cy, .int .u16 (U bv)] 46 (0, 0)) := by rw [hW2]; exact heap_alloc_at (heap_alloc_new _ _) _
  have g2' : W2.heap[w.heap.size + 1]? = some (.cells #[.slice at' nt ct, .int .i64 t.root] 38 (0, 0)) := by
    rw [hW2]
    have := heap_alloc_new (w.alloc (.cells #[.slice ax nx cx, .slice ay ny cy, .int .u16 (U bv)] 46)) (.cells #[.slice at' nt ct, .int .i64 t.root] 38)
    rwa [World.size_alloc] at this
  have HB2 := Lib.hid hb2
  have HG2 := Lib.hid (And.intro g2 g2')
  clear ht hr hy hpx hpy hX hY hb2 g2 g2' hxo hyo hxf hyf hxs hys hx6 hy6 w0 w1 hFX hFY hLX hLY hV htm hnt
  by_cases h200 : (200 : Int) < (nt : Int)
  · have d1 : decide ((200 : Int) < (nt : Int)) = true := decide_eq_true h200
    clear h200
    go_enter Tryz.func4, Tryz.ntmps4
    go_wp2_with fail
    rw [← hW2]
    with_reducible refine (HA.out W2 HB2.out).mono ?_
    rintro e w1 ⟨rfl, b1⟩
    obtain ⟨⟨k0, k1⟩, _⟩ := open2 (heap_below b1 HG2.out.2)
    have HB1 := Lib.hid (Below.next HB2.out b1)
    clear b1
    go_wp2_with fail
    with_reducible refine (HA.out w1 HB1.out).mono ?_
    rintro e w2 ⟨rfl, b2⟩
    have HB3 := Lib.hid (Below.next HB1.out b2)
    clear b2
    go_wp2_with fail
    go_ret
    exact ⟨rfl, HB3.out⟩
  have d1 : decide ((200 : Int) < (nt : Int)) = false := decide_eq_false h200
  go_enter Tryz.func4, Tryz.ntmps4
  go_wp2_with fail
  rw [← hW2]
  with_reducible refine (HA.out W2 HB2.out).mono ?_
  rintro e w3 ⟨rfl, b3⟩
  have HB3 := Lib.hid (Below.next HB2.out b3)
  have HG3 := Lib.hid (And.intro (heap_below b3 HG2.out.1) (heap_below b3 HG2.out.2))
  have q0 := cell_of_row _ _ 0 _ _ _ HG3.out.1
  have q1 := cell_of_row _ _ 1 _ _ _ HG3.out.1
  have q2 := cell_of_row _ _ 2 _ _ _ HG3.out.1
  obtain ⟨⟨q3, q4⟩, _⟩ := open2 HG3.out.2
  clear b3 hW2
  go_upto_region 3 with fail
  go_cut [5, 6] from 21 to 26 (fun p5 p6 wx => TwoB X Y w3 wx p5 p6)
  case first =>
    have HCC := Lib.hid (fun (u : World) (hu : Below w3.heap.size w3 u) => And.intro (cell_of_row _ _ 0 _ _ _ (heap_below hu HG3.out.1)) (cell_of_row _ _ 1 _ _ _ (heap_below hu HG3.out.1)))
    refine wp_region_noPanic ?_
    refine wp_region_takes (fun u => Below w3.heap.size w3 u) [0, 1, 3, 4] 6 (by kernel_rfl) (by kernel_rfl) (by kernel_rfl) (fun _ _ _ _ _ h => h) (below_drew (Below.refl _ _)) ?_
    repeat (refine wpTk_cons rfl (fun K hK => ?_); go_simp; apply Exists.intro; refine ⟨fun u hu => ?_, hK _ ?_⟩; (first | exact rfl | (obtain ⟨r0, r1⟩ := HCC.out u hu; go_simp; done) | (obtain ⟨r0, r1⟩ := HCC.out u hu; go_simp; exact rfl)); clear hK K)
    refine wpTk_nil ?_
    have HT0 := Lib.hid (TS.start X Y w3)
    generalize w3.drew = y0 at HT0 ⊢
    refine held_ready (rs := [2, 6, 7]) (by kernel_rfl) (by simp) ?_
    refine AllReadyH.cons rfl (fun K hK => ?_) (AllReadyH.cons rfl (fun K hK => ?_) (AllReadyH.cons rfl (fun K hK => ?_) AllReadyH.nil))
    go_simp
    with_reducible refine (HMX.out y0 (Below.next HB3.out HT0.out.bel)).mono ?_
    rintro e z1 ⟨ac11, cc11, rfl, hx1, hb1⟩
    have HZ1 := Lib.hid ((HT0.out).call1 hb1 hx1)
    clear hx1 hb1
    go_simp
    refine hK.out _ _ HZ1.out.bel (fun hh => ?_)
    clear hh hK K; try simp only [Act.put, List.setIfInBounds_toArray, List.set_cons_zero, List.set_cons_succ]
    refine held_ready (rs := [5, 6, 7]) (by kernel_rfl) (by simp) ?_
    refine AllReadyH.cons rfl (fun K hK => ?_) (AllReadyH.cons rfl (fun K hK => ?_) (AllReadyH.cons rfl (fun K hK => ?_) AllReadyH.nil))
    go_simp
    with_reducible refine (HMY.out z1 (Below.next HB3.out HZ1.out.bel)).mono ?_
    rintro e z2 ⟨ac22, cc22, rfl, hx2, hb2⟩
    have HZ2 := Lib.hid ((HZ1.out).call2 hb2 hx2)
    clear hx2 hb2
    go_simp
    refine hK.out _ _ HZ2.out.bel (fun hh => ?_)
    clear hh hK K; try simp only [Act.put, List.setIfInBounds_toArray, List.set_cons_zero, List.set_cons_succ]
    refine held_ready (rs := [6, 7]) (by kernel_rfl) (by simp) ?_
    refine AllReadyH.cons rfl (fun K hK => ?_) (AllReadyH.cons rfl (fun K hK => ?_) AllReadyH.nil)
    go_simp
    have HZ3 := Lib.hid ((HZ2.out).alloc5)
    refine hK.out _ _ HZ3.out.bel (fun hh => ?_)
    clear hh hK K; try simp only [Act.put, List.setIfInBounds_toArray, List.set_cons_zero, List.set_cons_succ]
    try unfold zEx at HZ3
    generalize hgb3 : z2.heap.size = b3 at HZ3 ⊢
    generalize hgw3 : World.alloc z2 _ = z3 at HZ3 ⊢
    clear hgw3 hgb3
    refine held_ready (rs := [7]) (by kernel_rfl) (by simp) ?_
    refine AllReadyH.cons rfl (fun K hK => ?_) AllReadyH.nil
    go_simp
    have HZ4 := Lib.hid ((HZ3.out).alloc6)
    refine hK.out _ _ HZ4.out.bel (fun hh => ?_)
    clear hh hK K; try simp only [Act.put, List.setIfInBounds_toArray, List.set_cons_zero, List.set_cons_succ]
    try unfold zEx at HZ4
    generalize hgb4 : z3.heap.size = b4 at HZ4 ⊢
    generalize hgw4 : World.alloc z3 _ = z4 at HZ4 ⊢
    clear hgw4 hgb4
    refine held_ready (rs := [8]) (by kernel_rfl) (by simp) ?_
    refine AllReadyH.cons rfl (fun K hK => ?_) AllReadyH.nil
    go_simp
    obtain ⟨⟨x0, x1⟩, x2, x3⟩ := open2 ((HZ4.out).b5 _ rfl).1
    go_simp
    have hfin := fun (U1 U2 : World) => (HZ4.out).fin (W1 := U1) (W2 := U2)
    have HFIN := Lib.hid hfin
    clear hfin x0 x1 x2 x3
    generalize hU5 : World.setCell (World.setCell z4 _ _) _ _ = U5
    obtain ⟨k6, kb⟩ := (HFIN.out U5 _ hU5.symm rfl).1
    refine hK.out _ _ kb (fun hh => ?_)
    clear hh hK K; try simp only [Act.put, List.setIfInBounds_toArray, List.set_cons_zero, List.set_cons_succ]
    refine held_ready (rs := [9]) (by kernel_rfl) (by simp) ?_
    refine AllReadyH.cons rfl (fun K hK => ?_) AllReadyH.nil
    obtain ⟨⟨x0, x1⟩, x2, x3⟩ := open2 k6
    go_simp
    clear x0 x1 x2 x3
    generalize hV5 : World.setCell (World.setCell U5 _ _) _ _ = V5
    have hTB := (HFIN.out U5 V5 hU5.symm hV5.symm).2
    refine hK.out _ _ hTB.bel (fun hh => ?_)
    clear hh hK K; try simp only [Act.put, List.setIfInBounds_toArray, List.set_cons_zero, List.set_cons_succ]
    refine wpAnyH_done (by kernel_rfl) (NoPanic.normal ?_) _
    clear hU5 hV5 HFIN k6 kb HZ4
    go_wp2_with fail
    go_meet
    exact hTB
    go_simp
    have HZ6 := Lib.hid ((HZ2.out).alloc6)
    refine hK.out _ _ HZ6.out.bel (fun hh => ?_)
    clear hh hK K; try simp only [Act.put, List.setIfInBounds_toArray, List.set_cons_zero, List.set_cons_succ]
    try unfold zEx at HZ6
    generalize hgb6 : z2.heap.size = b6 at HZ6 ⊢
    generalize hgw6 : World.alloc z2 _ = z6 at HZ6 ⊢
    clear hgw6 hgb6
    refine held_ready (rs := [6]) (by kernel_rfl) (by simp) ?_
    refine AllReadyH.cons rfl (fun K hK => ?_) AllReadyH.nil
    go_simp
    have HZ7 := Lib.hid ((HZ6.out).alloc5)
    refine hK.out _ _ HZ7.out.bel (fun hh => ?_)
    clear hh hK K; try simp only [Act.put, List.setIfInBounds_toArray, List.set_cons_zero, List.set_cons_succ]
    try unfold zEx at HZ7
    generalize hgb7 : z6.heap.size = b7 at HZ7 ⊢
    generalize hgw7 : World.alloc z6 _ = z7 at HZ7 ⊢
    clear hgw7 hgb7
    refine held_ready (rs := [8]) (by kernel_rfl) (by simp) ?_
    refine AllReadyH.cons rfl (fun K hK => ?_) AllReadyH.nil
    go_simp
    obtain ⟨⟨x0, x1⟩, x2, x3⟩ := open2 ((HZ7.out).b5 _ rfl).1
    go_simp
    have hfin := fun (U1 U2 : World) => (HZ7.out).fin (W1 := U1) (W2 := U2)
    have HFIN := Lib.hid hfin
    clear hfin x0 x1 x2 x3
    generalize hU8 : World.setCell (World.setCell z7 _ _) _ _ = U8
    obtain ⟨k6, kb⟩ := (HFIN.out U8 _ hU8.symm rfl).1
    refine hK.out _ _ kb (fun hh => ?_)
    clear hh hK K; try simp only [Act.put, List.setIfInBounds_toArray, List.set_cons_zero, List.set_cons_succ]
    refine held_ready (rs := [9]) (by kernel_rfl) (by simp) ?_
    refine AllReadyH.cons rfl (fun K hK => ?_) AllReadyH.nil
    obtain ⟨⟨x0, x1⟩, x2, x3⟩ := open2 k6
    go_simp
    clear x0 x1 x2 x3
    generalize hV8 : World.setCell (World.setCell U8 _ _) _ _ = V8
    have hTB := (HFIN.out U8 V8 hU8.symm hV8.symm).2
    refine hK.out _ _ hTB.bel (fun hh => ?_)
    clear hh hK K; try simp only [Act.put, List.setIfInBounds_toArray, List.set_cons_zero, List.set_cons_succ]
    refine wpAnyH_done (by kernel_rfl) (NoPanic.normal ?_) _
    clear hU8 hV8 HFIN k6 kb HZ7
    go_wp2_with fail
    go_meet
    exact hTB
    go_simp
    have HZ9 := Lib.hid ((HZ1.out).alloc5)
    refine hK.out _ _ HZ9.out.bel (fun hh => ?_)
    clear hh hK K; try simp only [Act.put, List.setIfInBounds_toArray, List.set_cons_zero, List.set_cons_succ]
    try unfold zEx at HZ9
    generalize hgb9 : z1.heap.size = b9 at HZ9 ⊢
    generalize hgw9 : World.alloc z1 _ = z9 at HZ9 ⊢
    clear hgw9 hgb9
    refine held_ready (rs := [5, 7]) (by kernel_rfl) (by simp) ?_
    refine AllReadyH.cons rfl (fun K hK => ?_) (AllReadyH.cons rfl (fun K hK => ?_) AllReadyH.nil)
    go_simp
    with_reducible refine (HMY.out z9 (Below.next HB3.out HZ9.out.bel)).mono ?_
    rintro e z10 ⟨ac210, cc210, rfl, hx10, hb10⟩
    have HZ10 := Lib.hid ((HZ9.out).call2 hb10 hx10)
    clear hx10 hb10
    go_simp
    refine hK.out _ _ HZ10.out.bel (fun hh => ?_)
    clear hh hK K; try simp only [Act.put, List.setIfInBounds_toArray, List.set_cons_zero, List.set_cons_succ]
    refine held_ready (rs := [7]) (by kernel_rfl) (by simp) ?_
    refine AllReadyH.cons rfl (fun K hK => ?_) AllReadyH.nil
    go_simp
    have HZ11 := Lib.hid ((HZ10.out).alloc6)
    refine hK.out _ _ HZ11.out.bel (fun hh => ?_)
    clear hh hK K; try simp only [Act.put, List.setIfInBounds_toArray, List.set_cons_zero, List.set_cons_succ]
    try unfold zEx at HZ11
    generalize hgb11 : z10.heap.size = b11 at HZ11 ⊢
    generalize hgw11 : World.alloc z10 _ = z11 at HZ11 ⊢
    clear hgw11 hgb11
    refine held_ready (rs := [8]) (by kernel_rfl) (by simp) ?_
    refine AllReadyH.cons rfl (fun K hK => ?_) AllReadyH.nil
    go_simp
    obtain ⟨⟨x0, x1⟩, x2, x3⟩ := open2 ((HZ11.out).b5 _ rfl).1
    go_simp
    have hfin := fun (U1 U2 : World) => (HZ11.out).fin (W1 := U1) (W2 := U2)
    have HFIN := Lib.hid hfin
    clear hfin x0 x1 x2 x3
    generalize hU12 : World.setCell (World.setCell z11 _ _) _ _ = U12
    obtain ⟨k6, kb⟩ := (HFIN.out U12 _ hU12.symm rfl).1
    refine hK.out _ _ kb (fun hh => ?_)
    clear hh hK K; try simp only [Act.put, List.setIfInBounds_toArray, List.set_cons_zero, List.set_cons_succ]
    refine held_ready (rs := [9]) (by kernel_rfl) (by simp) ?_
    refine AllReadyH.cons rfl (fun K hK => ?_) AllReadyH.nil
    obtain ⟨⟨x0, x1⟩, x2, x3⟩ := open2 k6
    go_simp
    clear x0 x1 x2 x3
    generalize hV12 : World.setCell (World.setCell U12 _ _) _ _ = V12
    have hTB := (HFIN.out U12 V12 hU12.symm hV12.symm).2
    refine hK.out _ _ hTB.bel (fun hh => ?_)
    clear hh hK K; try simp only [Act.put, List.setIfInBounds_toArray, List.set_cons_zero, List.set_cons_succ]
    refine wpAnyH_done (by kernel_rfl) (NoPanic.normal ?_) _
    clear hU12 hV12 HFIN k6 kb HZ11
    go_wp2_with fail
    go_meet
    exact hTB
    go_simp
    have HZ13 := Lib.hid ((HZ9.out).alloc6)
    refine hK.out _ _ HZ13.out.bel (fun hh => ?_)
    clear hh hK K; try simp only [Act.put, List.setIfInBounds_toArray, List.set_cons_zero, List.set_cons_succ]
    try unfold zEx at HZ13
    generalize hgb13 : z9.heap.size = b13 at HZ13 ⊢
    generalize hgw13 : World.alloc z9 _ = z13 at HZ13 ⊢
    clear hgw13 hgb13
    refine held_ready (rs := [5]) (by kernel_rfl) (by simp) ?_
    refine AllReadyH.cons rfl (fun K hK => ?_) AllReadyH.nil
    go_simp
    with_reducible refine (HMY.out z13 (Below.next HB3.out HZ13.out.bel)).mono ?_
    rintro e z14 ⟨ac214, cc214, rfl, hx14, hb14⟩
    have HZ14 := Lib.hid ((HZ13.out).call2 hb14 hx14)
    clear hx14 hb14
    go_simp
    refine hK.out _ _ HZ14.out.bel (fun hh => ?_)
    clear hh hK K; try simp only [Act.put, List.setIfInBounds_toArray, List.set_cons_zero, List.set_cons_succ]
    refine held_ready (rs := [8]) (by kernel_rfl) (by simp) ?_
    refine AllReadyH.cons rfl (fun K hK => ?_) AllReadyH.nil
    go_simp
    obtain ⟨⟨x0, x1⟩, x2, x3⟩ := open2 ((HZ14.out).b5 _ rfl).1
    go_simp
    have hfin := fun (U1 U2 : World) => (HZ14.out).fin (W1 := U1) (W2 := U2)
    have HFIN := Lib.hid hfin
    clear hfin x0 x1 x2 x3
    generalize hU15 : World.setCell (World.setCell z14 _ _) _ _ = U15
    obtain ⟨k6, kb⟩ := (HFIN.out U15 _ hU15.symm rfl).1
    refine hK.out _ _ kb (fun hh => ?_)
    clear hh hK K; try simp only [Act.put, List.setIfInBounds_toArray, List.set_cons_zero, List.set_cons_succ]
    refine held_ready (rs := [9]) (by kernel_rfl) (by simp) ?_
    refine AllReadyH.cons rfl (fun K hK => ?_) AllReadyH.nil
    obtain ⟨⟨x0, x1⟩, x2, x3⟩ := open2 k6
    go_simp
    clear x0 x1 x2 x3
    generalize hV15 : World.setCell (World.setCell U15 _ _) _ _ = V15
    have hTB := (HFIN.out U15 V15 hU15.symm hV15.symm).2
    refine hK.out _ _ hTB.bel (fun hh => ?_)
    clear hh hK K; try simp only [Act.put, List.setIfInBounds_toArray, List.set_cons_zero, List.set_cons_succ]
    refine wpAnyH_done (by kernel_rfl) (NoPanic.normal ?_) _
    clear hU15 hV15 HFIN k6 kb HZ14
    go_wp2_with fail
    go_meet
    exact hTB
    go_simp
    have HZ16 := Lib.hid ((HZ1.out).alloc6)
    refine hK.out _ _ HZ16.out.bel (fun hh => ?_)
    clear hh hK K; try simp only [Act.put, List.setIfInBounds_toArray, List.set_cons_zero, List.set_cons_succ]
    try unfold zEx at HZ16
    generalize hgb16 : z1.heap.size = b16 at HZ16 ⊢
    generalize hgw16 : World.alloc z1 _ = z16 at HZ16 ⊢
    clear hgw16 hgb16
    refine held_ready (rs := [5, 6]) (by kernel_rfl) (by simp) ?_
    refine AllReadyH.cons rfl (fun K hK => ?_) (AllReadyH.cons rfl (fun K hK => ?_) AllReadyH.nil)
    go_simp
    with_reducible refine (HMY.out z16 (Below.next HB3.out HZ16.out.bel)).mono ?_
    rintro e z17 ⟨ac217, cc217, rfl, hx17, hb17⟩
    have HZ17 := Lib.hid ((HZ16.out).call2 hb17 hx17)
    clear hx17 hb17
    go_simp
    refine hK.out _ _ HZ17.out.bel (fun hh => ?_)
    clear hh hK K; try simp only [Act.put, List.setIfInBounds_toArray, List.set_cons_zero, List.set_cons_succ]
    refine held_ready (rs := [6]) (by kernel_rfl) (by simp) ?_
    refine AllReadyH.cons rfl (fun K hK => ?_) AllReadyH.nil
    go_simp
    have HZ18 := Lib.hid ((HZ17.out).alloc5)
    refine hK.out _ _ HZ18.out.bel (fun hh => ?_)
    clear hh hK K; try simp only [Act.put, List.setIfInBounds_toArray, List.set_cons_zero, List.set_cons_succ]
    try unfold zEx at HZ18
    generalize hgb18 : z17.heap.size = b18 at HZ18 ⊢
    generalize hgw18 : World.alloc z17 _ = z18 at HZ18 ⊢
    clear hgw18 hgb18
    refine held_ready (rs := [8]) (by kernel_rfl) (by simp) ?_
    refine AllReadyH.cons rfl (fun K hK => ?_) AllReadyH.nil
    go_simp
    obtain ⟨⟨x0, x1⟩, x2, x3⟩ := open2 ((HZ18.out).b5 _ rfl).1
    go_simp
    have hfin := fun (U1 U2 : World) => (HZ18.out).fin (W1 := U1) (W2 := U2)
    have HFIN := Lib.hid hfin
    clear hfin x0 x1 x2 x3
    generalize hU19 : World.setCell (World.setCell z18 _ _) _ _ = U19
    obtain ⟨k6, kb⟩ := (HFIN.out U19 _ hU19.symm rfl).1
    refine hK.out _ _ kb (fun hh => ?_)
    clear hh hK K; try simp only [Act.put, List.setIfInBounds_toArray, List.set_cons_zero, List.set_cons_succ]
    refine held_ready (rs := [9]) (by kernel_rfl) (by simp) ?_
    refine AllReadyH.cons rfl (fun K hK => ?_) AllReadyH.nil
    obtain ⟨⟨x0, x1⟩, x2, x3⟩ := open2 k6
    go_simp
    clear x0 x1 x2 x3
    generalize hV19 : World.setCell (World.setCell U19 _ _) _ _ = V19
    have hTB := (HFIN.out U19 V19 hU19.symm hV19.symm).2
    refine hK.out _ _ hTB.bel (fun hh => ?_)
    clear hh hK K; try simp only [Act.put, List.setIfInBounds_toArray, List.set_cons_zero, List.set_cons_succ]
    refine wpAnyH_done (by kernel_rfl) (NoPanic.normal ?_) _
    clear hU19 hV19 HFIN k6 kb HZ18
    go_wp2_with fail
    go_meet
    exact hTB
    go_simp
    have HZ20 := Lib.hid ((HZ16.out).alloc5)
    refine hK.out _ _ HZ20.out.bel (fun hh => ?_)
    clear hh hK K; try simp only [Act.put, List.setIfInBounds_toArray, List.set_cons_zero, List.set_cons_succ]
    try unfold zEx at HZ20
    generalize hgb20 : z16.heap.size = b20 at HZ20 ⊢
    generalize hgw20 : World.alloc z16 _ = z20 at HZ20 ⊢
    clear hgw20 hgb20
    refine held_ready (rs := [5]) (by kernel_rfl) (by simp) ?_
    refine AllReadyH.cons rfl (fun K hK => ?_) AllReadyH.nil
    go_simp
    with_reducible refine (HMY.out z20 (Below.next HB3.out HZ20.out.bel)).mono ?_
    rintro e z21 ⟨ac221, cc221, rfl, hx21, hb21⟩
    have HZ21 := Lib.hid ((HZ20.out).call2 hb21 hx21)
    clear hx21 hb21
    go_simp
    refine hK.out _ _ HZ21.out.bel (fun hh => ?_)
    clear hh hK K; try simp only [Act.put, List.setIfInBounds_toArray, List.set_cons_zero, List.set_cons_succ]
    refine held_ready (rs := [8]) (by kernel_rfl) (by simp) ?_
    refine AllReadyH.cons rfl (fun K hK => ?_) AllReadyH.nil
    go_simp
    obtain ⟨⟨x0, x1⟩, x2, x3⟩ := open2 ((HZ21.out).b5 _ rfl).1
    go_simp
    have hfin := fun (U1 U2 : World) => (HZ21.out).fin (W1 := U1) (W2 := U2)
    have HFIN := Lib.hid hfin
    clear hfin x0 x1 x2 x3
    generalize hU22 : World.setCell (World.setCell z21 _ _) _ _ = U22
    obtain ⟨k6, kb⟩ := (HFIN.out U22 _ hU22.symm rfl).1
    refine hK.out _ _ kb (fun hh => ?_)
    clear hh hK K; try simp only [Act.put, List.setIfInBounds_toArray, List.set_cons_zero, List.set_cons_succ]
    refine held_ready (rs := [9]) (by kernel_rfl) (by simp) ?_
    refine AllReadyH.cons rfl (fun K hK => ?_) AllReadyH.nil
    obtain ⟨⟨x0, x1⟩, x2, x3⟩ := open2 k6
    go_simp
    clear x0 x1 x2 x3
    generalize hV22 : World.setCell (World.setCell U22 _ _) _ _ = V22
    have hTB := (HFIN.out U22 V22 hU22.symm hV22.symm).2
    refine hK.out _ _ hTB.bel (fun hh => ?_)
    clear hh hK K; try simp only [Act.put, List.setIfInBounds_toArray, List.set_cons_zero, List.set_cons_succ]
    refine wpAnyH_done (by kernel_rfl) (NoPanic.normal ?_) _
    clear hU22 hV22 HFIN k6 kb HZ21
    go_wp2_with fail
    go_meet
    exact hTB
    go_simp
    have HZ23 := Lib.hid ((HT0.out).alloc5)
    refine hK.out _ _ HZ23.out.bel (fun hh => ?_)
    clear hh hK K; try simp only [Act.put, List.setIfInBounds_toArray, List.set_cons_zero, List.set_cons_succ]
    try unfold zEx at HZ23
    generalize hgb23 : y0.heap.size = b23 at HZ23 ⊢
    generalize hgw23 : World.alloc y0 _ = z23 at HZ23 ⊢
    clear hgw23 hgb23
    refine held_ready (rs := [2, 7]) (by kernel_rfl) (by simp) ?_
    refine AllReadyH.cons rfl (fun K hK => ?_) (AllReadyH.cons rfl (fun K hK => ?_) AllReadyH.nil)
    go_simp
    with_reducible refine (HMX.out z23 (Below.next HB3.out HZ23.out.bel)).mono ?_
    rintro e z24 ⟨ac124, cc124, rfl, hx24, hb24⟩
    have HZ24 := Lib.hid ((HZ23.out).call1 hb24 hx24)
    clear hx24 hb24
    go_simp
    refine hK.out _ _ HZ24.out.bel (fun hh => ?_)
    clear hh hK K; try simp only [Act.put, List.setIfInBounds_toArray, List.set_cons_zero, List.set_cons_succ]
    refine held_ready (rs := [5, 7]) (by kernel_rfl) (by simp) ?_
    refine AllReadyH.cons rfl (fun K hK => ?_) (AllReadyH.cons rfl (fun K hK => ?_) AllReadyH.nil)
    go_simp
    with_reducible refine (HMY.out z24 (Below.next HB3.out HZ24.out.bel)).mono ?_
    rintro e z25 ⟨ac225, cc225, rfl, hx25, hb25⟩
    have HZ25 := Lib.hid ((HZ24.out).call2 hb25 hx25)
    clear hx25 hb25
    go_simp
    refine hK.out _ _ HZ25.out.bel (fun hh => ?_)
    clear hh hK K; try simp only [Act.put, List.setIfInBounds_toArray, List.set_cons_zero, List.set_cons_succ]
    refine held_ready (rs := [7]) (by kernel_rfl) (by simp) ?_
    refine AllReadyH.cons rfl (fun K hK => ?_) AllReadyH.nil
    go_simp
    have HZ26 := Lib.hid ((HZ25.out).alloc6)
    refine hK.out _ _ HZ26.out.bel (fun hh => ?_)
    clear hh hK K; try simp only [Act.put, List.setIfInBounds_toArray, List.set_cons_zero, List.set_cons_succ]
    try unfold zEx at HZ26
    generalize hgb26 : z25.heap.size = b26 at HZ26 ⊢
    generalize hgw26 : World.alloc z25 _ = z26 at HZ26 ⊢
    clear hgw26 hgb26
    refine held_ready (rs := [8]) (by kernel_rfl) (by simp) ?_
    refine AllReadyH.cons rfl (fun K hK => ?_) AllReadyH.nil
    go_simp
    obtain ⟨⟨x0, x1⟩, x2, x3⟩ := open2 ((HZ26.out).b5 _ rfl).1
    go_simp
    have hfin := fun (U1 U2 : World) => (HZ26.out).fin (W1 := U1) (W2 := U2)
    have HFIN := Lib.hid hfin
    clear hfin x0 x1 x2 x3
    generalize hU27 : World.setCell (World.setCell z26 _ _) _ _ = U27
    obtain ⟨k6, kb⟩ := (HFIN.out U27 _ hU27.symm rfl).1
    refine hK.out _ _ kb (fun hh => ?_)
    clear hh hK K; try simp only [Act.put, List.setIfInBounds_toArray, List.set_cons_zero, List.set_cons_succ]
    refine held_ready (rs := [9]) (by kernel_rfl) (by simp) ?_
    refine AllReadyH.cons rfl (fun K hK => ?_) AllReadyH.nil
    obtain ⟨⟨x0, x1⟩, x2, x3⟩ := open2 k6
    go_simp
    clear x0 x1 x2 x3
    generalize hV27 : World.setCell (World.setCell U27 _ _) _ _ = V27
    have hTB := (HFIN.out U27 V27 hU27.symm hV27.symm).2
    refine hK.out _ _ hTB.bel (fun hh => ?_)
    clear hh hK K; try simp only [Act.put, List.setIfInBounds_toArray, List.set_cons_zero, List.set_cons_succ]
    refine wpAnyH_done (by kernel_rfl) (NoPanic.normal ?_) _
    clear hU27 hV27 HFIN k6 kb HZ26
    go_wp2_with fail
    go_meet
    exact hTB
    go_simp
    have HZ28 := Lib.hid ((HZ24.out).alloc6)
    refine hK.out _ _ HZ28.out.bel (fun hh => ?_)
    clear hh hK K; try simp only [Act.put, List.setIfInBounds_toArray, List.set_cons_zero, List.set_cons_succ]
    try unfold zEx at HZ28
    generalize hgb28 : z24.heap.size = b28 at HZ28 ⊢
    generalize hgw28 : World.alloc z24 _ = z28 at HZ28 ⊢
    clear hgw28 hgb28
    refine held_ready (rs := [5]) (by kernel_rfl) (by simp) ?_
    refine AllReadyH.cons rfl (fun K hK => ?_) AllReadyH.nil
    go_simp
    with_reducible refine (HMY.out z28 (Below.next HB3.out HZ28.out.bel)).mono ?_
    rintro e z29 ⟨ac229, cc229, rfl, hx29, hb29⟩
    have HZ29 := Lib.hid ((HZ28.out).call2 hb29 hx29)
    clear hx29 hb29
    go_simp
    refine hK.out _ _ HZ29.out.bel (fun hh => ?_)
    clear hh hK K; try simp only [Act.put, List.setIfInBounds_toArray, List.set_cons_zero, List.set_cons_succ]
    refine held_ready (rs := [8]) (by kernel_rfl) (by simp) ?_
    refine AllReadyH.cons rfl (fun K hK => ?_) AllReadyH.nil
    go_simp
    obtain ⟨⟨x0, x1⟩, x2, x3⟩ := open2 ((HZ29.out).b5 _ rfl).1
    go_simp
    have hfin := fun (U1 U2 : World) => (HZ29.out).fin (W1 := U1) (W2 := U2)
    have HFIN := Lib.hid hfin
    clear hfin x0 x1 x2 x3
    generalize hU30 : World.setCell (World.setCell z29 _ _) _ _ = U30
    obtain ⟨k6, kb⟩ := (HFIN.out U30 _ hU30.symm rfl).1
    refine hK.out _ _ kb (fun hh => ?_)
    clear hh hK K; try simp only [Act.put, List.setIfInBounds_toArray, List.set_cons_zero, List.set_cons_succ]
    refine held_ready (rs := [9]) (by kernel_rfl) (by simp) ?_
    refine AllReadyH.cons rfl (fun K hK => ?_) AllReadyH.nil
    obtain ⟨⟨x0, x1⟩, x2, x3⟩ := open2 k6
    go_simp
    clear x0 x1 x2 x3
    generalize hV30 : World.setCell (World.setCell U30 _ _) _ _ = V30
    have hTB := (HFIN.out U30 V30 hU30.symm hV30.symm).2
    refine hK.out _ _ hTB.bel (fun hh => ?_)
    clear hh hK K; try simp only [Act.put, List.setIfInBounds_toArray, List.set_cons_zero, List.set_cons_succ]
    refine wpAnyH_done (by kernel_rfl) (NoPanic.normal ?_) _
    clear hU30 hV30 HFIN k6 kb HZ29
    go_wp2_with fail
    go_meet
    exact hTB
    go_simp
    have HZ31 := Lib.hid ((HZ23.out).alloc6)
    refine hK.out _ _ HZ31.out.bel (fun hh => ?_)
    clear hh hK K; try simp only [Act.put, List.setIfInBounds_toArray, List.set_cons_zero, List.set_cons_succ]
    try unfold zEx at HZ31
    generalize hgb31 : z23.heap.size = b31 at HZ31 ⊢
    generalize hgw31 : World.alloc z23 _ = z31 at HZ31 ⊢
    clear hgw31 hgb31
    refine held_ready (rs := [2]) (by kernel_rfl) (by simp) ?_
    refine AllReadyH.cons rfl (fun K hK => ?_) AllReadyH.nil
    go_simp
    with_reducible refine (HMX.out z31 (Below.next HB3.out HZ31.out.bel)).mono ?_
    rintro e z32 ⟨ac132, cc132, rfl, hx32, hb32⟩
    have HZ32 := Lib.hid ((HZ31.out).call1 hb32 hx32)
    clear hx32 hb32
    go_simp
    refine hK.out _ _ HZ32.out.bel (fun hh => ?_)
    clear hh hK K; try simp only [Act.put, List.setIfInBounds_toArray, List.set_cons_zero, List.set_cons_succ]
    refine held_ready (rs := [5]) (by kernel_rfl) (by simp) ?_
    refine AllReadyH.cons rfl (fun K hK => ?_) AllReadyH.nil
    go_simp
    with_reducible refine (HMY.out z32 (Below.next HB3.out HZ32.out.bel)).mono ?_
    rintro e z33 ⟨ac233, cc233, rfl, hx33, hb33⟩
    have HZ33 := Lib.hid ((HZ32.out).call2 hb33 hx33)
    clear hx33 hb33
    go_simp
    refine hK.out _ _ HZ33.out.bel (fun hh => ?_)
    clear hh hK K; try simp only [Act.put, List.setIfInBounds_toArray, List.set_cons_zero, List.set_cons_succ]
    refine held_ready (rs := [8]) (by kernel_rfl) (by simp) ?_
    refine AllReadyH.cons rfl (fun K hK => ?_) AllReadyH.nil
    go_simp
    obtain ⟨⟨x0, x1⟩, x2, x3⟩ := open2 ((HZ33.out).b5 _ rfl).1
    go_simp
    have hfin := fun (U1 U2 : World) => (HZ33.out).fin (W1 := U1) (W2 := U2)
    have HFIN := Lib.hid hfin
    clear hfin x0 x1 x2 x3
    generalize hU34 : World.setCell (World.setCell z33 _ _) _ _ = U34
    obtain ⟨k6, kb⟩ := (HFIN.out U34 _ hU34.symm rfl).1
    refine hK.out _ _ kb (fun hh => ?_)
    clear hh hK K; try simp only [Act.put, List.setIfInBounds_toArray, List.set_cons_zero, List.set_cons_succ]
    refine held_ready (rs := [9]) (by kernel_rfl) (by simp) ?_
    refine AllReadyH.cons rfl (fun K hK => ?_) AllReadyH.nil
    obtain ⟨⟨x0, x1⟩, x2, x3⟩ := open2 k6
    go_simp
    clear x0 x1 x2 x3
    generalize hV34 : World.setCell (World.setCell U34 _ _) _ _ = V34
    have hTB := (HFIN.out U34 V34 hU34.symm hV34.symm).2
    refine hK.out _ _ hTB.bel (fun hh => ?_)
    clear hh hK K; try simp only [Act.put, List.setIfInBounds_toArray, List.set_cons_zero, List.set_cons_succ]
    refine wpAnyH_done (by kernel_rfl) (NoPanic.normal ?_) _
    clear hU34 hV34 HFIN k6 kb HZ33
    go_wp2_with fail
    go_meet
    exact hTB
    go_simp
    have HZ35 := Lib.hid ((HT0.out).alloc6)
    refine hK.out _ _ HZ35.out.bel (fun hh => ?_)
    clear hh hK K; try simp only [Act.put, List.setIfInBounds_toArray, List.set_cons_zero, List.set_cons_succ]
    try unfold zEx at HZ35
    generalize hgb35 : y0.heap.size = b35 at HZ35 ⊢
    generalize hgw35 : World.alloc y0 _ = z35 at HZ35 ⊢
    clear hgw35 hgb35
    refine held_ready (rs := [2, 6]) (by kernel_rfl) (by simp) ?_
    refine AllReadyH.cons rfl (fun K hK => ?_) (AllReadyH.cons rfl (fun K hK => ?_) AllReadyH.nil)
    go_simp
    with_reducible refine (HMX.out z35 (Below.next HB3.out HZ35.out.bel)).mono ?_
    rintro e z36 ⟨ac136, cc136, rfl, hx36, hb36⟩
    have HZ36 := Lib.hid ((HZ35.out).call1 hb36 hx36)
    clear hx36 hb36
    go_simp
    refine hK.out _ _ HZ36.out.bel (fun hh => ?_)
    clear hh hK K; try simp only [Act.put, List.setIfInBounds_toArray, List.set_cons_zero, List.set_cons_succ]
    refine held_ready (rs := [5, 6]) (by kernel_rfl) (by simp) ?_
    refine AllReadyH.cons rfl (fun K hK => ?_) (AllReadyH.cons rfl (fun K hK => ?_) AllReadyH.nil)
    go_simp
    with_reducible refine (HMY.out z36 (Below.next HB3.out HZ36.out.bel)).mono ?_
    rintro e z37 ⟨ac237, cc237, rfl, hx37, hb37⟩
    have HZ37 := Lib.hid ((HZ36.out).call2 hb37 hx37)
    clear hx37 hb37
    go_simp
    refine hK.out _ _ HZ37.out.bel (fun hh => ?_)
    clear hh hK K; try simp only [Act.put, List.setIfInBounds_toArray, List.set_cons_zero, List.set_cons_succ]
    refine held_ready (rs := [6]) (by kernel_rfl) (by simp) ?_
    refine AllReadyH.cons rfl (fun K hK => ?_) AllReadyH.nil
    go_simp
    have HZ38 := Lib.hid ((HZ37.out).alloc5)
    refine hK.out _ _ HZ38.out.bel (fun hh => ?_)
    clear hh hK K; try simp only [Act.put, List.setIfInBounds_toArray, List.set_cons_zero, List.set_cons_succ]
    try unfold zEx at HZ38
    generalize hgb38 : z37.heap.size = b38 at HZ38 ⊢
    generalize hgw38 : World.alloc z37 _ = z38 at HZ38 ⊢
    clear hgw38 hgb38
    refine held_ready (rs := [8]) (by kernel_rfl) (by simp) ?_
    refine AllReadyH.cons rfl (fun K hK => ?_) AllReadyH.nil
    go_simp
    obtain ⟨⟨x0, x1⟩, x2, x3⟩ := open2 ((HZ38.out).b5 _ rfl).1
    go_simp
    have hfin := fun (U1 U2 : World) => (HZ38.out).fin (W1 := U1) (W2 := U2)
    have HFIN := Lib.hid hfin
    clear hfin x0 x1 x2 x3
    generalize hU39 : World.setCell (World.setCell z38 _ _) _ _ = U39
    obtain ⟨k6, kb⟩ := (HFIN.out U39 _ hU39.symm rfl).1
    refine hK.out _ _ kb (fun hh => ?_)
    clear hh hK K; try simp only [Act.put, List.setIfInBounds_toArray, List.set_cons_zero, List.set_cons_succ]
    refine held_ready (rs := [9]) (by kernel_rfl) (by simp) ?_
    refine AllReadyH.cons rfl (fun K hK => ?_) AllReadyH.nil
    obtain ⟨⟨x0, x1⟩, x2, x3⟩ := open2 k6
    go_simp
    clear x0 x1 x2 x3
    generalize hV39 : World.setCell (World.setCell U39 _ _) _ _ = V39
    have hTB := (HFIN.out U39 V39 hU39.symm hV39.symm).2
    refine hK.out _ _ hTB.bel (fun hh => ?_)
    clear hh hK K; try simp only [Act.put, List.setIfInBounds_toArray, List.set_cons_zero, List.set_cons_succ]
    refine wpAnyH_done (by kernel_rfl) (NoPanic.normal ?_) _
    clear hU39 hV39 HFIN k6 kb HZ38
    go_wp2_with fail
    go_meet
    exact hTB
    go_simp
    have HZ40 := Lib.hid ((HZ36.out).alloc5)
    refine hK.out _ _ HZ40.out.bel (fun hh => ?_)
    clear hh hK K; try simp only [Act.put, List.setIfInBounds_toArray, List.set_cons_zero, List.set_cons_succ]
    try unfold zEx at HZ40
    generalize hgb40 : z36.heap.size = b40 at HZ40 ⊢
    generalize hgw40 : World.alloc z36 _ = z40 at HZ40 ⊢
    clear hgw40 hgb40
    refine held_ready (rs := [5]) (by kernel_rfl) (by simp) ?_
    refine AllReadyH.cons rfl (fun K hK => ?_) AllReadyH.nil
    go_simp
    with_reducible refine (HMY.out z40 (Below.next HB3.out HZ40.out.bel)).mono ?_
    rintro e z41 ⟨ac241, cc241, rfl, hx41, hb41⟩
    have HZ41 := Lib.hid ((HZ40.out).call2 hb41 hx41)
    clear hx41 hb41
    go_simp
    refine hK.out _ _ HZ41.out.bel (fun hh => ?_)
    clear hh hK K; try simp only [Act.put, List.setIfInBounds_toArray, List.set_cons_zero, List.set_cons_succ]
    refine held_ready (rs := [8]) (by kernel_rfl) (by simp) ?_
    refine AllReadyH.cons rfl (fun K hK => ?_) AllReadyH.nil
    go_simp
    obtain ⟨⟨x0, x1⟩, x2, x3⟩ := open2 ((HZ41.out).b5 _ rfl).1
    go_simp
    have hfin := fun (U1 U2 : World) => (HZ41.out).fin (W1 := U1) (W2 := U2)
    have HFIN := Lib.hid hfin
    clear hfin x0 x1 x2 x3
    generalize hU42 : World.setCell (World.setCell z41 _ _) _ _ = U42
    obtain ⟨k6, kb⟩ := (HFIN.out U42 _ hU42.symm rfl).1
    refine hK.out _ _ kb (fun hh => ?_)
    clear hh hK K; try simp only [Act.put, List.setIfInBounds_toArray, List.set_cons_zero, List.set_cons_succ]
    refine held_ready (rs := [9]) (by kernel_rfl) (by simp) ?_
    refine AllReadyH.cons rfl (fun K hK => ?_) AllReadyH.nil
    obtain ⟨⟨x0, x1⟩, x2, x3⟩ := open2 k6
    go_simp
    clear x0 x1 x2 x3
    generalize hV42 : World.setCell (World.setCell U42 _ _) _ _ = V42
    have hTB := (HFIN.out U42 V42 hU42.symm hV42.symm).2
    refine hK.out _ _ hTB.bel (fun hh => ?_)
    clear hh hK K; try simp only [Act.put, List.setIfInBounds_toArray, List.set_cons_zero, List.set_cons_succ]
    refine wpAnyH_done (by kernel_rfl) (NoPanic.normal ?_) _
    clear hU42 hV42 HFIN k6 kb HZ41
    go_wp2_with fail
    go_meet
    exact hTB
    go_simp
    have HZ43 := Lib.hid ((HZ35.out).alloc5)
    refine hK.out _ _ HZ43.out.bel (fun hh => ?_)
    clear hh hK K; try simp only [Act.put, List.setIfInBounds_toArray, List.set_cons_zero, List.set_cons_succ]
    try unfold zEx at HZ43
    generalize hgb43 : z35.heap.size = b43 at HZ43 ⊢
    generalize hgw43 : World.alloc z35 _ = z43 at HZ43 ⊢
    clear hgw43 hgb43
    refine held_ready (rs := [2]) (by kernel_rfl) (by simp) ?_
    refine AllReadyH.cons rfl (fun K hK => ?_) AllReadyH.nil
    go_simp
    with_reducible refine (HMX.out z43 (Below.next HB3.out HZ43.out.bel)).mono ?_
    rintro e z44 ⟨ac144, cc144, rfl, hx44, hb44⟩
    have HZ44 := Lib.hid ((HZ43.out).call1 hb44 hx44)
    clear hx44 hb44
    go_simp
    refine hK.out _ _ HZ44.out.bel (fun hh => ?_)
    clear hh hK K; try simp only [Act.put, List.setIfInBounds_toArray, List.set_cons_zero, List.set_cons_succ]
    refine held_ready (rs := [5]) (by kernel_rfl) (by simp) ?_
    refine AllReadyH.cons rfl (fun K hK => ?_) AllReadyH.nil
    go_simp
    with_reducible refine (HMY.out z44 (Below.next HB3.out HZ44.out.bel)).mono ?_
    rintro e z45 ⟨ac245, cc245, rfl, hx45, hb45⟩
    have HZ45 := Lib.hid ((HZ44.out).call2 hb45 hx45)
    clear hx45 hb45
    go_simp
    refine hK.out _ _ HZ45.out.bel (fun hh => ?_)
    clear hh hK K; try simp only [Act.put, List.setIfInBounds_toArray, List.set_cons_zero, List.set_cons_succ]
    refine held_ready (rs := [8]) (by kernel_rfl) (by simp) ?_
    refine AllReadyH.cons rfl (fun K hK => ?_) AllReadyH.nil
    go_simp
    obtain ⟨⟨x0, x1⟩, x2, x3⟩ := open2 ((HZ45.out).b5 _ rfl).1
    go_simp
    have hfin := fun (U1 U2 : World) => (HZ45.out).fin (W1 := U1) (W2 := U2)
    have HFIN := Lib.hid hfin
    clear hfin x0 x1 x2 x3
    generalize hU46 : World.setCell (World.setCell z45 _ _) _ _ = U46
    obtain ⟨k6, kb⟩ := (HFIN.out U46 _ hU46.symm rfl).1
    refine hK.out _ _ kb (fun hh => ?_)
    clear hh hK K; try simp only [Act.put, List.setIfInBounds_toArray, List.set_cons_zero, List.set_cons_succ]
    refine held_ready (rs := [9]) (by kernel_rfl) (by simp) ?_
    refine AllReadyH.cons rfl (fun K hK => ?_) AllReadyH.nil
    obtain ⟨⟨x0, x1⟩, x2, x3⟩ := open2 k6
    go_simp
    clear x0 x1 x2 x3
    generalize hV46 : World.setCell (World.setCell U46 _ _) _ _ = V46
    have hTB := (HFIN.out U46 V46 hU46.symm hV46.symm).2
    refine hK.out _ _ hTB.bel (fun hh => ?_)
    clear hh hK K; try simp only [Act.put, List.setIfInBounds_toArray, List.set_cons_zero, List.set_cons_succ]
    refine wpAnyH_done (by kernel_rfl) (NoPanic.normal ?_) _
    clear hU46 hV46 HFIN k6 kb HZ45
    go_wp2_with fail
    go_meet
    exact hTB

  case rest =>
    obtain ⟨⟨b5, b6, a1, c1, a2, c2, rfl, rfl, e5, e6, x1, x2⟩, hbc⟩ := hcut
    have HBC := Lib.hid (Below.next HB3.out hbc)
    have HK : Hid (∀ u : World, Below wc.heap.size wc u → (u.cell? ⟨b5, 0, none⟩ = some (.slice a1 X.nodes.length c1) ∧ u.cell? ⟨b5, 1, none⟩ = some (.int .i64 X.root)) ∧ (u.cell? ⟨b6, 0, none⟩ = some (.slice a2 Y.nodes.length c2) ∧ u.cell? ⟨b6, 1, none⟩ = some (.int .i64 Y.root)) ∧ (u.cell? ⟨w.heap.size + 1, 0, none⟩ = some (.slice at' nt ct) ∧ u.cell? ⟨w.heap.size + 1, 1, none⟩ = some (.int .i64 t.root)) ∧ u.cell? ⟨w.heap.size, 2, none⟩ = some (.int .u16 (U bv))) := Lib.hid (fun u hu => by
      obtain ⟨k01, _⟩ := open2 (heap_below hu e5)
      obtain ⟨k23, _⟩ := open2 (heap_below hu e6)
      obtain ⟨k45, _⟩ := open2 (heap_below (Below.next hbc hu) HG3.out.2)
      exact ⟨k01, k23, k45, cell_of_row _ _ 2 _ _ _ (heap_below (Below.next hbc hu) HG3.out.1)⟩)
    have HX1 := Lib.hid x1
    have HX2 := Lib.hid x2
    have HC1 := Lib.hid (HCK.out a1 _ c1 a2 _ c2 wc x1 x2 HBC.out)
    obtain ⟨⟨k0, k1⟩, ⟨k2, k3⟩, ⟨k4, k5⟩, k6⟩ := HK.out wc (Below.refl _ _)
    clear hbc e5 e6 x1 x2 q0 q1 q2 q3 q4
    go_wp2_with fail
    with_reducible refine HC1.out.mono ?_
    rintro e w4 ⟨rfl, b4⟩
    have HB4 := Lib.hid b4
    have HKS := Lib.hid (fun (u : World) (hu : Below w4.heap.size w4 u) => HK.out u (Below.next HB4.out hu))
    have HC2 := Lib.hid (fun (u : World) (hu : Below w4.heap.size w4 u) => HRC.out a1 _ c1 a2 _ c2 u (HX1.out.below (Below.next HB4.out hu)) (HX2.out.below (Below.next HB4.out hu)) (Below.next HBC.out (Below.next HB4.out hu)))
    have hvv : (V == V) = true := by simp
    have hvn : (V != V) = false := by simp
    clear b4 k0 k1 k2 k3 k4 k5 k6
    go_wp2_with fail
    refine wp_region_quiet (C := fun y => Below w4.heap.size w4 y) (by kernel_rfl) (by kernel_rfl) (below_drew (Below.refl _ _)) ?_
    repeat (refine wpQuiet_step (fun K hK => ?_); go_simp; (first | (refine hK _ ?_; clear hK K) | (apply Exists.intro; refine ⟨fun y hy => ?_, hK _ ?_⟩; (first | with_reducible exact rfl | with_reducible exact ⟨rfl, hy⟩ | with_reducible exact ⟨rfl, rfl⟩ | ((with_reducible refine (HC2.out y hy).mono ?_); (rintro e w3 ⟨rfl, h3⟩; exact ⟨rfl, Below.next hy h3⟩)) | ((with_reducible refine (HSZ.out y).mono ?_); (rintro e w3 ⟨rfl, h3⟩; exact ⟨rfl, Below.next hy h3⟩)) | (obtain ⟨⟨k0, k1⟩, ⟨k2, k3⟩, ⟨k4, k5⟩, k6⟩ := HKS.out y hy; go_simp; first | with_reducible exact rfl | with_reducible exact ⟨rfl, hy⟩ | with_reducible exact hy)); clear hK K)))
    refine wpQuiet_nil ?_
    intro wq hwq
    have HBQ := Lib.hid hwq
    have HB4Q := Lib.hid (Below.next HB4.out hwq)
    obtain ⟨⟨k0, k1⟩, ⟨k2, k3⟩, ⟨k4, k5⟩, k6⟩ := HKS.out wq hwq
    have HF1 := Lib.hid (HFX.out a1 _ c1 wq (HX1.out.below HB4Q.out))
    clear hwq hvv hvn HC2
    cases V
    · go_wp2_with fail
      go_ret
      exact ⟨rfl, Below.next HBC.out HB4Q.out⟩
    · have HLT := HLW.out rfl
      go_wp2_with fail
      with_reducible refine HF1.out.mono ?_
      rintro e w5 ⟨af, cf, rfl, rf, b5'⟩
      have HB5 := Lib.hid (Below.next HB4Q.out b5')
      have HRF := Lib.hid rf
      have HF2 := Lib.hid (HFY.out a2 _ c2 w5 (HX2.out.below HB5.out))
      obtain ⟨⟨k0, k1⟩, ⟨k2, k3⟩, ⟨k4, k5⟩, k6⟩ := HK.out w5 HB5.out
      clear rf b5'
      go_wp2_with fail
      with_reducible refine HF2.out.mono ?_
      rintro e w6 ⟨ag, cg, rfl, rg, b6'⟩
      have HB6 := Lib.hid (Below.next HB5.out b6')
      have HFM := Lib.hid (rfamilies_c FX FY bv af LX cf ag LY cg w6 (HRF.out.below b6') rg)
      obtain ⟨⟨k0, k1⟩, ⟨k2, k3⟩, ⟨k4, k5⟩, k6⟩ := HK.out w6 HB6.out
      rw [HLT] at HFM
      clear rg b6'
      go_wp2_with fail
      with_reducible refine HFM.out.mono ?_
      rintro e w7 ⟨rfl, b7⟩
      have HB7 := Lib.hid (Below.next HBC.out (Below.next HB6.out b7))
      clear b7
      go_wp2_with fail
      go_ret
      exact ⟨rfl, HB7.out⟩
end Go.Proofs.YtflpkkebampmfaaGreatDoor
