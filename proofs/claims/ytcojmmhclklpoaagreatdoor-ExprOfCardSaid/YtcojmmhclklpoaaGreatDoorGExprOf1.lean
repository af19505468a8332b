/- Texts laid together. The reference's Holds of layer 10. The reference's node of layer 10 (printed by rnd.py). The reference's Valid of layer 10. The reference of layer 8: Size, Before, Contains, Range, Accepts, Support, Valid. Eval, the program's and the reference's. Handed drafts, as a law's frame opens them. Handed trees, choices, expressions, descriptions, as a law's frame opens them. Layer 10: the law Eval, walked. Layer 20, plain: pairs of sets that violate; the lists of both. No program. Layer 20, plain: what the laws of certificates say. No program. The reference's Servers and Family of layer 10. Layer 10: the law Family, walked. -/
import Derived.Test.YtcojmmhclklpoaaGreatDoorGC1
import Derived.Test.YtcojmmhclklpoaaGreatDoorGC2
import Derived.Test.YtcojmmhclklpoaaGreatDoorGC3
import Derived.Test.YtcojmmhclklpoaaGreatDoorGC4
import Derived.Test.YtcojmmhclklpoaaGreatDoorGC5
import Derived.Test.YtcojmmhclklpoaaGreatDoorGC6
import Derived.Test.YtcojmmhclklpoaaGreatDoorGC10
import Derived.Test.YtcojmmhclklpoaaGreatDoorProg
import Derived.Deep.OwnRows
import Derived.OpenShut
import Derived.Deep.Slices
import Derived.Deep.Fields
import Derived.ChangeSame
namespace Go.Proofs.YtcojmmhclklpoaaGreatDoor
open Go.RowKit Go.Shelf

theorem Tryz.infoBl : (Tryz.prog.info? 4).map (fun i => (i.zero, i.size, i.bytes)) = some (some (.bool false), 1, 1) := by kernel_rfl
theorem make_bool (m : Nat) (hm : m ≤ 1000000) : ∀ w, (Instr.makeSlice 78 (.int .i64 m) (.int .i64 m)).run Tryz.prog w = .ok (.slice (some ⟨w.heap.size, 0, none⟩) m m) (w.alloc (.cells (madeCells #[.bool false] m) 4)) :=
  fun w => run_make_row' 78 4 (.bool false) 1 Tryz.underlying78 Tryz.infoBl rfl .i64 .i64 m (by omega) (by omega) w
/-- so many places, the first ones filled -/
def isN (n : Nat) (l : List Bool) : Array Value := ((l ++ List.replicate (n - l.length) false).map Value.bool).toArray
theorem isN_made (n : Nat) : madeCells #[.bool false] n = isN n [] := by
  apply Array.toList_inj.1
  rw [toList_madeCells_one]; unfold isN; simp
theorem isN_at {n : Nat} {l : List Bool} (h : l.length ≤ n) {i : Nat} (hi : i < n) : (isN n l)[i]? = some (.bool (l.getD i false)) := by
  unfold isN
  rw [List.getElem?_toArray, List.getElem?_map, List.getD_eq_getElem?_getD]
  by_cases h1 : i < l.length
  · rw [List.getElem?_append_left h1, List.getElem?_eq_getElem h1]; rfl
  · rw [List.getElem?_append_right (by omega), List.getElem?_replicate, if_pos (by omega), List.getElem?_eq_none (by omega)]; rfl
theorem isN_set {n : Nat} {l : List Bool} (h : l.length < n) (v : Bool) : (isN n l).setIfInBounds l.length (.bool v) = isN n (l ++ [v]) := by
  unfold isN
  rw [List.setIfInBounds_toArray]
  congr 1
  have e : n - l.length = (n - (l ++ [v]).length) + 1 := by simp; omega
  rw [e, List.replicate_succ, List.map_append, List.map_append, List.map_append, List.map_cons, List.set_append_right _ _ (by simp)]
  simp

set_option maxRecDepth 100000 in
set_option maxHeartbeats 4000000 in
theorem rholds_c (x : Xpr) (hx : XprOk x) (hf : XprFew x) (s : BitVec 16) (a : Option Addr) (n c : Nat) (w : World) (h : XM w a n c x.nodes) :
    Calls Tryz.prog 21 #[.agg #[.slice a n c, .int .i64 x.root], .int .u16 (U s)] w fun e w' => e = .returned (.bool (holdX x s)) ∧ Below w.heap.size w w' := by
  obtain ⟨r, hr⟩ := Int.eq_ofNat_of_zero_le hx.root.1
  have hrn : r < n := by have h1 := hx.root.2; have h2 := h.len; omega
  have hle := h.le
  have hm := h.max
  have hn60 : n ≤ 60 := by have h1 := hx.most; have h2 := h.len; omega
  unfold maxLen at hm
  have HV : Hid (holdX x s = (holdTo x.nodes s n).getD r false) := Lib.hid (by unfold holdX; rw [hr, Int.toNat_natCast, h.len])
  rw [hr]
  have HX := Lib.hid h
  have HO := Lib.hid hx
  have HF := Lib.hid hf
  have HN := Lib.hid h.len
  clear h hx hf hr
  have hmk := make_bool n (by omega)
  obtain ⟨W2, hW2⟩ : ∃ W2, W2 = w.alloc (.cells #[.slice a n c, .int .i64 r] 32) := ⟨_, rfl⟩
  obtain ⟨W3, hW3⟩ : ∃ W3, W3 = W2.alloc (.cells (madeCells #[.bool false] n) 4) := ⟨_, rfl⟩
  have hs2 : W2.heap.size = w.heap.size + 1 := by rw [hW2]; simp
  have hs3 : W3.heap.size = w.heap.size + 2 := by rw [hW3, hW2]; simp
  have hb3 : Below w.heap.size w W3 := by rw [hW3, hW2]; exact ((Below.refl _ w).alloc (Nat.le_refl _) _).alloc (by simp) _
  have g0 : W3.heap[w.heap.size]? = some (.cells #[.slice a n c, .int .i64 r] 32 (0, 0)) := by rw [hW3, hW2]; exact heap_alloc_at (heap_alloc_new _ _) _
  have g1 : W3.heap[w.heap.size + 1]? = some (.cells (isN n []) 4 (0, 0)) := by rw [hW3, ← hs2, isN_made]; exact heap_alloc_new _ _
  have G0 := Lib.hid g0
  have G1 := Lib.hid g1
  have HB3 := Lib.hid hb3
  have HS3 := Lib.hid hs3
  clear g0 g1 hb3 hs3
  go_enter Tryz.func21, Tryz.ntmps21
  go_wp2_with fail
  rw [← hW2]
  try simp only [hs2]
  rw [← hW3]
  clear hW3 hW2 hs2 hmk
  go_loopw [6] (fun i wr => ∃ k : Nat, k ≤ n ∧ i = .int .i64 k ∧ wr.heap[w.heap.size + 1]? = some (.cells (isN n (holdTo x.nodes s k)) 4 (0, 0)) ∧ wr.heap[w.heap.size]? = some (.cells #[.slice a n c, .int .i64 r] 32 (0, 0)) ∧ w.heap.size + 2 ≤ wr.heap.size ∧ Below w.heap.size w wr) (fun i _ => n - (intOf i).toNat)
  case atStart => exact ⟨0, Nat.zero_le _, rfl, G1.out, G0.out, by rw [HS3.out]; exact Nat.le_refl _, HB3.out⟩
  case round =>
    obtain ⟨k, hk, rfl, e1, e0, hsz, hb⟩ := hrel
    by_cases hlt : k < n
    · obtain ⟨nd, hnd⟩ : ∃ nd, x.nodes[k]? = some nd := ⟨_, List.getElem?_eq_getElem (by have := HN.out; omega)⟩
      obtain ⟨b', o', ha, hat⟩ := (HX.out.below hb).at' (by omega)
      have hM := hat k nd hnd
      obtain ⟨a3, n3, c3, m3, r3⟩ := hM.ws
      obtain ⟨a4, n4, c4, m4, r4⟩ := hM.ks
      have m0 := hM.c0
      have m1 := hM.c1
      have m2 := hM.c2
      have HOK := Lib.hid (HO.out.node k nd hnd)
      have hfew := HF.out k nd hnd
      have HST : Hid (holdTo x.nodes s (k + 1) = holdTo x.nodes s k ++ [valN nd (holdTo x.nodes s k) s]) := Lib.hid (by
        rw [holdTo]
        rw [show x.nodes.getD k nod0 = nd by rw [List.getD_eq_getElem?_getD, hnd]; rfl])
      have HL := Lib.hid (holdTo_len x.nodes s k)
      obtain ⟨I, hI⟩ : ∃ I, holdTo x.nodes s k = I := ⟨_, rfl⟩
      rw [hI] at e1 HST HL
      obtain ⟨kind, server, need, ws, ks⟩ := nd
      simp only at m0 m1 m2 hfew r3 r4
      have R3 := Lib.hid r3
      have R4 := Lib.hid r4
      have HB := Lib.hid hb
      have q0 := cell_of_row _ _ 0 _ _ _ e0
      have ea := heap_alloc_at e1 (Obj.cells #[.int .i64 kind, .int .i64 server, .int .i64 need, .slice a3 n3 c3, .slice a4 n4 c4] 71)
      have ea0 := heap_alloc_at e0 (Obj.cells #[.int .i64 kind, .int .i64 server, .int .i64 need, .slice a3 n3 c3, .slice a4 n4 c4] 71)
      have en := heap_alloc_new wr (Obj.cells #[.int .i64 kind, .int .i64 server, .int .i64 need, .slice a3 n3 c3, .slice a4 n4 c4] 71)
      have hbn : Below wr.heap.size wr (wr.alloc (Obj.cells #[.int .i64 kind, .int .i64 server, .int .i64 need, .slice a3 n3 c3, .slice a4 n4 c4] 71)) := (Below.refl _ wr).alloc (Nat.le_refl _) _
      have hlk : ks.length = n4 := by have := R4.out.len; simp at this; omega
      have hle4 := R4.out.le
      have hm4 := R4.out.max
      unfold maxLen at hm4
      subst ha
      clear hM r3 r4 hat hnd hI hb
      go_wp2_with fail
      generalize hWA : wr.alloc _ = WA
      rw [hWA] at ea ea0 en hbn
      have EA := Lib.hid ea
      have EA0 := Lib.hid ea0
      have EN := Lib.hid en
      have HBN := Lib.hid hbn
      have HSA : Hid (w.heap.size + 2 ≤ WA.heap.size ∧ wr.heap.size < WA.heap.size) := Lib.hid (by rw [← hWA]; simp; omega)
      clear hWA ea ea0 en hbn e0 e1 m0 m1 m2 m3 m4 q0
      obtain ⟨W0, hW0⟩ : ∃ W0, W0 = wr := ⟨_, rfl⟩
      subst hW0
      go_loopw [8, 9] (fun v i wq => ∃ j : Nat, j ≤ n4 ∧ i = .int .i64 j ∧ v = .int .i64 (gotTo ⟨kind, server, need, ws, ks⟩ I j) ∧ Below WA.heap.size WA wq) (fun _ i _ => n4 - (intOf i).toNat)
      case atStart => exact ⟨0, Nat.zero_le _, rfl, rfl, Below.refl _ _⟩
      case round =>
        obtain ⟨j, hj, rfl, rfl, hbq⟩ := hrel
        have eqn := heap_below hbq EN.out
        have p0 := cell_of_row _ _ 0 _ _ _ eqn
        have p1 := cell_of_row _ _ 1 _ _ _ eqn
        have p2 := cell_of_row _ _ 2 _ _ _ eqn
        have p3 := cell_of_row _ _ 3 _ _ _ eqn
        have p4 := cell_of_row _ _ 4 _ _ _ eqn
        by_cases hltj : j < n4
        · obtain ⟨z, hz⟩ : ∃ z, ks[j]? = some z := ⟨_, List.getElem?_eq_getElem (by omega)⟩
          have hzr := HOK.out.kids z (List.mem_of_getElem? hz)
          obtain ⟨kd, rfl⟩ := Int.eq_ofNat_of_zero_le hzr.1
          have hkd2 : kd < k := by omega
          obtain ⟨b4, o4, ha4, hcell4⟩ := (R4.out.below (Below.next HBN.out hbq)).at' (by omega)
          have q4 := hcell4 j (.int .i64 kd) (by rw [List.getElem?_map, hz]; rfl)
          have eq1 := heap_below hbq EA.out
          have q1 := cell_of_row _ _ kd _ _ _ eq1 |>.trans (isN_at (by have := HL.out; omega) (by omega))
          have hgs : gotTo ⟨kind, server, need, ws, ks⟩ I (j + 1) = gotTo ⟨kind, server, need, ws, ks⟩ I j + (if I.getD kd false = true then wgtN ⟨kind, server, need, ws, ks⟩ j else 0) := by
            rw [gotTo]
            show _ + (if I.getD ((ks.getD j 0).toNat) false = true then _ else _) = _
            rw [show ks.getD j 0 = (kd : Int) by rw [List.getD_eq_getElem?_getD, hz]; rfl, Int.toNat_natCast]
          have hgb := got_bd HOK.out I j
          have hwb := wgt_pos HOK.out j
          subst ha4
          cases hi : I.getD kd false
          · rw [hi] at q1 hgs
            rw [if_neg (by decide), Int.add_zero] at hgs
            have HGS := Lib.hid hgs
            clear hcell4 hz hgs hi hgb hwb hzr eq1 eqn
            go_wp2_with fail
            go_roundw
            case rel => exact ⟨j + 1, by omega, by go_num, by rw [HGS.out], hbq⟩
            case measure => simp [intOf]; omega
          · rw [hi] at q1 hgs
            rw [if_pos rfl] at hgs
            have HW : Hid (∀ y, Below W0.heap.size W0 y → Calls Tryz.prog 53 #[.agg #[.int .i64 kind, .int .i64 server, .int .i64 need, .slice a3 n3 c3, .slice (some ⟨b4, o4, none⟩) n4 c4], .int .i64 j] y fun e w' => e = .returned (.int .i64 (wgtN ⟨kind, server, need, ws, ks⟩ j)) ∧ Below y.heap.size y w') :=
              Lib.hid (fun y hy => rwgt_c ⟨kind, server, need, ws, ks⟩ j a3 n3 c3 (some ⟨b4, o4, none⟩) n4 c4 y (R3.out.below hy) (by
                rcases HOK.out.arity with h | h
                · exact .inl h
                · right; rw [h]; show j < ks.length; omega))
            obtain ⟨S, hS⟩ : ∃ S, gotTo ⟨kind, server, need, ws, ks⟩ I j = S := ⟨_, rfl⟩
            obtain ⟨G, hG⟩ : ∃ G, wgtN ⟨kind, server, need, ws, ks⟩ j = G := ⟨_, rfl⟩
            rw [hS] at hgs hgb ⊢
            rw [hG] at hgs hwb HW
            have hwr2 : wrap64 (S + G) = S + G := by unfold wrap64; omega
            have HGS := Lib.hid hgs
            have HBQ := Lib.hid hbq
            clear hcell4 hz hgs hi hgb hwb hzr eq1 eqn hS hG hbq
            go_wp2_with fail
            refine (HW.out _ (Below.next HBN.out HBQ.out)).mono ?_
            rintro e w5 ⟨rfl, hb5⟩
            have hb6 := Below.next HBQ.out hb5
            go_wp2_with fail
            go_roundw
            case rel => exact ⟨j + 1, by omega, by go_num, by rw [HGS.out, hwr2], hb6⟩
            case measure => simp [intOf]; omega
        · obtain rfl : j = n4 := by omega
          have eq1 := heap_below hbq EA.out
          have q1 := cell_of_row _ _ k _ _ _ eq1 |>.trans (isN_at (by have := HL.out; omega) (by omega))
          have z1 := frozen_row eq1 k
          have EQ1 := Lib.hid eq1
          have EQ0 := Lib.hid (heap_below hbq EA0.out)
          have HBF := Lib.hid (Below.next HB.out (Below.next HBN.out hbq))
          have HSQ := Lib.hid hbq.size
          obtain ⟨sv, hsv⟩ := Int.eq_ofNat_of_zero_le HOK.out.server.1
          have hs12 := HOK.out.server.2
          simp only at hsv hs12
          subst hsv
          have hhas : hasI s (sv : Int) = hasB s sv := by unfold hasI; rw [decide_eq_true (by omega), decide_eq_true (by omega)]; rfl
          have HVN : Hid (valN ⟨kind, (sv : Int), need, ws, ks⟩ I s = if kind = 1 then hasB s sv else decide (need ≤ gotTo ⟨kind, (sv : Int), need, ws, ks⟩ I j)) := Lib.hid (by unfold valN; simp only [hlk]; rfl)
          rw [HVN.out] at HST
          obtain ⟨S, hS⟩ : ∃ S, gotTo ⟨kind, (sv : Int), need, ws, ks⟩ I j = S := ⟨_, rfl⟩
          rw [hS] at HST ⊢
          have HH : Hid (∀ y, Calls Tryz.prog 54 #[.int .u16 (U s), .int .i64 (sv : Int)] y fun e w' => e = .returned (.bool (hasB s sv)) ∧ y = w') := Lib.hid (fun y => by rw [← hhas]; exact has_c s _ _ y rfl)
          have hk12 := HOK.out.kind
          simp only at hk12
          clear eqn eq1 hS hbq hhas HVN
          rcases hk12 with rfl | rfl
          · rw [if_pos rfl] at HST
            obtain ⟨V, hV⟩ : ∃ V, hasB s sv = V := ⟨_, rfl⟩
            rw [hV] at HST HH
            clear hV
            cases V
            · go_wp2_with fail
              refine (HH.out _).mono ?_
              rintro e w5 ⟨rfl, rfl⟩
              go_wp2_with fail
              go_roundw
              case rel =>
                have hkl := HL.out
                have hsq := HSQ.out
                have hsa := HSA.out
                refine ⟨k + 1, by omega, by go_num, ?_, ?_, ?_, ?_⟩
                · rw [heap_set_at EQ1.out, HST.out, ← hkl, isN_set (by omega)]
                · exact heap_set_other (by omega) _ _ EQ0.out
                · simp [World.setCell]; omega
                · exact HBF.out.setCell (p := ⟨w.heap.size + 1, k, none⟩) (by show w.heap.size ≤ w.heap.size + 1; omega) _
              case measure => simp [intOf]; omega
            · go_wp2_with fail
              refine (HH.out _).mono ?_
              rintro e w5 ⟨rfl, rfl⟩
              go_wp2_with fail
              go_roundw
              case rel =>
                have hkl := HL.out
                have hsq := HSQ.out
                have hsa := HSA.out
                refine ⟨k + 1, by omega, by go_num, ?_, ?_, ?_, ?_⟩
                · rw [heap_set_at EQ1.out, HST.out, ← hkl, isN_set (by omega)]
                · exact heap_set_other (by omega) _ _ EQ0.out
                · simp [World.setCell]; omega
                · exact HBF.out.setCell (p := ⟨w.heap.size + 1, k, none⟩) (by show w.heap.size ≤ w.heap.size + 1; omega) _
              case measure => simp [intOf]; omega
          · rw [if_neg (by decide)] at HST
            by_cases hns : need ≤ S
            · have hd : decide (need ≤ S) = true := decide_eq_true hns
              rw [hd] at HST
              clear hns
              go_wp2_with fail
              go_roundw
              case rel =>
                have hkl := HL.out
                have hsq := HSQ.out
                have hsa := HSA.out
                refine ⟨k + 1, by omega, by go_num, ?_, ?_, ?_, ?_⟩
                · rw [heap_set_at EQ1.out, HST.out, ← hkl, isN_set (by omega)]
                · exact heap_set_other (by omega) _ _ EQ0.out
                · simp [World.setCell]; omega
                · exact HBF.out.setCell (p := ⟨w.heap.size + 1, k, none⟩) (by show w.heap.size ≤ w.heap.size + 1; omega) _
              case measure => simp [intOf]; omega
            · have hd : decide (need ≤ S) = false := decide_eq_false hns
              rw [hd] at HST
              clear hns
              go_wp2_with fail
              go_roundw
              case rel =>
                have hkl := HL.out
                have hsq := HSQ.out
                have hsa := HSA.out
                refine ⟨k + 1, by omega, by go_num, ?_, ?_, ?_, ?_⟩
                · rw [heap_set_at EQ1.out, HST.out, ← hkl, isN_set (by omega)]
                · exact heap_set_other (by omega) _ _ EQ0.out
                · simp [World.setCell]; omega
                · exact HBF.out.setCell (p := ⟨w.heap.size + 1, k, none⟩) (by show w.heap.size ≤ w.heap.size + 1; omega) _
              case measure => simp [intOf]; omega
    · obtain rfl : k = n := by omega
      have hc := cell_of_row _ _ r _ _ _ e1 |>.trans (isN_at (by rw [holdTo_len]; omega) (by omega))
      rw [← HV.out] at hc
      have hc2 := cell_of_row _ _ 1 _ _ _ e0
      go_wp2_with fail
      go_ret
      exact ⟨rfl, hb⟩
end Go.Proofs.YtcojmmhclklpoaaGreatDoor
namespace Go.Proofs.YtcojmmhclklpoaaGreatDoor
open Go.RowKit Go.Shelf

set_option maxRecDepth 100000 in
set_option maxHeartbeats 8000000 in
theorem rnode_c (nd : Nod) (i0 : Nat) (aw : Option Addr) (nw cw : Nat) (ak : Option Addr) (nk ck : Nat) (w : World) (hsum : nw + nk ≤ 9223372036854775807) (hw : Rd w aw nw cw (nd.weights.map (Value.int .i64))) (hk : Rd w ak nk ck (nd.kids.map (Value.int .i64))) :
    Calls Tryz.prog 79 #[.agg #[.int .i64 nd.kind, .int .i64 nd.server, .int .i64 nd.need, .slice aw nw cw, .slice ak nk ck], .int .i64 i0] w fun e w' => e = .returned (.int .i64 (nodE nd i0)) ∧ Below w.heap.size w w' := by
  have hlw : nd.weights.length = nw := by have := hw.len; simp at this; omega
  have hlk : nd.kids.length = nk := by have := hk.len; simp at this; omega
  have hE := nodE_F nd i0
  rw [hlw, hlk] at hE
  obtain ⟨kind, server, need, ws, ks⟩ := nd
  simp only at hw hk hlw hlk hE ⊢
  obtain ⟨V, hV0⟩ : ∃ V, nodE ⟨kind, server, need, ws, ks⟩ i0 = V := ⟨_, rfl⟩
  rw [hV0] at hE ⊢
  obtain ⟨W2, hW2⟩ : ∃ W2, W2 = w.alloc (Obj.cells #[.int .i64 kind, .int .i64 server, .int .i64 need, .slice aw nw cw, .slice ak nk ck] 71) := ⟨_, rfl⟩
  have hb2 : Below w.heap.size w W2 := by rw [hW2]; exact (Below.refl _ w).alloc (Nat.le_refl _) _
  have hle := hw.le
  have hm := hw.max
  have hle2 := hk.le
  have hm2 := hk.max
  unfold maxLen at hm hm2
  have HV := Lib.hid hE
  have HW := Lib.hid (hw.below hb2)
  have HK := Lib.hid (hk.below hb2)
  have HB2 := Lib.hid hb2
  have HLW := Lib.hid hlw
  have HLK := Lib.hid hlk
  have g2 : W2.heap[w.heap.size]? = some (.cells #[.int .i64 kind, .int .i64 server, .int .i64 need, .slice aw nw cw, .slice ak nk ck] 71 (0, 0)) := by rw [hW2]; exact heap_alloc_new _ _
  have q3 := cell_of_row _ _ 3 _ _ _ g2
  have q4 := cell_of_row _ _ 4 _ _ _ g2
  clear g2 hb2 hE hV0 hw hk hlw hlk
  by_cases k1 : kind = 1
  · subst k1
    by_cases n0 : need = 0
    · subst n0
      by_cases w0 : nw = 0 ∧ nk = 0
      · obtain ⟨w0, c0⟩ := w0
        subst w0 c0
        by_cases t0 : server < 0
        · have d0 : decide (server < 0) = true := decide_eq_true t0
          have hV : Hid (V = 7) := Lib.hid (HV.out.trans (by unfold nodF; rw [if_neg (by omega), if_pos (by omega)]))
          clear t0
          go_enter Tryz.func79, Tryz.ntmps79
          go_wp2_with fail
          go_ret
          exact ⟨ret_int hV.out.symm, by rw [← hW2]; exact HB2.out⟩

        have d0 : decide (server < 0) = false := decide_eq_false t0
        by_cases t1 : (12 : Int) ≤ server
        · have d1 : decide ((12 : Int) ≤ server) = true := decide_eq_true t1
          have hV : Hid (V = 7) := Lib.hid (HV.out.trans (by unfold nodF; rw [if_neg (by omega), if_pos (by omega)]))
          clear t0 t1
          go_enter Tryz.func79, Tryz.ntmps79
          go_wp2_with fail
          go_ret
          exact ⟨ret_int hV.out.symm, by rw [← hW2]; exact HB2.out⟩

        have d1 : decide ((12 : Int) ≤ server) = false := decide_eq_false t1
        go_enter Tryz.func79, Tryz.ntmps79
        go_wp2_with fail
        rw [← hW2]
        clear hW2
        go_loopw [5] (fun i wr => ∃ k : Nat, k ≤ 0 ∧ i = .int .i64 k ∧ Hid (∀ (j : Nat) x, j < k → ws[j]? = some x → hvyB x = false) ∧ W2 = wr) (fun i _ => 0 - (intOf i).toNat)
        case atStart => exact ⟨0, Nat.zero_le _, rfl, Lib.hid (fun j x hj => by omega), rfl⟩
        case round =>
          obtain ⟨k, hk, rfl, hno, rfl⟩ := hrel
          by_cases hlt : k < 0
          · omega
          · have hkn : 0 = k := by omega
            have HHV : Hid (ws.any hvyB = false) := Lib.hid (by
              rw [List.any_eq_false]
              intro x hx
              obtain ⟨j, hj⟩ := List.mem_iff_getElem?.1 hx
              rw [hno.out j x (by have := (List.getElem?_eq_some_iff.1 hj).1; have := HLW.out; omega) hj]; decide)
            clear hno
            subst hkn
            have m0 : ¬ (0 < 0 ∧ 0 ≠ 0) := by omega
            have HM0 := Lib.hid m0
            have f1 : decide (0 < 0) = false := decide_eq_false (by omega)
            have hs : True := trivial
            clear hs
            go_wp2_with fail
            go_loopw [6] (fun i wr => ∃ k : Nat, k ≤ 0 ∧ i = .int .i64 k ∧ Hid (∀ (j : Nat) x, j < k → ks[j]? = some x → unkB i0 x = false) ∧ W2 = wr) (fun i _ => 0 - (intOf i).toNat)
            case atStart => exact ⟨0, Nat.zero_le _, rfl, Lib.hid (fun j x hj => by omega), rfl⟩
            case round =>
              obtain ⟨j, hj, rfl, hno, rfl⟩ := hrel
              by_cases hlt2 : j < 0
              · omega
              · have hkn2 : 0 = j := by omega
                have HUN : Hid (ks.any (unkB i0) = false) := Lib.hid (by
                  rw [List.any_eq_false]
                  intro x hx
                  obtain ⟨l, hl⟩ := List.mem_iff_getElem?.1 hx
                  rw [hno.out l x (by have := (List.getElem?_eq_some_iff.1 hl).1; have := HLK.out; omega) hl]; decide)
                have hV : Hid (V = 0) := Lib.hid (HV.out.trans (by
                  have := HM0.out
                  rw [HUN.out, HHV.out]; unfold nodF; rw [if_neg (by omega), if_neg (by simp; omega), if_neg (by omega), if_neg (by decide)]))
                clear hno
                subst hkn2
                go_wp2_with fail
                go_ret
                exact ⟨ret_int hV.out.symm, HB2.out⟩

      · have hd : decide ((0 : Int) < (nw : Int) + (nk : Int)) = true := decide_eq_true (by omega)
        have hd2 : decide (0 < nw + nk) = true := decide_eq_true (by omega)
        have hwr : wrap64 ((nw : Int) + (nk : Int)) = (nw : Int) + (nk : Int) := by unfold wrap64; omega
        have hV : Hid (V = 1) := Lib.hid (HV.out.trans (by unfold nodF; rw [if_pos (by omega)]))
        clear w0
        go_enter Tryz.func79, Tryz.ntmps79
        go_wp2_with fail
        go_ret
        exact ⟨ret_int hV.out.symm, by rw [← hW2]; exact HB2.out⟩

    · have hd : (need != 0) = true := by simpa using n0
      have hV : Hid (V = 1) := Lib.hid (HV.out.trans (by unfold nodF; rw [if_pos (by omega)]))
      clear n0
      go_enter Tryz.func79, Tryz.ntmps79
      go_wp2_with fail
      go_ret
      exact ⟨ret_int hV.out.symm, by rw [← hW2]; exact HB2.out⟩

  · have hk1 : (kind == 1) = false := by simpa using k1
    have hk1' : (kind != 1) = true := by simpa using k1
    by_cases k2 : kind = 2
    · subst k2
      by_cases s0 : server = 0
      · subst s0
        by_cases t0 : need < 0
        · have d0 : decide (need < 0) = true := decide_eq_true t0
          have hV : Hid (V = 7) := Lib.hid (HV.out.trans (by unfold nodF; rw [if_neg (by omega), if_pos (by omega)]))
          clear t0
          go_enter Tryz.func79, Tryz.ntmps79
          go_wp2_with fail
          go_ret
          exact ⟨ret_int hV.out.symm, by rw [← hW2]; exact HB2.out⟩

        have d0 : decide (need < 0) = false := decide_eq_false t0
        by_cases t1 : (100000 : Int) < need
        · have d1 : decide ((100000 : Int) < need) = true := decide_eq_true t1
          have hV : Hid (V = 7) := Lib.hid (HV.out.trans (by unfold nodF; rw [if_neg (by omega), if_pos (by omega)]))
          clear t0 t1
          go_enter Tryz.func79, Tryz.ntmps79
          go_wp2_with fail
          go_ret
          exact ⟨ret_int hV.out.symm, by rw [← hW2]; exact HB2.out⟩

        have d1 : decide ((100000 : Int) < need) = false := decide_eq_false t1
        go_enter Tryz.func79, Tryz.ntmps79
        go_wp2_with fail
        rw [← hW2]
        clear hW2
        go_loopw [5] (fun i wr => ∃ k : Nat, k ≤ nw ∧ i = .int .i64 k ∧ Hid (∀ (j : Nat) x, j < k → ws[j]? = some x → hvyB x = false) ∧ W2 = wr) (fun i _ => nw - (intOf i).toNat)
        case atStart => exact ⟨0, Nat.zero_le _, rfl, Lib.hid (fun j x hj => by omega), rfl⟩
        case round =>
          obtain ⟨k, hk, rfl, hno, rfl⟩ := hrel
          by_cases hlt : k < nw
          · obtain ⟨x, hx⟩ : ∃ x, ws[k]? = some x := ⟨_, List.getElem?_eq_getElem (by have := HLW.out; omega)⟩
            obtain ⟨bb, oo, ha, hcell⟩ := HW.out.at' (by omega)
            have hc := hcell k (.int .i64 x) (by rw [List.getElem?_map, hx]; rfl)
            subst ha
            have hany : hvyB x = true → V = 7 := fun hb => HV.out.trans (by
              have e : ws.any hvyB = true := List.any_eq_true.2 ⟨x, List.mem_of_getElem? hx, hb⟩
              rw [e]; unfold nodF; rw [if_neg (by omega), if_pos (.inr rfl)])
            have hnx : hvyB x = false → ∀ (j : Nat) y, j < k + 1 → ws[j]? = some y → hvyB y = false := fun hb j y hj hy => by
              by_cases h1 : j < k
              · exact hno.out j y h1 hy
              · obtain rfl : j = k := by omega
                rw [hx] at hy; cases hy; exact hb
            have HANY := Lib.hid hany
            have HNX := Lib.hid hnx
            clear hany hnx hno hcell hx
            by_cases b1 : x < 1
            · have e1 : decide (x < 1) = true := decide_eq_true b1
              have hV := Lib.hid (HANY.out (by unfold hvyB; rw [e1]; rfl))
              clear b1
              go_wp2_with fail
              go_ret
              exact ⟨ret_int hV.out.symm, HB2.out⟩
            have e1 : decide (x < 1) = false := decide_eq_false b1
            by_cases b2 : 1000 < x
            · have e2 : decide (1000 < x) = true := decide_eq_true b2
              have hV := Lib.hid (HANY.out (by unfold hvyB; rw [e2]; simp))
              clear b1 b2
              go_wp2_with fail
              go_ret
              exact ⟨ret_int hV.out.symm, HB2.out⟩
            have e2 : decide (1000 < x) = false := decide_eq_false b2
            have HN := Lib.hid (HNX.out (by unfold hvyB; rw [e1, e2]; rfl))
            clear b1 b2
            go_wp2_with fail
            go_roundw
            case rel => exact ⟨k + 1, by omega, by go_num, HN, by first | trivial | rfl⟩
            case measure => simp [intOf]; omega
          · have hkn : nw = k := by omega
            have HHV : Hid (ws.any hvyB = false) := Lib.hid (by
              rw [List.any_eq_false]
              intro x hx
              obtain ⟨j, hj⟩ := List.mem_iff_getElem?.1 hx
              rw [hno.out j x (by have := (List.getElem?_eq_some_iff.1 hj).1; have := HLW.out; omega) hj]; decide)
            clear hno
            subst hkn
            by_cases m0 : 0 < nw ∧ nw ≠ nk
            · have f1 : decide (0 < nw) = true := decide_eq_true m0.1
              have f2 : ((nw : Nat) : Int) ≠ ((nk : Nat) : Int) := by omega
              have f3 : (((nw : Nat) : Int) != ((nk : Nat) : Int)) = true := by simpa using f2
              have hV : Hid (V = 6) := Lib.hid (HV.out.trans (by rw [HHV.out]; unfold nodF; rw [if_neg (by omega), if_neg (by simp; omega), if_pos (by omega)]))
              clear m0 f2
              go_wp2_with fail
              go_ret
              exact ⟨ret_int hV.out.symm, HB2.out⟩
            have HM0 := Lib.hid m0
            have hsame : (nw = 0 ∨ nw = nk) := by omega
            clear m0
            rcases hsame with hs | hs
            · have f1 : decide (0 < nw) = false := decide_eq_false (by omega)
              have f0 : (nw : Nat) = 0 := hs
              clear hs
              go_wp2_with fail
              go_loopw [6] (fun i wr => ∃ k : Nat, k ≤ nk ∧ i = .int .i64 k ∧ Hid (∀ (j : Nat) x, j < k → ks[j]? = some x → unkB i0 x = false) ∧ W2 = wr) (fun i _ => nk - (intOf i).toNat)
              case atStart => exact ⟨0, Nat.zero_le _, rfl, Lib.hid (fun j x hj => by omega), rfl⟩
              case round =>
                obtain ⟨j, hj, rfl, hno, rfl⟩ := hrel
                by_cases hlt2 : j < nk
                · obtain ⟨x, hx⟩ : ∃ x, ks[j]? = some x := ⟨_, List.getElem?_eq_getElem (by have := HLK.out; omega)⟩
                  obtain ⟨bb, oo, ha, hcell⟩ := HK.out.at' (by omega)
                  have hc := hcell j (.int .i64 x) (by rw [List.getElem?_map, hx]; rfl)
                  subst ha
                  have hany : unkB i0 x = true → V = 4 := fun hb => HV.out.trans (by
                    have e : ks.any (unkB i0) = true := List.any_eq_true.2 ⟨x, List.mem_of_getElem? hx, hb⟩
                    have := HM0.out
                    rw [e, HHV.out]; unfold nodF; rw [if_neg (by omega), if_neg (by simp; omega), if_neg (by omega), if_pos rfl])
                  have hnx : unkB i0 x = false → ∀ (l : Nat) y, l < j + 1 → ks[l]? = some y → unkB i0 y = false := fun hb l y hl hy => by
                    by_cases h1 : l < j
                    · exact hno.out l y h1 hy
                    · obtain rfl : l = j := by omega
                      rw [hx] at hy; cases hy; exact hb
                  have HANY := Lib.hid hany
                  have HNX := Lib.hid hnx
                  clear hany hnx hno hcell hx
                  by_cases b1 : x < 0
                  · have e1 : decide (x < 0) = true := decide_eq_true b1
                    have hV := Lib.hid (HANY.out (by unfold unkB; rw [e1]; rfl))
                    clear b1
                    go_wp2_with fail
                    go_ret
                    exact ⟨ret_int hV.out.symm, HB2.out⟩
                  have e1 : decide (x < 0) = false := decide_eq_false b1
                  by_cases b2 : (i0 : Int) ≤ x
                  · have e2 : decide ((i0 : Int) ≤ x) = true := decide_eq_true b2
                    have hV := Lib.hid (HANY.out (by unfold unkB; rw [e2]; simp))
                    clear b1 b2
                    go_wp2_with fail
                    go_ret
                    exact ⟨ret_int hV.out.symm, HB2.out⟩
                  have e2 : decide ((i0 : Int) ≤ x) = false := decide_eq_false b2
                  have HN := Lib.hid (HNX.out (by unfold unkB; rw [e1, e2]; rfl))
                  clear b1 b2
                  go_wp2_with fail
                  go_roundw
                  case rel => exact ⟨j + 1, by omega, by go_num, HN, by first | trivial | rfl⟩
                  case measure => simp [intOf]; omega
                · have hkn2 : nk = j := by omega
                  have HUN : Hid (ks.any (unkB i0) = false) := Lib.hid (by
                    rw [List.any_eq_false]
                    intro x hx
                    obtain ⟨l, hl⟩ := List.mem_iff_getElem?.1 hx
                    rw [hno.out l x (by have := (List.getElem?_eq_some_iff.1 hl).1; have := HLK.out; omega) hl]; decide)
                  have hV : Hid (V = 0) := Lib.hid (HV.out.trans (by
                    have := HM0.out
                    rw [HUN.out, HHV.out]; unfold nodF; rw [if_neg (by omega), if_neg (by simp; omega), if_neg (by omega), if_neg (by decide)]))
                  clear hno
                  subst hkn2
                  go_wp2_with fail
                  go_ret
                  exact ⟨ret_int hV.out.symm, HB2.out⟩
            · by_cases hz : nw = 0
              · have f1 : decide (0 < nw) = false := decide_eq_false (by omega)
                clear hs
                go_wp2_with fail
                go_loopw [6] (fun i wr => ∃ k : Nat, k ≤ nk ∧ i = .int .i64 k ∧ Hid (∀ (j : Nat) x, j < k → ks[j]? = some x → unkB i0 x = false) ∧ W2 = wr) (fun i _ => nk - (intOf i).toNat)
                case atStart => exact ⟨0, Nat.zero_le _, rfl, Lib.hid (fun j x hj => by omega), rfl⟩
                case round =>
                  obtain ⟨j, hj, rfl, hno, rfl⟩ := hrel
                  by_cases hlt2 : j < nk
                  · obtain ⟨x, hx⟩ : ∃ x, ks[j]? = some x := ⟨_, List.getElem?_eq_getElem (by have := HLK.out; omega)⟩
                    obtain ⟨bb, oo, ha, hcell⟩ := HK.out.at' (by omega)
                    have hc := hcell j (.int .i64 x) (by rw [List.getElem?_map, hx]; rfl)
                    subst ha
                    have hany : unkB i0 x = true → V = 4 := fun hb => HV.out.trans (by
                      have e : ks.any (unkB i0) = true := List.any_eq_true.2 ⟨x, List.mem_of_getElem? hx, hb⟩
                      have := HM0.out
                      rw [e, HHV.out]; unfold nodF; rw [if_neg (by omega), if_neg (by simp; omega), if_neg (by omega), if_pos rfl])
                    have hnx : unkB i0 x = false → ∀ (l : Nat) y, l < j + 1 → ks[l]? = some y → unkB i0 y = false := fun hb l y hl hy => by
                      by_cases h1 : l < j
                      · exact hno.out l y h1 hy
                      · obtain rfl : l = j := by omega
                        rw [hx] at hy; cases hy; exact hb
                    have HANY := Lib.hid hany
                    have HNX := Lib.hid hnx
                    clear hany hnx hno hcell hx
                    by_cases b1 : x < 0
                    · have e1 : decide (x < 0) = true := decide_eq_true b1
                      have hV := Lib.hid (HANY.out (by unfold unkB; rw [e1]; rfl))
                      clear b1
                      go_wp2_with fail
                      go_ret
                      exact ⟨ret_int hV.out.symm, HB2.out⟩
                    have e1 : decide (x < 0) = false := decide_eq_false b1
                    by_cases b2 : (i0 : Int) ≤ x
                    · have e2 : decide ((i0 : Int) ≤ x) = true := decide_eq_true b2
                      have hV := Lib.hid (HANY.out (by unfold unkB; rw [e2]; simp))
                      clear b1 b2
                      go_wp2_with fail
                      go_ret
                      exact ⟨ret_int hV.out.symm, HB2.out⟩
                    have e2 : decide ((i0 : Int) ≤ x) = false := decide_eq_false b2
                    have HN := Lib.hid (HNX.out (by unfold unkB; rw [e1, e2]; rfl))
                    clear b1 b2
                    go_wp2_with fail
                    go_roundw
                    case rel => exact ⟨j + 1, by omega, by go_num, HN, by first | trivial | rfl⟩
                    case measure => simp [intOf]; omega
                  · have hkn2 : nk = j := by omega
                    have HUN : Hid (ks.any (unkB i0) = false) := Lib.hid (by
                      rw [List.any_eq_false]
                      intro x hx
                      obtain ⟨l, hl⟩ := List.mem_iff_getElem?.1 hx
                      rw [hno.out l x (by have := (List.getElem?_eq_some_iff.1 hl).1; have := HLK.out; omega) hl]; decide)
                    have hV : Hid (V = 0) := Lib.hid (HV.out.trans (by
                      have := HM0.out
                      rw [HUN.out, HHV.out]; unfold nodF; rw [if_neg (by omega), if_neg (by simp; omega), if_neg (by omega), if_neg (by decide)]))
                    clear hno
                    subst hkn2
                    go_wp2_with fail
                    go_ret
                    exact ⟨ret_int hV.out.symm, HB2.out⟩
              · have f1 : decide (0 < nw) = true := decide_eq_true (by omega)
                have f3 : (((nw : Nat) : Int) != ((nk : Nat) : Int)) = false := by rw [hs]; simp
                clear hs
                go_wp2_with fail
                go_loopw [6] (fun i wr => ∃ k : Nat, k ≤ nk ∧ i = .int .i64 k ∧ Hid (∀ (j : Nat) x, j < k → ks[j]? = some x → unkB i0 x = false) ∧ W2 = wr) (fun i _ => nk - (intOf i).toNat)
                case atStart => exact ⟨0, Nat.zero_le _, rfl, Lib.hid (fun j x hj => by omega), rfl⟩
                case round =>
                  obtain ⟨j, hj, rfl, hno, rfl⟩ := hrel
                  by_cases hlt2 : j < nk
                  · obtain ⟨x, hx⟩ : ∃ x, ks[j]? = some x := ⟨_, List.getElem?_eq_getElem (by have := HLK.out; omega)⟩
                    obtain ⟨bb, oo, ha, hcell⟩ := HK.out.at' (by omega)
                    have hc := hcell j (.int .i64 x) (by rw [List.getElem?_map, hx]; rfl)
                    subst ha
                    have hany : unkB i0 x = true → V = 4 := fun hb => HV.out.trans (by
                      have e : ks.any (unkB i0) = true := List.any_eq_true.2 ⟨x, List.mem_of_getElem? hx, hb⟩
                      have := HM0.out
                      rw [e, HHV.out]; unfold nodF; rw [if_neg (by omega), if_neg (by simp; omega), if_neg (by omega), if_pos rfl])
                    have hnx : unkB i0 x = false → ∀ (l : Nat) y, l < j + 1 → ks[l]? = some y → unkB i0 y = false := fun hb l y hl hy => by
                      by_cases h1 : l < j
                      · exact hno.out l y h1 hy
                      · obtain rfl : l = j := by omega
                        rw [hx] at hy; cases hy; exact hb
                    have HANY := Lib.hid hany
                    have HNX := Lib.hid hnx
                    clear hany hnx hno hcell hx
                    by_cases b1 : x < 0
                    · have e1 : decide (x < 0) = true := decide_eq_true b1
                      have hV := Lib.hid (HANY.out (by unfold unkB; rw [e1]; rfl))
                      clear b1
                      go_wp2_with fail
                      go_ret
                      exact ⟨ret_int hV.out.symm, HB2.out⟩
                    have e1 : decide (x < 0) = false := decide_eq_false b1
                    by_cases b2 : (i0 : Int) ≤ x
                    · have e2 : decide ((i0 : Int) ≤ x) = true := decide_eq_true b2
                      have hV := Lib.hid (HANY.out (by unfold unkB; rw [e2]; simp))
                      clear b1 b2
                      go_wp2_with fail
                      go_ret
                      exact ⟨ret_int hV.out.symm, HB2.out⟩
                    have e2 : decide ((i0 : Int) ≤ x) = false := decide_eq_false b2
                    have HN := Lib.hid (HNX.out (by unfold unkB; rw [e1, e2]; rfl))
                    clear b1 b2
                    go_wp2_with fail
                    go_roundw
                    case rel => exact ⟨j + 1, by omega, by go_num, HN, by first | trivial | rfl⟩
                    case measure => simp [intOf]; omega
                  · have hkn2 : nk = j := by omega
                    have HUN : Hid (ks.any (unkB i0) = false) := Lib.hid (by
                      rw [List.any_eq_false]
                      intro x hx
                      obtain ⟨l, hl⟩ := List.mem_iff_getElem?.1 hx
                      rw [hno.out l x (by have := (List.getElem?_eq_some_iff.1 hl).1; have := HLK.out; omega) hl]; decide)
                    have hV : Hid (V = 0) := Lib.hid (HV.out.trans (by
                      have := HM0.out
                      rw [HUN.out, HHV.out]; unfold nodF; rw [if_neg (by omega), if_neg (by simp; omega), if_neg (by omega), if_neg (by decide)]))
                    clear hno
                    subst hkn2
                    go_wp2_with fail
                    go_ret
                    exact ⟨ret_int hV.out.symm, HB2.out⟩

      · have hd : (server != 0) = true := by simpa using s0
        have hV : Hid (V = 1) := Lib.hid (HV.out.trans (by unfold nodF; rw [if_pos (by omega)]))
        clear s0
        go_enter Tryz.func79, Tryz.ntmps79
        go_wp2_with fail
        go_ret
        exact ⟨ret_int hV.out.symm, by rw [← hW2]; exact HB2.out⟩

    · have hk2 : (kind == 2) = false := by simpa using k2
      have hk2' : (kind != 2) = true := by simpa using k2
      have hV : Hid (V = 1) := Lib.hid (HV.out.trans (by unfold nodF; rw [if_pos (by omega)]))
      clear k1 k2
      go_enter Tryz.func79, Tryz.ntmps79
      go_wp2_with fail
      go_ret
      exact ⟨ret_int hV.out.symm, by rw [← hW2]; exact HB2.out⟩

end Go.Proofs.YtcojmmhclklpoaaGreatDoor
namespace Go.Proofs.YtcojmmhclklpoaaGreatDoor
open Go.RowKit Go.Shelf

/-- no node has so many weights and kids that their number is none of Go's -/
def XprSum (x : Xpr) : Prop := ∀ (k : Nat) nd, x.nodes[k]? = some nd → nd.weights.length + nd.kids.length ≤ 9223372036854775807

set_option maxRecDepth 100000 in
set_option maxHeartbeats 2000000 in
theorem rvalid10_c (x : Xpr) (hs : XprSum x) (a : Option Addr) (n c : Nat) (w : World) (h : XM w a n c x.nodes) :
    Calls Tryz.prog 39 #[.agg #[.slice a n c, .int .i64 x.root]] w fun e w' => e = .returned (.int .i64 (xprE x)) ∧ Below w.heap.size w w' := by
  obtain ⟨W2, hW2⟩ : ∃ W2, W2 = w.alloc (Obj.cells #[.slice a n c, .int .i64 x.root] 32) := ⟨_, rfl⟩
  have hb2 : Below w.heap.size w W2 := by rw [hW2]; exact (Below.refl _ w).alloc (Nat.le_refl _) _
  have HX := Lib.hid (h.below hb2)
  have HN := Lib.hid h.len
  have HSM := Lib.hid hs
  have hle := h.le
  have hm := h.max
  unfold maxLen at hm
  have HB2 := Lib.hid hb2
  clear h hb2 hs
  by_cases hn0 : n = 0
  · subst hn0
    have hV : Hid (xprE x = 9) := by
      show _ = _; unfold xprE; rw [if_pos (List.eq_nil_of_length_eq_zero HN.out)]
    go_enter Tryz.func39, Tryz.ntmps39
    go_wp2_with fail
    go_ret
    exact ⟨ret_int hV.out.symm, by rw [← hW2]; exact HB2.out⟩
  have hne : ((n : Int) == 0) = false := by rw [beq_eq_false_iff_ne]; omega
  have H0 : Hid (x.nodes ≠ []) := Lib.hid (fun e => by have := HN.out; rw [e] at this; simp at this; omega)
  by_cases h60 : 60 < n
  · have hd : decide ((60 : Int) < (n : Int)) = true := decide_eq_true (by omega)
    have hV : Hid (xprE x = 3) := by
      show _ = _; unfold xprE; rw [if_neg H0.out, if_pos (by have := HN.out; omega)]
    clear hn0 h60
    go_enter Tryz.func39, Tryz.ntmps39
    go_wp2_with fail
    go_ret
    exact ⟨ret_int hV.out.symm, by rw [← hW2]; exact HB2.out⟩
  have hd : decide ((60 : Int) < (n : Int)) = false := decide_eq_false (by omega)
  have H60 : Hid (¬ 60 < x.nodes.length) := by show ¬ _; have := HN.out; omega
  have HR : Hid (∀ y : World, Below W2.heap.size W2 y → y.cell? ⟨w.heap.size, 0, none⟩ = some (.slice a n c) ∧ y.cell? ⟨w.heap.size, 1, none⟩ = some (.int .i64 x.root)) := Lib.hid (fun y hy => by
    have g : W2.heap[w.heap.size]? = some (.cells #[.slice a n c, .int .i64 x.root] 32 (0, 0)) := by rw [hW2]; exact heap_alloc_new _ _
    have g' := heap_below hy g
    exact ⟨cell_of_row _ _ 0 _ _ _ g', cell_of_row _ _ 1 _ _ _ g'⟩)
  go_enter Tryz.func39, Tryz.ntmps39
  go_wp2_with fail
  rw [← hW2]
  clear hW2
  go_loopw [3] (fun i wr => ∃ k : Nat, k ≤ n ∧ i = .int .i64 k ∧ Hid (nodsE x.nodes 0 = nodsE (x.nodes.drop k) k) ∧ Below W2.heap.size W2 wr) (fun i _ => n - (intOf i).toNat)
  case atStart => exact ⟨0, Nat.zero_le _, rfl, Lib.hid (by simp), Below.refl _ _⟩
  case round =>
    obtain ⟨k, hk, rfl, hno, hb⟩ := hrel
    obtain ⟨q0, q1⟩ := HR.out wr hb
    by_cases hlt : k < n
    · obtain ⟨nd, hnd⟩ : ∃ nd, x.nodes[k]? = some nd := ⟨_, List.getElem?_eq_getElem (by have := HN.out; omega)⟩
      obtain ⟨b, o, ha, hat⟩ := (HX.out.below hb).at' (by omega)
      have hM := hat k nd hnd
      obtain ⟨a3, n3, c3, m3, r3⟩ := hM.ws
      obtain ⟨a4, n4, c4, m4, r4⟩ := hM.ks
      have m0 := hM.c0
      have m1 := hM.c1
      have m2 := hM.c2
      subst ha
      have hsm := HSM.out k nd hnd
      have HV : Hid (∀ y, Below wr.heap.size wr y → Calls Tryz.prog 79 #[.agg #[.int .i64 nd.kind, .int .i64 nd.server, .int .i64 nd.need, .slice a3 n3 c3, .slice a4 n4 c4], .int .i64 k] y fun e w' => e = .returned (.int .i64 (nodE nd k)) ∧ Below y.heap.size y w') :=
        Lib.hid (fun y hy => rnode_c nd k a3 n3 c3 a4 n4 c4 y (by have h1 := r3.len; have h2 := r4.len; simp at h1 h2; omega) (r3.below hy) (r4.below hy))
      have HHit : Hid (nodE nd k ≠ 0 → xprE x = nodE nd k) := Lib.hid (fun he => xprE_hit H0.out H60.out hnd hno.out he)
      have HNxt : Hid (nodE nd k = 0 → nodsE x.nodes 0 = nodsE (x.nodes.drop (k + 1)) (k + 1)) := Lib.hid (fun he => xprE_next hnd hno.out he)
      obtain ⟨kind, server, need, ws, ks⟩ := nd
      obtain ⟨E, hE⟩ : ∃ E, nodE ⟨kind, server, need, ws, ks⟩ k = E := ⟨_, rfl⟩
      rw [hE] at HV HHit HNxt
      simp only at m0 m1 m2 HV
      clear hM r3 r4 hat hnd hno hE hsm
      by_cases he : E = 0
      · subst he
        have hN := HNxt.out rfl
        have HN2 := Lib.hid hN
        clear hN HHit HNxt
        go_wp2_with fail
        with_reducible refine (HV.out _ (Below.refl _ _)).mono ?_
        rintro e w5 ⟨rfl, hb5⟩
        have hb6 := Below.next hb hb5
        go_wp2_with fail
        go_roundw
        case rel => exact ⟨k + 1, by omega, by go_num, HN2, hb6⟩
        case measure => simp [intOf]; omega
      · have hV := HHit.out he
        have HV2 := Lib.hid hV
        have hE : (E != 0) = true := by simpa using he
        clear hV HHit HNxt he
        go_wp2_with fail
        with_reducible refine (HV.out _ (Below.refl _ _)).mono ?_
        rintro e w5 ⟨rfl, hb5⟩
        have hb6 := Below.next hb hb5
        go_wp2_with fail
        go_ret
        exact ⟨ret_int HV2.out.symm, Below.next HB2.out hb6⟩
    · obtain rfl : k = n := by omega
      have hV := xprE_end H0.out H60.out HN.out hno.out
      clear hno
      obtain ⟨root, hroot⟩ : ∃ r, x.root = r := ⟨_, rfl⟩
      rw [hroot] at hV q1
      by_cases h1 : root < 0
      · have d1 : decide (root < 0) = true := decide_eq_true h1
        rw [if_pos (.inl h1)] at hV
        have HV := Lib.hid hV
        clear hV h1 hroot
        go_wp2_with fail
        go_ret
        exact ⟨ret_int HV.out.symm, Below.next HB2.out hb⟩
      · have d1 : decide (root < 0) = false := decide_eq_false h1
        by_cases h2 : (k : Int) ≤ root
        · have d2 : decide ((k : Int) ≤ root) = true := decide_eq_true h2
          rw [if_pos (.inr h2)] at hV
          have HV := Lib.hid hV
          clear hV h1 hroot h2
          go_wp2_with fail
          go_ret
          exact ⟨ret_int HV.out.symm, Below.next HB2.out hb⟩
        · have d2 : decide ((k : Int) ≤ root) = false := decide_eq_false h2
          rw [if_neg (by omega)] at hV
          have HV := Lib.hid hV
          clear hV h1 hroot h2
          go_wp2_with fail
          go_ret
          exact ⟨ret_int HV.out.symm, Below.next HB2.out hb⟩
end Go.Proofs.YtcojmmhclklpoaaGreatDoor
namespace Go.Proofs.YtcojmmhclklpoaaGreatDoor
open Go.RowKit Go.Shelf

theorem cntTo_succ (x : BitVec 16) (k : Nat) : (memTo x (k + 1)).length = (memTo x k).length + (if hasB x k then 1 else 0) := by
  rw [memTo_succ]; cases hasB x k <;> simp
@[go_sem] theorem b01_conv (b : Bool) : IntKind.i64.wrap (b01 b) = b01 b := by cases b <;> decide

set_option maxRecDepth 100000 in
set_option maxHeartbeats 1000000 in
theorem size8_c (x : BitVec 16) (w : World) :
    Calls Tryz.prog 118 #[.int .u16 (U x)] w fun e w' => e = .returned (.int .i64 (cnt x)) ∧ w' = w := by
  go_enter Tryz.func118, Tryz.ntmps118
  go_wp2_with fail
  go_loop [3, 4] (fun v i => ∃ (k : Nat) (m : Nat), k ≤ 16 ∧ m ≤ k ∧ i = .int .i64 k ∧ v = .int .i64 m ∧ Hid (m = (memTo x k).length)) (fun _ i => 16 - (intOf i).toNat)
  case atStart => exact ⟨0, 0, Nat.zero_le _, Nat.zero_le _, rfl, rfl, rfl⟩
  case round =>
    obtain ⟨k, m, hk, hmk, rfl, rfl, hm⟩ := hrel
    by_cases hlt : k < 16
    · have HS := Lib.hid (cntTo_succ x k)
      cases hb : hasB x k
      · have HB := Lib.hid hb
        have hb0 : b01 (hasB x k) = 0 := by rw [hb]; rfl
        clear hb
        go_wp2_with fail
        go_round
        case rel => exact ⟨k + 1, m, by omega, by omega, by go_num, by (try go_num), by show _ = _; rw [HS.out, HB.out, hm.out]; rfl⟩
        case measure => simp [intOf]; omega
      · have HB := Lib.hid hb
        have hb0 : b01 (hasB x k) = 1 := by rw [hb]; rfl
        clear hb
        go_wp2_with fail
        go_round
        case rel => exact ⟨k + 1, m + 1, by omega, by omega, by go_num, by go_num, by show _ = _; rw [HS.out, HB.out, hm.out]; rfl⟩
        case measure => simp [intOf]; omega
    · have hE : Hid (m = cnt x) := by
        obtain rfl : k = 16 := by omega
        exact hm.out
      go_wp2_with fail
      go_ret
      exact ⟨ret_int (by rw [hE.out]), rfl⟩

/-- x comes before y -/
def befB (x y : BitVec 16) : Bool := decide (keyS x < keyS y)
theorem bef_ne {x y : BitVec 16} (h : cnt x ≠ cnt y) : befB x y = decide (cnt x < cnt y) := by
  unfold befB keyS; have := x.isLt; have := y.isLt
  rw [Bool.eq_iff_iff, decide_eq_true_iff, decide_eq_true_iff]; omega
theorem bef_eq {x y : BitVec 16} (h : cnt x = cnt y) : befB x y = decide (U x < U y) := by
  unfold befB keyS U
  rw [Bool.eq_iff_iff, decide_eq_true_iff, decide_eq_true_iff]; omega

set_option maxRecDepth 100000 in
set_option maxHeartbeats 1000000 in
theorem before8_c (x y : BitVec 16) (w : World) :
    Calls Tryz.prog 92 #[.int .u16 (U x), .int .u16 (U y)] w fun e w' => e = .returned (.bool (befB x y)) ∧ w' = w := by
  by_cases hc : cnt x = cnt y
  · have HE := Lib.hid (bef_eq hc)
    obtain ⟨m, hm⟩ : ∃ m, cnt x = m := ⟨_, rfl⟩
    have H1 := Lib.hid (fun w => size8_c x w)
    have H2 := Lib.hid (fun w => size8_c y w)
    rw [← hc, hm] at H2
    rw [hm] at H1
    clear hc hm
    go_enter Tryz.func92, Tryz.ntmps92
    go_wp2_with fail
    refine (H1.out _).mono ?_
    rintro e w1 ⟨rfl, rfl⟩
    go_wp2_with fail
    refine (H2.out _).mono ?_
    rintro e w1 ⟨rfl, rfl⟩
    go_wp2_with fail
    go_ret
    exact ⟨ret_bool HE.out.symm, rfl⟩
  · have HE := Lib.hid (bef_ne hc)
    obtain ⟨m, hm⟩ : ∃ m, cnt x = m := ⟨_, rfl⟩
    obtain ⟨m2, hm2⟩ : ∃ m, cnt y = m := ⟨_, rfl⟩
    have H1 := Lib.hid (fun w => size8_c x w)
    have H2 := Lib.hid (fun w => size8_c y w)
    rw [hm2] at H2 HE hc
    rw [hm] at H1 HE hc
    have hne : ((m : Int) != (m2 : Int)) = true := by rw [bne_iff_ne]; omega
    have hcm : decide ((m : Int) < m2) = decide (m < m2) := by rw [Bool.eq_iff_iff, decide_eq_true_iff, decide_eq_true_iff]; omega
    have HCM := Lib.hid hcm
    clear hc hm hm2 hcm
    go_enter Tryz.func92, Tryz.ntmps92
    go_wp2_with fail
    refine (H1.out _).mono ?_
    rintro e w1 ⟨rfl, rfl⟩
    go_wp2_with fail
    refine (H2.out _).mono ?_
    rintro e w1 ⟨rfl, rfl⟩
    go_wp2_with fail
    refine (H1.out _).mono ?_
    rintro e w1 ⟨rfl, rfl⟩
    go_wp2_with fail
    refine (H2.out _).mono ?_
    rintro e w1 ⟨rfl, rfl⟩
    go_wp2_with fail
    go_ret
    exact ⟨ret_bool (by rw [HE.out]; (try first | rfl | exact HCM.out | simp)), rfl⟩

set_option maxHeartbeats 400000 in
theorem contains8_c (x y : BitVec 16) (w : World) :
    Calls Tryz.prog 89 #[.int .u16 (U x), .int .u16 (U y)] w fun e w' => e = .returned (.bool (subB x y)) ∧ w' = w := by
  go_enter Tryz.func89, Tryz.ntmps89
  go_wp2
  go_ret
  exact ⟨rfl, rfl⟩
set_option maxHeartbeats 400000 in
theorem range8_c (x : BitVec 16) (w : World) :
    Calls Tryz.prog 72 #[.int .u16 (U x)] w fun e w' => e = .returned (.bool (decide (U x < 4096))) ∧ w' = w := by
  go_enter Tryz.func72, Tryz.ntmps72
  go_wp2
  go_ret
  exact ⟨rfl, rfl⟩

set_option maxRecDepth 100000 in
set_option maxHeartbeats 1000000 in
theorem accepts8_c (l : List (BitVec 16)) (s : BitVec 16) (a : Option Addr) (n c : Nat) (w : World) (h : Rd w a n c (l.map setV2)) :
    Calls Tryz.prog 48 #[.slice a n c, .int .u16 (U s)] w fun e w' => e = .returned (.bool (accS l s)) ∧ w' = w := by
  have hnl : l.length = n := by have := h.len; simp at this; omega
  have hm := h.max
  have hle := h.le
  unfold maxLen at hm
  have HR := Lib.hid h
  have HN := Lib.hid hnl
  clear h hnl
  go_enter Tryz.func48, Tryz.ntmps48
  go_wp2_with fail
  go_loop [5] (fun i => ∃ k : Nat, k ≤ n ∧ i = .int .i64 k ∧ Hid (∀ j, j < k → subB s (l.getD j 0#16) = false)) (fun i => n - (intOf i).toNat)
  case atStart => exact ⟨0, Nat.zero_le _, rfl, Lib.hid (fun j hj => by omega)⟩
  case round =>
    obtain ⟨k, hk, rfl, hno⟩ := hrel
    by_cases hlt : k < n
    · obtain ⟨b, o, ha, hcell⟩ := HR.out.at' (by omega)
      have hkl : k < l.length := by have := HN.out; omega
      have hc := hcell k _ (at_cell hkl)
      subst ha
      have HC := Lib.hid (contains8_c s (l.getD k 0#16) w)
      cases hq : subB s (l.getD k 0#16)
      · have hno' : Hid (∀ j, j < k + 1 → subB s (l.getD j 0#16) = false) := Lib.hid (fun j hj => by
          by_cases h1 : j < k
          · exact hno.out j h1
          · obtain rfl : j = k := by omega
            exact hq)
        rw [hq] at HC
        obtain ⟨x, hx⟩ : ∃ x, l.getD k 0#16 = x := ⟨_, rfl⟩
        rw [hx] at hc HC
        clear hq hcell hno hx hkl
        go_wp2_with fail
        refine HC.out.mono ?_
        rintro e w1 ⟨rfl, rfl⟩
        go_wp2_with fail
        go_round
        case rel => exact ⟨k + 1, by omega, by go_num, hno'⟩
        case measure => simp [intOf]; omega
      · have hA : Hid (accS l s = true) := any_hit (p := fun x => subB s x) hkl hq
        rw [hq] at HC
        obtain ⟨x, hx⟩ : ∃ x, l.getD k 0#16 = x := ⟨_, rfl⟩
        rw [hx] at hc HC
        clear hq hcell hno hx hkl
        go_wp2_with fail
        refine HC.out.mono ?_
        rintro e w1 ⟨rfl, rfl⟩
        go_wp2_with fail
        go_ret
        exact ⟨ret_bool hA.out.symm, rfl⟩
    · have hA : Hid (accS l s = false) := any_none (p := fun x => subB s x) (fun j hj => hno.out j (by have := HN.out; omega))
      clear hno
      go_wp2_with fail
      go_ret
      exact ⟨ret_bool hA.out.symm, rfl⟩

set_option maxRecDepth 100000 in
set_option maxHeartbeats 1000000 in
theorem support8_c (l : List (BitVec 16)) (a : Option Addr) (n c : Nat) (w : World) (h : Rd w a n c (l.map setV2)) :
    Calls Tryz.prog 66 #[.slice a n c] w fun e w' => e = .returned (.int .u16 (U (supS l))) ∧ w' = w := by
  have hn : n ≤ l.length ∧ l.length ≤ n := by have := h.len; simp at this; omega
  obtain ⟨hn1, hn2⟩ := hn
  have hm := h.max
  have hle := h.le
  unfold maxLen at hm
  go_enter Tryz.func66, Tryz.ntmps66
  go_wp2_with fail
  go_loop [3, 4] (fun v i => ∃ (k : Nat) (s : BitVec 16), k ≤ n ∧ i = .int .i64 k ∧ v = .int .u16 (U s) ∧ Hid (s = supS (l.take k))) (fun _ i => n - (intOf i).toNat)
  case atStart => exact ⟨0, 0#16, Nat.zero_le _, rfl, rfl, rfl⟩
  case round =>
    obtain ⟨k, s, hk, rfl, rfl, hs⟩ := hrel
    by_cases hlt : k < n
    · obtain ⟨b, o, ha, hcell⟩ := h.at' (by omega)
      have hc := hcell k _ (at_cell (by omega))
      have HS := Lib.hid (supS_take (l := l) (k := k) (by omega))
      obtain ⟨x, hx⟩ : ∃ x, l.getD k 0#16 = x := ⟨_, rfl⟩
      rw [hx] at hc HS
      subst ha
      clear hcell h hx
      go_wp2_with fail
      go_round
      case rel => exact ⟨k + 1, s ||| x, by omega, by go_num, rfl, by show _ = _; rw [HS.out, hs.out]⟩
      case measure => simp [intOf]; omega
    · have hE : Hid (l.take k = l) := List.take_of_length_le (by omega)
      clear h
      go_wp2_with fail
      go_ret
      exact ⟨by rw [hs.out, hE.out]; rfl, rfl⟩
end Go.Proofs.YtcojmmhclklpoaaGreatDoor
namespace Go.Proofs.YtcojmmhclklpoaaGreatDoor
open Go.RowKit Go.Shelf

def evalS (x : Xpr) (s : BitVec 16) : Bool × Int := if xprE x ≠ 0 then (false, xprE x) else if 4096 ≤ s.toNat then (false, 7) else (holdX x s, 0)

set_option maxRecDepth 100000 in
set_option maxHeartbeats 1000000 in
theorem evalx_c (x : Xpr) (hf : XprFew x) (s : BitVec 16) (a : Option Addr) (n c : Nat) (w : World) (h : XM w a n c x.nodes) :
    Calls Tryz.prog 33 #[.agg #[.slice a n c, .int .i64 x.root], .int .u16 (U s)] w fun e w' => e = .returned (.tuple #[.bool (evalS x s).1, .int .i64 (evalS x s).2]) ∧ Below w.heap.size w w' := by
  have H1 := Lib.hid (fun (v : World) (hb : Below w.heap.size w v) => xpr_c x a n c v (h.below hb))
  obtain ⟨W2, hW2⟩ : ∃ W2, W2 = w.alloc (.cells #[.slice a n c, .int .i64 x.root] 32) := ⟨_, rfl⟩
  have hb2 : Below w.heap.size w W2 := by rw [hW2]; exact (Below.refl _ w).alloc (Nat.le_refl _) _
  have HB2 := Lib.hid hb2
  by_cases hx : xprE x = 0
  · by_cases hs : 4096 ≤ s.toNat
    · have hR : evalS x s = (false, 7) := by unfold evalS; rw [if_neg (by rw [hx]; simp), if_pos hs]
      rw [hR]
      rw [hx] at H1
      have hd : decide (4096 ≤ U s) = true := decide_eq_true (by unfold U; omega)
      clear h hf hx hR hb2 hs
      go_enter Tryz.func33, Tryz.ntmps33
      go_wp2_with fail
      rw [← hW2]
      refine (H1.out W2 HB2.out).mono ?_
      rintro e w1 ⟨rfl, hb1⟩
      go_wp2_with fail
      go_ret2
      exact ⟨rfl, Below.next HB2.out hb1⟩
    · have hR : evalS x s = (holdX x s, 0) := by unfold evalS; rw [if_neg (by rw [hx]; simp), if_neg hs]
      rw [hR]
      exact eval_c x hx hf s (by omega) a n c w h
  · have hR : evalS x s = (false, xprE x) := by unfold evalS; rw [if_pos hx]
    obtain ⟨E, hE⟩ : ∃ E, xprE x = E := ⟨_, rfl⟩
    rw [hR, hE]
    rw [hE] at H1 hx
    have hne : (E != 0) = true := by simpa using hx
    clear h hf hx hR hb2 hE
    go_enter Tryz.func33, Tryz.ntmps33
    go_wp2_with fail
    rw [← hW2]
    refine (H1.out W2 HB2.out).mono ?_
    rintro e w1 ⟨rfl, hb1⟩
    go_wp2_with fail
    go_ret2
    exact ⟨rfl, Below.next HB2.out hb1⟩
set_option maxRecDepth 100000 in
set_option maxHeartbeats 1000000 in
theorem reval_c (x : Xpr) (hx : xprE x = 0) (hs : XprSum x) (hf : XprFew x) (s : BitVec 16) (a : Option Addr) (n c : Nat) (w : World) (h : XM w a n c x.nodes) :
    Calls Tryz.prog 34 #[.agg #[.slice a n c, .int .i64 x.root], .int .u16 (U s)] w fun e w' => e = .returned (.tuple #[.bool (evalS x s).1, .int .i64 (evalS x s).2]) ∧ Below w.heap.size w w' := by
  have H1 := Lib.hid (fun (v : World) (hb : Below w.heap.size w v) => rvalid10_c x hs a n c v (h.below hb))
  have H2 := Lib.hid (fun (v : World) (hb : Below w.heap.size w v) => rholds_c x (xprE_ok hx) hf s a n c v (h.below hb))
  rw [hx] at H1
  obtain ⟨W2, hW2⟩ : ∃ W2, W2 = w.alloc (.cells #[.slice a n c, .int .i64 x.root] 32) := ⟨_, rfl⟩
  have hb2 : Below w.heap.size w W2 := by rw [hW2]; exact (Below.refl _ w).alloc (Nat.le_refl _) _
  have g0 : W2.heap[w.heap.size]? = some (.cells #[.slice a n c, .int .i64 x.root] 32 (0, 0)) := by rw [hW2]; exact heap_alloc_new _ _
  have HB2 := Lib.hid hb2
  have G0 := Lib.hid g0
  have HR := Lib.hid (fun u => range8_c s u)
  by_cases hb : 4096 ≤ s.toNat
  · have hR : evalS x s = (false, 7) := by unfold evalS; rw [if_neg (by rw [hx]; simp), if_pos hb]
    rw [hR]
    have hd : decide (U s < 4096) = false := decide_eq_false (by unfold U; omega)
    clear h hf hx hR hb2 hb g0 hs
    go_enter Tryz.func34, Tryz.ntmps34
    go_wp2_with fail
    rw [← hW2]
    refine (H1.out W2 HB2.out).mono ?_
    rintro e w1 ⟨rfl, hb1⟩
    go_wp2_with fail
    refine (HR.out w1).mono ?_
    rintro e w3 ⟨rfl, rfl⟩
    go_wp2_with fail
    go_ret2
    exact ⟨rfl, Below.next HB2.out hb1⟩
  · have hR : evalS x s = (holdX x s, 0) := by unfold evalS; rw [if_neg (by rw [hx]; simp), if_neg hb]
    rw [hR]
    have hd : decide (U s < 4096) = true := decide_eq_true (by unfold U; omega)
    clear h hf hx hR hb2 hb g0 hs
    go_enter Tryz.func34, Tryz.ntmps34
    go_wp2_with fail
    rw [← hW2]
    refine (H1.out W2 HB2.out).mono ?_
    rintro e w1 ⟨rfl, hb1⟩
    have e1 := heap_below hb1 G0.out
    have q0 := cell_of_row _ _ 0 _ _ _ e1
    have q1 := cell_of_row _ _ 1 _ _ _ e1
    clear e1
    go_wp2_with fail
    refine (HR.out w1).mono ?_
    rintro e w3 ⟨rfl, rfl⟩
    go_wp2_with fail
    refine (H2.out _ (Below.next HB2.out hb1)).mono ?_
    rintro e w5 ⟨rfl, hb5⟩
    go_wp2_with fail
    go_ret2
    exact ⟨rfl, Below.next HB2.out (Below.next hb1 hb5)⟩
end Go.Proofs.YtcojmmhclklpoaaGreatDoor
namespace Go.Proofs.YtcojmmhclklpoaaGreatDoor
open Go.RowKit Go.ChangeShapes Go.WideShapes Go.Deep

section
variable {H : Type} {enc : TypeId × Value → H} {P : Program} {w : World} {base : Nat} {spare : Nat → Bool} {held : Bool}
theorem open_slice_fields {t e : TypeId} {fs : Array Field} {fuel : Nat} {cs : List Value} {x : DataW H × List MemPlace} (ht : P.underlying t = some (.slice e)) (he : P.underlying e = some (.struct fs))
    (hone : oneCellFields P fs = true) (hC : P.cellsOf e = fs.size) (h : DataW.trod enc P w base spare held fuel t cs = some x) :
    (cs = [.slice none 0 0] ∧ x = (.nil, [])) ∨
    ∃ (a : Addr) (len cap m : Nat) (D : Nat → DataW H) (Pl : Nat → List MemPlace), cs = [.slice (some a) len cap] ∧ base ≤ a.block ∧ len ≤ cap ∧ cap ≤ maxLen ∧ m = (if spare a.block then cap else len) ∧
      x = (.slice ((List.range len).map D) ((List.range (m - len)).map fun j => D (len + j)), MemPlace.row a (m * fs.size) ++ (List.range m).flatMap Pl) ∧
      ∀ i, i < m → ∃ (ys : List (DataW H × List MemPlace)) (n : Nat), D i = .agg (ys.map (·.1)) ∧ Pl i = ys.flatMap (·.2) ∧ ys.length = fs.size ∧
        ∀ (j : Nat) (f : Field), fs[j]? = some f → ∃ (v : Value) (y : DataW H × List MemPlace), w.cell? (a.add (i * fs.size + j)) = some v ∧ ys[j]? = some y ∧ DataW.trod enc P w base spare held n f.type [v] = some y := by
  rcases open_slice ht h with h0 | ⟨a, len, cap, m, n, D, Pl, hcs, hb, hl, hm, hmm, hx, hi⟩
  · exact .inl h0
  · refine .inr ⟨a, len, cap, m, D, Pl, hcs, hb, hl, hm, hmm, by rw [hC] at hx; exact hx, fun i him => ?_⟩
    obtain ⟨cs', hc, ht'⟩ := hi i him
    rw [hC] at hc
    obtain ⟨ys, n', hn', hy, hlen, hyl, hf⟩ := DataW.trod_struct he ht'
    obtain ⟨_, hcl, hat⟩ := World.cells?_some hc
    simp only [Prod.mk.injEq] at hy
    refine ⟨ys, n', hy.1, hy.2, hyl, fun j f hj => ?_⟩
    obtain ⟨ho, hk⟩ := hone_of hone j f hj
    have hjl : j < fs.size := (Array.getElem?_eq_some_iff.1 hj).1
    have hcell := hat j hjl
    have hv : cs'[j]? = some (cs'[j]'(by omega)) := List.getElem?_eq_getElem (by omega)
    have h1 := hf j f hj
    rw [ho, hk] at h1
    have hone' : (cs'.drop j).take 1 = [cs'[j]'(by omega)] := by
      rw [List.drop_eq_getElem_cons (by omega)]
      rfl
    rw [hone'] at h1
    have hys : ys[j]? = some (ys[j]'(by omega)) := List.getElem?_eq_getElem (by omega)
    refine ⟨_, _, ?_, hys, h1.trans hys⟩
    rw [← Go.Deep.add_add, hcell, hv]
end

theorem list_of {α : Type} {Q : Nat → α → Prop} : ∀ n, (∀ i, i < n → ∃ r, Q i r) → ∃ L : List α, L.length = n ∧ ∀ i r, L[i]? = some r → Q i r := by
  intro n
  induction n with
  | zero => intro _; exact ⟨[], rfl, fun i r h => by simp at h⟩
  | succ n ih =>
    intro h
    obtain ⟨L, hl, hL⟩ := ih (fun i hi => h i (by omega))
    obtain ⟨r, hr⟩ := h n (by omega)
    refine ⟨L ++ [r], by simp [hl], fun i q hq => ?_⟩
    by_cases hi : i < n
    · rw [List.getElem?_append_left (by omega)] at hq; exact hL i q hq
    · have := (List.getElem?_eq_some_iff.1 hq).1
      simp at this
      obtain rfl : i = n := by omega
      rw [List.getElem?_append_right (by omega), hl, Nat.sub_self] at hq
      cases hq; exact hr

theorem addr_plain {W : World} {a : Addr} {v : Value} (h : W.cell? (a.add 0) = some v) : a = ⟨a.block, a.off, none⟩ := by
  have : a.add 0 = a := by simp [Addr.add]
  rw [this] at h
  unfold World.cell? at h
  cases hs : a.spot with
  | none => cases a; simp_all
  | some s => rw [hs] at h; split at h <;> simp at h

theorem u8_bd {z : Int} (h : (Lit.int .u8 z).wf = true) : 0 ≤ z ∧ z < 256 := by
  simp [Lit.wf, IntKind.min, IntKind.max, IntKind.bits, IntKind.signed] at h; omega
set_option maxRecDepth 100000 in
theorem ints_of {H : Type} {enc : TypeId × Value → H} {W : World} {base : Nat} {held : Bool} {fuel : Nat} {cs : List Value} {x : DataW H × List MemPlace} (h : DataW.trod enc Tryz.prog W base (fun _ => true) held fuel 66 cs = some x) :
    ∃ a n c z, cs = [.slice a n c] ∧ IsInts .u8 W a n c z := by
  rcases open_ints Tryz.underlying66 Tryz.underlying5 (by kernel_rfl) h with ⟨hcs, _⟩ | ⟨x, l, c, zs, hcs, _, hl, hm, hz, _, hcell, hwz⟩
  · exact ⟨_, _, _, _, hcs, .nil⟩
  · exact ⟨_, _, _, _, hcs, .row hl hm (by simpa using hz) hcell hwz⟩
theorem open_pieces {H : Type} {enc : TypeId × Value → H} {w : World} {base : Nat} {held : Bool} {fuel : Nat} {cs : List Value} {x : DataW H × List MemPlace} (h : DataW.trod enc Tryz.prog w base (fun _ => true) held fuel 22 cs = some x) :
    ∃ a n c ps, cs = [.slice a n c] ∧ PM w a n c ps ∧ ∀ p ∈ ps, p.ok := by
  rcases open_slice_fields Tryz.underlying22 Tryz.underlying68 (by kernel_rfl) (by kernel_rfl) h with ⟨hcs, _⟩ | ⟨a, len, cap, m, D, Pl, hcs, _, hl, hm, hmm, _, hi⟩
  · exact ⟨none, 0, 0, [], hcs, ⟨rfl, Nat.le_refl _, by unfold maxLen; omega, fun hn => absurd hn (by decide)⟩, fun r hr => by cases hr⟩
  · have hlm : len ≤ m := by rw [hmm]; split <;> omega
    obtain ⟨L, hL1, hL2⟩ := list_of (α := Pce) (Q := fun i r => (w.cell? (a.add (i * 5 + 0)) = some (.int .u8 r.kind) ∧ w.cell? (a.add (i * 5 + 1)) = some (.int .u8 r.server) ∧ w.cell? (a.add (i * 5 + 2)) = some (.int .u8 r.need) ∧ w.cell? (a.add (i * 5 + 3)) = some (.bool r.heavy) ∧ ∃ a4 n4 c4, w.cell? (a.add (i * 5 + 4)) = some (.slice a4 n4 c4) ∧ Rd w a4 n4 c4 (r.kids.map (Value.int .u8))) ∧ r.ok) len (fun i hil => by
      obtain ⟨ys, n, _, _, _, hf⟩ := hi i (by omega)
      obtain ⟨v0, y0, c0, _, t0⟩ := hf 0 _ rfl
      obtain ⟨v1, y1, c1, _, t1⟩ := hf 1 _ rfl
      obtain ⟨v2, y2, c2, _, t2⟩ := hf 2 _ rfl
      obtain ⟨v3, y3, c3, _, t3⟩ := hf 3 _ rfl
      obtain ⟨v4, y4, c4, _, t4⟩ := hf 4 _ rfl
      obtain ⟨z0, e0, _, b0⟩ := DataW.trod_int Tryz.underlying5 t0
      obtain ⟨z1, e1, _, b1⟩ := DataW.trod_int Tryz.underlying5 t1
      obtain ⟨z2, e2, _, b2⟩ := DataW.trod_int Tryz.underlying5 t2
      obtain ⟨z3, e3, _⟩ := DataW.trod_bool Tryz.underlying4 t3
      obtain ⟨a4, n4, k4, z4, e4, i4⟩ := ints_of t4
      cases e0; cases e1; cases e2; cases e3; cases e4
      exact ⟨⟨z0, z1, z2, z3, z4⟩, ⟨c0, c1, c2, c3, a4, n4, k4, c4, i4.rd⟩, ⟨u8_bd b0, u8_bd b1, u8_bd b2⟩, fun z hz => u8_bd (i4.wf z hz)⟩)
    refine ⟨some a, len, cap, L, hcs, ⟨hL1, hl, hm, fun hn0 => ?_⟩, fun r hr => ?_⟩
    · obtain ⟨x0, hx0⟩ : ∃ x, L[0]? = some x := ⟨_, List.getElem?_eq_getElem (by omega)⟩
      have h0 := (hL2 0 x0 hx0).1.1
      rw [Nat.zero_mul, Nat.zero_add] at h0
      have ha := addr_plain h0
      refine ⟨a.block, a.off, by rw [← ha], fun i p hp => ?_⟩
      obtain ⟨⟨d0, d1, d2, d3, a4, n4, c4, d4, r4⟩, _⟩ := hL2 i p hp
      rw [ha, Addr.add_lit] at d0 d1 d2 d3 d4
      exact ⟨d0, by rw [Nat.add_assoc]; exact d1, by rw [Nat.add_assoc]; exact d2, by rw [Nat.add_assoc]; exact d3, a4, n4, c4, by rw [Nat.add_assoc]; exact d4, r4⟩
    · obtain ⟨i, hi⟩ := List.mem_iff_getElem?.1 hr
      exact (hL2 i r hi).2
theorem list3 {α : Type} (l : List α) (h : (⟨l⟩ : Array α).size = 3) : ∃ a b c, l = [a, b, c] := by
  match l, h with
  | [a, b, c], _ => exact ⟨a, b, c, rfl⟩
set_option maxRecDepth 100000 in
theorem open_draft {H : Type} {enc : TypeId × Value → H} {w : World} {base : Nat} {held : Bool} {fuel : Nat} {c : Value} {x : DataW H × List MemPlace} (h : DataW.trod enc Tryz.prog w base (fun _ => true) held fuel 24 [c] = some x) :
    ∃ a n cc ps, c = .slice a n cc ∧ PM w a n cc ps ∧ ∀ p ∈ ps, p.ok := by
  obtain ⟨xs, n, _, _, _, _, hfl⟩ := DataW.trod_struct Tryz.underlying24 h
  have k8 : Tryz.prog.cellsOf 22 = 1 := by kernel_rfl
  have h0 : DataW.trod enc Tryz.prog w base (fun _ => true) held n 22 (List.take (Tryz.prog.cellsOf 22) [c]) = xs[0]? := hfl 0 _ rfl
  rw [k8] at h0
  have hxl : xs.length = 1 := by assumption
  rw [List.getElem?_eq_getElem (by omega)] at h0
  obtain ⟨a, n1, cc, ps, e0, i0, i1⟩ := open_pieces h0
  simp at e0
  exact ⟨a, n1, cc, ps, e0, i0, i1⟩
/-- a case among the arguments -/
structure IsCase (W : World) (v : Value) (xs ys : List Pce) (b : Int) : Prop where
  val : ∃ a n c a2 n2 c2, v = .agg #[.slice a n c, .slice a2 n2 c2, .int .u16 b] ∧ PM W a n c xs ∧ PM W a2 n2 c2 ys
  okx : ∀ p ∈ xs, p.ok
  oky : ∀ p ∈ ys, p.ok
  num : (Lit.int .u16 b).wf = true
end Go.Proofs.YtcojmmhclklpoaaGreatDoor
namespace Go.Proofs.YtcojmmhclklpoaaGreatDoor
open Go.RowKit Go.ChangeShapes Go.WideShapes Go.Deep

theorem rdK_of {α : Type} (k : Nat) (hk0 : 0 < k) (enc : α → List Value) (hk : ∀ x, (enc x).length = k) {W : World} {a : Addr} {len cap : Nat} (hl : len ≤ cap) (hm : cap ≤ maxLen) (L : List α) (hn : L.length = len)
    (h : ∀ i x, L[i]? = some x → ∀ j, j < k → W.cell? (a.add (i * k + j)) = (enc x)[j]?) : RdK k W (some a) len cap (L.flatMap enc) := by
  refine ⟨by rw [flat_len k enc hk, hn], hl, hm, fun h => (by cases h), fun hn0 => ?_⟩
  obtain ⟨x0, hx0⟩ : ∃ x, L[0]? = some x := ⟨_, List.getElem?_eq_getElem (by omega)⟩
  have h0 := h 0 x0 hx0 0 hk0
  rw [Nat.zero_mul, Nat.zero_add, List.getElem?_eq_getElem (by rw [hk]; exact hk0)] at h0
  have ha := addr_plain h0
  refine ⟨a.block, a.off, by rw [← ha], fun i v hv => ?_⟩
  have hi := (List.getElem?_eq_some_iff.1 hv).1
  rw [flat_len k enc hk, hn] at hi
  have hq : i / k < len := Nat.div_lt_of_lt_mul (by rw [Nat.mul_comm]; exact hi)
  obtain ⟨x, hx⟩ : ∃ x, L[i / k]? = some x := ⟨_, List.getElem?_eq_getElem (by omega)⟩
  have hmod := Nat.mod_lt i hk0
  have h1 := h (i / k) x hx (i % k) hmod
  have h2 := flat_at k enc hk L (i / k) (i % k) x hx hmod
  have e : i / k * k + i % k = i := by rw [Nat.mul_comm]; exact Nat.div_add_mod i k
  rw [e] at h1 h2
  rw [hv] at h2
  rw [ha, Addr.add_lit] at h1
  rw [h1, ← h2]

/-- a description among the arguments -/
structure IsDraft (W : World) (v : Value) (xs : List Pce) : Prop where
  val : ∃ a n c, v = .agg #[.slice a n c] ∧ PM W a n c xs
  okx : ∀ p ∈ xs, p.ok
theorem list1 {α : Type} (l : List α) (h : (⟨l⟩ : Array α).size = 1) : ∃ a, l = [a] := by
  match l, h with
  | [a], _ => exact ⟨a, rfl⟩
theorem list2 {α : Type} (l : List α) (h : (⟨l⟩ : Array α).size = 2) : ∃ a b, l = [a, b] := by
  match l, h with
  | [a, b], _ => exact ⟨a, b, rfl⟩
set_option maxRecDepth 100000 in
theorem open_draftv {H : Type} {enc : TypeId × Value → H} {W : World} {base b0 : Nat} {held : Bool} {v : Value} {d : DataW H} {p : List MemPlace} {r : Reach}
    (hv : Value.okWide Tryz.prog W r b0 24 v) (h : DataW.Trod enc Tryz.prog W base (fun _ => true) held 24 v d p) : ∃ xs, IsDraft W v xs := by
  obtain ⟨cs, rfl, hsz⟩ := okWide_struct Tryz.underlying24 hv
  rw [show Tryz.prog.cellsOf 24 = 1 by kernel_rfl] at hsz
  obtain ⟨l⟩ := cs
  obtain ⟨c0, rfl⟩ := list1 l hsz
  obtain ⟨fuel, hf⟩ := h
  obtain ⟨a, n, cc, ps, e0, h1, h2⟩ := open_draft hf
  subst e0
  exact ⟨ps, ⟨a, n, cc, rfl, h1⟩, h2⟩

/-- a tree among the arguments -/
structure IsTree (W : World) (v : Value) (t : Tre) : Prop where
  val : ∃ a n c, v = .agg #[.slice a n c, .int .i64 t.root] ∧ TM W a n c t.nodes
/-- a choice among the arguments -/
structure IsChoice (W : World) (v : Value) (q : Cho) : Prop where
  val : v = .agg #[.int .i64 q.server, .int .i64 q.first, .int .i64 q.second]
theorem ints64_of {H : Type} {enc : TypeId × Value → H} {W : World} {base : Nat} {held : Bool} {fuel : Nat} {cs : List Value} {x : DataW H × List MemPlace} (h : DataW.trod enc Tryz.prog W base (fun _ => true) held fuel 69 cs = some x) :
    ∃ a n c z, cs = [.slice a n c] ∧ IsInts .i64 W a n c z := by
  rcases open_ints Tryz.underlying69 Tryz.underlying3 (by kernel_rfl) h with ⟨hcs, _⟩ | ⟨x, l, c, zs, hcs, _, hl, hm, hz, _, hcell, hwz⟩
  · exact ⟨_, _, _, _, hcs, .nil⟩
  · exact ⟨_, _, _, _, hcs, .row hl hm (by simpa using hz) hcell hwz⟩
theorem open_nodes {H : Type} {enc : TypeId × Value → H} {w : World} {base : Nat} {held : Bool} {fuel : Nat} {cs : List Value} {x : DataW H × List MemPlace} (h : DataW.trod enc Tryz.prog w base (fun _ => true) held fuel 30 cs = some x) :
    ∃ a n c ns, cs = [.slice a n c] ∧ XM w a n c ns := by
  rcases open_slice_fields Tryz.underlying30 Tryz.underlying71 (by kernel_rfl) (by kernel_rfl) h with ⟨hcs, _⟩ | ⟨a, len, cap, m, D, Pl, hcs, _, hl, hm, hmm, _, hi⟩
  · exact ⟨none, 0, 0, [], hcs, XM.none_ _⟩
  · have hlm : len ≤ m := by rw [hmm]; split <;> omega
    obtain ⟨L, hL1, hL2⟩ := list_of (α := Nod) (Q := fun i r => w.cell? (a.add (i * 5 + 0)) = some (.int .i64 r.kind) ∧ w.cell? (a.add (i * 5 + 1)) = some (.int .i64 r.server) ∧ w.cell? (a.add (i * 5 + 2)) = some (.int .i64 r.need) ∧ (∃ a3 n3 c3, w.cell? (a.add (i * 5 + 3)) = some (.slice a3 n3 c3) ∧ Rd w a3 n3 c3 (r.weights.map (Value.int .i64))) ∧ ∃ a4 n4 c4, w.cell? (a.add (i * 5 + 4)) = some (.slice a4 n4 c4) ∧ Rd w a4 n4 c4 (r.kids.map (Value.int .i64))) len (fun i hil => by
      obtain ⟨ys, n, _, _, _, hf⟩ := hi i (by omega)
      obtain ⟨v0, y0, c0, _, t0⟩ := hf 0 _ rfl
      obtain ⟨v1, y1, c1, _, t1⟩ := hf 1 _ rfl
      obtain ⟨v2, y2, c2, _, t2⟩ := hf 2 _ rfl
      obtain ⟨v3, y3, c3, _, t3⟩ := hf 3 _ rfl
      obtain ⟨v4, y4, c4, _, t4⟩ := hf 4 _ rfl
      obtain ⟨z0, e0, _, _⟩ := DataW.trod_int Tryz.underlying3 t0
      obtain ⟨z1, e1, _, _⟩ := DataW.trod_int Tryz.underlying3 t1
      obtain ⟨z2, e2, _, _⟩ := DataW.trod_int Tryz.underlying3 t2
      obtain ⟨a3, n3, k3, z3, e3, i3⟩ := ints64_of t3
      obtain ⟨a4, n4, k4, z4, e4, i4⟩ := ints64_of t4
      cases e0; cases e1; cases e2; cases e3; cases e4
      exact ⟨⟨z0, z1, z2, z3, z4⟩, c0, c1, c2, ⟨a3, n3, k3, c3, i3.rd⟩, a4, n4, k4, c4, i4.rd⟩)
    refine ⟨some a, len, cap, L, hcs, ⟨hL1, hl, hm, fun h => (by cases h), fun hn0 => ?_⟩⟩
    obtain ⟨x0, hx0⟩ : ∃ x, L[0]? = some x := ⟨_, List.getElem?_eq_getElem (by omega)⟩
    have h0 := (hL2 0 x0 hx0).1
    rw [Nat.zero_mul, Nat.zero_add] at h0
    have ha := addr_plain h0
    refine ⟨a.block, a.off, by rw [← ha], fun i p hp => ?_⟩
    obtain ⟨d0, d1, d2, ⟨a3, n3, c3, d3, r3⟩, a4, n4, c4, d4, r4⟩ := hL2 i p hp
    rw [ha, Addr.add_lit] at d0 d1 d2 d3 d4
    exact ⟨d0, by rw [Nat.add_assoc]; exact d1, by rw [Nat.add_assoc]; exact d2, ⟨a3, n3, c3, by rw [Nat.add_assoc]; exact d3, r3⟩, a4, n4, c4, by rw [Nat.add_assoc]; exact d4, r4⟩
/-- an expression among the arguments -/
structure IsXpr (W : World) (v : Value) (x : Xpr) : Prop where
  val : ∃ a n c, v = .agg #[.slice a n c, .int .i64 x.root] ∧ XM W a n c x.nodes
set_option maxRecDepth 100000 in
theorem open_xpr {H : Type} {enc : TypeId × Value → H} {W : World} {base b0 : Nat} {held : Bool} {v : Value} {d : DataW H} {p : List MemPlace} {r : Reach}
    (hv : Value.okWide Tryz.prog W r b0 32 v) (h : DataW.Trod enc Tryz.prog W base (fun _ => true) held 32 v d p) : ∃ x, IsXpr W v x := by
  obtain ⟨cs, rfl, hsz⟩ := okWide_struct Tryz.underlying32 hv
  rw [show Tryz.prog.cellsOf 32 = 2 by kernel_rfl] at hsz
  obtain ⟨l⟩ := cs
  obtain ⟨c0, c1, rfl⟩ := list2 l hsz
  obtain ⟨fuel, hf⟩ := h
  obtain ⟨xs, n, _, _, _, _, hfl⟩ := DataW.trod_struct Tryz.underlying32 hf
  have k8 : Tryz.prog.cellsOf 30 = 1 := by kernel_rfl
  have ku : Tryz.prog.cellsOf 3 = 1 := by kernel_rfl
  have h0 : DataW.trod enc Tryz.prog W base (fun _ => true) held n 30 (List.take (Tryz.prog.cellsOf 30) [c0, c1]) = xs[0]? := hfl 0 _ rfl
  have h1 : DataW.trod enc Tryz.prog W base (fun _ => true) held n 3 (List.take (Tryz.prog.cellsOf 3) [c1]) = xs[1]? := hfl 1 _ rfl
  rw [k8] at h0
  rw [ku] at h1
  have hxl : xs.length = 2 := by assumption
  rw [List.getElem?_eq_getElem (by omega)] at h0 h1
  obtain ⟨a, n1, cc, ns, e0, i0⟩ := open_nodes h0
  obtain ⟨z, e1, _, _⟩ := DataW.trod_int Tryz.underlying3 h1
  simp at e0 e1
  subst e0 e1
  exact ⟨⟨ns, z⟩, ⟨a, n1, cc, rfl, i0⟩⟩
end Go.Proofs.YtcojmmhclklpoaaGreatDoor
namespace Go.Proofs.YtcojmmhclklpoaaGreatDoor
open Go.RowKit Go.Shelf

theorem madN_small (p : Pce) (i : Nat) : (madN p i).weights.length ≤ 5 ∧ (madN p i).kids.length ≤ 5 := by
  have h5 : mk5 p ≤ 5 := Nat.min_le_right _ _
  unfold madN
  split
  · simp
  · refine ⟨?_, ?_⟩
    · show (mwtTo _ _).length ≤ 5
      unfold mwtTo
      split
      · rw [List.length_map, List.length_take]; omega
      · simp
    · show (mkdTo _ _ _).length ≤ 5
      unfold mkdTo
      rw [List.length_map, List.length_take]; omega
theorem madX_node {ps : List Pce} {k : Nat} {nd : Nod} (h : (madX ps).nodes[k]? = some nd) : nd.weights.length ≤ 5 ∧ nd.kids.length ≤ 5 := by
  unfold madX at h
  by_cases h0 : ps = []
  · rw [if_pos h0] at h
    have := List.mem_of_getElem? h
    simp at this
    subst this
    decide
  · rw [if_neg h0] at h
    obtain ⟨_, rfl⟩ := madT_at h
    exact madN_small _ _
theorem madX_few (ps : List Pce) : XprFew (madX ps) := fun k nd h => by have := madX_node h; omega
theorem madX_sum (ps : List Pce) : XprSum (madX ps) := fun k nd h => by have := madX_node h; omega
theorem U_of_wf' {a : Int} (h : (Lit.int .u16 a).wf = true) : ∃ x : BitVec 16, a = U x := by
  apply U_of
  simp [Lit.wf, IntKind.min, IntKind.max, IntKind.bits, IntKind.signed] at h
  omega
/-- more servers never undo it -/
theorem eval_more {x : Xpr} (s t : BitVec 16) (h : (evalS x s).1 = true) : (evalS x (s ||| t)).2 = 7 ∨ ((evalS x (s ||| t)).2 = 0 ∧ (evalS x (s ||| t)).1 = true) := by
  unfold evalS at h ⊢
  by_cases h1 : xprE x ≠ 0
  · rw [if_pos h1] at h; cases h
  · rw [if_neg h1] at h ⊢
    by_cases h2 : 4096 ≤ s.toNat
    · rw [if_pos h2] at h; cases h
    · rw [if_neg h2] at h
      by_cases h3 : 4096 ≤ (s ||| t).toNat
      · rw [if_pos h3]; exact .inl rfl
      · rw [if_neg h3]
        refine .inr ⟨rfl, holdX_mono (xprE_ok (by simpa using h1)) (fun p hp => ?_) h⟩
        rw [hasB_or, hp]; rfl

set_option maxRecDepth 100000 in
set_option maxHeartbeats 4000000 in
theorem evals_w (v : Value) (xs : List Pce) (a b : Int) (w : World) (ht : HasTab w) (hp : HasPow w) (hr : HasRng w) (hy : HasSyn w) (w0 : IsDraft w v xs) (w1 : (Lit.int .u16 a).wf = true) (w2 : (Lit.int .u16 b).wf = true) :
    Calls Tryz.prog 9 #[v, .int .u16 a, .int .u16 b] w fun e w' => e = .returned (.bool true) ∧ Below w.heap.size w w' := by
  have HA := Lib.hid (fun u (hb : Below w.heap.size w u) => awake10_c u (ht.below hb) (hp.below hb) (hr.below hb) (hy.below hb))
  obtain ⟨s, rfl⟩ := U_of_wf' w1
  obtain ⟨t, rfl⟩ := U_of_wf' w2
  obtain ⟨ax, nx, cx, rfl, hpx⟩ := w0.val
  have HMX := Lib.hid (fun u (hb : Below w.heap.size w u) => made_c xs w0.okx ax nx cx u (hpx.below hb))
  obtain ⟨hxo, _, _⟩ := madX_ok w0.okx
  have hxf := madX_few xs
  have hxs := madX_sum xs
  obtain ⟨X, hX⟩ : ∃ X, madX xs = X := ⟨_, rfl⟩
  rw [hX] at HMX hxo hxf hxs
  have HE := Lib.hid (fun a n c u h => evalx_c X hxf s a n c u h)
  have HE2 := Lib.hid (fun a n c u h => evalx_c X hxf (s ||| t) a n c u h)
  have HR := Lib.hid (fun a n c u h => reval_c X hxo hxs hxf s a n c u h)
  have HM := Lib.hid (eval_more (x := X) s t)
  obtain ⟨R, hR⟩ : ∃ R, evalS X s = R := ⟨_, rfl⟩
  obtain ⟨Q, hQ⟩ : ∃ Q, evalS X (s ||| t) = Q := ⟨_, rfl⟩
  rw [hR] at HE HR HM
  rw [hQ] at HE2 HM
  obtain ⟨v1, e1⟩ := R
  obtain ⟨v2, e2⟩ := Q
  simp only at HE HR HE2 HM
  have hee : (e1 == e1) = true := by simp
  clear hX hxo hxf hxs hR hQ ht hp hr hy w0 hpx w1 w2
  go_enter Tryz.func9, Tryz.ntmps9
  go_wp2_with fail
  obtain ⟨W0, hW0⟩ : ∃ W0, W0 = w.alloc (.cells #[.slice ax nx cx] 24) := ⟨_, rfl⟩
  rw [← hW0]
  have hb0 : Below w.heap.size w W0 := by rw [hW0]; exact (Below.refl _ _).alloc (Nat.le_refl _) _
  have g0 : W0.heap[w.heap.size]? = some (.cells #[.slice ax nx cx] 24 (0, 0)) := by rw [hW0]; exact heap_alloc_new _ _
  with_reducible refine (HA.out W0 hb0).mono ?_
  rintro e w1 ⟨rfl, b1⟩
  have HB1 := Lib.hid (Below.next hb0 b1)
  have r0 := cell_of_row _ _ 0 _ _ _ (heap_below b1 g0)
  clear b1 hb0 g0 hW0
  go_wp2_with fail
  clear r0
  with_reducible refine (HMX.out w1 HB1.out).mono ?_
  rintro e w2 ⟨a2, c2, rfl, hx2, b2⟩
  obtain ⟨N, hN⟩ : ∃ N, X.nodes.length = N := ⟨_, rfl⟩
  obtain ⟨RT, hRT⟩ : ∃ RT, X.root = RT := ⟨_, rfl⟩
  rw [hN] at hx2 ⊢
  rw [hRT] at HE HR HE2 ⊢
  have HX2 := Lib.hid hx2
  have HB2 := Lib.hid (Below.next HB1.out b2)
  clear hx2 b2 hN hRT HMX HA HB1
  go_wp2_with fail
  obtain ⟨W3, hW3⟩ : ∃ W3, W3 = w2.alloc (.cells #[.slice a2 N c2, .int .i64 RT] 32) := ⟨_, rfl⟩
  rw [← hW3]
  have hb3 : Below w2.heap.size w2 W3 := by rw [hW3]; exact (Below.refl _ _).alloc (Nat.le_refl _) _
  have g3 : W3.heap[w2.heap.size]? = some (.cells #[.slice a2 N c2, .int .i64 RT] 32 (0, 0)) := by rw [hW3]; exact heap_alloc_new _ _
  have HX3 := Lib.hid (HX2.out.below hb3)
  have HB3 := Lib.hid (Below.next HB2.out hb3)
  have HG3 := Lib.hid g3
  clear hW3 hb3 g3 HX2 HB2
  with_reducible refine (HE.out a2 N c2 W3 HX3.out).mono ?_
  rintro e w4 ⟨rfl, b4⟩
  have HX4 := Lib.hid (HX3.out.below b4)
  have HB4 := Lib.hid (Below.next HB3.out b4)
  have HG4 := Lib.hid (heap_below b4 HG3.out)
  obtain ⟨⟨r0, r1⟩, _⟩ := open2 HG4.out
  clear b4 HG3 HX3 HB3
  go_wp2_with fail
  clear r0 r1
  with_reducible refine (HR.out a2 N c2 w4 HX4.out).mono ?_
  rintro e w5 ⟨rfl, b5⟩
  have HX5 := Lib.hid (HX4.out.below b5)
  have HB5 := Lib.hid (Below.next HB4.out b5)
  have HG5 := Lib.hid (heap_below b5 HG4.out)
  obtain ⟨⟨r0, r1⟩, _⟩ := open2 HG5.out
  clear b5 HG4 HX4 HB4
  go_wp2_with fail
  clear r0 r1
  with_reducible refine (HE2.out a2 N c2 w5 HX5.out).mono ?_
  rintro e w6 ⟨rfl, b6⟩
  have HB6 := Lib.hid (Below.next HB5.out b6)
  clear b6 HG5 HX5 HB5
  cases v1
  · go_wp2_with fail
    go_ret
    exact ⟨rfl, HB6.out⟩
  · rcases HM.out rfl with rfl | ⟨rfl, rfl⟩
    all_goals
      go_wp2_with fail
      go_ret
      exact ⟨rfl, HB6.out⟩
end Go.Proofs.YtcojmmhclklpoaaGreatDoor
namespace Go.Proofs.YtcojmmhclklpoaaGreatDoor

/-- a step of the search: the best pair so far, and a further one -/
def srcStep (b : BitVec 16) (sz : BitVec 16 → Nat) (o : Option (BitVec 16 × BitVec 16)) (x y : BitVec 16) : Option (BitVec 16 × BitVec 16) :=
  if viol x y b = true then
    match o with
    | none => some (x, y)
    | some p => if sz (x ||| y) < sz (p.1 ||| p.2) then some (x, y) else some p
  else o
def srcRow (b : BitVec 16) (sz : BitVec 16 → Nat) (x : BitVec 16) (g : List (BitVec 16)) (o : Option (BitVec 16 × BitVec 16)) : Option (BitVec 16 × BitVec 16) := g.foldl (fun o y => srcStep b sz o x y) o
def srcFrom (b : BitVec 16) (sz : BitVec 16 → Nat) (f g : List (BitVec 16)) (o : Option (BitVec 16 × BitVec 16)) : Option (BitVec 16 × BitVec 16) := f.foldl (fun o x => srcRow b sz x g o) o
def srcS (b : BitVec 16) (sz : BitVec 16 → Nat) (f g : List (BitVec 16)) : Option (BitVec 16 × BitVec 16) := srcFrom b sz f g none

theorem srcRow_succ {b : BitVec 16} {sz : BitVec 16 → Nat} {x : BitVec 16} {g : List (BitVec 16)} {o : Option (BitVec 16 × BitVec 16)} {k : Nat} {y : BitVec 16} (h : g[k]? = some y) : srcRow b sz x (g.take (k + 1)) o = srcStep b sz (srcRow b sz x (g.take k) o) x y := by
  unfold srcRow; rw [List.take_add_one, h]; simp
theorem srcFrom_succ {b : BitVec 16} {sz : BitVec 16 → Nat} {f g : List (BitVec 16)} {o : Option (BitVec 16 × BitVec 16)} {k : Nat} {x : BitVec 16} (h : f[k]? = some x) : srcFrom b sz (f.take (k + 1)) g o = srcRow b sz x g (srcFrom b sz (f.take k) g o) := by
  unfold srcFrom; rw [List.take_add_one, h]; simp
theorem srcRow_split {b : BitVec 16} {sz : BitVec 16 → Nat} {x : BitVec 16} {g : List (BitVec 16)} {o : Option (BitVec 16 × BitVec 16)} (k : Nat) : srcRow b sz x g o = srcRow b sz x (g.drop k) (srcRow b sz x (g.take k) o) := by
  unfold srcRow; rw [← List.foldl_append, List.take_append_drop]
theorem srcFrom_split {b : BitVec 16} {sz : BitVec 16 → Nat} {f g : List (BitVec 16)} {o : Option (BitVec 16 × BitVec 16)} (k : Nat) : srcFrom b sz f g o = srcFrom b sz (f.drop k) g (srcFrom b sz (f.take k) g o) := by
  unfold srcFrom; rw [← List.foldl_append, List.take_append_drop]

/-! a found pair stays if sizes do not differ -/
theorem srcStep_zero (b : BitVec 16) (p : BitVec 16 × BitVec 16) (x y : BitVec 16) : srcStep b (fun _ => 0) (some p) x y = some p := by
  unfold srcStep; split
  · simp
  · rfl
theorem srcRow_zero (b : BitVec 16) (p : BitVec 16 × BitVec 16) (x : BitVec 16) : ∀ g, srcRow b (fun _ => 0) x g (some p) = some p := by
  intro g
  induction g with
  | nil => rfl
  | cons y g ih => unfold srcRow at ih ⊢; rw [List.foldl_cons, srcStep_zero, ih]
theorem srcFrom_zero (b : BitVec 16) (p : BitVec 16 × BitVec 16) (g : List (BitVec 16)) : ∀ f, srcFrom b (fun _ => 0) f g (some p) = some p := by
  intro f
  induction f with
  | nil => rfl
  | cons x f ih => unfold srcFrom at ih ⊢; rw [List.foldl_cons, srcRow_zero, ih]
/-- the first pair, found at a place of two walks -/
theorem src_hit {b : BitVec 16} {f g : List (BitVec 16)} {i j : Nat} {x y : BitVec 16} (hx : f[i]? = some x) (hy : g[j]? = some y) (h1 : srcFrom b (fun _ => 0) (f.take i) g none = none) (h2 : srcRow b (fun _ => 0) x (g.take j) none = none) (hv : viol x y b = true) :
    srcS b (fun _ => 0) f g = some (x, y) := by
  unfold srcS
  rw [srcFrom_split (i + 1), srcFrom_succ hx, h1, srcRow_split (j + 1), srcRow_succ hy, h2]
  have : srcStep b (fun _ => 0) none x y = some (x, y) := by unfold srcStep; rw [if_pos hv]
  rw [this, srcRow_zero, srcFrom_zero]
theorem srcStep_miss {b : BitVec 16} {sz : BitVec 16 → Nat} {o : Option (BitVec 16 × BitVec 16)} {x y : BitVec 16} (hv : viol x y b = false) : srcStep b sz o x y = o := by
  unfold srcStep; rw [if_neg (by rw [hv]; decide)]

/-! the least pair, from the first pair on -/
theorem srcRow_none {b : BitVec 16} {sz : BitVec 16 → Nat} {x : BitVec 16} : ∀ {g : List (BitVec 16)}, srcRow b sz x g none = none → ∀ o sz', srcRow b sz' x g o = o := by
  intro g
  induction g with
  | nil => intro _ o sz'; rfl
  | cons y g ih =>
    intro h o sz'
    unfold srcRow at h ih ⊢
    rw [List.foldl_cons] at h ⊢
    by_cases hv : viol x y b = true
    · exfalso
      have e : srcStep b sz none x y = some (x, y) := by unfold srcStep; rw [if_pos hv]
      rw [e] at h
      have keep : ∀ (l : List (BitVec 16)) (p : BitVec 16 × BitVec 16), l.foldl (fun o y => srcStep b sz o x y) (some p) ≠ none := by
        intro l
        induction l with
        | nil => intro p hp; cases hp
        | cons z l ih2 =>
          intro p
          rw [List.foldl_cons]
          have : ∃ q, srcStep b sz (some p) x z = some q := by
            unfold srcStep; split
            · dsimp only; split
              · exact ⟨_, rfl⟩
              · exact ⟨_, rfl⟩
            · exact ⟨_, rfl⟩
          obtain ⟨q, hq⟩ := this
          rw [hq]; exact ih2 q
      exact keep g _ h
    · have hv' : viol x y b = false := by simpa using hv
      rw [srcStep_miss hv'] at h ⊢
      exact ih h o sz'
theorem srcRow_some (b : BitVec 16) (sz : BitVec 16 → Nat) (x : BitVec 16) : ∀ (l : List (BitVec 16)) (p : BitVec 16 × BitVec 16), ∃ q, srcRow b sz x l (some p) = some q := by
  intro l
  induction l with
  | nil => intro p; exact ⟨p, rfl⟩
  | cons z l ih2 =>
    intro p
    unfold srcRow at ih2 ⊢
    rw [List.foldl_cons]
    have : ∃ q, srcStep b sz (some p) x z = some q := by
      unfold srcStep; split
      · dsimp only; split
        · exact ⟨_, rfl⟩
        · exact ⟨_, rfl⟩
      · exact ⟨_, rfl⟩
    obtain ⟨q, hq⟩ := this
    rw [hq]; exact ih2 q
theorem srcFrom_some (b : BitVec 16) (sz : BitVec 16 → Nat) (g : List (BitVec 16)) : ∀ (l : List (BitVec 16)) (p : BitVec 16 × BitVec 16), ∃ q, srcFrom b sz l g (some p) = some q := by
  intro l
  induction l with
  | nil => intro p; exact ⟨p, rfl⟩
  | cons z l ih2 =>
    intro p
    unfold srcFrom at ih2 ⊢
    rw [List.foldl_cons]
    obtain ⟨q, hq⟩ := srcRow_some b sz z g p
    rw [hq]; exact ih2 q
theorem srcFrom_none {b : BitVec 16} {sz : BitVec 16 → Nat} {g : List (BitVec 16)} : ∀ {f : List (BitVec 16)}, srcFrom b sz f g none = none → ∀ o sz', srcFrom b sz' f g o = o := by
  intro f
  induction f with
  | nil => intro _ o sz'; rfl
  | cons x f ih =>
    intro h o sz'
    have e : srcFrom b sz (x :: f) g none = srcFrom b sz f g (srcRow b sz x g none) := rfl
    rw [e] at h
    cases hr : srcRow b sz x g none with
    | some p =>
      rw [hr] at h
      obtain ⟨q, hq⟩ := srcFrom_some b sz g f p
      rw [hq] at h; cases h
    | none =>
      rw [hr] at h
      show srcFrom b sz' f g (srcRow b sz' x g o) = o
      rw [srcRow_none hr]
      exact ih h o sz'
/-- from the first pair on, the search comes to the same pair as from none on -/
theorem src_from_row {b : BitVec 16} {sz : BitVec 16 → Nat} {x : BitVec 16} : ∀ {g : List (BitVec 16)} {p : BitVec 16 × BitVec 16}, srcRow b (fun _ => 0) x g none = some p → srcRow b sz x g (some p) = srcRow b sz x g none := by
  intro g
  induction g with
  | nil => intro p h; cases h
  | cons y g ih =>
    intro p h
    by_cases hv : viol x y b = true
    · have e0 : srcRow b (fun _ => 0) x (y :: g) none = srcRow b (fun _ => 0) x g (srcStep b (fun _ => 0) none x y) := rfl
      have e1 : ∀ sz', srcStep b sz' none x y = some (x, y) := fun sz' => by unfold srcStep; rw [if_pos hv]
      rw [e0, e1, srcRow_zero] at h
      cases h
      show srcRow b sz x g (srcStep b sz (some (x, y)) x y) = srcRow b sz x g (srcStep b sz none x y)
      rw [e1]
      have : srcStep b sz (some (x, y)) x y = some (x, y) := by unfold srcStep; rw [if_pos hv]; simp
      rw [this]
    · have hv' : viol x y b = false := by simpa using hv
      have e0 : srcRow b (fun _ => 0) x (y :: g) none = srcRow b (fun _ => 0) x g (srcStep b (fun _ => 0) none x y) := rfl
      rw [e0, srcStep_miss hv'] at h
      show srcRow b sz x g (srcStep b sz (some p) x y) = srcRow b sz x g (srcStep b sz none x y)
      rw [srcStep_miss hv', srcStep_miss hv']
      exact ih h
theorem src_from {b : BitVec 16} {sz : BitVec 16 → Nat} {g : List (BitVec 16)} : ∀ {f : List (BitVec 16)} {p : BitVec 16 × BitVec 16}, srcFrom b (fun _ => 0) f g none = some p → srcFrom b sz f g (some p) = srcFrom b sz f g none := by
  intro f
  induction f with
  | nil => intro p h; cases h
  | cons x f ih =>
    intro p h
    have e : srcFrom b (fun _ => 0) (x :: f) g none = srcFrom b (fun _ => 0) f g (srcRow b (fun _ => 0) x g none) := rfl
    rw [e] at h
    show srcFrom b sz f g (srcRow b sz x g (some p)) = srcFrom b sz f g (srcRow b sz x g none)
    cases hr : srcRow b (fun _ => 0) x g none with
    | some q =>
      rw [hr, srcFrom_zero] at h
      cases h
      rw [src_from_row hr]
    | none =>
      rw [hr] at h
      rw [srcRow_none hr, srcRow_none hr]
      exact ih h
theorem srcS_none {b : BitVec 16} {f g : List (BitVec 16)} (h : srcS b (fun _ => 0) f g = none) (sz : BitVec 16 → Nat) : srcS b sz f g = none := srcFrom_none h _ _

/-- what Pair and Least answer -/
def pairS (b : BitVec 16) (sz : BitVec 16 → Nat) (f g : List (BitVec 16)) : BitVec 16 × BitVec 16 × Int :=
  if valS f ≠ 0 then (0#16, 0#16, valS f) else if valS g ≠ 0 then (0#16, 0#16, valS g) else
  match srcS b sz f g with
  | none => (0#16, 0#16, 13)
  | some p => (p.1, p.2, 0)

/-! two families intersect: symmetric -/
theorem viol_comm (x y b : BitVec 16) : viol x y b = viol y x b := by
  unfold viol; rw [BitVec.and_comm x y]
theorem famsB_comm (f g : List (BitVec 16)) (b : BitVec 16) : famsB g f b = famsB f g b := by
  unfold famsB
  rw [Bool.eq_iff_iff, List.all_eq_true, List.all_eq_true]
  constructor
  · intro h x hx
    exact List.all_eq_true.2 fun y hy => by rw [viol_comm]; exact List.all_eq_true.1 (h y hy) x hx
  · intro h x hx
    exact List.all_eq_true.2 fun y hy => by rw [viol_comm]; exact List.all_eq_true.1 (h y hy) x hx
theorem famsB_hit {f g : List (BitVec 16)} {b x y : BitVec 16} {i j : Nat} (hx : f[i]? = some x) (hy : g[j]? = some y) (h : viol x y b = true) : famsB f g b = false := by
  rw [Bool.eq_false_iff]
  intro hc
  have := List.all_eq_true.1 (List.all_eq_true.1 hc x (List.mem_of_getElem? hx)) y (List.mem_of_getElem? hy)
  rw [h] at this; cases this
theorem famsB_all {f g : List (BitVec 16)} {b : BitVec 16} (h : ∀ (i : Nat) x, f[i]? = some x → ∀ (j : Nat) y, g[j]? = some y → viol x y b = false) : famsB f g b = true := by
  refine List.all_eq_true.2 fun x hx => List.all_eq_true.2 fun y hy => ?_
  obtain ⟨i, hi⟩ := List.mem_iff_getElem?.1 hx
  obtain ⟨j, hj⟩ := List.mem_iff_getElem?.1 hy
  rw [h i x hi j y hj]; rfl
end Go.Proofs.YtcojmmhclklpoaaGreatDoor
namespace Go.Proofs.YtcojmmhclklpoaaGreatDoor

/-- the servers that are left to give -/
def leftS (x y : Xpr) (b : BitVec 16) : List Nat := memS ((srvX x ||| srvX y) &&& ~~~b)
def left12 (b : BitVec 16) : List Nat := memS (allV &&& ~~~b)
theorem memS_nodup (x : BitVec 16) : (memS x).Nodup := (memS_sorted x).imp fun {a b} h e => by omega
theorem hasB_notV (x : BitVec 16) (i : Nat) (h : i < 16) : hasB (~~~x) i = !hasB x i := hasB_not x i h
theorem left_mem {x y : Xpr} (hx : XprOk x) (hy : XprOk y) {b : BitVec 16} {i : Nat} : i ∈ leftS x y b ↔ (i < 12 ∧ (hasB (srvX x) i = true ∨ hasB (srvX y) i = true)) ∧ hasB b i = false := by
  unfold leftS
  rw [mem_memS, hasB_and, hasB_or, Bool.and_eq_true, Bool.or_eq_true]
  constructor
  · rintro ⟨h1, h2⟩
    have h12 : i < 12 := h1.elim (fun h => srvX_12 hx h) (fun h => srvX_12 hy h)
    rw [hasB_not _ _ (by omega)] at h2
    exact ⟨⟨h12, h1⟩, by simpa using h2⟩
  · rintro ⟨⟨h12, h1⟩, h2⟩
    refine ⟨h1, ?_⟩
    rw [hasB_not _ _ (by omega), h2]; rfl
theorem left12_mem {b : BitVec 16} {i : Nat} : i ∈ left12 b ↔ i < 12 ∧ hasB b i = false := by
  unfold left12
  rw [mem_memS, hasB_allnot, Bool.and_eq_true, decide_eq_true_iff]; simp
theorem nodup_le12 {l : List Nat} (hs : l.Pairwise (· < ·)) (h : ∀ i ∈ l, i < 12) : l.length ≤ 12 := by
  have key : ∀ (l : List Nat) (a : Nat), (a :: l).Pairwise (· < ·) → (∀ i ∈ a :: l, i < 12) → a + (a :: l).length ≤ 12 := by
    intro l
    induction l with
    | nil => intro a _ h; have := h a (by simp); simp; omega
    | cons c l ih =>
      intro a hp h
      have h1 := List.pairwise_cons.1 hp
      have h2 := ih c h1.2 (fun i hi => h i (List.mem_cons_of_mem _ hi))
      have h3 := h1.1 c (by simp)
      simp only [List.length_cons] at h2 ⊢
      omega
  cases l with
  | nil => simp
  | cons a l => have := key l a hs h; omega

theorem left_le {x y : Xpr} (hx : XprOk x) (hy : XprOk y) (b : BitVec 16) : (leftS x y b).length ≤ 12 := nodup_le12 (memS_sorted _) fun _ hi => ((left_mem hx hy).1 hi).1.1
theorem left12_le (b : BitVec 16) : (left12 b).length ≤ 12 := nodup_le12 (memS_sorted _) fun _ hi => (left12_mem.1 hi).1
theorem prove_law {x y : Xpr} (hx : XprOk x) (hy : XprOk y) (b : BitVec 16) {l : List Nat} (hl : l = leftS x y b ∨ l = left12 b) :
    (famsB (famS x) (famS y) b = true → ∃ T, proveL x y l 0#16 0#16 = some T ∧ certC x y b T.tre = true) ∧ (famsB (famS x) (famS y) b = false → proveL x y l 0#16 0#16 = none) := by
  rcases hl with rfl | rfl
  · refine prove_iff hx hy (memS_nodup _) (fun i hi => ?_) (left_le hx hy b) (fun i h1 h2 h3 => (left_mem hx hy).2 ⟨⟨h1, h2⟩, h3⟩) (famS_holds hx) (famS_holds hy) (fun F hF => famS_in hF) (fun F hF => famS_in hF)
    have := (left_mem hx hy).1 hi
    exact ⟨this.1.1, this.2⟩
  · exact prove_iff hx hy (memS_nodup _) (fun i hi => left12_mem.1 hi) (left12_le b) (fun i h1 _ h3 => left12_mem.2 ⟨h1, h3⟩) (famS_holds hx) (famS_holds hy) (fun F hF => famS_in hF) (fun F hF => famS_in hF)
/-- a search leads to a certificate exactly if the families intersect -/
theorem prv_law {x y : Xpr} (hx : XprOk x) (hy : XprOk y) (b : BitVec 16) {l : List Nat} (hl : l = leftS x y b ∨ l = left12 b) :
    (famsB (famS x) (famS y) b = true ∧ (prvS x y l).2 = 0 ∧ certC x y b (prvS x y l).1 = true) ∨ (famsB (famS x) (famS y) b = false ∧ prvS x y l = (⟨[], 0⟩, 12)) := by
  have h := prove_law hx hy b hl
  cases hf : famsB (famS x) (famS y) b
  · right
    refine ⟨rfl, ?_⟩
    unfold prvS; rw [h.2 hf]
  · left
    obtain ⟨T, h1, h2⟩ := h.1 hf
    unfold prvS; rw [h1]
    exact ⟨rfl, rfl, h2⟩
/-- expressions with a certificate intersect -/
theorem check_law {x y : Xpr} (hx : XprOk x) (hy : XprOk y) {b : BitVec 16} {t : Tre} (h : certC x y b t = true) : famsB (famS x) (famS y) b = true := by
  refine cert_sound hx hy h (fun F hF => ⟨?_, fun i hi => srvX_12 hx (famS_in hF i hi)⟩) (fun F hF => ⟨?_, fun i hi => srvX_12 hy (famS_in hF i hi)⟩)
  · rw [← famS_holds hx]; exact List.any_eq_true.2 ⟨F, hF, (subB_iff F F).2 fun _ h => h⟩
  · rw [← famS_holds hy]; exact List.any_eq_true.2 ⟨F, hF, (subB_iff F F).2 fun _ h => h⟩
theorem cert_pos {x y : Xpr} {b : BitVec 16} {t : Tre} (h : certC x y b t = true) : 1 ≤ t.nodes.length ∧ t.nodes.length ≤ 8191 := by
  unfold certC at h
  rw [Bool.and_eq_true] at h
  have := (formC_parts h.1).1
  exact ⟨this.1, this.2.1⟩
/-- what intersects outside of a set intersects outside of each part of it -/
theorem part_law {x y : Xpr} (hx : XprOk x) (hy : XprOk y) (b p : BitVec 16) (h : (prvS x y (leftS x y b)).2 = 0) :
    (prvS x y (leftS x y (b &&& p))).2 = 0 ∧ certC x y (b &&& p) (prvS x y (leftS x y b)).1 = true := by
  have hb : ∀ i, hasB (b &&& p) i = true → hasB b i = true := fun i hi => by rw [hasB_and, Bool.and_eq_true] at hi; exact hi.1
  rcases prv_law hx hy b (.inl rfl) with ⟨h1, _, h3⟩ | ⟨_, h2⟩
  · refine ⟨?_, cert_part hb h3⟩
    rcases prv_law hx hy (b &&& p) (.inl rfl) with ⟨_, h4, _⟩ | ⟨h4, _⟩
    · exact h4
    · rw [fams_part hb h1] at h4; cases h4
  · rw [h2] at h; cases h
end Go.Proofs.YtcojmmhclklpoaaGreatDoor
namespace Go.Proofs.YtcojmmhclklpoaaGreatDoor
open Go.RowKit Go.Shelf

set_option maxRecDepth 100000 in
set_option maxHeartbeats 2000000 in
theorem rservers_c (x : Xpr) (hx : XprOk x) (a : Option Addr) (n c : Nat) (w : World) (h : XM w a n c x.nodes) :
    Calls Tryz.prog 47 #[.agg #[.slice a n c, .int .i64 x.root]] w fun e w' => e = .returned (.int .u16 (U (srvX x))) ∧ Below w.heap.size w w' := by
  obtain ⟨W2, hW2⟩ : ∃ W2, W2 = w.alloc (.cells #[.slice a n c, .int .i64 x.root] 32) := ⟨_, rfl⟩
  have hb2 : Below w.heap.size w W2 := by rw [hW2]; exact (Below.refl _ w).alloc (Nat.le_refl _) _
  have g2 : W2.heap[w.heap.size]? = some (.cells #[.slice a n c, .int .i64 x.root] 32 (0, 0)) := by rw [hW2]; exact heap_alloc_new _ _
  obtain ⟨⟨q0, q1⟩, _⟩ := open2 g2
  have HX := Lib.hid (h.below hb2)
  have HO := Lib.hid hx
  have HN := Lib.hid h.len
  have hle := h.le
  have hm := h.max
  unfold maxLen at hm
  have HB2 := Lib.hid hb2
  have HE : Hid (srvTo x.nodes n = srvX x) := by show _ = _; unfold srvX; rw [HN.out]
  clear h hb2 hx g2
  go_enter Tryz.func47, Tryz.ntmps47
  go_wp2_with fail
  rw [← hW2]
  clear hW2
  go_loopw [3, 4] (fun v i wr => ∃ k : Nat, k ≤ n ∧ i = .int .i64 k ∧ v = .int .u16 (U (srvTo x.nodes k)) ∧ wr = W2) (fun _ i _ => n - (intOf i).toNat)
  case atStart => exact ⟨0, Nat.zero_le _, rfl, rfl, rfl⟩
  case round =>
    obtain ⟨k, hk, rfl, rfl, rfl⟩ := hrel
    by_cases hlt : k < n
    · obtain ⟨nd, hnd⟩ : ∃ nd, x.nodes[k]? = some nd := ⟨_, List.getElem?_eq_getElem (by have := HN.out; omega)⟩
      obtain ⟨b, o, ha, hat⟩ := HX.out.at' (by omega)
      have hM := hat k nd hnd
      have m0 := hM.c0
      have m1 := hM.c1
      have hst := srvTo_succ hnd
      have HOK := Lib.hid (HO.out.node k nd hnd)
      obtain ⟨S, hS⟩ : ∃ S, srvTo x.nodes k = S := ⟨_, rfl⟩
      rw [hS] at hst ⊢
      subst ha
      obtain ⟨kind, server, need, ws, ks⟩ := nd
      simp only at m0 m1 hst
      clear hM hat hnd hS
      by_cases hkind : kind = 1
      · subst hkind
        obtain ⟨sv, rfl⟩ := Int.eq_ofNat_of_zero_le HOK.out.server.1
        rw [if_pos rfl, Int.toNat_natCast] at hst
        have HST := Lib.hid hst
        have hsv := HOK.out.server.2
        simp only at hsv
        clear hst
        go_wp2_with fail
        go_roundw
        case rel => exact ⟨k + 1, by omega, by go_num, by rw [HST.out], trivial⟩
        case measure => simp [intOf]; omega
      · have hk2 : (kind == 1) = false := by simpa using hkind
        rw [if_neg hkind] at hst
        have HST := Lib.hid hst
        clear hst hkind
        go_wp2_with fail
        go_roundw
        case rel => exact ⟨k + 1, by omega, by go_num, by rw [HST.out], trivial⟩
        case measure => simp [intOf]; omega
    · obtain rfl : k = n := by omega
      rw [HE.out]
      go_wp2_with fail
      go_ret
      exact ⟨rfl, HB2.out⟩

theorem foldl_take_succ {α β : Type} (f : β → α → β) (z : β) {l : List α} {k : Nat} {y : α} (h : l[k]? = some y) : (l.take (k + 1)).foldl f z = f ((l.take k).foldl f z) y := by
  rw [List.take_add_one, h]; simp

/-- the sets found so far -/
def famTo (x : Xpr) (k : Nat) : List (BitVec 16) := ((subsS (srvX x)).take k).foldl (famStep x) []
theorem famTo_succ {x : Xpr} {k : Nat} {s : BitVec 16} (h : (subsS (srvX x))[k]? = some s) : famTo x (k + 1) = famStep x (famTo x k) s := by
  unfold famTo; exact foldl_take_succ _ _ h
theorem famTo_all (x : Xpr) {k : Nat} (h : (subsS (srvX x)).length = k) : famTo x k = famS x := by
  unfold famTo famS famOf; rw [← h, List.take_length]
theorem famTo_len (x : Xpr) (k : Nat) : (famTo x k).length ≤ k := by
  unfold famTo
  have := famFold_le x ((subsS (srvX x)).take k) []
  rw [List.length_take] at this
  simp at this
  omega

set_option maxRecDepth 100000 in
set_option maxHeartbeats 4000000 in
theorem rfamily_c (x : Xpr) (hx : xprE x = 0) (hf : XprFew x) (hs : XprSum x) (a : Option Addr) (n c : Nat) (w : World) (h : XM w a n c x.nodes) :
    Calls Tryz.prog 16 #[.agg #[.slice a n c, .int .i64 x.root]] w fun e w' => ∃ a' c', e = .returned (.tuple #[.slice a' (famE x).1.length c', .int .i64 (famE x).2]) ∧ Rd w' a' (famE x).1.length c' ((famE x).1.map setV2) ∧ Below w.heap.size w w' := by
  have H1 := Lib.hid (fun (u : World) (hb : Below w.heap.size w u) => rvalid10_c x hs a n c u (h.below hb))
  rw [hx] at H1
  have H2 := Lib.hid (fun (u : World) (hb : Below w.heap.size w u) => rservers_c x (xprE_ok hx) a n c u (h.below hb))
  have H3 := Lib.hid (fun (u : World) => rsubsets_c (srvX x) (U (srvX x)) u rfl)
  have H4 := Lib.hid (fun (s : BitVec 16) (u : World) (hb : Below w.heap.size w u) => rholds_c x (xprE_ok hx) hf s a n c u (h.below hb))
  have hcnt : (subsS (srvX x)).length ≤ 65536 := by
    rw [subsM_len]
    have h1 : cnt (srvX x) ≤ 16 := cnt_le _
    exact Nat.pow_le_pow_right (n := 2) (by decide) h1
  obtain ⟨L, hL⟩ : ∃ L, (subsS (srvX x)).length = L := ⟨_, rfl⟩
  have HE : Hid (famE x = if 400 < (famS x).length then ([], 3) else (famS x, 0)) := by show _ = _; unfold famE; rw [if_neg (by simpa using hx)]
  have HL := Lib.hid hL
  rw [hL] at hcnt
  obtain ⟨W2, hW2⟩ : ∃ W2, W2 = w.alloc (.cells #[.slice a n c, .int .i64 x.root] 32) := ⟨_, rfl⟩
  have hb2 : Below w.heap.size w W2 := by rw [hW2]; exact (Below.refl _ w).alloc (Nat.le_refl _) _
  have g2 : W2.heap[w.heap.size]? = some (.cells #[.slice a n c, .int .i64 x.root] 32 (0, 0)) := by rw [hW2]; exact heap_alloc_new _ _
  obtain ⟨⟨q0, q1⟩, _⟩ := open2 g2
  have HB2 := Lib.hid hb2
  have HG2 := Lib.hid g2
  clear hb2 g2 h hx hf hs hL
  go_enter Tryz.func16, Tryz.ntmps16
  go_wp2_with fail
  rw [← hW2]
  with_reducible refine (H1.out W2 HB2.out).mono ?_
  rintro e w1 ⟨rfl, hb1⟩
  have hg1 := heap_below hb1 HG2.out
  obtain ⟨⟨q0, q1⟩, _⟩ := open2 hg1
  have HB1 := Lib.hid (Below.next HB2.out hb1)
  have HG1 := Lib.hid hg1
  clear hb1 hg1 hW2
  go_wp2_with fail
  with_reducible refine (H2.out w1 HB1.out).mono ?_
  rintro e w3 ⟨rfl, hb3⟩
  have HB3 := Lib.hid (Below.next HB1.out hb3)
  have HG3 := Lib.hid (heap_below hb3 HG1.out)
  clear hb3 q0 q1
  go_wp2_with fail
  with_reducible refine (H3.out w3).mono ?_
  rintro e w4 ⟨v4, rfl, hown4, hb4⟩
  obtain ⟨aS, cS, rfl, hrd4⟩ := hown4.rdn L (by rw [List.length_map]; exact HL.out)
  have hml := hrd4.max
  have hle := hrd4.le
  unfold maxLen at hml
  have HB4 := Lib.hid (Below.next HB3.out hb4)
  have HG4 := Lib.hid (heap_below hb4 HG3.out)
  have HRD := Lib.hid hrd4
  clear hown4 hb4 hrd4
  go_wp2_with fail
  go_loopw [5, 7] (fun v i wr => ∃ k : Nat, k ≤ L ∧ i = .int .i64 k ∧ wr.ownsRow w4.heap.size 37 1 v (famTo x k).length ((famTo x k).map setV2) ∧ Below w4.heap.size w4 wr) (fun _ i _ => L - (intOf i).toNat)
  case atStart => exact ⟨0, Nat.zero_le _, rfl, World.ownsRow_nil _ _ _ _, Below.refl _ _⟩
  case round =>
    obtain ⟨k, hk, rfl, hrow, hb⟩ := hrel
    by_cases hlt : k < L
    · obtain ⟨s, hsk⟩ : ∃ s, (subsS (srvX x))[k]? = some s := ⟨_, List.getElem?_eq_getElem (by have := HL.out; omega)⟩
      obtain ⟨bS, oS, hA, hcS⟩ := (HRD.out.below hb).at' (by omega)
      have m0 := hcS k (.int .u16 (U s)) (by rw [List.getElem?_map, hsk]; rfl)
      have HFS := Lib.hid (famTo_succ hsk)
      have HLE := Lib.hid (famTo_len x k)
      have hk2 : (famTo x k).length ≤ 65536 := Nat.le_trans HLE.out (by omega)
      obtain ⟨O, hO⟩ : ∃ O, famTo x k = O := ⟨_, rfl⟩
      rw [hO] at hrow HFS HLE hk2
      obtain ⟨ao, co, rfl, hro⟩ := rd_of_row hrow
      have HA := Lib.hid (fun (u : World) (hu : Below wr.heap.size wr u) => accepts8_c O s ao O.length co u (hro.below hu))
      have HH := Lib.hid (fun (u : World) (hu : Below wr.heap.size wr u) => H4.out s u (Below.next HB4.out (Below.next hb hu)))
      have HKS := Lib.hid (fun (u : World) (hu : Below wr.heap.size wr u) => And.intro (cell_keep hu m0) (open2 (heap_below (Below.next hb hu) HG4.out)).1)
      have HB := Lib.hid hb
      have HROW := Lib.hid hrow
      subst hA
      obtain ⟨A, hAc⟩ : ∃ A, accS O s = A := ⟨_, rfl⟩
      rw [hAc] at HA
      have HAC := Lib.hid hAc
      clear hcS hsk hO hrow hb hro hAc
      cases A
      · obtain ⟨V, hV⟩ : ∃ V, holdX x s = V := ⟨_, rfl⟩
        rw [hV] at HH
        have HST : Hid (famStep x O s = if V = true then O ++ [s] else O) := Lib.hid (by unfold famStep; rw [if_neg (by rw [HAC.out]; decide), hV])
        clear hV
        go_wp2_with fail
        refine wp_region_quiet (C := fun y => Below wr.heap.size wr y) (by kernel_rfl) (by kernel_rfl) (below_drew (Below.refl _ _)) ?_
        repeat (refine wpQuiet_step (fun K hK => ?_); go_simp; (first | (refine hK _ ?_; clear hK K) | (apply Exists.intro; refine ⟨fun y hy => ?_, hK _ ?_⟩; (first | exact rfl | exact ⟨rfl, hy⟩ | ((refine (HA.out y hy).mono ?_); (rintro e w3 ⟨rfl, rfl⟩; exact ⟨rfl, hy⟩)) | ((refine (HH.out y hy).mono ?_); (rintro e w3 ⟨rfl, h3⟩; exact ⟨rfl, Below.next hy h3⟩)) | (obtain ⟨q1, q2, q3⟩ := HKS.out y hy; go_simp; first | exact rfl | exact ⟨rfl, hy⟩ | exact hy)); clear hK K)))
        refine wpQuiet_nil ?_
        intro wq hwq
        have HBQ := Lib.hid (Below.next HB.out hwq)
        have hrq := rowK_below HROW.out hwq
        have mq := (HKS.out wq hwq).1
        cases V
        · rw [if_neg (by decide)] at HST
          have HRQ := Lib.hid hrq
          clear hrq mq hwq
          go_wp2_with fail
          go_roundw
          case rel => exact ⟨k + 1, by omega, by go_num, by rw [HFS.out, HST.out]; exact HRQ.out, HBQ.out⟩
          case measure => simp [intOf]; omega
        · rw [if_pos rfl] at HST
          have hbq := HBQ.out
          clear hwq
          go_wp2_with (at_builtin; go_must (refine wpList_app _ _ 26 2 (.int .u16 0) (.int .u16 (U s)) _ Tryz.underlying26 Tryz.infoSet rfl hrq hbq (Nat.le_refl _) rfl rfl rfl rfl rfl (by unfold maxLen; omega) (by omega) ?_))
          intro v' w9 hown9 hb9 _ _
          have HO9 := Lib.hid hown9
          have HB9 := Lib.hid hb9
          clear hown9 hb9 hrq hbq mq
          go_wp2_with fail
          go_roundw
          case rel => exact ⟨k + 1, by omega, by go_num, by rw [HFS.out, HST.out, List.length_append, List.map_append]; exact HO9.out, HB9.out⟩
          case measure => simp [intOf]; omega
      · have HST : Hid (famStep x O s = O) := Lib.hid (by unfold famStep; rw [if_pos HAC.out])
        go_wp2_with fail
        refine wp_region_quiet (C := fun y => Below wr.heap.size wr y) (by kernel_rfl) (by kernel_rfl) (below_drew (Below.refl _ _)) ?_
        repeat (refine wpQuiet_step (fun K hK => ?_); go_simp; (first | (refine hK _ ?_; clear hK K) | (apply Exists.intro; refine ⟨fun y hy => ?_, hK _ ?_⟩; (first | exact rfl | exact ⟨rfl, hy⟩ | ((refine (HA.out y hy).mono ?_); (rintro e w3 ⟨rfl, rfl⟩; exact ⟨rfl, hy⟩)) | (obtain ⟨q1, q2, q3⟩ := HKS.out y hy; go_simp; first | exact rfl | exact ⟨rfl, hy⟩ | exact hy)); clear hK K)))
        refine wpQuiet_nil ?_
        intro wq hwq
        have HBQ := Lib.hid (Below.next HB.out hwq)
        have HRQ := Lib.hid (rowK_below HROW.out hwq)
        clear hwq
        go_wp2_with fail
        go_roundw
        case rel => exact ⟨k + 1, by omega, by go_num, by rw [HFS.out, HST.out]; exact HRQ.out, HBQ.out⟩
        case measure => simp [intOf]; omega
    · obtain rfl : k = L := by omega
      have hft := famTo_all x HL.out
      rw [hft] at hrow
      have hfl := famTo_len x k
      rw [hft] at hfl
      have HBF := Lib.hid (Below.next HB4.out hb)
      obtain ⟨O, hO⟩ : ∃ O, famS x = O := ⟨_, rfl⟩
      rw [hO] at hrow hfl HE
      obtain ⟨ao, co, rfl, hro⟩ := rd_of_row hrow
      have HRO := Lib.hid hro
      clear hft hO hrow hro hb
      by_cases h4 : 400 < O.length
      · rw [if_pos h4] at HE
        have hd : decide ((400 : Int) < (O.length : Int)) = true := decide_eq_true (by omega)
        clear h4
        go_wp2_with fail
        go_ret2
        rw [HE.out]
        exact ⟨none, 0, rfl, Rd.none_ _, HBF.out⟩
      · rw [if_neg h4] at HE
        have hd : decide ((400 : Int) < (O.length : Int)) = false := decide_eq_false (by omega)
        clear h4
        go_wp2_with fail
        go_ret2
        rw [HE.out]
        exact ⟨ao, co, rfl, HRO.out, HBF.out⟩
end Go.Proofs.YtcojmmhclklpoaaGreatDoor
namespace Go.Proofs.YtcojmmhclklpoaaGreatDoor
open Go.RowKit Go.Shelf

theorem setV_same : (setV : BitVec 16 → Value) = setV2 := by funext x; rfl
set_option maxRecDepth 100000 in
set_option maxHeartbeats 4000000 in
theorem families_w (v : Value) (xs : List Pce) (w : World) (ht : HasTab w) (hp : HasPow w) (hr : HasRng w) (hy : HasSyn w) (w0 : IsDraft w v xs) :
    Calls Tryz.prog 3 #[v] w fun e w' => e = .returned (.bool true) ∧ Below w.heap.size w w' := by
  have HA := Lib.hid (fun u (hb : Below w.heap.size w u) => awake10_c u (ht.below hb) (hp.below hb) (hr.below hb) (hy.below hb))
  obtain ⟨ax, nx, cx, rfl, hpx⟩ := w0.val
  have HMX := Lib.hid (fun u (hb : Below w.heap.size w u) => made_c xs w0.okx ax nx cx u (hpx.below hb))
  obtain ⟨hxo, _, _⟩ := madX_ok w0.okx
  have hxf := madX_few xs
  have hxs := madX_sum xs
  obtain ⟨X, hX⟩ : ∃ X, madX xs = X := ⟨_, rfl⟩
  rw [hX] at HMX hxo hxf hxs
  have HE := Lib.hid (fun a n c u h (hb : Below w.heap.size w u) => family_x X hxo hxf a n c u (ht.below hb) h)
  have HR := Lib.hid (fun a n c u h => rfamily_c X hxo hxf hxs a n c u h)
  unfold FamR at HE
  obtain ⟨Q, hQ⟩ : ∃ Q, famE X = Q := ⟨_, rfl⟩
  rw [hQ] at HE HR
  obtain ⟨L, er⟩ := Q
  simp only at HE HR
  have hee : (er == er) = true := by simp
  clear hX hxo hxf hxs hQ ht hp hr hy w0 hpx
  go_enter Tryz.func3, Tryz.ntmps3
  go_wp2_with fail
  obtain ⟨W0, hW0⟩ : ∃ W0, W0 = w.alloc (.cells #[.slice ax nx cx] 24) := ⟨_, rfl⟩
  rw [← hW0]
  have hb0 : Below w.heap.size w W0 := by rw [hW0]; exact (Below.refl _ _).alloc (Nat.le_refl _) _
  have g0 : W0.heap[w.heap.size]? = some (.cells #[.slice ax nx cx] 24 (0, 0)) := by rw [hW0]; exact heap_alloc_new _ _
  with_reducible refine (HA.out W0 hb0).mono ?_
  rintro e w1 ⟨rfl, b1⟩
  have HB1 := Lib.hid (Below.next hb0 b1)
  have HG1 := Lib.hid (heap_below b1 g0)
  have r0 := cell_of_row _ _ 0 _ _ _ HG1.out
  clear b1 hb0 g0 hW0 HA
  go_wp2_with fail
  clear r0
  with_reducible refine (HMX.out w1 HB1.out).mono ?_
  rintro e w2 ⟨a2, c2, rfl, hx2, b2⟩
  obtain ⟨N, hN⟩ : ∃ N, X.nodes.length = N := ⟨_, rfl⟩
  obtain ⟨RT, hRT⟩ : ∃ RT, X.root = RT := ⟨_, rfl⟩
  rw [hN, hRT] at HMX
  rw [hN] at hx2 ⊢
  rw [hRT] at HE HR ⊢
  have HX2 := Lib.hid hx2
  have HB2 := Lib.hid (Below.next HB1.out b2)
  have HG2 := Lib.hid (heap_below b2 HG1.out)
  clear hx2 b2 hN hRT HB1 HG1
  go_wp2_with fail
  with_reducible refine (HE.out a2 N c2 w2 HX2.out HB2.out).mono ?_
  rintro e w3 ⟨a3, c3, rfl, hr3, b3⟩
  have HR3 := Lib.hid hr3
  have HB3 := Lib.hid (Below.next HB2.out b3)
  have HG3 := Lib.hid (heap_below b3 HG2.out)
  have r0 := cell_of_row _ _ 0 _ _ _ HG3.out
  clear hr3 b3 HB2 HG2 HX2
  go_wp2_with fail
  clear r0
  with_reducible refine (HMX.out w3 HB3.out).mono ?_
  rintro e w4 ⟨a4, c4, rfl, hx4, b4⟩
  have HX4 := Lib.hid hx4
  have HB4 := Lib.hid (Below.next HB3.out b4)
  have HR4 := Lib.hid (HR3.out.below b4)
  clear hx4 b4 HB3 HG3 HR3
  go_wp2_with fail
  with_reducible refine (HR.out a4 N c4 w4 HX4.out).mono ?_
  rintro e w5 ⟨a5, c5, rfl, hr5, b5⟩
  have HR5 := Lib.hid hr5
  have HB5 := Lib.hid (Below.next HB4.out b5)
  have HR45 := Lib.hid (HR4.out.below b5)
  clear hr5 b5 HB4 HX4 HR4
  go_wp2_with fail
  with_reducible refine (same8_c L a3 L.length c3 a5 L.length c5 w5 (by have h := HR45.out; rw [setV_same] at h; exact h) HR5.out).mono ?_
  rintro e w6 ⟨rfl, b6⟩
  have HB6 := Lib.hid (Below.next HB5.out b6)
  clear b6
  go_wp2_with fail
  go_ret
  exact ⟨rfl, HB6.out⟩
end Go.Proofs.YtcojmmhclklpoaaGreatDoor
