/- Texts laid together. The reference's Holds of layer 10. The reference's node of layer 10 (printed by rnd.py). The reference's Valid of layer 10. The reference of layer 8: Size, Before, Contains, Range, Accepts, Support, Valid. Eval, the program's and the reference's. -/
import Derived.Test.YtcojmmhclklpoaaGreatDoorGC3
import Derived.Test.YtcojmmhclklpoaaGreatDoorGC4
import Derived.Deep.OwnRows
namespace Go.Proofs.YtcojmmhclklpoaaGreatDoor
open Go.RowKit Go.Shelf

theorem Tryz.infoBl : (Tryz.prog.info? 4).map (fun i => (i.zero, i.size, i.bytes)) = some (some (.bool false), 1, 1) := by kernel_rfl
theorem make_bool (m : Nat) (hm : m ≤ 1000000) : ∀ w, (Instr.makeSlice 78 (.int .i64 m) (.int .i64 m)).run Tryz.prog w = .ok (.slice (some ⟨w.heap.size, 0, none⟩) m m) (w.alloc (.cells (madeCells #[.bool false] m) 4)) :=
  fun w => run_make_row' 78 4 (.bool false) 1 Tryz.underlying78 Tryz.infoBl rfl .i64 .i64 m (by omega) (by omega) w
/-- so many places, the first ones filled -/
def isN (n : Nat) (l : List Bool) : Array Value := ((l ++ List.replicate (n - l.length) false).map Value.bool).toArray
theorem isN_made (n : Nat) : madeCells #[.bool false] n = isN n [] := by
  apply Array.toList_inj.1
  rw [toList_madeCells_one]; unfold isN; simp
theorem isN_at {n : Nat} {l : List Bool} (h : l.length ≤ n) {i : Nat} (hi : i < n) : (isN n l)[i]? = some (.bool (l.getD i false)) := by
  unfold isN
  rw [List.getElem?_toArray, List.getElem?_map, List.getD_eq_getElem?_getD]
  by_cases h1 : i < l.length
  · rw [List.getElem?_append_left h1, List.getElem?_eq_getElem h1]; rfl
  · rw [List.getElem?_append_right (by omega), List.getElem?_replicate, if_pos (by omega), List.getElem?_eq_none (by omega)]; rfl
theorem isN_set {n : Nat} {l : List Bool} (h : l.length < n) (v : Bool) : (isN n l).setIfInBounds l.length (.bool v) = isN n (l ++ [v]) := by
  unfold isN
  rw [List.setIfInBounds_toArray]
  congr 1
  have e : n - l.length = (n - (l ++ [v]).length) + 1 := by simp; omega
  rw [e, List.replicate_succ, List.map_append, List.map_append, List.map_append, List.map_cons, List.set_append_right _ _ (by simp)]
  simp

set_option maxRecDepth 100000 in
set_option maxHeartbeats 4000000 in
theorem rholds_c (x : Xpr) (hx : XprOk x) (hf : XprFew x) (s : BitVec 16) (a : Option Addr) (n c : Nat) (w : World) (h : XM w a n c x.nodes) :
    Calls Tryz.prog 21 #[.agg #[.slice a n c, .int .i64 x.root], .int .u16 (U s)] w fun e w' => e = .returned (.bool (holdX x s)) ∧ Below w.heap.size w w' := by
  obtain ⟨r, hr⟩ := Int.eq_ofNat_of_zero_le hx.root.1
  have hrn : r < n := by have h1 := hx.root.2; have h2 := h.len; omega
  have hle := h.le
  have hm := h.max
  have hn60 : n ≤ 60 := by have h1 := hx.most; have h2 := h.len; omega
  unfold maxLen at hm
  have HV : Hid (holdX x s = (holdTo x.nodes s n).getD r false) := Lib.hid (by unfold holdX; rw [hr, Int.toNat_natCast, h.len])
  rw [hr]
  have HX := Lib.hid h
  have HO := Lib.hid hx
  have HF := Lib.hid hf
  have HN := Lib.hid h.len
  clear h hx hf hr
  have hmk := make_bool n (by omega)
  obtain ⟨W2, hW2⟩ : ∃ W2, W2 = w.alloc (.cells #[.slice a n c, .int .i64 r] 32) := ⟨_, rfl⟩
  obtain ⟨W3, hW3⟩ : ∃ W3, W3 = W2.alloc (.cells (madeCells #[.bool false] n) 4) := ⟨_, rfl⟩
  have hs2 : W2.heap.size = w.heap.size + 1 := by rw [hW2]; simp
  have hs3 : W3.heap.size = w.heap.size + 2 := by rw [hW3, hW2]; simp
  have hb3 : Below w.heap.size w W3 := by rw [hW3, hW2]; exact ((Below.refl _ w).alloc (Nat.le_refl _) _).alloc (by simp) _
  have g0 : W3.heap[w.heap.size]? = some (.cells #[.slice a n c, .int .i64 r] 32 (0, 0)) := by rw [hW3, hW2]; exact heap_alloc_at (heap_alloc_new _ _) _
  have g1 : W3.heap[w.heap.size + 1]? = some (.cells (isN n []) 4 (0, 0)) := by rw [hW3, ← hs2, isN_made]; exact heap_alloc_new _ _
  have G0 := Lib.hid g0
  have G1 := Lib.hid g1
  have HB3 := Lib.hid hb3
  have HS3 := Lib.hid hs3
  clear g0 g1 hb3 hs3
  go_enter Tryz.func21, Tryz.ntmps21
  go_wp2_with fail
  rw [← hW2]
  try simp only [hs2]
  rw [← hW3]
  clear hW3 hW2 hs2 hmk
  go_loopw [6] (fun i wr => ∃ k : Nat, k ≤ n ∧ i = .int .i64 k ∧ wr.heap[w.heap.size + 1]? = some (.cells (isN n (holdTo x.nodes s k)) 4 (0, 0)) ∧ wr.heap[w.heap.size]? = some (.cells #[.slice a n c, .int .i64 r] 32 (0, 0)) ∧ w.heap.size + 2 ≤ wr.heap.size ∧ Below w.heap.size w wr) (fun i _ => n - (intOf i).toNat)
  case atStart => exact ⟨0, Nat.zero_le _, rfl, G1.out, G0.out, by rw [HS3.out]; exact Nat.le_refl _, HB3.out⟩
  case round =>
    obtain ⟨k, hk, rfl, e1, e0, hsz, hb⟩ := hrel
    by_cases hlt : k < n
    · obtain ⟨nd, hnd⟩ : ∃ nd, x.nodes[k]? = some nd := ⟨_, List.getElem?_eq_getElem (by have := HN.out; omega)⟩
      obtain ⟨b', o', ha, hat⟩ := (HX.out.below hb).at' (by omega)
      have hM := hat k nd hnd
      obtain ⟨a3, n3, c3, m3, r3⟩ := hM.ws
      obtain ⟨a4, n4, c4, m4, r4⟩ := hM.ks
      have m0 := hM.c0
      have m1 := hM.c1
      have m2 := hM.c2
      have HOK := Lib.hid (HO.out.node k nd hnd)
      have hfew := HF.out k nd hnd
      have HST : Hid (holdTo x.nodes s (k + 1) = holdTo x.nodes s k ++ [valN nd (holdTo x.nodes s k) s]) := Lib.hid (by
        rw [holdTo]
        rw [show x.nodes.getD k nod0 = nd by rw [List.getD_eq_getElem?_getD, hnd]; rfl])
      have HL := Lib.hid (holdTo_len x.nodes s k)
      obtain ⟨I, hI⟩ : ∃ I, holdTo x.nodes s k = I := ⟨_, rfl⟩
      rw [hI] at e1 HST HL
      obtain ⟨kind, server, need, ws, ks⟩ := nd
      simp only at m0 m1 m2 hfew r3 r4
      have R3 := Lib.hid r3
      have R4 := Lib.hid r4
      have HB := Lib.hid hb
      have q0 := cell_of_row _ _ 0 _ _ _ e0
      have ea := heap_alloc_at e1 (Obj.cells #[.int .i64 kind, .int .i64 server, .int .i64 need, .slice a3 n3 c3, .slice a4 n4 c4] 71)
      have ea0 := heap_alloc_at e0 (Obj.cells #[.int .i64 kind, .int .i64 server, .int .i64 need, .slice a3 n3 c3, .slice a4 n4 c4] 71)
      have en := heap_alloc_new wr (Obj.cells #[.int .i64 kind, .int .i64 server, .int .i64 need, .slice a3 n3 c3, .slice a4 n4 c4] 71)
      have hbn : Below wr.heap.size wr (wr.alloc (Obj.cells #[.int .i64 kind, .int .i64 server, .int .i64 need, .slice a3 n3 c3, .slice a4 n4 c4] 71)) := (Below.refl _ wr).alloc (Nat.le_refl _) _
      have hlk : ks.length = n4 := by have := R4.out.len; simp at this; omega
      have hle4 := R4.out.le
      have hm4 := R4.out.max
      unfold maxLen at hm4
      subst ha
      clear hM r3 r4 hat hnd hI hb
      go_wp2_with fail
      generalize hWA : wr.alloc _ = WA
      rw [hWA] at ea ea0 en hbn
      have EA := Lib.hid ea
      have EA0 := Lib.hid ea0
      have EN := Lib.hid en
      have HBN := Lib.hid hbn
      have HSA : Hid (w.heap.size + 2 ≤ WA.heap.size ∧ wr.heap.size < WA.heap.size) := Lib.hid (by rw [← hWA]; simp; omega)
      clear hWA ea ea0 en hbn e0 e1 m0 m1 m2 m3 m4 q0
      obtain ⟨W0, hW0⟩ : ∃ W0, W0 = wr := ⟨_, rfl⟩
      subst hW0
      go_loopw [8, 9] (fun v i wq => ∃ j : Nat, j ≤ n4 ∧ i = .int .i64 j ∧ v = .int .i64 (gotTo ⟨kind, server, need, ws, ks⟩ I j) ∧ Below WA.heap.size WA wq) (fun _ i _ => n4 - (intOf i).toNat)
      case atStart => exact ⟨0, Nat.zero_le _, rfl, rfl, Below.refl _ _⟩
      case round =>
        obtain ⟨j, hj, rfl, rfl, hbq⟩ := hrel
        have eqn := heap_below hbq EN.out
        have p0 := cell_of_row _ _ 0 _ _ _ eqn
        have p1 := cell_of_row _ _ 1 _ _ _ eqn
        have p2 := cell_of_row _ _ 2 _ _ _ eqn
        have p3 := cell_of_row _ _ 3 _ _ _ eqn
        have p4 := cell_of_row _ _ 4 _ _ _ eqn
        by_cases hltj : j < n4
        · obtain ⟨z, hz⟩ : ∃ z, ks[j]? = some z := ⟨_, List.getElem?_eq_getElem (by omega)⟩
          have hzr := HOK.out.kids z (List.mem_of_getElem? hz)
          obtain ⟨kd, rfl⟩ := Int.eq_ofNat_of_zero_le hzr.1
          have hkd2 : kd < k := by omega
          obtain ⟨b4, o4, ha4, hcell4⟩ := (R4.out.below (Below.next HBN.out hbq)).at' (by omega)
          have q4 := hcell4 j (.int .i64 kd) (by rw [List.getElem?_map, hz]; rfl)
          have eq1 := heap_below hbq EA.out
          have q1 := cell_of_row _ _ kd _ _ _ eq1 |>.trans (isN_at (by have := HL.out; omega) (by omega))
          have hgs : gotTo ⟨kind, server, need, ws, ks⟩ I (j + 1) = gotTo ⟨kind, server, need, ws, ks⟩ I j + (if I.getD kd false = true then wgtN ⟨kind, server, need, ws, ks⟩ j else 0) := by
            rw [gotTo]
            show _ + (if I.getD ((ks.getD j 0).toNat) false = true then _ else _) = _
            rw [show ks.getD j 0 = (kd : Int) by rw [List.getD_eq_getElem?_getD, hz]; rfl, Int.toNat_natCast]
          have hgb := got_bd HOK.out I j
          have hwb := wgt_pos HOK.out j
          subst ha4
          cases hi : I.getD kd false
          · rw [hi] at q1 hgs
            rw [if_neg (by decide), Int.add_zero] at hgs
            have HGS := Lib.hid hgs
            clear hcell4 hz hgs hi hgb hwb hzr eq1 eqn
            go_wp2_with fail
            go_roundw
            case rel => exact ⟨j + 1, by omega, by go_num, by rw [HGS.out], hbq⟩
            case measure => simp [intOf]; omega
          · rw [hi] at q1 hgs
            rw [if_pos rfl] at hgs
            have HW : Hid (∀ y, Below W0.heap.size W0 y → Calls Tryz.prog 53 #[.agg #[.int .i64 kind, .int .i64 server, .int .i64 need, .slice a3 n3 c3, .slice (some ⟨b4, o4, none⟩) n4 c4], .int .i64 j] y fun e w' => e = .returned (.int .i64 (wgtN ⟨kind, server, need, ws, ks⟩ j)) ∧ Below y.heap.size y w') :=
              Lib.hid (fun y hy => rwgt_c ⟨kind, server, need, ws, ks⟩ j a3 n3 c3 (some ⟨b4, o4, none⟩) n4 c4 y (R3.out.below hy) (by
                rcases HOK.out.arity with h | h
                · exact .inl h
                · right; rw [h]; show j < ks.length; omega))
            obtain ⟨S, hS⟩ : ∃ S, gotTo ⟨kind, server, need, ws, ks⟩ I j = S := ⟨_, rfl⟩
            obtain ⟨G, hG⟩ : ∃ G, wgtN ⟨kind, server, need, ws, ks⟩ j = G := ⟨_, rfl⟩
            rw [hS] at hgs hgb ⊢
            rw [hG] at hgs hwb HW
            have hwr2 : wrap64 (S + G) = S + G := by unfold wrap64; omega
            have HGS := Lib.hid hgs
            have HBQ := Lib.hid hbq
            clear hcell4 hz hgs hi hgb hwb hzr eq1 eqn hS hG hbq
            go_wp2_with fail
            refine (HW.out _ (Below.next HBN.out HBQ.out)).mono ?_
            rintro e w5 ⟨rfl, hb5⟩
            have hb6 := Below.next HBQ.out hb5
            go_wp2_with fail
            go_roundw
            case rel => exact ⟨j + 1, by omega, by go_num, by rw [HGS.out, hwr2], hb6⟩
            case measure => simp [intOf]; omega
        · obtain rfl : j = n4 := by omega
          have eq1 := heap_below hbq EA.out
          have q1 := cell_of_row _ _ k _ _ _ eq1 |>.trans (isN_at (by have := HL.out; omega) (by omega))
          have z1 := frozen_row eq1 k
          have EQ1 := Lib.hid eq1
          have EQ0 := Lib.hid (heap_below hbq EA0.out)
          have HBF := Lib.hid (Below.next HB.out (Below.next HBN.out hbq))
          have HSQ := Lib.hid hbq.size
          obtain ⟨sv, hsv⟩ := Int.eq_ofNat_of_zero_le HOK.out.server.1
          have hs12 := HOK.out.server.2
          simp only at hsv hs12
          subst hsv
          have hhas : hasI s (sv : Int) = hasB s sv := by unfold hasI; rw [decide_eq_true (by omega), decide_eq_true (by omega)]; rfl
          have HVN : Hid (valN ⟨kind, (sv : Int), need, ws, ks⟩ I s = if kind = 1 then hasB s sv else decide (need ≤ gotTo ⟨kind, (sv : Int), need, ws, ks⟩ I j)) := Lib.hid (by unfold valN; simp only [hlk]; rfl)
          rw [HVN.out] at HST
          obtain ⟨S, hS⟩ : ∃ S, gotTo ⟨kind, (sv : Int), need, ws, ks⟩ I j = S := ⟨_, rfl⟩
          rw [hS] at HST ⊢
          have HH : Hid (∀ y, Calls Tryz.prog 54 #[.int .u16 (U s), .int .i64 (sv : Int)] y fun e w' => e = .returned (.bool (hasB s sv)) ∧ y = w') := Lib.hid (fun y => by rw [← hhas]; exact has_c s _ _ y rfl)
          have hk12 := HOK.out.kind
          simp only at hk12
          clear eqn eq1 hS hbq hhas HVN
          rcases hk12 with rfl | rfl
          · rw [if_pos rfl] at HST
            obtain ⟨V, hV⟩ : ∃ V, hasB s sv = V := ⟨_, rfl⟩
            rw [hV] at HST HH
            clear hV
            cases V
            · go_wp2_with fail
              refine (HH.out _).mono ?_
              rintro e w5 ⟨rfl, rfl⟩
              go_wp2_with fail
              go_roundw
              case rel =>
                have hkl := HL.out
                have hsq := HSQ.out
                have hsa := HSA.out
                refine ⟨k + 1, by omega, by go_num, ?_, ?_, ?_, ?_⟩
                · rw [heap_set_at EQ1.out, HST.out, ← hkl, isN_set (by omega)]
                · exact heap_set_other (by omega) _ _ EQ0.out
                · simp [World.setCell]; omega
                · exact HBF.out.setCell (p := ⟨w.heap.size + 1, k, none⟩) (by show w.heap.size ≤ w.heap.size + 1; omega) _
              case measure => simp [intOf]; omega
            · go_wp2_with fail
              refine (HH.out _).mono ?_
              rintro e w5 ⟨rfl, rfl⟩
              go_wp2_with fail
              go_roundw
              case rel =>
                have hkl := HL.out
                have hsq := HSQ.out
                have hsa := HSA.out
                refine ⟨k + 1, by omega, by go_num, ?_, ?_, ?_, ?_⟩
                · rw [heap_set_at EQ1.out, HST.out, ← hkl, isN_set (by omega)]
                · exact heap_set_other (by omega) _ _ EQ0.out
                · simp [World.setCell]; omega
                · exact HBF.out.setCell (p := ⟨w.heap.size + 1, k, none⟩) (by show w.heap.size ≤ w.heap.size + 1; omega) _
              case measure => simp [intOf]; omega
          · rw [if_neg (by decide)] at HST
            by_cases hns : need ≤ S
            · have hd : decide (need ≤ S) = true := decide_eq_true hns
              rw [hd] at HST
              clear hns
              go_wp2_with fail
              go_roundw
              case rel =>
                have hkl := HL.out
                have hsq := HSQ.out
                have hsa := HSA.out
                refine ⟨k + 1, by omega, by go_num, ?_, ?_, ?_, ?_⟩
                · rw [heap_set_at EQ1.out, HST.out, ← hkl, isN_set (by omega)]
                · exact heap_set_other (by omega) _ _ EQ0.out
                · simp [World.setCell]; omega
                · exact HBF.out.setCell (p := ⟨w.heap.size + 1, k, none⟩) (by show w.heap.size ≤ w.heap.size + 1; omega) _
              case measure => simp [intOf]; omega
            · have hd : decide (need ≤ S) = false := decide_eq_false hns
              rw [hd] at HST
              clear hns
              go_wp2_with fail
              go_roundw
              case rel =>
                have hkl := HL.out
                have hsq := HSQ.out
                have hsa := HSA.out
                refine ⟨k + 1, by omega, by go_num, ?_, ?_, ?_, ?_⟩
                · rw [heap_set_at EQ1.out, HST.out, ← hkl, isN_set (by omega)]
                · exact heap_set_other (by omega) _ _ EQ0.out
                · simp [World.setCell]; omega
                · exact HBF.out.setCell (p := ⟨w.heap.size + 1, k, none⟩) (by show w.heap.size ≤ w.heap.size + 1; omega) _
              case measure => simp [intOf]; omega
    · obtain rfl : k = n := by omega
      have hc := cell_of_row _ _ r _ _ _ e1 |>.trans (isN_at (by rw [holdTo_len]; omega) (by omega))
      rw [← HV.out] at hc
      have hc2 := cell_of_row _ _ 1 _ _ _ e0
      go_wp2_with fail
      go_ret
      exact ⟨rfl, hb⟩
end Go.Proofs.YtcojmmhclklpoaaGreatDoor
namespace Go.Proofs.YtcojmmhclklpoaaGreatDoor
open Go.RowKit Go.Shelf

set_option maxRecDepth 100000 in
set_option maxHeartbeats 8000000 in
theorem rnode_c (nd : Nod) (i0 : Nat) (aw : Option Addr) (nw cw : Nat) (ak : Option Addr) (nk ck : Nat) (w : World) (hsum : nw + nk ≤ 9223372036854775807) (hw : Rd w aw nw cw (nd.weights.map (Value.int .i64))) (hk : Rd w ak nk ck (nd.kids.map (Value.int .i64))) :
    Calls Tryz.prog 79 #[.agg #[.int .i64 nd.kind, .int .i64 nd.server, .int .i64 nd.need, .slice aw nw cw, .slice ak nk ck], .int .i64 i0] w fun e w' => e = .returned (.int .i64 (nodE nd i0)) ∧ Below w.heap.size w w' := by
  have hlw : nd.weights.length = nw := by have := hw.len; simp at this; omega
  have hlk : nd.kids.length = nk := by have := hk.len; simp at this; omega
  have hE := nodE_F nd i0
  rw [hlw, hlk] at hE
  obtain ⟨kind, server, need, ws, ks⟩ := nd
  simp only at hw hk hlw hlk hE ⊢
  obtain ⟨V, hV0⟩ : ∃ V, nodE ⟨kind, server, need, ws, ks⟩ i0 = V := ⟨_, rfl⟩
  rw [hV0] at hE ⊢
  obtain ⟨W2, hW2⟩ : ∃ W2, W2 = w.alloc (Obj.cells #[.int .i64 kind, .int .i64 server, .int .i64 need, .slice aw nw cw, .slice ak nk ck] 71) := ⟨_, rfl⟩
  have hb2 : Below w.heap.size w W2 := by rw [hW2]; exact (Below.refl _ w).alloc (Nat.le_refl _) _
  have hle := hw.le
  have hm := hw.max
  have hle2 := hk.le
  have hm2 := hk.max
  unfold maxLen at hm hm2
  have HV := Lib.hid hE
  have HW := Lib.hid (hw.below hb2)
  have HK := Lib.hid (hk.below hb2)
  have HB2 := Lib.hid hb2
  have HLW := Lib.hid hlw
  have HLK := Lib.hid hlk
  have g2 : W2.heap[w.heap.size]? = some (.cells #[.int .i64 kind, .int .i64 server, .int .i64 need, .slice aw nw cw, .slice ak nk ck] 71 (0, 0)) := by rw [hW2]; exact heap_alloc_new _ _
  have q3 := cell_of_row _ _ 3 _ _ _ g2
  have q4 := cell_of_row _ _ 4 _ _ _ g2
  clear g2 hb2 hE hV0 hw hk hlw hlk
  by_cases k1 : kind = 1
  · subst k1
    by_cases n0 : need = 0
    · subst n0
      by_cases w0 : nw = 0 ∧ nk = 0
      · obtain ⟨w0, c0⟩ := w0
        subst w0 c0
        by_cases t0 : server < 0
        · have d0 : decide (server < 0) = true := decide_eq_true t0
          have hV : Hid (V = 7) := Lib.hid (HV.out.trans (by unfold nodF; rw [if_neg (by omega), if_pos (by omega)]))
          clear t0
          go_enter Tryz.func79, Tryz.ntmps79
          go_wp2_with fail
          go_ret
          exact ⟨ret_int hV.out.symm, by rw [← hW2]; exact HB2.out⟩

        have d0 : decide (server < 0) = false := decide_eq_false t0
        by_cases t1 : (12 : Int) ≤ server
        · have d1 : decide ((12 : Int) ≤ server) = true := decide_eq_true t1
          have hV : Hid (V = 7) := Lib.hid (HV.out.trans (by unfold nodF; rw [if_neg (by omega), if_pos (by omega)]))
          clear t0 t1
          go_enter Tryz.func79, Tryz.ntmps79
          go_wp2_with fail
          go_ret
          exact ⟨ret_int hV.out.symm, by rw [← hW2]; exact HB2.out⟩

        have d1 : decide ((12 : Int) ≤ server) = false := decide_eq_false t1
        go_enter Tryz.func79, Tryz.ntmps79
        go_wp2_with fail
        rw [← hW2]
        clear hW2
        go_loopw [5] (fun i wr => ∃ k : Nat, k ≤ 0 ∧ i = .int .i64 k ∧ Hid (∀ (j : Nat) x, j < k → ws[j]? = some x → hvyB x = false) ∧ W2 = wr) (fun i _ => 0 - (intOf i).toNat)
        case atStart => exact ⟨0, Nat.zero_le _, rfl, Lib.hid (fun j x hj => by omega), rfl⟩
        case round =>
          obtain ⟨k, hk, rfl, hno, rfl⟩ := hrel
          by_cases hlt : k < 0
          · omega
          · have hkn : 0 = k := by omega
            have HHV : Hid (ws.any hvyB = false) := Lib.hid (by
              rw [List.any_eq_false]
              intro x hx
              obtain ⟨j, hj⟩ := List.mem_iff_getElem?.1 hx
              rw [hno.out j x (by have := (List.getElem?_eq_some_iff.1 hj).1; have := HLW.out; omega) hj]; decide)
            clear hno
            subst hkn
            have m0 : ¬ (0 < 0 ∧ 0 ≠ 0) := by omega
            have HM0 := Lib.hid m0
            have f1 : decide (0 < 0) = false := decide_eq_false (by omega)
            have hs : True := trivial
            clear hs
            go_wp2_with fail
            go_loopw [6] (fun i wr => ∃ k : Nat, k ≤ 0 ∧ i = .int .i64 k ∧ Hid (∀ (j : Nat) x, j < k → ks[j]? = some x → unkB i0 x = false) ∧ W2 = wr) (fun i _ => 0 - (intOf i).toNat)
            case atStart => exact ⟨0, Nat.zero_le _, rfl, Lib.hid (fun j x hj => by omega), rfl⟩
            case round =>
              obtain ⟨j, hj, rfl, hno, rfl⟩ := hrel
              by_cases hlt2 : j < 0
              · omega
              · have hkn2 : 0 = j := by omega
                have HUN : Hid (ks.any (unkB i0) = false) := Lib.hid (by
                  rw [List.any_eq_false]
                  intro x hx
                  obtain ⟨l, hl⟩ := List.mem_iff_getElem?.1 hx
                  rw [hno.out l x (by have := (List.getElem?_eq_some_iff.1 hl).1; have := HLK.out; omega) hl]; decide)
                have hV : Hid (V = 0) := Lib.hid (HV.out.trans (by
                  have := HM0.out
                  rw [HUN.out, HHV.out]; unfold nodF; rw [if_neg (by omega), if_neg (by simp; omega), if_neg (by omega), if_neg (by decide)]))
                clear hno
                subst hkn2
                go_wp2_with fail
                go_ret
                exact ⟨ret_int hV.out.symm, HB2.out⟩

      · have hd : decide ((0 : Int) < (nw : Int) + (nk : Int)) = true := decide_eq_true (by omega)
        have hd2 : decide (0 < nw + nk) = true := decide_eq_true (by omega)
        have hwr : wrap64 ((nw : Int) + (nk : Int)) = (nw : Int) + (nk : Int) := by unfold wrap64; omega
        have hV : Hid (V = 1) := Lib.hid (HV.out.trans (by unfold nodF; rw [if_pos (by omega)]))
        clear w0
        go_enter Tryz.func79, Tryz.ntmps79
        go_wp2_with fail
        go_ret
        exact ⟨ret_int hV.out.symm, by rw [← hW2]; exact HB2.out⟩

    · have hd : (need != 0) = true := by simpa using n0
      have hV : Hid (V = 1) := Lib.hid (HV.out.trans (by unfold nodF; rw [if_pos (by omega)]))
      clear n0
      go_enter Tryz.func79, Tryz.ntmps79
      go_wp2_with fail
      go_ret
      exact ⟨ret_int hV.out.symm, by rw [← hW2]; exact HB2.out⟩

  · have hk1 : (kind == 1) = false := by simpa using k1
    have hk1' : (kind != 1) = true := by simpa using k1
    by_cases k2 : kind = 2
    · subst k2
      by_cases s0 : server = 0
      · subst s0
        by_cases t0 : need < 0
        · have d0 : decide (need < 0) = true := decide_eq_true t0
          have hV : Hid (V = 7) := Lib.hid (HV.out.trans (by unfold nodF; rw [if_neg (by omega), if_pos (by omega)]))
          clear t0
          go_enter Tryz.func79, Tryz.ntmps79
          go_wp2_with fail
          go_ret
          exact ⟨ret_int hV.out.symm, by rw [← hW2]; exact HB2.out⟩

        have d0 : decide (need < 0) = false := decide_eq_false t0
        by_cases t1 : (100000 : Int) < need
        · have d1 : decide ((100000 : Int) < need) = true := decide_eq_true t1
          have hV : Hid (V = 7) := Lib.hid (HV.out.trans (by unfold nodF; rw [if_neg (by omega), if_pos (by omega)]))
          clear t0 t1
          go_enter Tryz.func79, Tryz.ntmps79
          go_wp2_with fail
          go_ret
          exact ⟨ret_int hV.out.symm, by rw [← hW2]; exact HB2.out⟩

        have d1 : decide ((100000 : Int) < need) = false := decide_eq_false t1
        go_enter Tryz.func79, Tryz.ntmps79
        go_wp2_with fail
        rw [← hW2]
        clear hW2
        go_loopw [5] (fun i wr => ∃ k : Nat, k ≤ nw ∧ i = .int .i64 k ∧ Hid (∀ (j : Nat) x, j < k → ws[j]? = some x → hvyB x = false) ∧ W2 = wr) (fun i _ => nw - (intOf i).toNat)
        case atStart => exact ⟨0, Nat.zero_le _, rfl, Lib.hid (fun j x hj => by omega), rfl⟩
        case round =>
          obtain ⟨k, hk, rfl, hno, rfl⟩ := hrel
          by_cases hlt : k < nw
          · obtain ⟨x, hx⟩ : ∃ x, ws[k]? = some x := ⟨_, List.getElem?_eq_getElem (by have := HLW.out; omega)⟩
            obtain ⟨bb, oo, ha, hcell⟩ := HW.out.at' (by omega)
            have hc := hcell k (.int .i64 x) (by rw [List.getElem?_map, hx]; rfl)
            subst ha
            have hany : hvyB x = true → V = 7 := fun hb => HV.out.trans (by
              have e : ws.any hvyB = true := List.any_eq_true.2 ⟨x, List.mem_of_getElem? hx, hb⟩
              rw [e]; unfold nodF; rw [if_neg (by omega), if_pos (.inr rfl)])
            have hnx : hvyB x = false → ∀ (j : Nat) y, j < k + 1 → ws[j]? = some y → hvyB y = false := fun hb j y hj hy => by
              by_cases h1 : j < k
              · exact hno.out j y h1 hy
              · obtain rfl : j = k := by omega
                rw [hx] at hy; cases hy; exact hb
            have HANY := Lib.hid hany
            have HNX := Lib.hid hnx
            clear hany hnx hno hcell hx
            by_cases b1 : x < 1
            · have e1 : decide (x < 1) = true := decide_eq_true b1
              have hV := Lib.hid (HANY.out (by unfold hvyB; rw [e1]; rfl))
              clear b1
              go_wp2_with fail
              go_ret
              exact ⟨ret_int hV.out.symm, HB2.out⟩
            have e1 : decide (x < 1) = false := decide_eq_false b1
            by_cases b2 : 1000 < x
            · have e2 : decide (1000 < x) = true := decide_eq_true b2
              have hV := Lib.hid (HANY.out (by unfold hvyB; rw [e2]; simp))
              clear b1 b2
              go_wp2_with fail
              go_ret
              exact ⟨ret_int hV.out.symm, HB2.out⟩
            have e2 : decide (1000 < x) = false := decide_eq_false b2
            have HN := Lib.hid (HNX.out (by unfold hvyB; rw [e1, e2]; rfl))
            clear b1 b2
            go_wp2_with fail
            go_roundw
            case rel => exact ⟨k + 1, by omega, by go_num, HN, by first | trivial | rfl⟩
            case measure => simp [intOf]; omega
          · have hkn : nw = k := by omega
            have HHV : Hid (ws.any hvyB = false) := Lib.hid (by
              rw [List.any_eq_false]
              intro x hx
              obtain ⟨j, hj⟩ := List.mem_iff_getElem?.1 hx
              rw [hno.out j x (by have := (List.getElem?_eq_some_iff.1 hj).1; have := HLW.out; omega) hj]; decide)
            clear hno
            subst hkn
            by_cases m0 : 0 < nw ∧ nw ≠ nk
            · have f1 : decide (0 < nw) = true := decide_eq_true m0.1
              have f2 : ((nw : Nat) : Int) ≠ ((nk : Nat) : Int) := by omega
              have f3 : (((nw : Nat) : Int) != ((nk : Nat) : Int)) = true := by simpa using f2
              have hV : Hid (V = 6) := Lib.hid (HV.out.trans (by rw [HHV.out]; unfold nodF; rw [if_neg (by omega), if_neg (by simp; omega), if_pos (by omega)]))
              clear m0 f2
              go_wp2_with fail
              go_ret
              exact ⟨ret_int hV.out.symm, HB2.out⟩
            have HM0 := Lib.hid m0
            have hsame : (nw = 0 ∨ nw = nk) := by omega
            clear m0
            rcases hsame with hs | hs
            · have f1 : decide (0 < nw) = false := decide_eq_false (by omega)
              have f0 : (nw : Nat) = 0 := hs
              clear hs
              go_wp2_with fail
              go_loopw [6] (fun i wr => ∃ k : Nat, k ≤ nk ∧ i = .int .i64 k ∧ Hid (∀ (j : Nat) x, j < k → ks[j]? = some x → unkB i0 x = false) ∧ W2 = wr) (fun i _ => nk - (intOf i).toNat)
              case atStart => exact ⟨0, Nat.zero_le _, rfl, Lib.hid (fun j x hj => by omega), rfl⟩
              case round =>
                obtain ⟨j, hj, rfl, hno, rfl⟩ := hrel
                by_cases hlt2 : j < nk
                · obtain ⟨x, hx⟩ : ∃ x, ks[j]? = some x := ⟨_, List.getElem?_eq_getElem (by have := HLK.out; omega)⟩
                  obtain ⟨bb, oo, ha, hcell⟩ := HK.out.at' (by omega)
                  have hc := hcell j (.int .i64 x) (by rw [List.getElem?_map, hx]; rfl)
                  subst ha
                  have hany : unkB i0 x = true → V = 4 := fun hb => HV.out.trans (by
                    have e : ks.any (unkB i0) = true := List.any_eq_true.2 ⟨x, List.mem_of_getElem? hx, hb⟩
                    have := HM0.out
                    rw [e, HHV.out]; unfold nodF; rw [if_neg (by omega), if_neg (by simp; omega), if_neg (by omega), if_pos rfl])
                  have hnx : unkB i0 x = false → ∀ (l : Nat) y, l < j + 1 → ks[l]? = some y → unkB i0 y = false := fun hb l y hl hy => by
                    by_cases h1 : l < j
                    · exact hno.out l y h1 hy
                    · obtain rfl : l = j := by omega
                      rw [hx] at hy; cases hy; exact hb
                  have HANY := Lib.hid hany
                  have HNX := Lib.hid hnx
                  clear hany hnx hno hcell hx
                  by_cases b1 : x < 0
                  · have e1 : decide (x < 0) = true := decide_eq_true b1
                    have hV := Lib.hid (HANY.out (by unfold unkB; rw [e1]; rfl))
                    clear b1
                    go_wp2_with fail
                    go_ret
                    exact ⟨ret_int hV.out.symm, HB2.out⟩
                  have e1 : decide (x < 0) = false := decide_eq_false b1
                  by_cases b2 : (i0 : Int) ≤ x
                  · have e2 : decide ((i0 : Int) ≤ x) = true := decide_eq_true b2
                    have hV := Lib.hid (HANY.out (by unfold unkB; rw [e2]; simp))
                    clear b1 b2
                    go_wp2_with fail
                    go_ret
                    exact ⟨ret_int hV.out.symm, HB2.out⟩
                  have e2 : decide ((i0 : Int) ≤ x) = false := decide_eq_false b2
                  have HN := Lib.hid (HNX.out (by unfold unkB; rw [e1, e2]; rfl))
                  clear b1 b2
                  go_wp2_with fail
                  go_roundw
                  case rel => exact ⟨j + 1, by omega, by go_num, HN, by first | trivial | rfl⟩
                  case measure => simp [intOf]; omega
                · have hkn2 : nk = j := by omega
                  have HUN : Hid (ks.any (unkB i0) = false) := Lib.hid (by
                    rw [List.any_eq_false]
                    intro x hx
                    obtain ⟨l, hl⟩ := List.mem_iff_getElem?.1 hx
                    rw [hno.out l x (by have := (List.getElem?_eq_some_iff.1 hl).1; have := HLK.out; omega) hl]; decide)
                  have hV : Hid (V = 0) := Lib.hid (HV.out.trans (by
                    have := HM0.out
                    rw [HUN.out, HHV.out]; unfold nodF; rw [if_neg (by omega), if_neg (by simp; omega), if_neg (by omega), if_neg (by decide)]))
                  clear hno
                  subst hkn2
                  go_wp2_with fail
                  go_ret
                  exact ⟨ret_int hV.out.symm, HB2.out⟩
            · by_cases hz : nw = 0
              · have f1 : decide (0 < nw) = false := decide_eq_false (by omega)
                clear hs
                go_wp2_with fail
                go_loopw [6] (fun i wr => ∃ k : Nat, k ≤ nk ∧ i = .int .i64 k ∧ Hid (∀ (j : Nat) x, j < k → ks[j]? = some x → unkB i0 x = false) ∧ W2 = wr) (fun i _ => nk - (intOf i).toNat)
                case atStart => exact ⟨0, Nat.zero_le _, rfl, Lib.hid (fun j x hj => by omega), rfl⟩
                case round =>
                  obtain ⟨j, hj, rfl, hno, rfl⟩ := hrel
                  by_cases hlt2 : j < nk
                  · obtain ⟨x, hx⟩ : ∃ x, ks[j]? = some x := ⟨_, List.getElem?_eq_getElem (by have := HLK.out; omega)⟩
                    obtain ⟨bb, oo, ha, hcell⟩ := HK.out.at' (by omega)
                    have hc := hcell j (.int .i64 x) (by rw [List.getElem?_map, hx]; rfl)
                    subst ha
                    have hany : unkB i0 x = true → V = 4 := fun hb => HV.out.trans (by
                      have e : ks.any (unkB i0) = true := List.any_eq_true.2 ⟨x, List.mem_of_getElem? hx, hb⟩
                      have := HM0.out
                      rw [e, HHV.out]; unfold nodF; rw [if_neg (by omega), if_neg (by simp; omega), if_neg (by omega), if_pos rfl])
                    have hnx : unkB i0 x = false → ∀ (l : Nat) y, l < j + 1 → ks[l]? = some y → unkB i0 y = false := fun hb l y hl hy => by
                      by_cases h1 : l < j
                      · exact hno.out l y h1 hy
                      · obtain rfl : l = j := by omega
                        rw [hx] at hy; cases hy; exact hb
                    have HANY := Lib.hid hany
                    have HNX := Lib.hid hnx
                    clear hany hnx hno hcell hx
                    by_cases b1 : x < 0
                    · have e1 : decide (x < 0) = true := decide_eq_true b1
                      have hV := Lib.hid (HANY.out (by unfold unkB; rw [e1]; rfl))
                      clear b1
                      go_wp2_with fail
                      go_ret
                      exact ⟨ret_int hV.out.symm, HB2.out⟩
                    have e1 : decide (x < 0) = false := decide_eq_false b1
                    by_cases b2 : (i0 : Int) ≤ x
                    · have e2 : decide ((i0 : Int) ≤ x) = true := decide_eq_true b2
                      have hV := Lib.hid (HANY.out (by unfold unkB; rw [e2]; simp))
                      clear b1 b2
                      go_wp2_with fail
                      go_ret
                      exact ⟨ret_int hV.out.symm, HB2.out⟩
                    have e2 : decide ((i0 : Int) ≤ x) = false := decide_eq_false b2
                    have HN := Lib.hid (HNX.out (by unfold unkB; rw [e1, e2]; rfl))
                    clear b1 b2
                    go_wp2_with fail
                    go_roundw
                    case rel => exact ⟨j + 1, by omega, by go_num, HN, by first | trivial | rfl⟩
                    case measure => simp [intOf]; omega
                  · have hkn2 : nk = j := by omega
                    have HUN : Hid (ks.any (unkB i0) = false) := Lib.hid (by
                      rw [List.any_eq_false]
                      intro x hx
                      obtain ⟨l, hl⟩ := List.mem_iff_getElem?.1 hx
                      rw [hno.out l x (by have := (List.getElem?_eq_some_iff.1 hl).1; have := HLK.out; omega) hl]; decide)
                    have hV : Hid (V = 0) := Lib.hid (HV.out.trans (by
                      have := HM0.out
                      rw [HUN.out, HHV.out]; unfold nodF; rw [if_neg (by omega), if_neg (by simp; omega), if_neg (by omega), if_neg (by decide)]))
                    clear hno
                    subst hkn2
                    go_wp2_with fail
                    go_ret
                    exact ⟨ret_int hV.out.symm, HB2.out⟩
              · have f1 : decide (0 < nw) = true := decide_eq_true (by omega)
                have f3 : (((nw : Nat) : Int) != ((nk : Nat) : Int)) = false := by rw [hs]; simp
                clear hs
                go_wp2_with fail
                go_loopw [6] (fun i wr => ∃ k : Nat, k ≤ nk ∧ i = .int .i64 k ∧ Hid (∀ (j : Nat) x, j < k → ks[j]? = some x → unkB i0 x = false) ∧ W2 = wr) (fun i _ => nk - (intOf i).toNat)
                case atStart => exact ⟨0, Nat.zero_le _, rfl, Lib.hid (fun j x hj => by omega), rfl⟩
                case round =>
                  obtain ⟨j, hj, rfl, hno, rfl⟩ := hrel
                  by_cases hlt2 : j < nk
                  · obtain ⟨x, hx⟩ : ∃ x, ks[j]? = some x := ⟨_, List.getElem?_eq_getElem (by have := HLK.out; omega)⟩
                    obtain ⟨bb, oo, ha, hcell⟩ := HK.out.at' (by omega)
                    have hc := hcell j (.int .i64 x) (by rw [List.getElem?_map, hx]; rfl)
                    subst ha
                    have hany : unkB i0 x = true → V = 4 := fun hb => HV.out.trans (by
                      have e : ks.any (unkB i0) = true := List.any_eq_true.2 ⟨x, List.mem_of_getElem? hx, hb⟩
                      have := HM0.out
                      rw [e, HHV.out]; unfold nodF; rw [if_neg (by omega), if_neg (by simp; omega), if_neg (by omega), if_pos rfl])
                    have hnx : unkB i0 x = false → ∀ (l : Nat) y, l < j + 1 → ks[l]? = some y → unkB i0 y = false := fun hb l y hl hy => by
                      by_cases h1 : l < j
                      · exact hno.out l y h1 hy
                      · obtain rfl : l = j := by omega
                        rw [hx] at hy; cases hy; exact hb
                    have HANY := Lib.hid hany
                    have HNX := Lib.hid hnx
                    clear hany hnx hno hcell hx
                    by_cases b1 : x < 0
                    · have e1 : decide (x < 0) = true := decide_eq_true b1
                      have hV := Lib.hid (HANY.out (by unfold unkB; rw [e1]; rfl))
                      clear b1
                      go_wp2_with fail
                      go_ret
                      exact ⟨ret_int hV.out.symm, HB2.out⟩
                    have e1 : decide (x < 0) = false := decide_eq_false b1
                    by_cases b2 : (i0 : Int) ≤ x
                    · have e2 : decide ((i0 : Int) ≤ x) = true := decide_eq_true b2
                      have hV := Lib.hid (HANY.out (by unfold unkB; rw [e2]; simp))
                      clear b1 b2
                      go_wp2_with fail
                      go_ret
                      exact ⟨ret_int hV.out.symm, HB2.out⟩
                    have e2 : decide ((i0 : Int) ≤ x) = false := decide_eq_false b2
                    have HN := Lib.hid (HNX.out (by unfold unkB; rw [e1, e2]; rfl))
                    clear b1 b2
                    go_wp2_with fail
                    go_roundw
                    case rel => exact ⟨j + 1, by omega, by go_num, HN, by first | trivial | rfl⟩
                    case measure => simp [intOf]; omega
                  · have hkn2 : nk = j := by omega
                    have HUN : Hid (ks.any (unkB i0) = false) := Lib.hid (by
                      rw [List.any_eq_false]
                      intro x hx
                      obtain ⟨l, hl⟩ := List.mem_iff_getElem?.1 hx
                      rw [hno.out l x (by have := (List.getElem?_eq_some_iff.1 hl).1; have := HLK.out; omega) hl]; decide)
                    have hV : Hid (V = 0) := Lib.hid (HV.out.trans (by
                      have := HM0.out
                      rw [HUN.out, HHV.out]; unfold nodF; rw [if_neg (by omega), if_neg (by simp; omega), if_neg (by omega), if_neg (by decide)]))
                    clear hno
                    subst hkn2
                    go_wp2_with fail
                    go_ret
                    exact ⟨ret_int hV.out.symm, HB2.out⟩

      · have hd : (server != 0) = true := by simpa using s0
        have hV : Hid (V = 1) := Lib.hid (HV.out.trans (by unfold nodF; rw [if_pos (by omega)]))
        clear s0
        go_enter Tryz.func79, Tryz.ntmps79
        go_wp2_with fail
        go_ret
        exact ⟨ret_int hV.out.symm, by rw [← hW2]; exact HB2.out⟩

    · have hk2 : (kind == 2) = false := by simpa using k2
      have hk2' : (kind != 2) = true := by simpa using k2
      have hV : Hid (V = 1) := Lib.hid (HV.out.trans (by unfold nodF; rw [if_pos (by omega)]))
      clear k1 k2
      go_enter Tryz.func79, Tryz.ntmps79
      go_wp2_with fail
      go_ret
      exact ⟨ret_int hV.out.symm, by rw [← hW2]; exact HB2.out⟩

end Go.Proofs.YtcojmmhclklpoaaGreatDoor
namespace Go.Proofs.YtcojmmhclklpoaaGreatDoor
open Go.RowKit Go.Shelf

/-- no node has so many weights and kids that their number is none of Go's -/
def XprSum (x : Xpr) : Prop := ∀ (k : Nat) nd, x.nodes[k]? = some nd → nd.weights.length + nd.kids.length ≤ 9223372036854775807

set_option maxRecDepth 100000 in
set_option maxHeartbeats 2000000 in
theorem rvalid10_c (x : Xpr) (hs : XprSum x) (a : Option Addr) (n c : Nat) (w : World) (h : XM w a n c x.nodes) :
    Calls Tryz.prog 39 #[.agg #[.slice a n c, .int .i64 x.root]] w fun e w' => e = .returned (.int .i64 (xprE x)) ∧ Below w.heap.size w w' := by
  obtain ⟨W2, hW2⟩ : ∃ W2, W2 = w.alloc (Obj.cells #[.slice a n c, .int .i64 x.root] 32) := ⟨_, rfl⟩
  have hb2 : Below w.heap.size w W2 := by rw [hW2]; exact (Below.refl _ w).alloc (Nat.le_refl _) _
  have HX := Lib.hid (h.below hb2)
  have HN := Lib.hid h.len
  have HSM := Lib.hid hs
  have hle := h.le
  have hm := h.max
  unfold maxLen at hm
  have HB2 := Lib.hid hb2
  clear h hb2 hs
  by_cases hn0 : n = 0
  · subst hn0
    have hV : Hid (xprE x = 9) := by
      show _ = _; unfold xprE; rw [if_pos (List.eq_nil_of_length_eq_zero HN.out)]
    go_enter Tryz.func39, Tryz.ntmps39
    go_wp2_with fail
    go_ret
    exact ⟨ret_int hV.out.symm, by rw [← hW2]; exact HB2.out⟩
  have hne : ((n : Int) == 0) = false := by rw [beq_eq_false_iff_ne]; omega
  have H0 : Hid (x.nodes ≠ []) := Lib.hid (fun e => by have := HN.out; rw [e] at this; simp at this; omega)
  by_cases h60 : 60 < n
  · have hd : decide ((60 : Int) < (n : Int)) = true := decide_eq_true (by omega)
    have hV : Hid (xprE x = 3) := by
      show _ = _; unfold xprE; rw [if_neg H0.out, if_pos (by have := HN.out; omega)]
    clear hn0 h60
    go_enter Tryz.func39, Tryz.ntmps39
    go_wp2_with fail
    go_ret
    exact ⟨ret_int hV.out.symm, by rw [← hW2]; exact HB2.out⟩
  have hd : decide ((60 : Int) < (n : Int)) = false := decide_eq_false (by omega)
  have H60 : Hid (¬ 60 < x.nodes.length) := by show ¬ _; have := HN.out; omega
  have HR : Hid (∀ y : World, Below W2.heap.size W2 y → y.cell? ⟨w.heap.size, 0, none⟩ = some (.slice a n c) ∧ y.cell? ⟨w.heap.size, 1, none⟩ = some (.int .i64 x.root)) := Lib.hid (fun y hy => by
    have g : W2.heap[w.heap.size]? = some (.cells #[.slice a n c, .int .i64 x.root] 32 (0, 0)) := by rw [hW2]; exact heap_alloc_new _ _
    have g' := heap_below hy g
    exact ⟨cell_of_row _ _ 0 _ _ _ g', cell_of_row _ _ 1 _ _ _ g'⟩)
  go_enter Tryz.func39, Tryz.ntmps39
  go_wp2_with fail
  rw [← hW2]
  clear hW2
  go_loopw [3] (fun i wr => ∃ k : Nat, k ≤ n ∧ i = .int .i64 k ∧ Hid (nodsE x.nodes 0 = nodsE (x.nodes.drop k) k) ∧ Below W2.heap.size W2 wr) (fun i _ => n - (intOf i).toNat)
  case atStart => exact ⟨0, Nat.zero_le _, rfl, Lib.hid (by simp), Below.refl _ _⟩
  case round =>
    obtain ⟨k, hk, rfl, hno, hb⟩ := hrel
    obtain ⟨q0, q1⟩ := HR.out wr hb
    by_cases hlt : k < n
    · obtain ⟨nd, hnd⟩ : ∃ nd, x.nodes[k]? = some nd := ⟨_, List.getElem?_eq_getElem (by have := HN.out; omega)⟩
      obtain ⟨b, o, ha, hat⟩ := (HX.out.below hb).at' (by omega)
      have hM := hat k nd hnd
      obtain ⟨a3, n3, c3, m3, r3⟩ := hM.ws
      obtain ⟨a4, n4, c4, m4, r4⟩ := hM.ks
      have m0 := hM.c0
      have m1 := hM.c1
      have m2 := hM.c2
      subst ha
      have hsm := HSM.out k nd hnd
      have HV : Hid (∀ y, Below wr.heap.size wr y → Calls Tryz.prog 79 #[.agg #[.int .i64 nd.kind, .int .i64 nd.server, .int .i64 nd.need, .slice a3 n3 c3, .slice a4 n4 c4], .int .i64 k] y fun e w' => e = .returned (.int .i64 (nodE nd k)) ∧ Below y.heap.size y w') :=
        Lib.hid (fun y hy => rnode_c nd k a3 n3 c3 a4 n4 c4 y (by have h1 := r3.len; have h2 := r4.len; simp at h1 h2; omega) (r3.below hy) (r4.below hy))
      have HHit : Hid (nodE nd k ≠ 0 → xprE x = nodE nd k) := Lib.hid (fun he => xprE_hit H0.out H60.out hnd hno.out he)
      have HNxt : Hid (nodE nd k = 0 → nodsE x.nodes 0 = nodsE (x.nodes.drop (k + 1)) (k + 1)) := Lib.hid (fun he => xprE_next hnd hno.out he)
      obtain ⟨kind, server, need, ws, ks⟩ := nd
      obtain ⟨E, hE⟩ : ∃ E, nodE ⟨kind, server, need, ws, ks⟩ k = E := ⟨_, rfl⟩
      rw [hE] at HV HHit HNxt
      simp only at m0 m1 m2 HV
      clear hM r3 r4 hat hnd hno hE hsm
      by_cases he : E = 0
      · subst he
        have hN := HNxt.out rfl
        have HN2 := Lib.hid hN
        clear hN HHit HNxt
        go_wp2_with fail
        with_reducible refine (HV.out _ (Below.refl _ _)).mono ?_
        rintro e w5 ⟨rfl, hb5⟩
        have hb6 := Below.next hb hb5
        go_wp2_with fail
        go_roundw
        case rel => exact ⟨k + 1, by omega, by go_num, HN2, hb6⟩
        case measure => simp [intOf]; omega
      · have hV := HHit.out he
        have HV2 := Lib.hid hV
        have hE : (E != 0) = true := by simpa using he
        clear hV HHit HNxt he
        go_wp2_with fail
        with_reducible refine (HV.out _ (Below.refl _ _)).mono ?_
        rintro e w5 ⟨rfl, hb5⟩
        have hb6 := Below.next hb hb5
        go_wp2_with fail
        go_ret
        exact ⟨ret_int HV2.out.symm, Below.next HB2.out hb6⟩
    · obtain rfl : k = n := by omega
      have hV := xprE_end H0.out H60.out HN.out hno.out
      clear hno
      obtain ⟨root, hroot⟩ : ∃ r, x.root = r := ⟨_, rfl⟩
      rw [hroot] at hV q1
      by_cases h1 : root < 0
      · have d1 : decide (root < 0) = true := decide_eq_true h1
        rw [if_pos (.inl h1)] at hV
        have HV := Lib.hid hV
        clear hV h1 hroot
        go_wp2_with fail
        go_ret
        exact ⟨ret_int HV.out.symm, Below.next HB2.out hb⟩
      · have d1 : decide (root < 0) = false := decide_eq_false h1
        by_cases h2 : (k : Int) ≤ root
        · have d2 : decide ((k : Int) ≤ root) = true := decide_eq_true h2
          rw [if_pos (.inr h2)] at hV
          have HV := Lib.hid hV
          clear hV h1 hroot h2
          go_wp2_with fail
          go_ret
          exact ⟨ret_int HV.out.symm, Below.next HB2.out hb⟩
        · have d2 : decide ((k : Int) ≤ root) = false := decide_eq_false h2
          rw [if_neg (by omega)] at hV
          have HV := Lib.hid hV
          clear hV h1 hroot h2
          go_wp2_with fail
          go_ret
          exact ⟨ret_int HV.out.symm, Below.next HB2.out hb⟩
end Go.Proofs.YtcojmmhclklpoaaGreatDoor
namespace Go.Proofs.YtcojmmhclklpoaaGreatDoor
open Go.RowKit Go.Shelf

theorem cntTo_succ (x : BitVec 16) (k : Nat) : (memTo x (k + 1)).length = (memTo x k).length + (if hasB x k then 1 else 0) := by
  rw [memTo_succ]; cases hasB x k <;> simp
@[go_sem] theorem b01_conv (b : Bool) : IntKind.i64.wrap (b01 b) = b01 b := by cases b <;> decide

set_option maxRecDepth 100000 in
set_option maxHeartbeats 1000000 in
theorem size8_c (x : BitVec 16) (w : World) :
    Calls Tryz.prog 118 #[.int .u16 (U x)] w fun e w' => e = .returned (.int .i64 (cnt x)) ∧ w' = w := by
  go_enter Tryz.func118, Tryz.ntmps118
  go_wp2_with fail
  go_loop [3, 4] (fun v i => ∃ (k : Nat) (m : Nat), k ≤ 16 ∧ m ≤ k ∧ i = .int .i64 k ∧ v = .int .i64 m ∧ Hid (m = (memTo x k).length)) (fun _ i => 16 - (intOf i).toNat)
  case atStart => exact ⟨0, 0, Nat.zero_le _, Nat.zero_le _, rfl, rfl, rfl⟩
  case round =>
    obtain ⟨k, m, hk, hmk, rfl, rfl, hm⟩ := hrel
    by_cases hlt : k < 16
    · have HS := Lib.hid (cntTo_succ x k)
      cases hb : hasB x k
      · have HB := Lib.hid hb
        have hb0 : b01 (hasB x k) = 0 := by rw [hb]; rfl
        clear hb
        go_wp2_with fail
        go_round
        case rel => exact ⟨k + 1, m, by omega, by omega, by go_num, by (try go_num), by show _ = _; rw [HS.out, HB.out, hm.out]; rfl⟩
        case measure => simp [intOf]; omega
      · have HB := Lib.hid hb
        have hb0 : b01 (hasB x k) = 1 := by rw [hb]; rfl
        clear hb
        go_wp2_with fail
        go_round
        case rel => exact ⟨k + 1, m + 1, by omega, by omega, by go_num, by go_num, by show _ = _; rw [HS.out, HB.out, hm.out]; rfl⟩
        case measure => simp [intOf]; omega
    · have hE : Hid (m = cnt x) := by
        obtain rfl : k = 16 := by omega
        exact hm.out
      go_wp2_with fail
      go_ret
      exact ⟨ret_int (by rw [hE.out]), rfl⟩

/-- x comes before y -/
def befB (x y : BitVec 16) : Bool := decide (keyS x < keyS y)
theorem bef_ne {x y : BitVec 16} (h : cnt x ≠ cnt y) : befB x y = decide (cnt x < cnt y) := by
  unfold befB keyS; have := x.isLt; have := y.isLt
  rw [Bool.eq_iff_iff, decide_eq_true_iff, decide_eq_true_iff]; omega
theorem bef_eq {x y : BitVec 16} (h : cnt x = cnt y) : befB x y = decide (U x < U y) := by
  unfold befB keyS U
  rw [Bool.eq_iff_iff, decide_eq_true_iff, decide_eq_true_iff]; omega

set_option maxRecDepth 100000 in
set_option maxHeartbeats 1000000 in
theorem before8_c (x y : BitVec 16) (w : World) :
    Calls Tryz.prog 92 #[.int .u16 (U x), .int .u16 (U y)] w fun e w' => e = .returned (.bool (befB x y)) ∧ w' = w := by
  by_cases hc : cnt x = cnt y
  · have HE := Lib.hid (bef_eq hc)
    obtain ⟨m, hm⟩ : ∃ m, cnt x = m := ⟨_, rfl⟩
    have H1 := Lib.hid (fun w => size8_c x w)
    have H2 := Lib.hid (fun w => size8_c y w)
    rw [← hc, hm] at H2
    rw [hm] at H1
    clear hc hm
    go_enter Tryz.func92, Tryz.ntmps92
    go_wp2_with fail
    refine (H1.out _).mono ?_
    rintro e w1 ⟨rfl, rfl⟩
    go_wp2_with fail
    refine (H2.out _).mono ?_
    rintro e w1 ⟨rfl, rfl⟩
    go_wp2_with fail
    go_ret
    exact ⟨ret_bool HE.out.symm, rfl⟩
  · have HE := Lib.hid (bef_ne hc)
    obtain ⟨m, hm⟩ : ∃ m, cnt x = m := ⟨_, rfl⟩
    obtain ⟨m2, hm2⟩ : ∃ m, cnt y = m := ⟨_, rfl⟩
    have H1 := Lib.hid (fun w => size8_c x w)
    have H2 := Lib.hid (fun w => size8_c y w)
    rw [hm2] at H2 HE hc
    rw [hm] at H1 HE hc
    have hne : ((m : Int) != (m2 : Int)) = true := by rw [bne_iff_ne]; omega
    have hcm : decide ((m : Int) < m2) = decide (m < m2) := by rw [Bool.eq_iff_iff, decide_eq_true_iff, decide_eq_true_iff]; omega
    have HCM := Lib.hid hcm
    clear hc hm hm2 hcm
    go_enter Tryz.func92, Tryz.ntmps92
    go_wp2_with fail
    refine (H1.out _).mono ?_
    rintro e w1 ⟨rfl, rfl⟩
    go_wp2_with fail
    refine (H2.out _).mono ?_
    rintro e w1 ⟨rfl, rfl⟩
    go_wp2_with fail
    refine (H1.out _).mono ?_
    rintro e w1 ⟨rfl, rfl⟩
    go_wp2_with fail
    refine (H2.out _).mono ?_
    rintro e w1 ⟨rfl, rfl⟩
    go_wp2_with fail
    go_ret
    exact ⟨ret_bool (by rw [HE.out]; (try first | rfl | exact HCM.out | simp)), rfl⟩

set_option maxHeartbeats 400000 in
theorem contains8_c (x y : BitVec 16) (w : World) :
    Calls Tryz.prog 89 #[.int .u16 (U x), .int .u16 (U y)] w fun e w' => e = .returned (.bool (subB x y)) ∧ w' = w := by
  go_enter Tryz.func89, Tryz.ntmps89
  go_wp2
  go_ret
  exact ⟨rfl, rfl⟩
set_option maxHeartbeats 400000 in
theorem range8_c (x : BitVec 16) (w : World) :
    Calls Tryz.prog 72 #[.int .u16 (U x)] w fun e w' => e = .returned (.bool (decide (U x < 4096))) ∧ w' = w := by
  go_enter Tryz.func72, Tryz.ntmps72
  go_wp2
  go_ret
  exact ⟨rfl, rfl⟩

set_option maxRecDepth 100000 in
set_option maxHeartbeats 1000000 in
theorem accepts8_c (l : List (BitVec 16)) (s : BitVec 16) (a : Option Addr) (n c : Nat) (w : World) (h : Rd w a n c (l.map setV2)) :
    Calls Tryz.prog 48 #[.slice a n c, .int .u16 (U s)] w fun e w' => e = .returned (.bool (accS l s)) ∧ w' = w := by
  have hnl : l.length = n := by have := h.len; simp at this; omega
  have hm := h.max
  have hle := h.le
  unfold maxLen at hm
  have HR := Lib.hid h
  have HN := Lib.hid hnl
  clear h hnl
  go_enter Tryz.func48, Tryz.ntmps48
  go_wp2_with fail
  go_loop [5] (fun i => ∃ k : Nat, k ≤ n ∧ i = .int .i64 k ∧ Hid (∀ j, j < k → subB s (l.getD j 0#16) = false)) (fun i => n - (intOf i).toNat)
  case atStart => exact ⟨0, Nat.zero_le _, rfl, Lib.hid (fun j hj => by omega)⟩
  case round =>
    obtain ⟨k, hk, rfl, hno⟩ := hrel
    by_cases hlt : k < n
    · obtain ⟨b, o, ha, hcell⟩ := HR.out.at' (by omega)
      have hkl : k < l.length := by have := HN.out; omega
      have hc := hcell k _ (at_cell hkl)
      subst ha
      have HC := Lib.hid (contains8_c s (l.getD k 0#16) w)
      cases hq : subB s (l.getD k 0#16)
      · have hno' : Hid (∀ j, j < k + 1 → subB s (l.getD j 0#16) = false) := Lib.hid (fun j hj => by
          by_cases h1 : j < k
          · exact hno.out j h1
          · obtain rfl : j = k := by omega
            exact hq)
        rw [hq] at HC
        obtain ⟨x, hx⟩ : ∃ x, l.getD k 0#16 = x := ⟨_, rfl⟩
        rw [hx] at hc HC
        clear hq hcell hno hx hkl
        go_wp2_with fail
        refine HC.out.mono ?_
        rintro e w1 ⟨rfl, rfl⟩
        go_wp2_with fail
        go_round
        case rel => exact ⟨k + 1, by omega, by go_num, hno'⟩
        case measure => simp [intOf]; omega
      · have hA : Hid (accS l s = true) := any_hit (p := fun x => subB s x) hkl hq
        rw [hq] at HC
        obtain ⟨x, hx⟩ : ∃ x, l.getD k 0#16 = x := ⟨_, rfl⟩
        rw [hx] at hc HC
        clear hq hcell hno hx hkl
        go_wp2_with fail
        refine HC.out.mono ?_
        rintro e w1 ⟨rfl, rfl⟩
        go_wp2_with fail
        go_ret
        exact ⟨ret_bool hA.out.symm, rfl⟩
    · have hA : Hid (accS l s = false) := any_none (p := fun x => subB s x) (fun j hj => hno.out j (by have := HN.out; omega))
      clear hno
      go_wp2_with fail
      go_ret
      exact ⟨ret_bool hA.out.symm, rfl⟩

set_option maxRecDepth 100000 in
set_option maxHeartbeats 1000000 in
theorem support8_c (l : List (BitVec 16)) (a : Option Addr) (n c : Nat) (w : World) (h : Rd w a n c (l.map setV2)) :
    Calls Tryz.prog 66 #[.slice a n c] w fun e w' => e = .returned (.int .u16 (U (supS l))) ∧ w' = w := by
  have hn : n ≤ l.length ∧ l.length ≤ n := by have := h.len; simp at this; omega
  obtain ⟨hn1, hn2⟩ := hn
  have hm := h.max
  have hle := h.le
  unfold maxLen at hm
  go_enter Tryz.func66, Tryz.ntmps66
  go_wp2_with fail
  go_loop [3, 4] (fun v i => ∃ (k : Nat) (s : BitVec 16), k ≤ n ∧ i = .int .i64 k ∧ v = .int .u16 (U s) ∧ Hid (s = supS (l.take k))) (fun _ i => n - (intOf i).toNat)
  case atStart => exact ⟨0, 0#16, Nat.zero_le _, rfl, rfl, rfl⟩
  case round =>
    obtain ⟨k, s, hk, rfl, rfl, hs⟩ := hrel
    by_cases hlt : k < n
    · obtain ⟨b, o, ha, hcell⟩ := h.at' (by omega)
      have hc := hcell k _ (at_cell (by omega))
      have HS := Lib.hid (supS_take (l := l) (k := k) (by omega))
      obtain ⟨x, hx⟩ : ∃ x, l.getD k 0#16 = x := ⟨_, rfl⟩
      rw [hx] at hc HS
      subst ha
      clear hcell h hx
      go_wp2_with fail
      go_round
      case rel => exact ⟨k + 1, s ||| x, by omega, by go_num, rfl, by show _ = _; rw [HS.out, hs.out]⟩
      case measure => simp [intOf]; omega
    · have hE : Hid (l.take k = l) := List.take_of_length_le (by omega)
      clear h
      go_wp2_with fail
      go_ret
      exact ⟨by rw [hs.out, hE.out]; rfl, rfl⟩
end Go.Proofs.YtcojmmhclklpoaaGreatDoor
namespace Go.Proofs.YtcojmmhclklpoaaGreatDoor
open Go.RowKit Go.Shelf

def evalS (x : Xpr) (s : BitVec 16) : Bool × Int := if xprE x ≠ 0 then (false, xprE x) else if 4096 ≤ s.toNat then (false, 7) else (holdX x s, 0)

set_option maxRecDepth 100000 in
set_option maxHeartbeats 1000000 in
theorem evalx_c (x : Xpr) (hf : XprFew x) (s : BitVec 16) (a : Option Addr) (n c : Nat) (w : World) (h : XM w a n c x.nodes) :
    Calls Tryz.prog 33 #[.agg #[.slice a n c, .int .i64 x.root], .int .u16 (U s)] w fun e w' => e = .returned (.tuple #[.bool (evalS x s).1, .int .i64 (evalS x s).2]) ∧ Below w.heap.size w w' := by
  have H1 := Lib.hid (fun (v : World) (hb : Below w.heap.size w v) => xpr_c x a n c v (h.below hb))
  obtain ⟨W2, hW2⟩ : ∃ W2, W2 = w.alloc (.cells #[.slice a n c, .int .i64 x.root] 32) := ⟨_, rfl⟩
  have hb2 : Below w.heap.size w W2 := by rw [hW2]; exact (Below.refl _ w).alloc (Nat.le_refl _) _
  have HB2 := Lib.hid hb2
  by_cases hx : xprE x = 0
  · by_cases hs : 4096 ≤ s.toNat
    · have hR : evalS x s = (false, 7) := by unfold evalS; rw [if_neg (by rw [hx]; simp), if_pos hs]
      rw [hR]
      rw [hx] at H1
      have hd : decide (4096 ≤ U s) = true := decide_eq_true (by unfold U; omega)
      clear h hf hx hR hb2 hs
      go_enter Tryz.func33, Tryz.ntmps33
      go_wp2_with fail
      rw [← hW2]
      refine (H1.out W2 HB2.out).mono ?_
      rintro e w1 ⟨rfl, hb1⟩
      go_wp2_with fail
      go_ret2
      exact ⟨rfl, Below.next HB2.out hb1⟩
    · have hR : evalS x s = (holdX x s, 0) := by unfold evalS; rw [if_neg (by rw [hx]; simp), if_neg hs]
      rw [hR]
      exact eval_c x hx hf s (by omega) a n c w h
  · have hR : evalS x s = (false, xprE x) := by unfold evalS; rw [if_pos hx]
    obtain ⟨E, hE⟩ : ∃ E, xprE x = E := ⟨_, rfl⟩
    rw [hR, hE]
    rw [hE] at H1 hx
    have hne : (E != 0) = true := by simpa using hx
    clear h hf hx hR hb2 hE
    go_enter Tryz.func33, Tryz.ntmps33
    go_wp2_with fail
    rw [← hW2]
    refine (H1.out W2 HB2.out).mono ?_
    rintro e w1 ⟨rfl, hb1⟩
    go_wp2_with fail
    go_ret2
    exact ⟨rfl, Below.next HB2.out hb1⟩
set_option maxRecDepth 100000 in
set_option maxHeartbeats 1000000 in
theorem reval_c (x : Xpr) (hx : xprE x = 0) (hs : XprSum x) (hf : XprFew x) (s : BitVec 16) (a : Option Addr) (n c : Nat) (w : World) (h : XM w a n c x.nodes) :
    Calls Tryz.prog 34 #[.agg #[.slice a n c, .int .i64 x.root], .int .u16 (U s)] w fun e w' => e = .returned (.tuple #[.bool (evalS x s).1, .int .i64 (evalS x s).2]) ∧ Below w.heap.size w w' := by
  have H1 := Lib.hid (fun (v : World) (hb : Below w.heap.size w v) => rvalid10_c x hs a n c v (h.below hb))
  have H2 := Lib.hid (fun (v : World) (hb : Below w.heap.size w v) => rholds_c x (xprE_ok hx) hf s a n c v (h.below hb))
  rw [hx] at H1
  obtain ⟨W2, hW2⟩ : ∃ W2, W2 = w.alloc (.cells #[.slice a n c, .int .i64 x.root] 32) := ⟨_, rfl⟩
  have hb2 : Below w.heap.size w W2 := by rw [hW2]; exact (Below.refl _ w).alloc (Nat.le_refl _) _
  have g0 : W2.heap[w.heap.size]? = some (.cells #[.slice a n c, .int .i64 x.root] 32 (0, 0)) := by rw [hW2]; exact heap_alloc_new _ _
  have HB2 := Lib.hid hb2
  have G0 := Lib.hid g0
  have HR := Lib.hid (fun u => range8_c s u)
  by_cases hb : 4096 ≤ s.toNat
  · have hR : evalS x s = (false, 7) := by unfold evalS; rw [if_neg (by rw [hx]; simp), if_pos hb]
    rw [hR]
    have hd : decide (U s < 4096) = false := decide_eq_false (by unfold U; omega)
    clear h hf hx hR hb2 hb g0 hs
    go_enter Tryz.func34, Tryz.ntmps34
    go_wp2_with fail
    rw [← hW2]
    refine (H1.out W2 HB2.out).mono ?_
    rintro e w1 ⟨rfl, hb1⟩
    go_wp2_with fail
    refine (HR.out w1).mono ?_
    rintro e w3 ⟨rfl, rfl⟩
    go_wp2_with fail
    go_ret2
    exact ⟨rfl, Below.next HB2.out hb1⟩
  · have hR : evalS x s = (holdX x s, 0) := by unfold evalS; rw [if_neg (by rw [hx]; simp), if_neg hb]
    rw [hR]
    have hd : decide (U s < 4096) = true := decide_eq_true (by unfold U; omega)
    clear h hf hx hR hb2 hb g0 hs
    go_enter Tryz.func34, Tryz.ntmps34
    go_wp2_with fail
    rw [← hW2]
    refine (H1.out W2 HB2.out).mono ?_
    rintro e w1 ⟨rfl, hb1⟩
    have e1 := heap_below hb1 G0.out
    have q0 := cell_of_row _ _ 0 _ _ _ e1
    have q1 := cell_of_row _ _ 1 _ _ _ e1
    clear e1
    go_wp2_with fail
    refine (HR.out w1).mono ?_
    rintro e w3 ⟨rfl, rfl⟩
    go_wp2_with fail
    refine (H2.out _ (Below.next HB2.out hb1)).mono ?_
    rintro e w5 ⟨rfl, hb5⟩
    go_wp2_with fail
    go_ret2
    exact ⟨rfl, Below.next HB2.out (Below.next hb1 hb5)⟩
end Go.Proofs.YtcojmmhclklpoaaGreatDoor
