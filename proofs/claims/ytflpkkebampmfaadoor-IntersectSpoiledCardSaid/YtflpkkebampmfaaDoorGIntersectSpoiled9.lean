/- Texts laid together. The reference's Holds of layer 10. The reference's Formed. The reference's node of layer 10 (printed by rnd.py). The reference's Valid of layer 10. The reference's right and Check of layer 20. -/
import Derived.Test.YtflpkkebampmfaaDoorGIntersectSpoiled3
import Derived.Test.YtflpkkebampmfaaDoorGIntersectSpoiled6
import Derived.Test.YtflpkkebampmfaaDoorGIntersectSpoiled8
import Derived.Deep.OwnRows
namespace Go.Proofs.YtflpkkebampmfaaDoor
open Go.RowKit Go.Shelf

theorem Tryd.infoBl : (Tryd.prog.info? 4).map (fun i => (i.zero, i.size, i.bytes)) = some (some (.bool false), 1, 1) := by kernel_rfl
theorem make_bool (m : Nat) (hm : m ≤ 1000000) : ∀ w, (Instr.makeSlice 120 (.int .i64 m) (.int .i64 m)).run Tryd.prog w = .ok (.slice (some ⟨w.heap.size, 0, none⟩) m m) (w.alloc (.cells (madeCells #[.bool false] m) 4)) :=
  fun w => run_make_row' 120 4 (.bool false) 1 Tryd.underlying120 Tryd.infoBl rfl .i64 .i64 m (by omega) (by omega) w
/-- so many places, the first ones filled -/
def isN (n : Nat) (l : List Bool) : Array Value := ((l ++ List.replicate (n - l.length) false).map Value.bool).toArray
theorem isN_made (n : Nat) : madeCells #[.bool false] n = isN n [] := by
  apply Array.toList_inj.1
  rw [toList_madeCells_one]; unfold isN; simp
theorem isN_at {n : Nat} {l : List Bool} (h : l.length ≤ n) {i : Nat} (hi : i < n) : (isN n l)[i]? = some (.bool (l.getD i false)) := by
  unfold isN
  rw [List.getElem?_toArray, List.getElem?_map, List.getD_eq_getElem?_getD]
  by_cases h1 : i < l.length
  · rw [List.getElem?_append_left h1, List.getElem?_eq_getElem h1]; rfl
  · rw [List.getElem?_append_right (by omega), List.getElem?_replicate, if_pos (by omega), List.getElem?_eq_none (by omega)]; rfl
theorem isN_set {n : Nat} {l : List Bool} (h : l.length < n) (v : Bool) : (isN n l).setIfInBounds l.length (.bool v) = isN n (l ++ [v]) := by
  unfold isN
  rw [List.setIfInBounds_toArray]
  congr 1
  have e : n - l.length = (n - (l ++ [v]).length) + 1 := by simp; omega
  rw [e, List.replicate_succ, List.map_append, List.map_append, List.map_append, List.map_cons, List.set_append_right _ _ (by simp)]
  simp

set_option maxRecDepth 100000 in
set_option maxHeartbeats 4000000 in
theorem rholds_c (x : Xpr) (hx : XprOk x) (hf : XprFew x) (s : BitVec 16) (a : Option Addr) (n c : Nat) (w : World) (h : XM w a n c x.nodes) :
    Calls Tryd.prog 67 #[.agg #[.slice a n c, .int .i64 x.root], .int .u16 (U s)] w fun e w' => e = .returned (.bool (holdX x s)) ∧ Below w.heap.size w w' := by
  obtain ⟨r, hr⟩ := Int.eq_ofNat_of_zero_le hx.root.1
  have hrn : r < n := by have h1 := hx.root.2; have h2 := h.len; omega
  have hle := h.le
  have hm := h.max
  have hn60 : n ≤ 60 := by have h1 := hx.most; have h2 := h.len; omega
  unfold maxLen at hm
  have HV : Hid (holdX x s = (holdTo x.nodes s n).getD r false) := Lib.hid (by unfold holdX; rw [hr, Int.toNat_natCast, h.len])
  rw [hr]
  have HX := Lib.hid h
  have HO := Lib.hid hx
  have HF := Lib.hid hf
  have HN := Lib.hid h.len
  clear h hx hf hr
  have hmk := make_bool n (by omega)
  obtain ⟨W2, hW2⟩ : ∃ W2, W2 = w.alloc (.cells #[.slice a n c, .int .i64 r] 24) := ⟨_, rfl⟩
  obtain ⟨W3, hW3⟩ : ∃ W3, W3 = W2.alloc (.cells (madeCells #[.bool false] n) 4) := ⟨_, rfl⟩
  have hs2 : W2.heap.size = w.heap.size + 1 := by rw [hW2]; simp
  have hs3 : W3.heap.size = w.heap.size + 2 := by rw [hW3, hW2]; simp
  have hb3 : Below w.heap.size w W3 := by rw [hW3, hW2]; exact ((Below.refl _ w).alloc (Nat.le_refl _) _).alloc (by simp) _
  have g0 : W3.heap[w.heap.size]? = some (.cells #[.slice a n c, .int .i64 r] 24 (0, 0)) := by rw [hW3, hW2]; exact heap_alloc_at (heap_alloc_new _ _) _
  have g1 : W3.heap[w.heap.size + 1]? = some (.cells (isN n []) 4 (0, 0)) := by rw [hW3, ← hs2, isN_made]; exact heap_alloc_new _ _
  have G0 := Lib.hid g0
  have G1 := Lib.hid g1
  have HB3 := Lib.hid hb3
  have HS3 := Lib.hid hs3
  clear g0 g1 hb3 hs3
  go_enter Tryd.func67, Tryd.ntmps67
  go_wp2_with fail
  rw [← hW2]
  try simp only [hs2]
  rw [← hW3]
  clear hW3 hW2 hs2 hmk
  go_loopw [6] (fun i wr => ∃ k : Nat, k ≤ n ∧ i = .int .i64 k ∧ wr.heap[w.heap.size + 1]? = some (.cells (isN n (holdTo x.nodes s k)) 4 (0, 0)) ∧ wr.heap[w.heap.size]? = some (.cells #[.slice a n c, .int .i64 r] 24 (0, 0)) ∧ w.heap.size + 2 ≤ wr.heap.size ∧ Below w.heap.size w wr) (fun i _ => n - (intOf i).toNat)
  case atStart => exact ⟨0, Nat.zero_le _, rfl, G1.out, G0.out, by rw [HS3.out]; exact Nat.le_refl _, HB3.out⟩
  case round =>
    obtain ⟨k, hk, rfl, e1, e0, hsz, hb⟩ := hrel
    by_cases hlt : k < n
    · obtain ⟨nd, hnd⟩ : ∃ nd, x.nodes[k]? = some nd := ⟨_, List.getElem?_eq_getElem (by have := HN.out; omega)⟩
      obtain ⟨b', o', ha, hat⟩ := (HX.out.below hb).at' (by omega)
      have hM := hat k nd hnd
      obtain ⟨a3, n3, c3, m3, r3⟩ := hM.ws
      obtain ⟨a4, n4, c4, m4, r4⟩ := hM.ks
      have m0 := hM.c0
      have m1 := hM.c1
      have m2 := hM.c2
      have HOK := Lib.hid (HO.out.node k nd hnd)
      have hfew := HF.out k nd hnd
      have HST : Hid (holdTo x.nodes s (k + 1) = holdTo x.nodes s k ++ [valN nd (holdTo x.nodes s k) s]) := Lib.hid (by
        rw [holdTo]
        rw [show x.nodes.getD k nod0 = nd by rw [List.getD_eq_getElem?_getD, hnd]; rfl])
      have HL := Lib.hid (holdTo_len x.nodes s k)
      obtain ⟨I, hI⟩ : ∃ I, holdTo x.nodes s k = I := ⟨_, rfl⟩
      rw [hI] at e1 HST HL
      obtain ⟨kind, server, need, ws, ks⟩ := nd
      simp only at m0 m1 m2 hfew r3 r4
      have R3 := Lib.hid r3
      have R4 := Lib.hid r4
      have HB := Lib.hid hb
      have q0 := cell_of_row _ _ 0 _ _ _ e0
      have ea := heap_alloc_at e1 (Obj.cells #[.int .i64 kind, .int .i64 server, .int .i64 need, .slice a3 n3 c3, .slice a4 n4 c4] 64)
      have ea0 := heap_alloc_at e0 (Obj.cells #[.int .i64 kind, .int .i64 server, .int .i64 need, .slice a3 n3 c3, .slice a4 n4 c4] 64)
      have en := heap_alloc_new wr (Obj.cells #[.int .i64 kind, .int .i64 server, .int .i64 need, .slice a3 n3 c3, .slice a4 n4 c4] 64)
      have hbn : Below wr.heap.size wr (wr.alloc (Obj.cells #[.int .i64 kind, .int .i64 server, .int .i64 need, .slice a3 n3 c3, .slice a4 n4 c4] 64)) := (Below.refl _ wr).alloc (Nat.le_refl _) _
      have hlk : ks.length = n4 := by have := R4.out.len; simp at this; omega
      have hle4 := R4.out.le
      have hm4 := R4.out.max
      unfold maxLen at hm4
      subst ha
      clear hM r3 r4 hat hnd hI hb
      go_wp2_with fail
      generalize hWA : wr.alloc _ = WA
      rw [hWA] at ea ea0 en hbn
      have EA := Lib.hid ea
      have EA0 := Lib.hid ea0
      have EN := Lib.hid en
      have HBN := Lib.hid hbn
      have HSA : Hid (w.heap.size + 2 ≤ WA.heap.size ∧ wr.heap.size < WA.heap.size) := Lib.hid (by rw [← hWA]; simp; omega)
      clear hWA ea ea0 en hbn e0 e1 m0 m1 m2 m3 m4 q0
      obtain ⟨W0, hW0⟩ : ∃ W0, W0 = wr := ⟨_, rfl⟩
      subst hW0
      go_loopw [8, 9] (fun v i wq => ∃ j : Nat, j ≤ n4 ∧ i = .int .i64 j ∧ v = .int .i64 (gotTo ⟨kind, server, need, ws, ks⟩ I j) ∧ Below WA.heap.size WA wq) (fun _ i _ => n4 - (intOf i).toNat)
      case atStart => exact ⟨0, Nat.zero_le _, rfl, rfl, Below.refl _ _⟩
      case round =>
        obtain ⟨j, hj, rfl, rfl, hbq⟩ := hrel
        have eqn := heap_below hbq EN.out
        have p0 := cell_of_row _ _ 0 _ _ _ eqn
        have p1 := cell_of_row _ _ 1 _ _ _ eqn
        have p2 := cell_of_row _ _ 2 _ _ _ eqn
        have p3 := cell_of_row _ _ 3 _ _ _ eqn
        have p4 := cell_of_row _ _ 4 _ _ _ eqn
        by_cases hltj : j < n4
        · obtain ⟨z, hz⟩ : ∃ z, ks[j]? = some z := ⟨_, List.getElem?_eq_getElem (by omega)⟩
          have hzr := HOK.out.kids z (List.mem_of_getElem? hz)
          obtain ⟨kd, rfl⟩ := Int.eq_ofNat_of_zero_le hzr.1
          have hkd2 : kd < k := by omega
          obtain ⟨b4, o4, ha4, hcell4⟩ := (R4.out.below (Below.next HBN.out hbq)).at' (by omega)
          have q4 := hcell4 j (.int .i64 kd) (by rw [List.getElem?_map, hz]; rfl)
          have eq1 := heap_below hbq EA.out
          have q1 := cell_of_row _ _ kd _ _ _ eq1 |>.trans (isN_at (by have := HL.out; omega) (by omega))
          have hgs : gotTo ⟨kind, server, need, ws, ks⟩ I (j + 1) = gotTo ⟨kind, server, need, ws, ks⟩ I j + (if I.getD kd false = true then wgtN ⟨kind, server, need, ws, ks⟩ j else 0) := by
            rw [gotTo]
            show _ + (if I.getD ((ks.getD j 0).toNat) false = true then _ else _) = _
            rw [show ks.getD j 0 = (kd : Int) by rw [List.getD_eq_getElem?_getD, hz]; rfl, Int.toNat_natCast]
          have hgb := got_bd HOK.out I j
          have hwb := wgt_pos HOK.out j
          subst ha4
          cases hi : I.getD kd false
          · rw [hi] at q1 hgs
            rw [if_neg (by decide), Int.add_zero] at hgs
            have HGS := Lib.hid hgs
            clear hcell4 hz hgs hi hgb hwb hzr eq1 eqn
            go_wp2_with fail
            go_roundw
            case rel => exact ⟨j + 1, by omega, by go_num, by rw [HGS.out], hbq⟩
            case measure => simp [intOf]; omega
          · rw [hi] at q1 hgs
            rw [if_pos rfl] at hgs
            have HW : Hid (∀ y, Below W0.heap.size W0 y → Calls Tryd.prog 66 #[.agg #[.int .i64 kind, .int .i64 server, .int .i64 need, .slice a3 n3 c3, .slice (some ⟨b4, o4, none⟩) n4 c4], .int .i64 j] y fun e w' => e = .returned (.int .i64 (wgtN ⟨kind, server, need, ws, ks⟩ j)) ∧ Below y.heap.size y w') :=
              Lib.hid (fun y hy => rwgt_c ⟨kind, server, need, ws, ks⟩ j a3 n3 c3 (some ⟨b4, o4, none⟩) n4 c4 y (R3.out.below hy) (by
                rcases HOK.out.arity with h | h
                · exact .inl h
                · right; rw [h]; show j < ks.length; omega))
            obtain ⟨S, hS⟩ : ∃ S, gotTo ⟨kind, server, need, ws, ks⟩ I j = S := ⟨_, rfl⟩
            obtain ⟨G, hG⟩ : ∃ G, wgtN ⟨kind, server, need, ws, ks⟩ j = G := ⟨_, rfl⟩
            rw [hS] at hgs hgb ⊢
            rw [hG] at hgs hwb HW
            have hwr2 : wrap64 (S + G) = S + G := by unfold wrap64; omega
            have HGS := Lib.hid hgs
            have HBQ := Lib.hid hbq
            clear hcell4 hz hgs hi hgb hwb hzr eq1 eqn hS hG hbq
            go_wp2_with fail
            refine (HW.out _ (Below.next HBN.out HBQ.out)).mono ?_
            rintro e w5 ⟨rfl, hb5⟩
            have hb6 := Below.next HBQ.out hb5
            go_wp2_with fail
            go_roundw
            case rel => exact ⟨j + 1, by omega, by go_num, by rw [HGS.out, hwr2], hb6⟩
            case measure => simp [intOf]; omega
        · obtain rfl : j = n4 := by omega
          have eq1 := heap_below hbq EA.out
          have q1 := cell_of_row _ _ k _ _ _ eq1 |>.trans (isN_at (by have := HL.out; omega) (by omega))
          have z1 := frozen_row eq1 k
          have EQ1 := Lib.hid eq1
          have EQ0 := Lib.hid (heap_below hbq EA0.out)
          have HBF := Lib.hid (Below.next HB.out (Below.next HBN.out hbq))
          have HSQ := Lib.hid hbq.size
          obtain ⟨sv, hsv⟩ := Int.eq_ofNat_of_zero_le HOK.out.server.1
          have hs12 := HOK.out.server.2
          simp only at hsv hs12
          subst hsv
          have hhas : hasI s (sv : Int) = hasB s sv := by unfold hasI; rw [decide_eq_true (by omega), decide_eq_true (by omega)]; rfl
          have HVN : Hid (valN ⟨kind, (sv : Int), need, ws, ks⟩ I s = if kind = 1 then hasB s sv else decide (need ≤ gotTo ⟨kind, (sv : Int), need, ws, ks⟩ I j)) := Lib.hid (by unfold valN; simp only [hlk]; rfl)
          rw [HVN.out] at HST
          obtain ⟨S, hS⟩ : ∃ S, gotTo ⟨kind, (sv : Int), need, ws, ks⟩ I j = S := ⟨_, rfl⟩
          rw [hS] at HST ⊢
          have HH : Hid (∀ y, Calls Tryd.prog 78 #[.int .u16 (U s), .int .i64 (sv : Int)] y fun e w' => e = .returned (.bool (hasB s sv)) ∧ y = w') := Lib.hid (fun y => by rw [← hhas]; exact has_c s _ _ y rfl)
          have hk12 := HOK.out.kind
          simp only at hk12
          clear eqn eq1 hS hbq hhas HVN
          rcases hk12 with rfl | rfl
          · rw [if_pos rfl] at HST
            obtain ⟨V, hV⟩ : ∃ V, hasB s sv = V := ⟨_, rfl⟩
            rw [hV] at HST HH
            clear hV
            cases V
            · go_wp2_with fail
              refine (HH.out _).mono ?_
              rintro e w5 ⟨rfl, rfl⟩
              go_wp2_with fail
              go_roundw
              case rel =>
                have hkl := HL.out
                have hsq := HSQ.out
                have hsa := HSA.out
                refine ⟨k + 1, by omega, by go_num, ?_, ?_, ?_, ?_⟩
                · rw [heap_set_at EQ1.out, HST.out, ← hkl, isN_set (by omega)]
                · exact heap_set_other (by omega) _ _ EQ0.out
                · simp [World.setCell]; omega
                · exact HBF.out.setCell (p := ⟨w.heap.size + 1, k, none⟩) (by show w.heap.size ≤ w.heap.size + 1; omega) _
              case measure => simp [intOf]; omega
            · go_wp2_with fail
              refine (HH.out _).mono ?_
              rintro e w5 ⟨rfl, rfl⟩
              go_wp2_with fail
              go_roundw
              case rel =>
                have hkl := HL.out
                have hsq := HSQ.out
                have hsa := HSA.out
                refine ⟨k + 1, by omega, by go_num, ?_, ?_, ?_, ?_⟩
                · rw [heap_set_at EQ1.out, HST.out, ← hkl, isN_set (by omega)]
                · exact heap_set_other (by omega) _ _ EQ0.out
                · simp [World.setCell]; omega
                · exact HBF.out.setCell (p := ⟨w.heap.size + 1, k, none⟩) (by show w.heap.size ≤ w.heap.size + 1; omega) _
              case measure => simp [intOf]; omega
          · rw [if_neg (by decide)] at HST
            by_cases hns : need ≤ S
            · have hd : decide (need ≤ S) = true := decide_eq_true hns
              rw [hd] at HST
              clear hns
              go_wp2_with fail
              go_roundw
              case rel =>
                have hkl := HL.out
                have hsq := HSQ.out
                have hsa := HSA.out
                refine ⟨k + 1, by omega, by go_num, ?_, ?_, ?_, ?_⟩
                · rw [heap_set_at EQ1.out, HST.out, ← hkl, isN_set (by omega)]
                · exact heap_set_other (by omega) _ _ EQ0.out
                · simp [World.setCell]; omega
                · exact HBF.out.setCell (p := ⟨w.heap.size + 1, k, none⟩) (by show w.heap.size ≤ w.heap.size + 1; omega) _
              case measure => simp [intOf]; omega
            · have hd : decide (need ≤ S) = false := decide_eq_false hns
              rw [hd] at HST
              clear hns
              go_wp2_with fail
              go_roundw
              case rel =>
                have hkl := HL.out
                have hsq := HSQ.out
                have hsa := HSA.out
                refine ⟨k + 1, by omega, by go_num, ?_, ?_, ?_, ?_⟩
                · rw [heap_set_at EQ1.out, HST.out, ← hkl, isN_set (by omega)]
                · exact heap_set_other (by omega) _ _ EQ0.out
                · simp [World.setCell]; omega
                · exact HBF.out.setCell (p := ⟨w.heap.size + 1, k, none⟩) (by show w.heap.size ≤ w.heap.size + 1; omega) _
              case measure => simp [intOf]; omega
    · obtain rfl : k = n := by omega
      have hc := cell_of_row _ _ r _ _ _ e1 |>.trans (isN_at (by rw [holdTo_len]; omega) (by omega))
      rw [← HV.out] at hc
      have hc2 := cell_of_row _ _ 1 _ _ _ e0
      go_wp2_with fail
      go_ret
      exact ⟨rfl, hb⟩
end Go.Proofs.YtflpkkebampmfaaDoor
namespace Go.Proofs.YtflpkkebampmfaaDoor
open Go.RowKit Go.Shelf

set_option maxRecDepth 100000 in
set_option maxHeartbeats 4000000 in
theorem rformed_c (t : Tre) (a : Option Addr) (n c : Nat) (w : World) (h : TM w a n c t.nodes) :
    Calls Tryd.prog 44 #[.agg #[.slice a n c, .int .i64 t.root]] w fun e w' => e = .returned (.bool (formC t)) ∧ Below w.heap.size w w' := by
  obtain ⟨nodes, root⟩ := t
  have hnl := TM.len h
  simp only at h hnl ⊢
  have hm := RdK.max h
  have hle := RdK.le h
  unfold maxLen at hm
  obtain ⟨V, hV⟩ : ∃ V, formC ⟨nodes, root⟩ = V := ⟨_, rfl⟩
  rw [hV]
  have HV := Lib.hid hV
  have HN := Lib.hid hnl
  have HM := Lib.hid h
  obtain ⟨W2, hW2⟩ : ∃ W2, W2 = w.alloc (.cells #[.slice a n c, .int .i64 root] 33) := ⟨_, rfl⟩
  have hb2 : Below w.heap.size w W2 := by rw [hW2]; exact (Below.refl _ w).alloc (Nat.le_refl _) _
  have HB2 := Lib.hid hb2
  clear hV hnl h hb2
  by_cases c1 : n < 1
  · have d1 : decide ((n : Int) < 1) = true := decide_eq_true (by omega)
    have HF : Hid (V = false) := Lib.hid (HV.out.symm.trans (formC_size (by unfold sizeC; simp only; rw [HN.out, decide_eq_false (show ¬ 1 ≤ n by omega)]; rfl)))
    clear c1
    go_enter Tryd.func44, Tryd.ntmps44
    go_wp2_with fail
    go_ret
    exact ⟨ret_bool HF.out.symm, by rw [← hW2]; exact HB2.out⟩
  have d1 : decide ((n : Int) < 1) = false := decide_eq_false (by omega)
  by_cases c2 : 8191 < n
  · have d2 : decide ((8191 : Int) < (n : Int)) = true := decide_eq_true (by omega)
    have HF : Hid (V = false) := Lib.hid (HV.out.symm.trans (formC_size (by unfold sizeC; simp only; rw [HN.out, decide_eq_false (show ¬ n ≤ 8191 by omega)]; simp)))
    clear c1 c2
    go_enter Tryd.func44, Tryd.ntmps44
    go_wp2_with fail
    go_ret
    exact ⟨ret_bool HF.out.symm, by rw [← hW2]; exact HB2.out⟩
  have d2 : decide ((8191 : Int) < (n : Int)) = false := decide_eq_false (by omega)
  by_cases c3 : root < 0
  · have d3 : decide (root < 0) = true := decide_eq_true (by omega)
    have HF : Hid (V = false) := Lib.hid (HV.out.symm.trans (formC_size (by unfold sizeC; simp only; rw [HN.out, decide_eq_false (show ¬ 0 ≤ root by omega)]; simp)))
    clear c1 c2 c3
    go_enter Tryd.func44, Tryd.ntmps44
    go_wp2_with fail
    go_ret
    exact ⟨ret_bool HF.out.symm, by rw [← hW2]; exact HB2.out⟩
  have d3 : decide (root < 0) = false := decide_eq_false (by omega)
  by_cases c4 : (n : Int) ≤ root
  · have d4 : decide ((n : Int) ≤ root) = true := decide_eq_true (by omega)
    have HF : Hid (V = false) := Lib.hid (HV.out.symm.trans (formC_size (by unfold sizeC; simp only; rw [HN.out, decide_eq_false (show ¬ root < (n : Int) by omega)]; simp)))
    clear c1 c2 c3 c4
    go_enter Tryd.func44, Tryd.ntmps44
    go_wp2_with fail
    go_ret
    exact ⟨ret_bool HF.out.symm, by rw [← hW2]; exact HB2.out⟩
  have d4 : decide ((n : Int) ≤ root) = false := decide_eq_false (by omega)
  have HSZ : Hid (sizeC ⟨nodes, root⟩ = true) := Lib.hid (by
    unfold sizeC; simp only; rw [HN.out]; simp; omega)
  have hmk := make_int n (by omega)
  go_enter Tryd.func44, Tryd.ntmps44
  go_wp2_with fail
  rw [← hW2]
  obtain ⟨W3, hW3⟩ : ∃ W3, W3 = W2.alloc (.cells (madeCells #[.int .i64 0] n) 3) := ⟨_, rfl⟩
  have hs2 : W2.heap.size = w.heap.size + 1 := by rw [hW2]; simp
  have hF0 : FrW w W3 a n c root (parTo nodes 0) := by
    refine ⟨by rw [hW3, hW2]; exact heap_alloc_at (heap_alloc_new _ _) _, ?_, by rw [hW3]; exact HB2.out.alloc HB2.out.size _⟩
    rw [← hs2, hW3, psA_made]
    unfold parTo
    rw [List.take_zero, List.foldl_nil, HN.out]
    exact heap_alloc_new _ _
  have HF0 := Lib.hid hF0
  rw [← hW3]
  clear hW3 hW2 hs2 hF0 hmk
  go_loopw [5] (fun i wr => ∃ k : Nat, k ≤ n ∧ i = .int .i64 k ∧ Hid (∀ (i : Nat) c, i < k → nodes[i]? = some c → nodC c i = true) ∧ FrW w wr a n c root (parTo nodes k)) (fun i _ => n - (intOf i).toNat)
  case atStart => exact ⟨0, Nat.zero_le _, rfl, Lib.hid (fun i c hi => by omega), HF0.out⟩
  case round =>
    obtain ⟨k, hk, rfl, hall, hfr⟩ := hrel
    by_cases hlt : k < n
    · obtain ⟨x, hx⟩ : ∃ x, nodes[k]? = some x := ⟨_, List.getElem?_eq_getElem (by have := HN.out; omega)⟩
      obtain ⟨b, o, ha, hat⟩ := TM.at3 (RdK.below HM.out hfr.bel) (by omega)
      obtain ⟨m0, m1, m2⟩ := hat k x hx
      subst ha
      have hps := parTo_succ hx
      have hbad : ∀ (hb : nodC x k = false), V = false := fun hb => HV.out.symm.trans (formC_bad (t := ⟨nodes, root⟩) hx hb)
      have hgood : ∀ (hb : nodC x k = true), ∀ (i : Nat) c, i < k + 1 → nodes[i]? = some c → nodC c i = true := fun hb i c hi hc => by
        by_cases h1 : i < k
        · exact hall.out i c h1 hc
        · obtain rfl : i = k := by omega
          rw [hx] at hc; cases hc; exact hb
      have HBAD := Lib.hid hbad
      have HGOOD := Lib.hid hgood
      have HLE := Lib.hid (parTo_le nodes k)
      have HGE := Lib.hid (parTo_nonneg nodes k)
      have HPL : Hid ((parTo nodes k).length = n) := Lib.hid (by rw [parTo_len]; exact HN.out)
      obtain ⟨ps, hpp⟩ : ∃ ps, parTo nodes k = ps := ⟨_, rfl⟩
      rw [hpp] at hfr hps HLE HGE HPL
      have HPS := Lib.hid hps
      obtain ⟨sv, fi, se⟩ := x
      simp only at m0 m1 m2
      have hfa := hfr.alloc (.cells #[.int .i64 sv, .int .i64 fi, .int .i64 se] 39)
      have HFA := Lib.hid hfa
      have q0 := cell_of_row _ _ 0 _ _ _ hfr.box
      clear hbad hgood hps hpp hx hat hall
      by_cases hl : leafC ⟨sv, fi, se⟩ = true
      · have hnc := nodC_lf (i := k) hl
        have hsv : sv = -1 ∨ sv = -2 := by
          unfold leafC at hl; simpa using hl
        have HPE : Hid (parTo nodes (k + 1) = ps) := Lib.hid (by rw [HPS.out, parStep_leaf hl])
        simp only at hnc
        by_cases e1 : fi = 0
        · by_cases e2 : se = 0
          · subst e1 e2
            have HG := Lib.hid (HGOOD.out (by rw [hnc]; rfl))
            clear hnc hl
            rcases hsv with rfl | rfl
            · go_wp2_with fail
              go_roundw
              case rel => exact ⟨k + 1, by omega, by go_num, HG, by rw [HPE.out]; exact HFA.out⟩
              case measure => simp [intOf]; omega
            · go_wp2_with fail
              go_roundw
              case rel => exact ⟨k + 1, by omega, by go_num, HG, by rw [HPE.out]; exact HFA.out⟩
              case measure => simp [intOf]; omega
          · subst e1
            have HF := Lib.hid (HBAD.out (by rw [hnc, decide_eq_false e2]; simp))
            have de : (se != 0) = true := by simpa using e2
            clear hnc hl e2
            rcases hsv with rfl | rfl
            · go_wp2_with fail
              go_ret
              exact ⟨ret_bool HF.out.symm, HFA.out.bel⟩
            · go_wp2_with fail
              go_ret
              exact ⟨ret_bool HF.out.symm, HFA.out.bel⟩
        · have HF := Lib.hid (HBAD.out (by rw [hnc, decide_eq_false e1]; simp))
          have de : (fi != 0) = true := by simpa using e1
          clear hnc hl e1
          rcases hsv with rfl | rfl
          · go_wp2_with fail
            go_ret
            exact ⟨ret_bool HF.out.symm, HFA.out.bel⟩
          · go_wp2_with fail
            go_ret
            exact ⟨ret_bool HF.out.symm, HFA.out.bel⟩
      · have hl' : leafC ⟨sv, fi, se⟩ = false := by simpa using hl
        have hs1 : (sv == -1) = false := by unfold leafC at hl'; simp at hl'; simpa using hl'.1
        have hs2 : (sv == -2) = false := by unfold leafC at hl'; simp at hl'; simpa using hl'.2
        have HL := Lib.hid hl'
        clear hl hl'
        by_cases g1 : sv < 0
        · have e1 : decide (sv < 0) = true := decide_eq_true g1
          have HF := Lib.hid (HBAD.out (nodC_srv HL.out (.inl g1)))
          clear g1
          go_wp2_with fail
          go_ret
          exact ⟨ret_bool HF.out.symm, HFA.out.bel⟩
        have e1 : decide (sv < 0) = false := decide_eq_false g1
        by_cases g2 : 12 ≤ sv
        · have e2 : decide ((12 : Int) ≤ sv) = true := decide_eq_true g2
          have HF := Lib.hid (HBAD.out (nodC_srv HL.out (.inr g2)))
          clear g1 g2
          go_wp2_with fail
          go_ret
          exact ⟨ret_bool HF.out.symm, HFA.out.bel⟩
        have e2 : decide ((12 : Int) ≤ sv) = false := decide_eq_false g2
        have HNT := Lib.hid (fun hk => nodC_two (i := k) HL.out (show (0 : Int) ≤ sv by omega) (show sv < 12 by omega) hk)
        have HPE : Hid (parTo nodes (k + 1) = bumpS (bumpS ps fi) se) := Lib.hid (by rw [HPS.out, parStep_two HL.out]; rfl)
        have HKB := Lib.hid (fun (j : Nat) (z : Int) => nodC_kid (i := k) (j := j) (z := z) HL.out)
        simp only at HNT HKB
        clear g1 g2
        by_cases z0 : fi < 0
        · have e3 : decide (fi < 0) = true := decide_eq_true z0
          have HF := Lib.hid (HBAD.out (HKB.out 0 fi rfl (.inl z0)))
          clear z0
          go_wp2_with fail
          go_ret
          exact ⟨ret_bool HF.out.symm, HFA.out.bel⟩
        have e3 : decide (fi < 0) = false := decide_eq_false z0
        by_cases y0 : se < 0
        · have e4 : decide (se < 0) = true := decide_eq_true y0
          have HF := Lib.hid (HBAD.out (HKB.out 1 se rfl (.inl y0)))
          clear z0 y0
          go_wp2_with fail
          go_ret
          exact ⟨ret_bool HF.out.symm, HFA.out.bel⟩
        have e4 : decide (se < 0) = false := decide_eq_false y0
        by_cases z1 : (k : Int) ≤ fi
        · have e5 : decide ((k : Int) ≤ fi) = true := decide_eq_true z1
          have HF := Lib.hid (HBAD.out (HKB.out 0 fi rfl (.inr z1)))
          clear z0 y0 z1
          go_wp2_with fail
          go_ret
          exact ⟨ret_bool HF.out.symm, HFA.out.bel⟩
        have e5 : decide ((k : Int) ≤ fi) = false := decide_eq_false z1
        by_cases y1 : (k : Int) ≤ se
        · have e6 : decide ((k : Int) ≤ se) = true := decide_eq_true y1
          have HF := Lib.hid (HBAD.out (HKB.out 1 se rfl (.inr y1)))
          clear z0 y0 z1 y1
          go_wp2_with fail
          go_ret
          exact ⟨ret_bool HF.out.symm, HFA.out.bel⟩
        have e6 : decide ((k : Int) ≤ se) = false := decide_eq_false y1
        have HG := Lib.hid (HGOOD.out (HNT.out (fun j z hz => by
          match j, hz with
          | 0, hz => cases hz; omega
          | 1, hz => cases hz; omega)))
        obtain ⟨p, rfl⟩ := Int.eq_ofNat_of_zero_le (show 0 ≤ fi by omega)
        obtain ⟨q, rfl⟩ := Int.eq_ofNat_of_zero_le (show 0 ≤ se by omega)
        have hpk : p < k := by omega
        have hqk : q < k := by omega
        have hnew := heap_alloc_new wr (Obj.cells #[.int .i64 sv, .int .i64 (p : Int), .int .i64 (q : Int)] 39)
        have hws : w.heap.size + 1 < wr.heap.size := (Array.getElem?_eq_some_iff.1 hfr.row).1
        have hnew2 := heap_set_other (B := wr.heap.size) (B' := w.heap.size + 1) (by omega) p (.int .i64 (ps.getD p 0 + 1)) hnew
        have hps := (cell_of_row _ _ p _ _ _ HFA.out.row).trans (psA_at (by have h2 := HPL.out; omega))
        have hfz := frozen_row HFA.out.row p
        have hset := HFA.out.set p
        have hps2 := (cell_of_row _ _ q _ _ _ hset.row).trans (psA_at (by rw [bump_len]; have h2 := HPL.out; omega))
        have hfz2 := frozen_row hset.row q
        have n2 := cell_of_row _ _ 2 _ _ _ hnew2
        have hset2 := hset.set q
        have hle1 := HLE.out p
        have hge1 := HGE.out p
        have hle2 := HLE.out q
        have hge2 := HGE.out q
        have hbl := bump_le ps (p : Int) q
        have hbg := bump_ge ps (p : Int) q
        obtain ⟨X, hX⟩ : ∃ X, ps.getD p 0 = X := ⟨_, rfl⟩
        obtain ⟨Y, hY⟩ : ∃ Y, (bumpS ps (p : Int)).getD q 0 = Y := ⟨_, rfl⟩
        rw [hX] at hps hset hset2 hle1 hge1 hps2 hfz2 n2
        rw [hY] at hps2 hset2 hbl hbg
        have hwr : wrap64 (X + 1) = X + 1 := by unfold wrap64; omega
        have hwr2 : wrap64 (Y + 1) = Y + 1 := by unfold wrap64; omega
        have HSET2 := Lib.hid hset2
        clear z0 z1 y0 y1 hset hset2 hle1 hge1 hle2 hge2 hbl hbg hX hY hnew hnew2 hfr hfa hws
        go_wp2_with fail
        go_roundw
        case rel => exact ⟨k + 1, by omega, by go_num, HG, by rw [HPE.out]; exact HSET2.out⟩
        case measure => simp [intOf]; omega
    · obtain rfl : k = n := by omega
      have HND : Hid (nodsC nodes = true) := Lib.hid (nodsC_all fun i c hc => hall.out i c (by have := (List.getElem?_eq_some_iff.1 hc).1; have := HN.out; omega) hc)
      have HFR := Lib.hid hfr
      clear hall hfr
      go_wp2_with fail
      have HFP : Hid (∀ i, i < k → parB root (parTo nodes k) i = false → V = false) := Lib.hid (fun i hi hb => HV.out.symm.trans (formC_par (t := ⟨nodes, root⟩) (i := i) (by have := HN.out; simp only; omega) (by simp only; rw [HN.out]; exact hb)))
      have HOK : Hid ((∀ i, i < k → parB root (parTo nodes k) i = true) → V = true) := Lib.hid (fun h => HV.out.symm.trans (formC_ok (t := ⟨nodes, root⟩) HSZ.out HND.out (fun i hi => by simp only at hi ⊢; rw [HN.out] at hi ⊢; exact h i hi)))
      have HPN := Lib.hid (parTo_nonneg nodes k)
      have HPL : Hid ((parTo nodes k).length = k) := Lib.hid (by rw [parTo_len]; exact HN.out)
      obtain ⟨ps, hpp⟩ : ∃ ps, parTo nodes k = ps := ⟨_, rfl⟩
      rw [hpp] at HFR HFP HOK HPN HPL
      clear hpp
      go_loopw [7] (fun i wr => ∃ j : Nat, j ≤ k ∧ i = .int .i64 j ∧ Hid (∀ i, i < j → parB root ps i = true) ∧ FrW w wr a k c root ps) (fun i _ => k - (intOf i).toNat)
      case atStart => exact ⟨0, Nat.zero_le _, rfl, Lib.hid (fun i hi => by omega), HFR.out⟩
      case round =>
        obtain ⟨j, hj, rfl, hpar, hfj⟩ := hrel
        by_cases hltj : j < k
        · have q1 := cell_of_row _ _ 1 _ _ _ hfj.box
          have hps := (cell_of_row _ _ j _ _ _ hfj.row).trans (psA_at (by have h2 := HPL.out; omega))
          have hX0 := HPN.out j
          have hB := HFP.out j hltj
          have hG : parB root ps j = true → ∀ i, i < j + 1 → parB root ps i = true := fun hb i hi => by
            by_cases h1 : i < j
            · exact hpar.out i h1
            · obtain rfl : i = j := by omega
              exact hb
          unfold parB at hB
          obtain ⟨X, hX⟩ : ∃ X, ps.getD j 0 = X := ⟨_, rfl⟩
          have hPB : parB root ps j = if (j : Int) = root then X == 0 else X == 1 := by unfold parB; rw [hX]
          rw [hX] at hps hX0 hB
          have HG := Lib.hid hG
          have HB := Lib.hid hB
          have HPB := Lib.hid hPB
          have HFJ := Lib.hid hfj
          clear hB hG hPB hX hpar hfj
          by_cases hr : (j : Int) = root
          · have t1 : ((j : Int) == root) = true := by simpa using hr
            by_cases x0 : X = 0
            · subst x0
              have HG2 := Lib.hid (HG.out (by rw [HPB.out, if_pos hr]; rfl))
              have t3 : ((j : Int) != root) = false := by rw [bne, t1]; rfl
              clear hr
              go_wp2_with fail
              go_roundw
              case rel => exact ⟨j + 1, by omega, by go_num, HG2, HFJ.out⟩
              case measure => simp [intOf]; omega
            · have t2 : (X == 0) = false := by simpa using x0
              have t3 : (X != 0) = true := by simpa using x0
              have HF := Lib.hid (HB.out (by rw [if_pos hr]; exact t2))
              clear hr x0
              go_wp2_with fail
              go_ret
              exact ⟨ret_bool HF.out.symm, HFJ.out.bel⟩
          · have t1 : ((j : Int) == root) = false := by simpa using hr
            have t2 : ((j : Int) != root) = true := by simpa using hr
            by_cases x1 : X = 1
            · subst x1
              have HG2 := Lib.hid (HG.out (by rw [HPB.out, if_neg hr]; rfl))
              clear hr
              go_wp2_with fail
              go_roundw
              case rel => exact ⟨j + 1, by omega, by go_num, HG2, HFJ.out⟩
              case measure => simp [intOf]; omega
            · have t3 : (X != 1) = true := by simpa using x1
              have HF := Lib.hid (HB.out (by rw [if_neg hr]; simpa using x1))
              clear hr x1
              go_wp2_with fail
              go_ret
              exact ⟨ret_bool HF.out.symm, HFJ.out.bel⟩
        · obtain rfl : j = k := by omega
          have HT := Lib.hid (HOK.out hpar.out)
          clear hpar
          go_wp2_with fail
          go_ret
          exact ⟨ret_bool HT.out.symm, hfj.bel⟩
end Go.Proofs.YtflpkkebampmfaaDoor
namespace Go.Proofs.YtflpkkebampmfaaDoor
open Go.RowKit Go.Shelf

set_option maxRecDepth 100000 in
set_option maxHeartbeats 8000000 in
theorem rnode_c (nd : Nod) (i0 : Nat) (aw : Option Addr) (nw cw : Nat) (ak : Option Addr) (nk ck : Nat) (w : World) (hsum : nw + nk ≤ 9223372036854775807) (hw : Rd w aw nw cw (nd.weights.map (Value.int .i64))) (hk : Rd w ak nk ck (nd.kids.map (Value.int .i64))) :
    Calls Tryd.prog 33 #[.agg #[.int .i64 nd.kind, .int .i64 nd.server, .int .i64 nd.need, .slice aw nw cw, .slice ak nk ck], .int .i64 i0] w fun e w' => e = .returned (.int .i64 (nodE nd i0)) ∧ Below w.heap.size w w' := by
  have hlw : nd.weights.length = nw := by have := hw.len; simp at this; omega
  have hlk : nd.kids.length = nk := by have := hk.len; simp at this; omega
  have hE := nodE_F nd i0
  rw [hlw, hlk] at hE
  obtain ⟨kind, server, need, ws, ks⟩ := nd
  simp only at hw hk hlw hlk hE ⊢
  obtain ⟨V, hV0⟩ : ∃ V, nodE ⟨kind, server, need, ws, ks⟩ i0 = V := ⟨_, rfl⟩
  rw [hV0] at hE ⊢
  obtain ⟨W2, hW2⟩ : ∃ W2, W2 = w.alloc (Obj.cells #[.int .i64 kind, .int .i64 server, .int .i64 need, .slice aw nw cw, .slice ak nk ck] 64) := ⟨_, rfl⟩
  have hb2 : Below w.heap.size w W2 := by rw [hW2]; exact (Below.refl _ w).alloc (Nat.le_refl _) _
  have hle := hw.le
  have hm := hw.max
  have hle2 := hk.le
  have hm2 := hk.max
  unfold maxLen at hm hm2
  have HV := Lib.hid hE
  have HW := Lib.hid (hw.below hb2)
  have HK := Lib.hid (hk.below hb2)
  have HB2 := Lib.hid hb2
  have HLW := Lib.hid hlw
  have HLK := Lib.hid hlk
  have g2 : W2.heap[w.heap.size]? = some (.cells #[.int .i64 kind, .int .i64 server, .int .i64 need, .slice aw nw cw, .slice ak nk ck] 64 (0, 0)) := by rw [hW2]; exact heap_alloc_new _ _
  have q3 := cell_of_row _ _ 3 _ _ _ g2
  have q4 := cell_of_row _ _ 4 _ _ _ g2
  clear g2 hb2 hE hV0 hw hk hlw hlk
  by_cases k1 : kind = 1
  · subst k1
    by_cases n0 : need = 0
    · subst n0
      by_cases w0 : nw = 0 ∧ nk = 0
      · obtain ⟨w0, c0⟩ := w0
        subst w0 c0
        by_cases t0 : server < 0
        · have d0 : decide (server < 0) = true := decide_eq_true t0
          have hV : Hid (V = 7) := Lib.hid (HV.out.trans (by unfold nodF; rw [if_neg (by omega), if_pos (by omega)]))
          clear t0
          go_enter Tryd.func33, Tryd.ntmps33
          go_wp2_with fail
          go_ret
          exact ⟨ret_int hV.out.symm, by rw [← hW2]; exact HB2.out⟩

        have d0 : decide (server < 0) = false := decide_eq_false t0
        by_cases t1 : (12 : Int) ≤ server
        · have d1 : decide ((12 : Int) ≤ server) = true := decide_eq_true t1
          have hV : Hid (V = 7) := Lib.hid (HV.out.trans (by unfold nodF; rw [if_neg (by omega), if_pos (by omega)]))
          clear t0 t1
          go_enter Tryd.func33, Tryd.ntmps33
          go_wp2_with fail
          go_ret
          exact ⟨ret_int hV.out.symm, by rw [← hW2]; exact HB2.out⟩

        have d1 : decide ((12 : Int) ≤ server) = false := decide_eq_false t1
        go_enter Tryd.func33, Tryd.ntmps33
        go_wp2_with fail
        rw [← hW2]
        clear hW2
        go_loopw [5] (fun i wr => ∃ k : Nat, k ≤ 0 ∧ i = .int .i64 k ∧ Hid (∀ (j : Nat) x, j < k → ws[j]? = some x → hvyB x = false) ∧ W2 = wr) (fun i _ => 0 - (intOf i).toNat)
        case atStart => exact ⟨0, Nat.zero_le _, rfl, Lib.hid (fun j x hj => by omega), rfl⟩
        case round =>
          obtain ⟨k, hk, rfl, hno, rfl⟩ := hrel
          by_cases hlt : k < 0
          · omega
          · have hkn : 0 = k := by omega
            have HHV : Hid (ws.any hvyB = false) := Lib.hid (by
              rw [List.any_eq_false]
              intro x hx
              obtain ⟨j, hj⟩ := List.mem_iff_getElem?.1 hx
              rw [hno.out j x (by have := (List.getElem?_eq_some_iff.1 hj).1; have := HLW.out; omega) hj]; decide)
            clear hno
            subst hkn
            have m0 : ¬ (0 < 0 ∧ 0 ≠ 0) := by omega
            have HM0 := Lib.hid m0
            have f1 : decide (0 < 0) = false := decide_eq_false (by omega)
            have hs : True := trivial
            clear hs
            go_wp2_with fail
            go_loopw [6] (fun i wr => ∃ k : Nat, k ≤ 0 ∧ i = .int .i64 k ∧ Hid (∀ (j : Nat) x, j < k → ks[j]? = some x → unkB i0 x = false) ∧ W2 = wr) (fun i _ => 0 - (intOf i).toNat)
            case atStart => exact ⟨0, Nat.zero_le _, rfl, Lib.hid (fun j x hj => by omega), rfl⟩
            case round =>
              obtain ⟨j, hj, rfl, hno, rfl⟩ := hrel
              by_cases hlt2 : j < 0
              · omega
              · have hkn2 : 0 = j := by omega
                have HUN : Hid (ks.any (unkB i0) = false) := Lib.hid (by
                  rw [List.any_eq_false]
                  intro x hx
                  obtain ⟨l, hl⟩ := List.mem_iff_getElem?.1 hx
                  rw [hno.out l x (by have := (List.getElem?_eq_some_iff.1 hl).1; have := HLK.out; omega) hl]; decide)
                have hV : Hid (V = 0) := Lib.hid (HV.out.trans (by
                  have := HM0.out
                  rw [HUN.out, HHV.out]; unfold nodF; rw [if_neg (by omega), if_neg (by simp; omega), if_neg (by omega), if_neg (by decide)]))
                clear hno
                subst hkn2
                go_wp2_with fail
                go_ret
                exact ⟨ret_int hV.out.symm, HB2.out⟩

      · have hd : decide ((0 : Int) < (nw : Int) + (nk : Int)) = true := decide_eq_true (by omega)
        have hd2 : decide (0 < nw + nk) = true := decide_eq_true (by omega)
        have hwr : wrap64 ((nw : Int) + (nk : Int)) = (nw : Int) + (nk : Int) := by unfold wrap64; omega
        have hV : Hid (V = 1) := Lib.hid (HV.out.trans (by unfold nodF; rw [if_pos (by omega)]))
        clear w0
        go_enter Tryd.func33, Tryd.ntmps33
        go_wp2_with fail
        go_ret
        exact ⟨ret_int hV.out.symm, by rw [← hW2]; exact HB2.out⟩

    · have hd : (need != 0) = true := by simpa using n0
      have hV : Hid (V = 1) := Lib.hid (HV.out.trans (by unfold nodF; rw [if_pos (by omega)]))
      clear n0
      go_enter Tryd.func33, Tryd.ntmps33
      go_wp2_with fail
      go_ret
      exact ⟨ret_int hV.out.symm, by rw [← hW2]; exact HB2.out⟩

  · have hk1 : (kind == 1) = false := by simpa using k1
    have hk1' : (kind != 1) = true := by simpa using k1
    by_cases k2 : kind = 2
    · subst k2
      by_cases s0 : server = 0
      · subst s0
        by_cases t0 : need < 0
        · have d0 : decide (need < 0) = true := decide_eq_true t0
          have hV : Hid (V = 7) := Lib.hid (HV.out.trans (by unfold nodF; rw [if_neg (by omega), if_pos (by omega)]))
          clear t0
          go_enter Tryd.func33, Tryd.ntmps33
          go_wp2_with fail
          go_ret
          exact ⟨ret_int hV.out.symm, by rw [← hW2]; exact HB2.out⟩

        have d0 : decide (need < 0) = false := decide_eq_false t0
        by_cases t1 : (100000 : Int) < need
        · have d1 : decide ((100000 : Int) < need) = true := decide_eq_true t1
          have hV : Hid (V = 7) := Lib.hid (HV.out.trans (by unfold nodF; rw [if_neg (by omega), if_pos (by omega)]))
          clear t0 t1
          go_enter Tryd.func33, Tryd.ntmps33
          go_wp2_with fail
          go_ret
          exact ⟨ret_int hV.out.symm, by rw [← hW2]; exact HB2.out⟩

        have d1 : decide ((100000 : Int) < need) = false := decide_eq_false t1
        go_enter Tryd.func33, Tryd.ntmps33
        go_wp2_with fail
        rw [← hW2]
        clear hW2
        go_loopw [5] (fun i wr => ∃ k : Nat, k ≤ nw ∧ i = .int .i64 k ∧ Hid (∀ (j : Nat) x, j < k → ws[j]? = some x → hvyB x = false) ∧ W2 = wr) (fun i _ => nw - (intOf i).toNat)
        case atStart => exact ⟨0, Nat.zero_le _, rfl, Lib.hid (fun j x hj => by omega), rfl⟩
        case round =>
          obtain ⟨k, hk, rfl, hno, rfl⟩ := hrel
          by_cases hlt : k < nw
          · obtain ⟨x, hx⟩ : ∃ x, ws[k]? = some x := ⟨_, List.getElem?_eq_getElem (by have := HLW.out; omega)⟩
            obtain ⟨bb, oo, ha, hcell⟩ := HW.out.at' (by omega)
            have hc := hcell k (.int .i64 x) (by rw [List.getElem?_map, hx]; rfl)
            subst ha
            have hany : hvyB x = true → V = 7 := fun hb => HV.out.trans (by
              have e : ws.any hvyB = true := List.any_eq_true.2 ⟨x, List.mem_of_getElem? hx, hb⟩
              rw [e]; unfold nodF; rw [if_neg (by omega), if_pos (.inr rfl)])
            have hnx : hvyB x = false → ∀ (j : Nat) y, j < k + 1 → ws[j]? = some y → hvyB y = false := fun hb j y hj hy => by
              by_cases h1 : j < k
              · exact hno.out j y h1 hy
              · obtain rfl : j = k := by omega
                rw [hx] at hy; cases hy; exact hb
            have HANY := Lib.hid hany
            have HNX := Lib.hid hnx
            clear hany hnx hno hcell hx
            by_cases b1 : x < 1
            · have e1 : decide (x < 1) = true := decide_eq_true b1
              have hV := Lib.hid (HANY.out (by unfold hvyB; rw [e1]; rfl))
              clear b1
              go_wp2_with fail
              go_ret
              exact ⟨ret_int hV.out.symm, HB2.out⟩
            have e1 : decide (x < 1) = false := decide_eq_false b1
            by_cases b2 : 1000 < x
            · have e2 : decide (1000 < x) = true := decide_eq_true b2
              have hV := Lib.hid (HANY.out (by unfold hvyB; rw [e2]; simp))
              clear b1 b2
              go_wp2_with fail
              go_ret
              exact ⟨ret_int hV.out.symm, HB2.out⟩
            have e2 : decide (1000 < x) = false := decide_eq_false b2
            have HN := Lib.hid (HNX.out (by unfold hvyB; rw [e1, e2]; rfl))
            clear b1 b2
            go_wp2_with fail
            go_roundw
            case rel => exact ⟨k + 1, by omega, by go_num, HN, by first | trivial | rfl⟩
            case measure => simp [intOf]; omega
          · have hkn : nw = k := by omega
            have HHV : Hid (ws.any hvyB = false) := Lib.hid (by
              rw [List.any_eq_false]
              intro x hx
              obtain ⟨j, hj⟩ := List.mem_iff_getElem?.1 hx
              rw [hno.out j x (by have := (List.getElem?_eq_some_iff.1 hj).1; have := HLW.out; omega) hj]; decide)
            clear hno
            subst hkn
            by_cases m0 : 0 < nw ∧ nw ≠ nk
            · have f1 : decide (0 < nw) = true := decide_eq_true m0.1
              have f2 : ((nw : Nat) : Int) ≠ ((nk : Nat) : Int) := by omega
              have f3 : (((nw : Nat) : Int) != ((nk : Nat) : Int)) = true := by simpa using f2
              have hV : Hid (V = 6) := Lib.hid (HV.out.trans (by rw [HHV.out]; unfold nodF; rw [if_neg (by omega), if_neg (by simp; omega), if_pos (by omega)]))
              clear m0 f2
              go_wp2_with fail
              go_ret
              exact ⟨ret_int hV.out.symm, HB2.out⟩
            have HM0 := Lib.hid m0
            have hsame : (nw = 0 ∨ nw = nk) := by omega
            clear m0
            rcases hsame with hs | hs
            · have f1 : decide (0 < nw) = false := decide_eq_false (by omega)
              have f0 : (nw : Nat) = 0 := hs
              clear hs
              go_wp2_with fail
              go_loopw [6] (fun i wr => ∃ k : Nat, k ≤ nk ∧ i = .int .i64 k ∧ Hid (∀ (j : Nat) x, j < k → ks[j]? = some x → unkB i0 x = false) ∧ W2 = wr) (fun i _ => nk - (intOf i).toNat)
              case atStart => exact ⟨0, Nat.zero_le _, rfl, Lib.hid (fun j x hj => by omega), rfl⟩
              case round =>
                obtain ⟨j, hj, rfl, hno, rfl⟩ := hrel
                by_cases hlt2 : j < nk
                · obtain ⟨x, hx⟩ : ∃ x, ks[j]? = some x := ⟨_, List.getElem?_eq_getElem (by have := HLK.out; omega)⟩
                  obtain ⟨bb, oo, ha, hcell⟩ := HK.out.at' (by omega)
                  have hc := hcell j (.int .i64 x) (by rw [List.getElem?_map, hx]; rfl)
                  subst ha
                  have hany : unkB i0 x = true → V = 4 := fun hb => HV.out.trans (by
                    have e : ks.any (unkB i0) = true := List.any_eq_true.2 ⟨x, List.mem_of_getElem? hx, hb⟩
                    have := HM0.out
                    rw [e, HHV.out]; unfold nodF; rw [if_neg (by omega), if_neg (by simp; omega), if_neg (by omega), if_pos rfl])
                  have hnx : unkB i0 x = false → ∀ (l : Nat) y, l < j + 1 → ks[l]? = some y → unkB i0 y = false := fun hb l y hl hy => by
                    by_cases h1 : l < j
                    · exact hno.out l y h1 hy
                    · obtain rfl : l = j := by omega
                      rw [hx] at hy; cases hy; exact hb
                  have HANY := Lib.hid hany
                  have HNX := Lib.hid hnx
                  clear hany hnx hno hcell hx
                  by_cases b1 : x < 0
                  · have e1 : decide (x < 0) = true := decide_eq_true b1
                    have hV := Lib.hid (HANY.out (by unfold unkB; rw [e1]; rfl))
                    clear b1
                    go_wp2_with fail
                    go_ret
                    exact ⟨ret_int hV.out.symm, HB2.out⟩
                  have e1 : decide (x < 0) = false := decide_eq_false b1
                  by_cases b2 : (i0 : Int) ≤ x
                  · have e2 : decide ((i0 : Int) ≤ x) = true := decide_eq_true b2
                    have hV := Lib.hid (HANY.out (by unfold unkB; rw [e2]; simp))
                    clear b1 b2
                    go_wp2_with fail
                    go_ret
                    exact ⟨ret_int hV.out.symm, HB2.out⟩
                  have e2 : decide ((i0 : Int) ≤ x) = false := decide_eq_false b2
                  have HN := Lib.hid (HNX.out (by unfold unkB; rw [e1, e2]; rfl))
                  clear b1 b2
                  go_wp2_with fail
                  go_roundw
                  case rel => exact ⟨j + 1, by omega, by go_num, HN, by first | trivial | rfl⟩
                  case measure => simp [intOf]; omega
                · have hkn2 : nk = j := by omega
                  have HUN : Hid (ks.any (unkB i0) = false) := Lib.hid (by
                    rw [List.any_eq_false]
                    intro x hx
                    obtain ⟨l, hl⟩ := List.mem_iff_getElem?.1 hx
                    rw [hno.out l x (by have := (List.getElem?_eq_some_iff.1 hl).1; have := HLK.out; omega) hl]; decide)
                  have hV : Hid (V = 0) := Lib.hid (HV.out.trans (by
                    have := HM0.out
                    rw [HUN.out, HHV.out]; unfold nodF; rw [if_neg (by omega), if_neg (by simp; omega), if_neg (by omega), if_neg (by decide)]))
                  clear hno
                  subst hkn2
                  go_wp2_with fail
                  go_ret
                  exact ⟨ret_int hV.out.symm, HB2.out⟩
            · by_cases hz : nw = 0
              · have f1 : decide (0 < nw) = false := decide_eq_false (by omega)
                clear hs
                go_wp2_with fail
                go_loopw [6] (fun i wr => ∃ k : Nat, k ≤ nk ∧ i = .int .i64 k ∧ Hid (∀ (j : Nat) x, j < k → ks[j]? = some x → unkB i0 x = false) ∧ W2 = wr) (fun i _ => nk - (intOf i).toNat)
                case atStart => exact ⟨0, Nat.zero_le _, rfl, Lib.hid (fun j x hj => by omega), rfl⟩
                case round =>
                  obtain ⟨j, hj, rfl, hno, rfl⟩ := hrel
                  by_cases hlt2 : j < nk
                  · obtain ⟨x, hx⟩ : ∃ x, ks[j]? = some x := ⟨_, List.getElem?_eq_getElem (by have := HLK.out; omega)⟩
                    obtain ⟨bb, oo, ha, hcell⟩ := HK.out.at' (by omega)
                    have hc := hcell j (.int .i64 x) (by rw [List.getElem?_map, hx]; rfl)
                    subst ha
                    have hany : unkB i0 x = true → V = 4 := fun hb => HV.out.trans (by
                      have e : ks.any (unkB i0) = true := List.any_eq_true.2 ⟨x, List.mem_of_getElem? hx, hb⟩
                      have := HM0.out
                      rw [e, HHV.out]; unfold nodF; rw [if_neg (by omega), if_neg (by simp; omega), if_neg (by omega), if_pos rfl])
                    have hnx : unkB i0 x = false → ∀ (l : Nat) y, l < j + 1 → ks[l]? = some y → unkB i0 y = false := fun hb l y hl hy => by
                      by_cases h1 : l < j
                      · exact hno.out l y h1 hy
                      · obtain rfl : l = j := by omega
                        rw [hx] at hy; cases hy; exact hb
                    have HANY := Lib.hid hany
                    have HNX := Lib.hid hnx
                    clear hany hnx hno hcell hx
                    by_cases b1 : x < 0
                    · have e1 : decide (x < 0) = true := decide_eq_true b1
                      have hV := Lib.hid (HANY.out (by unfold unkB; rw [e1]; rfl))
                      clear b1
                      go_wp2_with fail
                      go_ret
                      exact ⟨ret_int hV.out.symm, HB2.out⟩
                    have e1 : decide (x < 0) = false := decide_eq_false b1
                    by_cases b2 : (i0 : Int) ≤ x
                    · have e2 : decide ((i0 : Int) ≤ x) = true := decide_eq_true b2
                      have hV := Lib.hid (HANY.out (by unfold unkB; rw [e2]; simp))
                      clear b1 b2
                      go_wp2_with fail
                      go_ret
                      exact ⟨ret_int hV.out.symm, HB2.out⟩
                    have e2 : decide ((i0 : Int) ≤ x) = false := decide_eq_false b2
                    have HN := Lib.hid (HNX.out (by unfold unkB; rw [e1, e2]; rfl))
                    clear b1 b2
                    go_wp2_with fail
                    go_roundw
                    case rel => exact ⟨j + 1, by omega, by go_num, HN, by first | trivial | rfl⟩
                    case measure => simp [intOf]; omega
                  · have hkn2 : nk = j := by omega
                    have HUN : Hid (ks.any (unkB i0) = false) := Lib.hid (by
                      rw [List.any_eq_false]
                      intro x hx
                      obtain ⟨l, hl⟩ := List.mem_iff_getElem?.1 hx
                      rw [hno.out l x (by have := (List.getElem?_eq_some_iff.1 hl).1; have := HLK.out; omega) hl]; decide)
                    have hV : Hid (V = 0) := Lib.hid (HV.out.trans (by
                      have := HM0.out
                      rw [HUN.out, HHV.out]; unfold nodF; rw [if_neg (by omega), if_neg (by simp; omega), if_neg (by omega), if_neg (by decide)]))
                    clear hno
                    subst hkn2
                    go_wp2_with fail
                    go_ret
                    exact ⟨ret_int hV.out.symm, HB2.out⟩
              · have f1 : decide (0 < nw) = true := decide_eq_true (by omega)
                have f3 : (((nw : Nat) : Int) != ((nk : Nat) : Int)) = false := by rw [hs]; simp
                clear hs
                go_wp2_with fail
                go_loopw [6] (fun i wr => ∃ k : Nat, k ≤ nk ∧ i = .int .i64 k ∧ Hid (∀ (j : Nat) x, j < k → ks[j]? = some x → unkB i0 x = false) ∧ W2 = wr) (fun i _ => nk - (intOf i).toNat)
                case atStart => exact ⟨0, Nat.zero_le _, rfl, Lib.hid (fun j x hj => by omega), rfl⟩
                case round =>
                  obtain ⟨j, hj, rfl, hno, rfl⟩ := hrel
                  by_cases hlt2 : j < nk
                  · obtain ⟨x, hx⟩ : ∃ x, ks[j]? = some x := ⟨_, List.getElem?_eq_getElem (by have := HLK.out; omega)⟩
                    obtain ⟨bb, oo, ha, hcell⟩ := HK.out.at' (by omega)
                    have hc := hcell j (.int .i64 x) (by rw [List.getElem?_map, hx]; rfl)
                    subst ha
                    have hany : unkB i0 x = true → V = 4 := fun hb => HV.out.trans (by
                      have e : ks.any (unkB i0) = true := List.any_eq_true.2 ⟨x, List.mem_of_getElem? hx, hb⟩
                      have := HM0.out
                      rw [e, HHV.out]; unfold nodF; rw [if_neg (by omega), if_neg (by simp; omega), if_neg (by omega), if_pos rfl])
                    have hnx : unkB i0 x = false → ∀ (l : Nat) y, l < j + 1 → ks[l]? = some y → unkB i0 y = false := fun hb l y hl hy => by
                      by_cases h1 : l < j
                      · exact hno.out l y h1 hy
                      · obtain rfl : l = j := by omega
                        rw [hx] at hy; cases hy; exact hb
                    have HANY := Lib.hid hany
                    have HNX := Lib.hid hnx
                    clear hany hnx hno hcell hx
                    by_cases b1 : x < 0
                    · have e1 : decide (x < 0) = true := decide_eq_true b1
                      have hV := Lib.hid (HANY.out (by unfold unkB; rw [e1]; rfl))
                      clear b1
                      go_wp2_with fail
                      go_ret
                      exact ⟨ret_int hV.out.symm, HB2.out⟩
                    have e1 : decide (x < 0) = false := decide_eq_false b1
                    by_cases b2 : (i0 : Int) ≤ x
                    · have e2 : decide ((i0 : Int) ≤ x) = true := decide_eq_true b2
                      have hV := Lib.hid (HANY.out (by unfold unkB; rw [e2]; simp))
                      clear b1 b2
                      go_wp2_with fail
                      go_ret
                      exact ⟨ret_int hV.out.symm, HB2.out⟩
                    have e2 : decide ((i0 : Int) ≤ x) = false := decide_eq_false b2
                    have HN := Lib.hid (HNX.out (by unfold unkB; rw [e1, e2]; rfl))
                    clear b1 b2
                    go_wp2_with fail
                    go_roundw
                    case rel => exact ⟨j + 1, by omega, by go_num, HN, by first | trivial | rfl⟩
                    case measure => simp [intOf]; omega
                  · have hkn2 : nk = j := by omega
                    have HUN : Hid (ks.any (unkB i0) = false) := Lib.hid (by
                      rw [List.any_eq_false]
                      intro x hx
                      obtain ⟨l, hl⟩ := List.mem_iff_getElem?.1 hx
                      rw [hno.out l x (by have := (List.getElem?_eq_some_iff.1 hl).1; have := HLK.out; omega) hl]; decide)
                    have hV : Hid (V = 0) := Lib.hid (HV.out.trans (by
                      have := HM0.out
                      rw [HUN.out, HHV.out]; unfold nodF; rw [if_neg (by omega), if_neg (by simp; omega), if_neg (by omega), if_neg (by decide)]))
                    clear hno
                    subst hkn2
                    go_wp2_with fail
                    go_ret
                    exact ⟨ret_int hV.out.symm, HB2.out⟩

      · have hd : (server != 0) = true := by simpa using s0
        have hV : Hid (V = 1) := Lib.hid (HV.out.trans (by unfold nodF; rw [if_pos (by omega)]))
        clear s0
        go_enter Tryd.func33, Tryd.ntmps33
        go_wp2_with fail
        go_ret
        exact ⟨ret_int hV.out.symm, by rw [← hW2]; exact HB2.out⟩

    · have hk2 : (kind == 2) = false := by simpa using k2
      have hk2' : (kind != 2) = true := by simpa using k2
      have hV : Hid (V = 1) := Lib.hid (HV.out.trans (by unfold nodF; rw [if_pos (by omega)]))
      clear k1 k2
      go_enter Tryd.func33, Tryd.ntmps33
      go_wp2_with fail
      go_ret
      exact ⟨ret_int hV.out.symm, by rw [← hW2]; exact HB2.out⟩

end Go.Proofs.YtflpkkebampmfaaDoor
namespace Go.Proofs.YtflpkkebampmfaaDoor
open Go.RowKit Go.Shelf

/-- no node has so many weights and kids that their number is none of Go's -/
def XprSum (x : Xpr) : Prop := ∀ (k : Nat) nd, x.nodes[k]? = some nd → nd.weights.length + nd.kids.length ≤ 9223372036854775807

set_option maxRecDepth 100000 in
set_option maxHeartbeats 2000000 in
theorem rvalid10_c (x : Xpr) (hs : XprSum x) (a : Option Addr) (n c : Nat) (w : World) (h : XM w a n c x.nodes) :
    Calls Tryd.prog 12 #[.agg #[.slice a n c, .int .i64 x.root]] w fun e w' => e = .returned (.int .i64 (xprE x)) ∧ Below w.heap.size w w' := by
  obtain ⟨W2, hW2⟩ : ∃ W2, W2 = w.alloc (Obj.cells #[.slice a n c, .int .i64 x.root] 24) := ⟨_, rfl⟩
  have hb2 : Below w.heap.size w W2 := by rw [hW2]; exact (Below.refl _ w).alloc (Nat.le_refl _) _
  have HX := Lib.hid (h.below hb2)
  have HN := Lib.hid h.len
  have HSM := Lib.hid hs
  have hle := h.le
  have hm := h.max
  unfold maxLen at hm
  have HB2 := Lib.hid hb2
  clear h hb2 hs
  by_cases hn0 : n = 0
  · subst hn0
    have hV : Hid (xprE x = 9) := by
      show _ = _; unfold xprE; rw [if_pos (List.eq_nil_of_length_eq_zero HN.out)]
    go_enter Tryd.func12, Tryd.ntmps12
    go_wp2_with fail
    go_ret
    exact ⟨ret_int hV.out.symm, by rw [← hW2]; exact HB2.out⟩
  have hne : ((n : Int) == 0) = false := by rw [beq_eq_false_iff_ne]; omega
  have H0 : Hid (x.nodes ≠ []) := Lib.hid (fun e => by have := HN.out; rw [e] at this; simp at this; omega)
  by_cases h60 : 60 < n
  · have hd : decide ((60 : Int) < (n : Int)) = true := decide_eq_true (by omega)
    have hV : Hid (xprE x = 3) := by
      show _ = _; unfold xprE; rw [if_neg H0.out, if_pos (by have := HN.out; omega)]
    clear hn0 h60
    go_enter Tryd.func12, Tryd.ntmps12
    go_wp2_with fail
    go_ret
    exact ⟨ret_int hV.out.symm, by rw [← hW2]; exact HB2.out⟩
  have hd : decide ((60 : Int) < (n : Int)) = false := decide_eq_false (by omega)
  have H60 : Hid (¬ 60 < x.nodes.length) := by show ¬ _; have := HN.out; omega
  have HR : Hid (∀ y : World, Below W2.heap.size W2 y → y.cell? ⟨w.heap.size, 0, none⟩ = some (.slice a n c) ∧ y.cell? ⟨w.heap.size, 1, none⟩ = some (.int .i64 x.root)) := Lib.hid (fun y hy => by
    have g : W2.heap[w.heap.size]? = some (.cells #[.slice a n c, .int .i64 x.root] 24 (0, 0)) := by rw [hW2]; exact heap_alloc_new _ _
    have g' := heap_below hy g
    exact ⟨cell_of_row _ _ 0 _ _ _ g', cell_of_row _ _ 1 _ _ _ g'⟩)
  go_enter Tryd.func12, Tryd.ntmps12
  go_wp2_with fail
  rw [← hW2]
  clear hW2
  go_loopw [3] (fun i wr => ∃ k : Nat, k ≤ n ∧ i = .int .i64 k ∧ Hid (nodsE x.nodes 0 = nodsE (x.nodes.drop k) k) ∧ Below W2.heap.size W2 wr) (fun i _ => n - (intOf i).toNat)
  case atStart => exact ⟨0, Nat.zero_le _, rfl, Lib.hid (by simp), Below.refl _ _⟩
  case round =>
    obtain ⟨k, hk, rfl, hno, hb⟩ := hrel
    obtain ⟨q0, q1⟩ := HR.out wr hb
    by_cases hlt : k < n
    · obtain ⟨nd, hnd⟩ : ∃ nd, x.nodes[k]? = some nd := ⟨_, List.getElem?_eq_getElem (by have := HN.out; omega)⟩
      obtain ⟨b, o, ha, hat⟩ := (HX.out.below hb).at' (by omega)
      have hM := hat k nd hnd
      obtain ⟨a3, n3, c3, m3, r3⟩ := hM.ws
      obtain ⟨a4, n4, c4, m4, r4⟩ := hM.ks
      have m0 := hM.c0
      have m1 := hM.c1
      have m2 := hM.c2
      subst ha
      have hsm := HSM.out k nd hnd
      have HV : Hid (∀ y, Below wr.heap.size wr y → Calls Tryd.prog 33 #[.agg #[.int .i64 nd.kind, .int .i64 nd.server, .int .i64 nd.need, .slice a3 n3 c3, .slice a4 n4 c4], .int .i64 k] y fun e w' => e = .returned (.int .i64 (nodE nd k)) ∧ Below y.heap.size y w') :=
        Lib.hid (fun y hy => rnode_c nd k a3 n3 c3 a4 n4 c4 y (by have h1 := r3.len; have h2 := r4.len; simp at h1 h2; omega) (r3.below hy) (r4.below hy))
      have HHit : Hid (nodE nd k ≠ 0 → xprE x = nodE nd k) := Lib.hid (fun he => xprE_hit H0.out H60.out hnd hno.out he)
      have HNxt : Hid (nodE nd k = 0 → nodsE x.nodes 0 = nodsE (x.nodes.drop (k + 1)) (k + 1)) := Lib.hid (fun he => xprE_next hnd hno.out he)
      obtain ⟨kind, server, need, ws, ks⟩ := nd
      obtain ⟨E, hE⟩ : ∃ E, nodE ⟨kind, server, need, ws, ks⟩ k = E := ⟨_, rfl⟩
      rw [hE] at HV HHit HNxt
      simp only at m0 m1 m2 HV
      clear hM r3 r4 hat hnd hno hE hsm
      by_cases he : E = 0
      · subst he
        have hN := HNxt.out rfl
        have HN2 := Lib.hid hN
        clear hN HHit HNxt
        go_wp2_with fail
        with_reducible refine (HV.out _ (Below.refl _ _)).mono ?_
        rintro e w5 ⟨rfl, hb5⟩
        have hb6 := Below.next hb hb5
        go_wp2_with fail
        go_roundw
        case rel => exact ⟨k + 1, by omega, by go_num, HN2, hb6⟩
        case measure => simp [intOf]; omega
      · have hV := HHit.out he
        have HV2 := Lib.hid hV
        have hE : (E != 0) = true := by simpa using he
        clear hV HHit HNxt he
        go_wp2_with fail
        with_reducible refine (HV.out _ (Below.refl _ _)).mono ?_
        rintro e w5 ⟨rfl, hb5⟩
        have hb6 := Below.next hb hb5
        go_wp2_with fail
        go_ret
        exact ⟨ret_int HV2.out.symm, Below.next HB2.out hb6⟩
    · obtain rfl : k = n := by omega
      have hV := xprE_end H0.out H60.out HN.out hno.out
      clear hno
      obtain ⟨root, hroot⟩ : ∃ r, x.root = r := ⟨_, rfl⟩
      rw [hroot] at hV q1
      by_cases h1 : root < 0
      · have d1 : decide (root < 0) = true := decide_eq_true h1
        rw [if_pos (.inl h1)] at hV
        have HV := Lib.hid hV
        clear hV h1 hroot
        go_wp2_with fail
        go_ret
        exact ⟨ret_int HV.out.symm, Below.next HB2.out hb⟩
      · have d1 : decide (root < 0) = false := decide_eq_false h1
        by_cases h2 : (k : Int) ≤ root
        · have d2 : decide ((k : Int) ≤ root) = true := decide_eq_true h2
          rw [if_pos (.inr h2)] at hV
          have HV := Lib.hid hV
          clear hV h1 hroot h2
          go_wp2_with fail
          go_ret
          exact ⟨ret_int HV.out.symm, Below.next HB2.out hb⟩
        · have d2 : decide ((k : Int) ≤ root) = false := decide_eq_false h2
          rw [if_neg (by omega)] at hV
          have HV := Lib.hid hV
          clear hV h1 hroot h2
          go_wp2_with fail
          go_ret
          exact ⟨ret_int HV.out.symm, Below.next HB2.out hb⟩
end Go.Proofs.YtflpkkebampmfaaDoor
namespace Go.Proofs.YtflpkkebampmfaaDoor
open Go.RowKit Go.Shelf

/-- three arguments laid -/
theorem args3 (w : World) (u0 u1 v0 v1 t0 t1 : Value) (e f g : TypeId) {W : World} (hW : W = ((w.alloc (.cells #[u0, u1] e)).alloc (.cells #[v0, v1] f)).alloc (.cells #[t0, t1] g)) :
    Below w.heap.size w W ∧ W.heap.size = w.heap.size + 3 ∧ ∀ y, Below W.heap.size W y → (y.cell? ⟨w.heap.size, 0, none⟩ = some u0 ∧ y.cell? ⟨w.heap.size, 1, none⟩ = some u1) ∧ (y.cell? ⟨w.heap.size + 1, 0, none⟩ = some v0 ∧ y.cell? ⟨w.heap.size + 1, 1, none⟩ = some v1) ∧ y.cell? ⟨w.heap.size + 1 + 1, 0, none⟩ = some t0 ∧ y.cell? ⟨w.heap.size + 1 + 1, 1, none⟩ = some t1 := by
  refine ⟨by rw [hW]; exact (((Below.refl _ w).alloc (Nat.le_refl _) _).alloc (by simp) _).alloc (by simp; omega) _, by rw [hW]; simp, fun y hy => ?_⟩
  have g0 : W.heap[w.heap.size]? = some (.cells #[u0, u1] e (0, 0)) := by rw [hW]; exact heap_alloc_at (heap_alloc_at (heap_alloc_new _ _) _) _
  have g1 : W.heap[w.heap.size + 1]? = some (.cells #[v0, v1] f (0, 0)) := by
    rw [hW]
    have := heap_alloc_new (w.alloc (.cells #[u0, u1] e)) (.cells #[v0, v1] f)
    rw [World.size_alloc] at this
    exact heap_alloc_at this _
  have g2 : W.heap[w.heap.size + 1 + 1]? = some (.cells #[t0, t1] g (0, 0)) := by
    rw [hW]
    have := heap_alloc_new ((w.alloc (.cells #[u0, u1] e)).alloc (.cells #[v0, v1] f)) (.cells #[t0, t1] g)
    rw [World.size_alloc, World.size_alloc] at this
    exact this
  have e0 := heap_below hy g0
  have e1 := heap_below hy g1
  have e2 := heap_below hy g2
  exact ⟨⟨cell_of_row _ _ 0 _ _ _ e0, cell_of_row _ _ 1 _ _ _ e0⟩, ⟨cell_of_row _ _ 0 _ _ _ e1, cell_of_row _ _ 1 _ _ _ e1⟩, cell_of_row _ _ 0 _ _ _ e2, cell_of_row _ _ 1 _ _ _ e2⟩

/-- what a walk over a certificate leans on -/
structure RtW (x y : Xpr) (w0 : World) (a1 : Option Addr) (n1 c1 : Nat) (a2 : Option Addr) (n2 c2 : Nat) (a : Option Addr) (n c : Nat) (nodes : List Cho) : Prop where
  tm : TM w0 a n c nodes
  sx : ∀ (z : BitVec 16) (u : World), Below w0.heap.size w0 u → Calls Tryd.prog 67 #[.agg #[.slice a1 n1 c1, .int .i64 x.root], .int .u16 (U (4095#16 &&& ~~~z))] u fun e w' => e = .returned (.bool (holdX x (4095#16 &&& ~~~z))) ∧ Below u.heap.size u w'
  sy : ∀ (z : BitVec 16) (u : World), Below w0.heap.size w0 u → Calls Tryd.prog 67 #[.agg #[.slice a2 n2 c2, .int .i64 y.root], .int .u16 (U (4095#16 &&& ~~~z))] u fun e w' => e = .returned (.bool (holdX y (4095#16 &&& ~~~z))) ∧ Below u.heap.size u w'
theorem bits_swap (s : Nat) (m : BitVec 16) : (m &&& bitS s == 0#16) = (bitS s &&& m == 0#16) := by rw [BitVec.and_comm]

set_option maxRecDepth 100000 in
set_option maxHeartbeats 4000000 in
theorem right_p {x y : Xpr} {b : BitVec 16} {w0 : World} {a1 : Option Addr} {n1 c1 : Nat} {a2 : Option Addr} {n2 c2 : Nat} {a : Option Addr} {n c : Nat} {rt : Int} {nodes : List Cho} (C : RtW x y w0 a1 n1 c1 a2 n2 c2 a n c nodes) (hn : nodsC nodes = true) :
    ∀ (f i : Nat) (p q : BitVec 16) (u : World), i < n → i < f → Below w0.heap.size w0 u →
    Calls Tryd.prog 45 #[.agg #[.slice a1 n1 c1, .int .i64 x.root], .agg #[.slice a2 n2 c2, .int .i64 y.root], .int .u16 (U b), .agg #[.slice a n c, .int .i64 rt], .int .i64 i, .int .u16 (U p), .int .u16 (U q)] u fun e w' => e = .returned (.bool (rightF x y b nodes f i p q)) ∧ Below u.heap.size u w' := by
  have HC := Lib.hid C
  have HNO := Lib.hid hn
  have hle := RdK.le C.tm
  have hm := RdK.max C.tm
  unfold maxLen at hm
  have HNL := Lib.hid (TM.len C.tm)
  clear C hn
  intro f
  induction f with
  | zero => intro i p q u _ h; omega
  | succ f ih =>
    intro i p q u hin hif hb
    have HIH := Lib.hid ih
    clear ih
    obtain ⟨nd, hnd⟩ : ∃ nd, nodes[i]? = some nd := ⟨_, List.getElem?_eq_getElem (by have := HNL.out; omega)⟩
    have hnc := nodsC_at HNO.out (i := i) (by have := HNL.out; omega)
    rw [List.getD_eq_getElem?_getD, hnd] at hnc
    have hnc : nodC nd i = true := hnc
    have HRX := Lib.hid (rightF_x (x := x) (y := y) (b := b) (f := f) (p := p) (q := q) hnd)
    have HRY := Lib.hid (rightF_y (x := x) (y := y) (b := b) (f := f) (p := p) (q := q) hnd)
    have HRN := Lib.hid (fun s => rightF_n (x := x) (y := y) (b := b) (f := f) (p := p) (q := q) (s := s) hnd)
    obtain ⟨UA, hUA⟩ : ∃ UA, UA = ((u.alloc (.cells #[.slice a1 n1 c1, .int .i64 x.root] 24)).alloc (.cells #[.slice a2 n2 c2, .int .i64 y.root] 24)).alloc (.cells #[.slice a n c, .int .i64 rt] 33) := ⟨_, rfl⟩
    obtain ⟨hbA, hsA, hcA⟩ := args3 u _ _ _ _ _ _ _ _ _ hUA
    obtain ⟨bb, oo, ha, hat⟩ := TM.at3 (RdK.below HC.out.tm (Below.next hb hbA)) (by omega)
    obtain ⟨m0, m1, m2⟩ := hat i nd hnd
    subst ha
    obtain ⟨sv, fi, se⟩ := nd
    simp only at m0 m1 m2 HRX HRY HRN
    obtain ⟨U1, hU1⟩ : ∃ U1, U1 = UA.alloc (.cells #[.int .i64 sv, .int .i64 fi, .int .i64 se] 39) := ⟨_, rfl⟩
    have hb1 : Below UA.heap.size UA U1 := by rw [hU1]; exact (Below.refl _ UA).alloc (Nat.le_refl _) _
    obtain ⟨⟨g40, g41⟩, ⟨g50, g51⟩, g60, g61⟩ := hcA UA (Below.refl _ _)
    obtain ⟨⟨h40, h41⟩, ⟨h50, h51⟩, h60, h61⟩ := hcA U1 hb1
    have HCA := Lib.hid hcA
    have HSA := Lib.hid hsA
    have HB1 := Lib.hid (Below.next hbA hb1)
    have HB2 := Lib.hid (Below.next hb (Below.next hbA hb1))
    have HC1 : Hid (U1.heap[UA.heap.size]? = some (.cells #[.int .i64 sv, .int .i64 fi, .int .i64 se] 39 (0, 0))) := Lib.hid (by rw [hU1]; exact heap_alloc_new _ _)
    have HB01 := Lib.hid hb1
    clear hat hb1 hbA hb hcA
    rw [hU1] at h40 h41 h50 h51 h60 h61
    by_cases s1 : sv = -1
    · have HR := Lib.hid (HRX.out s1)
      have HS := Lib.hid (HC.out.sx q U1 HB2.out)
      subst s1
      clear hnc
      obtain ⟨V, hV⟩ : ∃ V, holdX x (4095#16 &&& ~~~q) = V := ⟨_, rfl⟩
      rw [hV] at HS HR
      clear hV
      rw [hUA] at g40 g41 g50 g51 g60 g61 m0 m1 m2 h40 h41 h50 h51 h60 h61 hsA
      go_enter Tryd.func45, Tryd.ntmps45
      go_wp2_with fail
      rw [← hUA, ← hU1]
      with_reducible refine HS.out.mono ?_
      rintro e w1 ⟨rfl, hb1⟩
      go_wp2_with fail
      go_ret
      exact ⟨ret_bool (by rw [HR.out]), Below.next HB1.out hb1⟩
    by_cases s2 : sv = -2
    · have HR := Lib.hid (HRY.out s2)
      have HS := Lib.hid (HC.out.sy p U1 HB2.out)
      subst s2
      clear hnc s1
      obtain ⟨V, hV⟩ : ∃ V, holdX y (4095#16 &&& ~~~p) = V := ⟨_, rfl⟩
      rw [hV] at HS HR
      clear hV
      rw [hUA] at g40 g41 g50 g51 g60 g61 m0 m1 m2 h40 h41 h50 h51 h60 h61 hsA
      go_enter Tryd.func45, Tryd.ntmps45
      go_wp2_with fail
      rw [← hUA, ← hU1]
      with_reducible refine HS.out.mono ?_
      rintro e w1 ⟨rfl, hb1⟩
      go_wp2_with fail
      go_ret
      exact ⟨ret_bool (by rw [HR.out]), Below.next HB1.out hb1⟩
    have hlf : leafC ⟨sv, fi, se⟩ = false := by unfold leafC; rw [decide_eq_false s1, decide_eq_false s2]; rfl
    obtain ⟨⟨hs0, hs12⟩, ⟨hf0, hfk⟩, hse0, hsek⟩ := nodC_leaf hnc hlf
    simp only at hs0 hs12 hf0 hfk hse0 hsek
    have t1 : (sv == -1) = false := by simpa using s1
    have t2 : (sv == -2) = false := by simpa using s2
    obtain ⟨s, rfl⟩ := Int.eq_ofNat_of_zero_le hs0
    obtain ⟨fk, rfl⟩ := Int.eq_ofNat_of_zero_le hf0
    obtain ⟨sk, rfl⟩ := Int.eq_ofNat_of_zero_le hse0
    have HR := Lib.hid (HRN.out s rfl)
    clear hnc hlf s1 s2 hs0 hf0 hse0
    have hs16 : min s 16 = s := by omega
    have hsw := bits_swap s (b ||| p ||| q)
    cases hz : (bitS s &&& (b ||| p ||| q)) == 0#16
    · rw [hz] at HR hsw
      have hz3 : ((b ||| p ||| q) &&& bitS s != 0#16) = true := by rw [bne, hsw]; rfl
      clear hz
      rw [hUA] at g40 g41 g50 g51 g60 g61 m0 m1 m2 h40 h41 h50 h51 h60 h61 hsA
      go_enter Tryd.func45, Tryd.ntmps45
      go_wp2_with fail
      rw [← hUA, ← hU1]
      go_ret
      exact ⟨ret_bool (by rw [HR.out]; rfl), HB1.out⟩
    · rw [hz, if_pos rfl] at HR
      rw [hz] at hsw
      have hz3 : ((b ||| p ||| q) &&& bitS s != 0#16) = false := by rw [bne, hsw]; rfl
      have hfn : fk < n := by omega
      have hsn : sk < n := by omega
      have hff : fk < f := by omega
      have hsf : sk < f := by omega
      have HI1 := Lib.hid (HIH.out fk (p ||| bitS s) q U1 hfn hff HB2.out)
      have HI2 := Lib.hid (fun (v : World) (hv : Below U1.heap.size U1 v) => HIH.out sk p (q ||| bitS s) v hsn hsf (Below.next HB2.out hv))
      have HK : Hid (∀ v : World, Below U1.heap.size U1 v → v.cell? ⟨UA.heap.size, 2, none⟩ = some (.int .i64 sk)) :=
        Lib.hid (fun v hv => cell_of_row _ _ 2 _ _ _ (heap_below hv HC1.out))
      obtain ⟨r1, hr1⟩ : ∃ r, rightF x y b nodes f fk (p ||| bitS s) q = r := ⟨_, rfl⟩
      obtain ⟨r2, hr2⟩ : ∃ r, rightF x y b nodes f sk p (q ||| bitS s) = r := ⟨_, rfl⟩
      rw [hr1] at HI1 HR
      rw [hr2] at HI2 HR
      clear hr1 hr2 hz
      cases r1
      · rw [hUA] at g40 g41 g50 g51 g60 g61 m0 m1 m2 h40 h41 h50 h51 h60 h61 hsA
        go_enter Tryd.func45, Tryd.ntmps45
        go_wp2_with fail
        rw [← hUA, ← hU1]
        with_reducible refine HI1.out.mono ?_
        rintro e w1 ⟨rfl, hb1⟩
        go_wp2_with fail
        go_ret
        exact ⟨ret_bool (by rw [HR.out]; rfl), Below.next HB1.out hb1⟩
      · rw [hUA] at g40 g41 g50 g51 g60 g61 m0 m1 m2 h40 h41 h50 h51 h60 h61 hsA
        go_enter Tryd.func45, Tryd.ntmps45
        go_wp2_with fail
        rw [← hUA, ← hU1]
        with_reducible refine HI1.out.mono ?_
        rintro e w1 ⟨rfl, hb1⟩
        obtain ⟨⟨k40, k41⟩, ⟨k50, k51⟩, k60, k61⟩ := HCA.out w1 (Below.next HB01.out hb1)
        have k2 := HK.out w1 hb1
        rw [HSA.out] at k2
        go_wp2_with fail
        with_reducible refine (HI2.out w1 hb1).mono ?_
        rintro e w2 ⟨rfl, hb2⟩
        go_wp2_with fail
        go_ret
        exact ⟨ret_bool (by rw [HR.out]; rfl), Below.next HB1.out (Below.next hb1 hb2)⟩

set_option maxRecDepth 100000 in
set_option maxHeartbeats 4000000 in
theorem rcheck_c (x y : Xpr) (b : BitVec 16) (hx : xprE x = 0) (hy : xprE y = 0) (hfx : XprFew x) (hfy : XprFew y) (hsx : XprSum x) (hsy : XprSum y) (t : Tre) (a1 : Option Addr) (n1 c1 : Nat) (a2 : Option Addr) (n2 c2 : Nat) (a : Option Addr) (n c : Nat) (w : World) (h1 : XM w a1 n1 c1 x.nodes) (h2 : XM w a2 n2 c2 y.nodes) (h : TM w a n c t.nodes) :
    Calls Tryd.prog 21 #[.agg #[.slice a1 n1 c1, .int .i64 x.root], .agg #[.slice a2 n2 c2, .int .i64 y.root], .int .u16 (U b), .agg #[.slice a n c, .int .i64 t.root]] w fun e w' => e = .returned (.bool (certC x y b t)) ∧ Below w.heap.size w w' := by
  have H1 := Lib.hid (fun (u : World) (hb : Below w.heap.size w u) => rvalid10_c x hsx a1 n1 c1 u (h1.below hb))
  have H2 := Lib.hid (fun (u : World) (hb : Below w.heap.size w u) => rvalid10_c y hsy a2 n2 c2 u (h2.below hb))
  rw [hx] at H1
  rw [hy] at H2
  have H3 := Lib.hid (fun (u : World) (hb : Below w.heap.size w u) => rformed_c t a n c u (RdK.below h hb))
  have HRW := Lib.hid (show ∀ (u : World), Below w.heap.size w u → RtW x y u a1 n1 c1 a2 n2 c2 a n c t.nodes from fun u hb =>
    { tm := RdK.below h hb
      sx := fun z v hv => rholds_c x (xprE_ok hx) hfx (4095#16 &&& ~~~z) a1 n1 c1 v (h1.below (Below.next hb hv))
      sy := fun z v hv => rholds_c y (xprE_ok hy) hfy (4095#16 &&& ~~~z) a2 n2 c2 v (h2.below (Below.next hb hv)) })
  have HNL := Lib.hid (TM.len h)
  clear h1 h2 h hx hy hfx hfy hsx hsy
  obtain ⟨W4, hW4⟩ : ∃ W4, W4 = ((w.alloc (.cells #[.slice a1 n1 c1, .int .i64 x.root] 24)).alloc (.cells #[.slice a2 n2 c2, .int .i64 y.root] 24)).alloc (.cells #[.slice a n c, .int .i64 t.root] 33) := ⟨_, rfl⟩
  obtain ⟨hb4, hs4, hc⟩ := args3 w _ _ _ _ _ _ _ _ _ hW4
  obtain ⟨⟨q0, q1⟩, ⟨q2, q3⟩, q5, q6⟩ := hc W4 (Below.refl _ _)
  have HB4 := Lib.hid hb4
  have HC := Lib.hid hc
  clear hb4 hc
  obtain ⟨F, hF⟩ : ∃ F, formC t = F := ⟨_, rfl⟩
  rw [hF] at H3
  cases F
  · have HV : Hid (certC x y b t = false) := by show _ = _; unfold certC; rw [hF]; rfl
    clear hF
    go_enter Tryd.func21, Tryd.ntmps21
    go_wp2_with fail
    rw [← hW4]
    with_reducible refine (H1.out W4 HB4.out).mono ?_
    rintro e w1 ⟨rfl, hb1⟩
    obtain ⟨⟨q0, q1⟩, ⟨q2, q3⟩, q5, q6⟩ := HC.out w1 hb1
    go_wp2_with fail
    with_reducible refine (H2.out w1 (Below.next HB4.out hb1)).mono ?_
    rintro e w2 ⟨rfl, hb2⟩
    obtain ⟨⟨q0, q1⟩, ⟨q2, q3⟩, q5, q6⟩ := HC.out w2 (Below.next hb1 hb2)
    go_wp2_with fail
    with_reducible refine (H3.out w2 (Below.next HB4.out (Below.next hb1 hb2))).mono ?_
    rintro e w3 ⟨rfl, hb3⟩
    go_wp2_with fail
    go_ret
    exact ⟨ret_bool HV.out.symm, Below.next HB4.out (Below.next hb1 (Below.next hb2 hb3))⟩
  · obtain ⟨⟨_, _, hr0, hrn⟩, hnods, _⟩ := formC_parts hF
    have HV : Hid (certC x y b t = rightF x y b t.nodes t.nodes.length t.root 0#16 0#16) := by show _ = _; unfold certC; rw [hF]; rfl
    have HND := Lib.hid hnods
    obtain ⟨r, hr⟩ := Int.eq_ofNat_of_zero_le hr0
    have hrn' : r < n := by have := HNL.out; omega
    rw [hr] at HV hW4 q6 HC H3
    rw [hr]
    rw [HNL.out] at HV
    clear hF hr0 hrn hnods hr
    have HP := Lib.hid (fun (u : World) (hb : Below w.heap.size w u) => right_p (b := b) (rt := (r : Int)) (HRW.out u hb) HND.out n r 0#16 0#16 u hrn' hrn' (Below.refl _ _))
    rw [← HV.out, U_zero] at HP
    go_enter Tryd.func21, Tryd.ntmps21
    go_wp2_with fail
    rw [← hW4]
    with_reducible refine (H1.out W4 HB4.out).mono ?_
    rintro e w1 ⟨rfl, hb1⟩
    obtain ⟨⟨q0, q1⟩, ⟨q2, q3⟩, q5, q6⟩ := HC.out w1 hb1
    go_wp2_with fail
    with_reducible refine (H2.out w1 (Below.next HB4.out hb1)).mono ?_
    rintro e w2 ⟨rfl, hb2⟩
    obtain ⟨⟨q0, q1⟩, ⟨q2, q3⟩, q5, q6⟩ := HC.out w2 (Below.next hb1 hb2)
    go_wp2_with fail
    with_reducible refine (H3.out w2 (Below.next HB4.out (Below.next hb1 hb2))).mono ?_
    rintro e w3 ⟨rfl, hb3⟩
    obtain ⟨⟨q0, q1⟩, ⟨q2, q3⟩, q5, q6⟩ := HC.out w3 (Below.next hb1 (Below.next hb2 hb3))
    go_wp2_with fail
    with_reducible refine (HP.out w3 (Below.next HB4.out (Below.next hb1 (Below.next hb2 hb3)))).mono ?_
    rintro e w5 ⟨rfl, hb5⟩
    go_wp2_with fail
    go_ret
    exact ⟨rfl, Below.next HB4.out (Below.next hb1 (Below.next hb2 (Below.next hb3 hb5)))⟩
end Go.Proofs.YtflpkkebampmfaaDoor
