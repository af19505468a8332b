/- Texts laid together. The reference's Substitute, Tidy. The reference's text and Format. A handed expression with the reach of its lists, as a law's frame opens it. The reference's Few of layer 10. Layer 10: the law Texts, walked. Layer 10, plain: the reference's Parse answers as the program's. No program. The reference's reader of expressions: take, number. The reference's reader of expressions: node. ref10.Parse. Layer 10: the law Parse, walked. -/
import Derived.Test.YtcojmmhclklpoaaGreatDoorGC3
import Derived.Test.YtcojmmhclklpoaaGreatDoorGC4
import Derived.Test.YtcojmmhclklpoaaGreatDoorGC6
import Derived.Test.YtcojmmhclklpoaaGreatDoorGC8
import Derived.Test.YtcojmmhclklpoaaGreatDoorGC9
import Derived.Test.YtcojmmhclklpoaaGreatDoorGC10
import Derived.Test.YtcojmmhclklpoaaGreatDoorGExprParse1
import Derived.SizedLaws
namespace Go.Proofs.YtcojmmhclklpoaaGreatDoor
open Go.RowKit Go.Shelf

/-- how many nodes the tidy expressions have, cut at 1000 -/
def els (ys : List Xpr) : List Nat := ys.map fun y => min 1000 (treY y noSub).sz
theorem els_len (ys : List Xpr) : (els ys).length = ys.length := List.length_map _
theorem els_take {ys : List Xpr} {k : Nat} {y : Xpr} (h : ys[k]? = some y) : (els ys).take (k + 1) = (els ys).take k ++ [min 1000 (treY y noSub).sz] := by
  rw [List.take_add_one, show (els ys)[k]? = some (min 1000 (treY y noSub).sz) by unfold els; rw [List.getElem?_map, h]; rfl]; rfl
theorem els_sub (ys : List Xpr) : ∀ s, s < 12 → subZ 1000 (subL ys) s = if s < (els ys).length then (els ys).getD s 0 else 1 := fun s _ => by
  rw [els_len]
  by_cases h : s < ys.length
  · rw [if_pos h]
    have hy : ys[s]? = some ys[s] := List.getElem?_eq_getElem h
    unfold subZ subL els
    rw [hy, List.getD_eq_getElem?_getD, List.getElem?_map, hy]; rfl
  · rw [if_neg h]
    unfold subZ subL
    rw [List.getElem?_eq_none (by omega)]; rfl
theorem root_sz {x : Xpr} (hx : xprE x = 0) (sub : Nat → Option ET) : ((szl 1000 x.nodes sub x.nodes.length).map fun k => Value.int .i64 ((k : Nat) : Int))[x.root.toNat]? = some (.int .i64 ((min 1000 (treY x sub).sz : Nat) : Int)) := by
  have hr := (xprE_ok hx).root
  have hlt : x.root.toNat < x.nodes.length := by omega
  have h1 := szl_get 1000 x.nodes sub x.nodes.length x.root.toNat hlt
  rw [List.getElem?_map]
  have h2 : (szl 1000 x.nodes sub x.nodes.length)[x.root.toNat]? = some (min 1000 (treY x sub).sz) := by
    rw [List.getD_eq_getElem?_getD] at h1
    have h3 : x.root.toNat < (szl 1000 x.nodes sub x.nodes.length).length := by rw [szl_len]; exact hlt
    rw [List.getElem?_eq_getElem h3] at h1 ⊢
    simp only [Option.getD_some] at h1
    rw [h1]; rfl
  rw [h2]; rfl

set_option maxRecDepth 100000 in
set_option maxHeartbeats 8000000 in
theorem rsubst_c (x : Xpr) (ys : List Xpr) (hsx : XprSum x) (hsy : ∀ y ∈ ys, XprSum y) (hf : XprFew x) (hfs : ∀ y ∈ ys, XprFew y) (a : Option Addr) (n c : Nat) (la : Option Addr) (ln lc : Nat) (w : World) (h : XM w a n c x.nodes) (hl : LM w la ln lc ys) (hln : ln ≤ 100000) :
    Calls Tryz.prog 23 #[.agg #[.slice a n c, .int .i64 x.root], .slice la ln lc] w fun e w' => RetX (subS x ys).1 (subS x ys).2 w e w' := by
  have HX := Lib.hid h
  have HL := Lib.hid hl
  have HV := Lib.hid (fun (u : World) (hu : Below w.heap.size w u) => rvalid10_c x hsx a n c u (h.below hu))
  have HFS := Lib.hid hfs
  have HSY := Lib.hid hsy
  clear h hl hfs hsy
  by_cases hx : xprE x = 0
  · rw [hx] at HV
    have HXX := Lib.hid hx
    have HLN := Lib.hid HL.out.len
    have HSS : Hid (subS x ys = if xprsE ys ≠ 0 then (⟨[], 0⟩, xprsE ys) else if 60 < (treY x (subL ys)).sz then (⟨[], 0⟩, 3) else ((treY x (subL ys)).xpr, 0)) := Lib.hid (by unfold subS; rw [if_neg (by rw [hx]; simp)])
    clear hx
    go_enter Tryz.func23, Tryz.ntmps23
    go_wp2_with fail
    generalize hW3 : (w.alloc _).alloc _ = W3
    obtain ⟨gX, gR, hb3, hs3⟩ := box2' hW3
    have GX := Lib.hid gX
    have GR := Lib.hid gR
    have HB3 := Lib.hid hb3
    have HS3 := Lib.hid hs3
    clear hW3 gX gR hb3 hs3
    with_reducible refine (HV.out W3 HB3.out).mono ?_
    rintro e w4 ⟨rfl, hb4⟩
    have HB4 := Lib.hid (Below.next HB3.out hb4)
    have GX4 := Lib.hid (heap_below hb4 GX.out)
    have GR4 := Lib.hid (heap_below hb4 GR.out)
    have hs4 : w.heap.size + 2 ≤ w4.heap.size := by have := hb4.size; have := HS3.out; omega
    clear GX GR HB3 HS3 hb4
    go_wp2_with fail
    go_loopw [7, 8] (fun eq i wr => ∃ (ev : Value) (k : Nat), ev = eq ∧ k ≤ ln ∧ i = .int .i64 ((k : Nat) : Int) ∧ Hid (xprsE ys = xprsE (ys.drop k)) ∧ Below w4.heap.size w4 wr ∧ Hid (wr.ownsRow w4.heap.size 3 1 ev k (((els ys).take k).map fun k => Value.int .i64 ((k : Nat) : Int)))) (fun _ i _ => ln - (intOf i).toNat)
    case atStart => exact ⟨_, 0, rfl, Nat.zero_le _, rfl, Lib.hid (by simp), Below.refl _ _, Lib.hid (World.ownsRow_nil _ _ _ _)⟩
    case round =>
      obtain ⟨ev, k, rfl, hk, rfl, hno, hb, HROW⟩ := hrel
      by_cases hlt : k < ln
      · obtain ⟨y, hy⟩ : ∃ y, ys[k]? = some y := ⟨_, List.getElem?_eq_getElem (by have := HLN.out; omega)⟩
        obtain ⟨b2, o2, ha2, hc2⟩ := (HL.out.below (Below.next HB4.out hb)).at' (by omega)
        obtain ⟨a3, n3, c3, y0, hxm, y1⟩ := hc2 k y hy
        subst ha2
        have hdr := xprsE_drop hy
        have hym := List.mem_of_getElem? hy
        have HVY := Lib.hid (fun (u : World) (hu : Below wr.heap.size wr u) => rvalid10_c y (HSY.out y hym) a3 n3 c3 u (hxm.below hu))
        have HXY := Lib.hid hxm
        have HYY := Lib.hid hy
        obtain ⟨E, hE⟩ : ∃ E, xprE y = E := ⟨_, rfl⟩
        rw [hE] at HVY hdr
        have HE := Lib.hid hE
        have HDR := Lib.hid hdr
        have HB := Lib.hid hb
        have HY0 := Lib.hid y0
        have HY1 := Lib.hid y1
        have hsr := hb.size
        clear hdr hE hxm hc2 hy hb hym
        go_wp2_with fail
        with_reducible refine (HVY.out _ (Below.refl _ _)).mono ?_
        rintro e w6 ⟨rfl, hb6⟩
        have HB6 := Lib.hid (Below.next HB.out hb6)
        have HBS := Lib.hid hb6
        clear hb6 y0 y1
        by_cases hE0 : E = 0
        · subst hE0
          have hno2 : Hid (xprsE ys = xprsE (ys.drop (k + 1))) := Lib.hid (by rw [hno.out, HDR.out, if_neg (by simp)])
          have HR6 := Lib.hid (rowK_below HROW.out HBS.out)
          have HSZ := Lib.hid (fun (u : World) (hu : Below w6.heap.size w6 u) => rsizes_c y HE.out (HFS.out y (List.mem_of_getElem? HYY.out)) noSub [] (fun s _ => rfl) a3 n3 c3 none 0 0 u ((HXY.out.below HBS.out).below hu) (Rd.none_ _))
          have HRT := Lib.hid (root_sz HE.out noSub)
          have HTK := Lib.hid (els_take HYY.out)
          obtain ⟨b9, o9, hb9, hc9⟩ := HL.out.at' (by omega)
          obtain ⟨rfl, rfl⟩ : b9 = b2 ∧ o9 = o2 := by injection hb9 with h1; injection h1 with h2 h3; exact ⟨h2.symm, h3.symm⟩
          obtain ⟨a8, n8, c8, l0, _, l1⟩ := hc9 k y HYY.out
          have e8 : Value.slice a8 n8 c8 = Value.slice a3 n3 c3 := Option.some.inj ((cell_keep (HB4.out.trans (HB.out.mono (by omega))) l0).symm.trans HY0.out)
          rw [e8] at l0
          have HKS := Lib.hid (fun (u : World) (hu : Below w4.heap.size w4 u) => And.intro (cell_keep (HB4.out.trans (hu.mono (by omega))) l0) (cell_keep (HB4.out.trans (hu.mono (by omega))) l1))
          clear l0 l1 e8 hb9 hc9
          obtain ⟨RT, hRT⟩ := Int.eq_ofNat_of_zero_le (xprE_ok HE.out).root.1
          have hrn : RT < n3 := by have h1 := (xprE_ok HE.out).root; have h2 := HXY.out.len; omega
          have hzz : min 1000 (treY y noSub).sz ≤ 1000 := Nat.min_le_left _ _
          rw [hRT, Int.toNat_natCast] at HRT
          rw [hRT] at HSZ HKS
          have hyl : y.nodes.length = n3 := HXY.out.len
          rw [hyl] at HRT
          obtain ⟨Z, hZ⟩ : ∃ Z, min 1000 (treY y noSub).sz = Z := ⟨_, rfl⟩
          rw [hZ] at HRT HTK hzz
          obtain ⟨ae, ce, rfl, _⟩ := rd_of_row HR6.out
          have hs6 : w4.heap.size ≤ w6.heap.size := HB6.out.size
          obtain ⟨ii, hi0, hz0, hz1, hz2⟩ := info_parts Tryz.infoInt
          clear HDR HVY hZ HXY HY0 HY1 HBS
          go_upto_region 11 with fail
          refine wp_region_noPanic ?_
          refine wp_region_takes (fun u => Below w4.heap.size w4 u) [0, 1, 2, 3, 4, 6, 7, 8, 9, 10] 6 (by kernel_rfl) (by kernel_rfl) (by kernel_rfl) (fun _ _ _ _ _ h => h) (below_drew HB6.out) ?_
          repeat (refine wpTk_cons rfl (fun K hK => ?_); go_simp; apply Exists.intro; refine ⟨fun u hu => ?_, hK _ ?_⟩; (first | exact rfl | (obtain ⟨q1, q2⟩ := HKS.out u hu; go_simp; done) | (obtain ⟨q1, q2⟩ := HKS.out u hu; go_simp; exact rfl)); clear hK K)
          refine wpTk_nil ?_
          refine held_ready (rs := [5]) (by kernel_rfl) (by simp) ?_
          refine AllReadyH.cons rfl (fun K hK => ?_) AllReadyH.nil
          go_simp
          with_reducible refine (HSZ.out _ (below_drew (Below.refl _ _))).mono ?_
          rintro e w7 ⟨a7, rfl, r7, b7⟩
          have HB7 := Lib.hid (below_undrew b7)
          have HB47 := Lib.hid (HB6.out.trans (HB7.out.mono hs6))
          obtain ⟨c7, o7, ha7, hc7⟩ := r7.at' (by omega)
          have t7 := hc7 RT _ HRT.out
          subst ha7
          clear b7 r7 hc7
          go_simp
          refine hK.out _ _ HB47.out (fun hh => ?_)
          clear hh hK K; try simp only [Act.put, List.setIfInBounds_toArray, List.set_cons_zero, List.set_cons_succ]
          refine held_ready (rs := [11]) (by kernel_rfl) (by simp) ?_
          refine AllReadyH.cons rfl (fun K hK => ?_) AllReadyH.nil
          go_simp
          refine hK.out _ _ HB47.out (fun hh => ?_)
          clear hh hK K; try simp only [Act.put, List.setIfInBounds_toArray, List.set_cons_zero, List.set_cons_succ]
          refine held_ready (rs := [12]) (by kernel_rfl) (by simp) ?_
          refine AllReadyH.cons rfl (fun K hK => ?_) AllReadyH.nil
          go_simp
          refine hK.out _ _ HB47.out (fun hh => ?_)
          clear hh hK K; try simp only [Act.put, List.setIfInBounds_toArray, List.set_cons_zero, List.set_cons_succ]
          clear t7
          refine held_ready (rs := [13]) (by kernel_rfl) (by simp) ?_
          refine AllReadyH.cons rfl (fun K hK => ?_) AllReadyH.nil
          go_simp
          have hs7 := HB7.out.size
          have HB8 := Lib.hid (HB47.out.alloc (by omega) (.cells #[.int .i64 (Z : Int)] 3))
          refine hK.out _ _ HB8.out (fun hh => ?_)
          clear hh hK K; try simp only [Act.put, List.setIfInBounds_toArray, List.set_cons_zero, List.set_cons_succ]
          refine held_ready (rs := [14]) (by kernel_rfl) (by simp) ?_
          refine AllReadyH.cons rfl (fun K hK => ?_) AllReadyH.nil
          have HR7 := Lib.hid (rowK_below HR6.out HB7.out)
          refine step_append_lies _ (by rfl) _ _ _ (by rfl) w4.heap.size 3 ii _ 1 8 Tryz.underlying69 hi0 hz0 hz1 hz2 rfl (by omega) (.slice ae k ce) k _ (by rfl) (HR7.out.alloc _) ⟨w7.heap.size, 0, none⟩ 1 1 [.int .i64 (Z : Int)] (by rfl) (by rfl) (World.news_of_block (cs := #[.int .i64 (Z : Int)]) (t := 3) (fr := (0, 0)) (heap_alloc_new w7 _)) (by simp [Value.oneCell']) (by omega) (by unfold maxLen; omega) (by omega) (by simp; omega) (w7.heap.size + 1) (by simp) ?_
          intro gg cap wA hownA hgrow hat hlt2
          have hbA : Below w4.heap.size w4 wA := HB8.out.grown hgrow (by simp; omega) (fun g hg => (HR7.out.lt g hg).1)
          refine hK.out _ _ hbA (fun hh => ?_)
          clear hh hK K; try simp only [Act.put, List.setIfInBounds_toArray, List.set_cons_zero, List.set_cons_succ]
          refine held_ready (rs := [15]) (by kernel_rfl) (by simp) ?_
          refine AllReadyH.cons rfl (fun K hK => ?_) AllReadyH.nil
          go_simp
          refine hK.out _ _ hbA (fun hh => ?_)
          clear hh hK K; try simp only [Act.put, List.setIfInBounds_toArray, List.set_cons_zero, List.set_cons_succ]
          refine wpAnyH_done (by kernel_rfl) (NoPanic.normal ?_) _
          have HRA := Lib.hid (show wA.ownsRow w4.heap.size 3 1 (.slice (some ⟨gg, 0, none⟩) (k + 1) cap) (k + 1) (((els ys).take (k + 1)).map fun k => Value.int .i64 ((k : Nat) : Int)) by rw [HTK.out, List.map_append]; exact hownA)
          have HBA := Lib.hid hbA
          clear hownA hgrow hat hlt2 hbA
          go_wp2_with fail
          go_roundw
          case rel => exact ⟨_, k + 1, rfl, by omega, by go_num, hno2, HBA.out, HRA⟩
          case measure => simp [intOf] <;> omega
        · have hne : (E != 0) = true := by simpa using hE0
          have hS : subS x ys = (⟨[], 0⟩, E) := by
            rw [HSS.out, hno.out, HDR.out, if_pos hE0, if_pos hE0]
          have HRS := Lib.hid hS
          have g4 := heap_below HB6.out GR4.out
          have t0 := cell_of_row _ _ 0 _ _ _ g4
          have t1 := cell_of_row _ _ 1 _ _ _ g4
          have z0 := frozen_row g4 0
          have z1 := frozen_row g4 1
          have G4 := Lib.hid g4
          clear g4 hS hE0 HDR HVY HSS
          go_wp2_with fail
          clear t0 t1 z0 z1
          generalize hWF : (w6.setCell _ _).setCell _ _ = WF
          obtain ⟨e1, hbf⟩ := fin_box G4.out (by omega) (Below.next HB4.out HB6.out) hWF
          have HBF := Lib.hid hbf
          have f0 := cell_of_row _ _ 0 _ _ _ e1
          have f1 := cell_of_row _ _ 1 _ _ _ e1
          clear hWF e1 hbf
          refine bodyPost_ret (v := .tuple #[.agg #[.slice none 0 0, .int .i64 0], .int .i64 E]) ?_ rfl (by rw [HRS.out]; exact RetX.none_ rfl HBF.out)
          rw [results_cell_tmp rfl]
          go_simp
      · obtain rfl : k = ln := by omega
        have hys : xprsE ys = 0 := by rw [hno.out, List.drop_of_length_le (by have := HLN.out; omega)]; rfl
        have HYS := Lib.hid (fun y hy => xprsE_ok hys y hy)
        have hS2 : Hid (subS x ys = if 60 < (treY x (subL ys)).sz then (⟨[], 0⟩, 3) else ((treY x (subL ys)).xpr, 0)) := Lib.hid (by rw [HSS.out, hys, if_neg (by simp)])
        have hsr := hb.size
        have hrow := HROW.out
        rw [List.take_of_length_le (by rw [els_len]; have := HLN.out; omega)] at hrow
        obtain ⟨ae, ce, rfl, hrd⟩ := rd_of_row hrow
        have gX := heap_below hb GX4.out
        have gR := heap_below hb GR4.out
        have hbw := Below.next HB4.out hb
        have HSZ := Lib.hid (fun (u : World) (hu : Below wr.heap.size wr u) => rsizes_c x HXX.out hf (subL ys) (els ys) (els_sub ys) a n c ae k ce u (HX.out.below (Below.next hbw hu)) (hrd.below hu))
        have HKS := Lib.hid (fun (u : World) (hu : Below wr.heap.size wr u) => (open2 (heap_below hu gX)).1)
        have HRT := Lib.hid (root_sz HXX.out (subL ys))
        obtain ⟨RT, hRT⟩ := Int.eq_ofNat_of_zero_le (xprE_ok HXX.out).root.1
        have hrn : RT < n := by have h1 := (xprE_ok HXX.out).root; have h2 := HX.out.len; omega
        have HRQ := Lib.hid hRT
        rw [hRT, Int.toNat_natCast] at HRT
        have hyl : x.nodes.length = n := HX.out.len
        rw [hyl] at HRT
        rw [hRT] at HSZ HKS ⊢
        have GX5 := Lib.hid gX
        have GR5 := Lib.hid gR
        have HBW := Lib.hid hbw
        clear hno hys HSS hb gX gR hbw hrow hrd HROW GX4 GR4
        obtain ⟨MZ, hMZ⟩ : ∃ MZ, min 1000 (treY x (subL ys)).sz = MZ := ⟨_, rfl⟩
        have HMZ : Hid (60 < MZ ↔ 60 < (treY x (subL ys)).sz) := Lib.hid (by omega)
        rw [hMZ] at HRT
        go_upto_region 12 with fail
        refine wp_region_noPanic ?_
        refine wp_region_takes (fun u => Below wr.heap.size wr u) [0, 1, 3, 4] 4 (by kernel_rfl) (by kernel_rfl) (by kernel_rfl) (fun _ _ _ _ _ h => h) (below_drew (Below.refl _ _)) ?_
        repeat (refine wpTk_cons rfl (fun K hK => ?_); go_simp; apply Exists.intro; refine ⟨fun u hu => ?_, hK _ ?_⟩; (first | exact rfl | (obtain ⟨q1, q2⟩ := HKS.out u hu; go_simp; done) | (obtain ⟨q1, q2⟩ := HKS.out u hu; go_simp; exact rfl)); clear hK K)
        refine wpTk_nil ?_
        refine held_ready (rs := [2]) (by kernel_rfl) (by simp) ?_
        refine AllReadyH.cons rfl (fun K hK => ?_) AllReadyH.nil
        go_simp
        with_reducible refine (HSZ.out _ (below_drew (Below.refl _ _))).mono ?_
        rintro e w7 ⟨a7, rfl, r7, b7⟩
        have HB7 := Lib.hid (below_undrew b7)
        obtain ⟨c7, o7, ha7, hc7⟩ := r7.at' (by omega)
        have t7 := hc7 RT _ HRT.out
        subst ha7
        clear b7 r7 hc7
        go_simp
        refine hK.out _ _ HB7.out (fun hh => ?_)
        clear hh hK K; try simp only [Act.put, List.setIfInBounds_toArray, List.set_cons_zero, List.set_cons_succ]
        refine held_ready (rs := [5]) (by kernel_rfl) (by simp) ?_
        refine AllReadyH.cons rfl (fun K hK => ?_) AllReadyH.nil
        go_simp
        refine hK.out _ _ HB7.out (fun hh => ?_)
        clear hh hK K; try simp only [Act.put, List.setIfInBounds_toArray, List.set_cons_zero, List.set_cons_succ]
        refine held_ready (rs := [6]) (by kernel_rfl) (by simp) ?_
        refine AllReadyH.cons rfl (fun K hK => ?_) AllReadyH.nil
        go_simp
        refine hK.out _ _ HB7.out (fun hh => ?_)
        clear hh hK K; try simp only [Act.put, List.setIfInBounds_toArray, List.set_cons_zero, List.set_cons_succ]
        clear t7
        refine held_ready (rs := [7]) (by kernel_rfl) (by simp) ?_
        refine AllReadyH.cons rfl (fun K hK => ?_) AllReadyH.nil
        go_simp
        refine hK.out _ _ HB7.out (fun hh => ?_)
        clear hh hK K; try simp only [Act.put, List.setIfInBounds_toArray, List.set_cons_zero, List.set_cons_succ]
        refine wpAnyH_done (by kernel_rfl) (NoPanic.normal ?_) _
        have GX7 := Lib.hid (heap_below HB7.out GX5.out)
        have GR7 := Lib.hid (heap_below HB7.out GR5.out)
        have HBF7 := Lib.hid (Below.next HBW.out HB7.out)
        have hs7 : w.heap.size + 2 ≤ w7.heap.size := by have := HB7.out.size; omega
        clear HSZ HRT hMZ HKS GX5 GR5 HB7
        by_cases hbig : 60 < (treY x (subL ys)).sz
        · have hd : decide ((60 : Int) < (MZ : Int)) = true := decide_eq_true (by have := HMZ.out.2 hbig; omega)
          have h60 : 60 < MZ := HMZ.out.2 hbig
          have hS : subS x ys = (⟨[], 0⟩, 3) := by rw [hS2.out, if_pos hbig]
          have HRS := Lib.hid hS
          have t0 := cell_of_row _ _ 0 _ _ _ GR7.out
          have t1 := cell_of_row _ _ 1 _ _ _ GR7.out
          have z0 := frozen_row GR7.out 0
          have z1 := frozen_row GR7.out 1
          clear hS hS2 hbig
          go_wp2_with fail
          clear t0 t1 z0 z1
          generalize hWF : (w7.setCell _ _).setCell _ _ = WF
          obtain ⟨e1, hbf⟩ := fin_box GR7.out (by omega) HBF7.out hWF
          have HBF := Lib.hid hbf
          have f0 := cell_of_row _ _ 0 _ _ _ e1
          have f1 := cell_of_row _ _ 1 _ _ _ e1
          clear hWF e1 hbf
          refine bodyPost_ret (v := .tuple #[.agg #[.slice none 0 0, .int .i64 0], .int .i64 3]) ?_ rfl (by rw [HRS.out]; exact RetX.none_ rfl HBF.out)
          rw [results_cell_tmp rfl]
          go_simp
        · have hd : decide ((60 : Int) < (MZ : Int)) = false := decide_eq_false (by have := HMZ.out; omega)
          have h60 : MZ ≤ 60 := by have := HMZ.out; omega
          have hS : subS x ys = ((treY x (subL ys)).xpr, 0) := by rw [hS2.out, if_neg hbig]
          have HRS := Lib.hid hS
          have HBIG := Lib.hid hbig
          have x0 := cell_of_row _ _ 0 _ _ _ GX7.out
          have x1 := cell_of_row _ _ 1 _ _ _ GX7.out
          have hT : treF x.nodes (subL ys) (x.root.toNat + 1) x.root.toNat = treY x (subL ys) := rfl
          have hWr := grow_c x HXX.out ys HYS.out w7 (x.root.toNat + 1) a n c la k lc (HX.out.below HBF7.out) (HL.out.below HBF7.out) x.root.toNat (Nat.lt_succ_self _) (by omega) w7 (fun _ => False) (.slice none 0 0) [] ⟨Below.refl _ _, XB.nil _ _ _ _ (fun _ h => h.elim)⟩ (by rw [hT]; simp; omega)
          rw [hT, hRT, Int.toNat_natCast] at hWr
          rw [hRT] at x1
          have HWR := Lib.hid hWr
          clear hS hS2 hbig hT hWr
          go_wp2_with fail
          clear x0 x1
          with_reducible refine HWR.out.mono ?_
          rintro e w9 ⟨v', S', rfl, k2, k3, k4, k5⟩
          obtain ⟨a', c', rfl, _⟩ := k2.shape
          have gR9 := (k3.blk (w.heap.size + 1) (by omega) (fun e => by cases e)).trans GR7.out
          have t0 := cell_of_row _ _ 0 _ _ _ gR9
          have t1 := cell_of_row _ _ 1 _ _ _ gR9
          have z0 := frozen_row gR9 0
          have z1 := frozen_row gR9 1
          have GR9 := Lib.hid gR9
          have HK2 := Lib.hid k2
          have HK5 := Lib.hid k5
          have HB9 := Lib.hid (HBF7.out.trans (k3.bel.mono (by omega)))
          have hs9 := k3.bel.size
          have hlp := (treY x (subL ys)).sz_pos
          have hln9 : ([] ++ (treY x (subL ys)).post 0).length = ((treY x (subL ys)).sz - 1) + 1 := by rw [List.nil_append, ET.post_len]; omega
          have hsz9 : (treY x (subL ys)).sz - 1 ≤ 60 := by have := HBIG.out; omega
          obtain ⟨RR, hRR⟩ : ∃ RR, (treY x (subL ys)).sz - 1 = RR := ⟨_, rfl⟩
          rw [hRR] at hln9 hsz9
          have HRR := Lib.hid hRR
          have HLN9 := Lib.hid hln9
          simp only [List.length_nil] at *
          rw [hln9]
          clear k2 k3 k4 k5 gR9 HWR hRR hln9 hlp
          go_wp2_with fail
          clear t0 t1 z0 z1
          generalize hWF : (w9.setCell _ _).setCell _ _ = WF
          obtain ⟨e1, hbf⟩ := fin_box GR9.out (by omega) HB9.out hWF
          have hkeep : ∀ g, g ≠ w.heap.size + 1 → WF.heap[g]? = w9.heap[g]? := fun g hg => by
            rw [← hWF, Below.heap_setCell _ ⟨w.heap.size + 1, 1, none⟩ _ g hg, Below.heap_setCell _ ⟨w.heap.size + 1, 0, none⟩ _ g hg]
          have hsF : WF.heap.size = w9.heap.size := by rw [← hWF]; simp
          have hS8 : ∀ g, S' g → w7.heap.size ≤ g := fun g hg => by
            rcases HK5.out g hg with h | h
            · exact h.elim
            · exact h
          have hxb := HK2.out.move (w' := WF) (fun g hg => hkeep g (by have := hS8 g hg; omega)) (fun g hg => hkeep g (by have := (HK2.out.lt_own g hg).1; omega)) (by omega)
          obtain ⟨a2, c2, e2, hxmr⟩ := hxb.xmr (lo := w.heap.size) (fun g hg => by have := hS8 g hg; omega) (by omega)
          cases e2
          have f0 := cell_of_row _ _ 0 _ _ _ e1
          have f1 := cell_of_row _ _ 1 _ _ _ e1
          have HXM := Lib.hid hxmr
          have HBF := Lib.hid hbf
          clear hWF e1 hkeep hS8 hxb hxmr hbf
          refine bodyPost_ret (v := .tuple #[.agg #[.slice a' (RR + 1) c', .int .i64 (RR : Int)], .int .i64 0]) ?_ rfl ?_
          · rw [results_cell_tmp rfl]
            go_simp
          · rw [HRS.out]
            have hx1 := HXM.out
            rw [List.nil_append] at hx1
            have hl1 := HLN9.out
            rw [List.nil_append] at hl1
            refine ⟨a', c', ?_, hx1, HBF.out⟩
            show _ = Ending.returned (.tuple #[.agg #[.slice a' ((treY x (subL ys)).post 0).length c', .int .i64 (((treY x (subL ys)).sz - 1 : Nat) : Int)], .int .i64 0])
            rw [hl1, HRR.out]
  · have hR : subS x ys = (⟨[], 0⟩, xprE x) := by unfold subS; rw [if_pos hx]
    obtain ⟨E, hE⟩ : ∃ E, xprE x = E := ⟨_, rfl⟩
    rw [hR, hE]
    rw [hE] at HV hx
    have hne : (E != 0) = true := by simpa using hx
    clear hR hE hx
    go_enter Tryz.func23, Tryz.ntmps23
    go_wp2_with fail
    generalize hW3 : (w.alloc _).alloc _ = W3
    obtain ⟨gX, gR, hb3, hs3⟩ := box2' hW3
    have GR := Lib.hid gR
    have HB3 := Lib.hid hb3
    have HS3 := Lib.hid hs3
    clear hW3 gX gR hb3 hs3
    with_reducible refine (HV.out W3 HB3.out).mono ?_
    rintro e w4 ⟨rfl, hb4⟩
    have g4 := heap_below hb4 GR.out
    have t0 := cell_of_row _ _ 0 _ _ _ g4
    have t1 := cell_of_row _ _ 1 _ _ _ g4
    have z0 := frozen_row g4 0
    have z1 := frozen_row g4 1
    have G4 := Lib.hid g4
    have HB4 := Lib.hid (Below.next HB3.out hb4)
    clear g4 hb4 GR HB3 HS3
    go_wp2_with fail
    clear t0 t1 z0 z1
    generalize hWF : (w4.setCell _ _).setCell _ _ = WF
    obtain ⟨e1, hbf⟩ := fin_box G4.out (by omega) HB4.out hWF
    have HBF := Lib.hid hbf
    have f0 := cell_of_row _ _ 0 _ _ _ e1
    have f1 := cell_of_row _ _ 1 _ _ _ e1
    clear hWF e1 hbf
    refine bodyPost_ret (v := .tuple #[.agg #[.slice none 0 0, .int .i64 0], .int .i64 E]) ?_ rfl (RetX.none_ rfl HBF.out)
    rw [results_cell_tmp rfl]
    go_simp

set_option maxRecDepth 100000 in
set_option maxHeartbeats 4000000 in
theorem rtidy_c (x : Xpr) (hsx : XprSum x) (hf : XprFew x) (a : Option Addr) (n c : Nat) (w : World) (h : XM w a n c x.nodes) :
    Calls Tryz.prog 28 #[.agg #[.slice a n c, .int .i64 x.root]] w fun e w' => RetX (tidS x).1 (tidS x).2 w e w' := by
  have HX := Lib.hid h
  have HS := Lib.hid (fun (u : World) (hb : Below w.heap.size w u) => rsubst_c x [] hsx (fun _ h => by cases h) hf (fun _ h => by cases h) a n c none 0 0 u (h.below hb) (LM.none_ _) (by omega))
  clear h
  rw [subS_nil] at HS
  obtain ⟨⟨X, E⟩, hQ⟩ : ∃ Q, tidS x = Q := ⟨_, rfl⟩
  rw [hQ] at HS ⊢
  simp only at HS
  clear hQ
  go_enter Tryz.func28, Tryz.ntmps28
  go_wp2_with fail
  generalize hW2 : (w.alloc _).alloc _ = W2
  obtain ⟨gX, gR, hb2, hs2⟩ := box2' hW2
  have GR := Lib.hid gR
  have HB2 := Lib.hid hb2
  have hw2 : w.heap.size + 2 ≤ W2.heap.size := by omega
  clear hW2 gX gR hb2 hs2
  with_reducible refine (HS.out W2 HB2.out).mono ?_
  rintro e w3 ⟨a3, c3, rfl, hx3, b3⟩
  have GR3 := Lib.hid (heap_below b3 GR.out)
  have HB3 := Lib.hid (Below.next HB2.out b3)
  have HX3 := Lib.hid hx3
  have t0 := cell_of_row _ _ 0 _ _ _ GR3.out
  have t1 := cell_of_row _ _ 1 _ _ _ GR3.out
  have z0 := frozen_row GR3.out 0
  have z1 := frozen_row GR3.out 1
  clear b3 hx3 HS GR
  go_wp2_with fail
  clear t0 t1 z0 z1
  generalize hWF : (w3.setCell _ _).setCell _ _ = WF
  obtain ⟨e1, hbf⟩ := fin_box GR3.out (by omega) HB3.out hWF
  have HBF := Lib.hid hbf
  have HXF := Lib.hid (xmr_box HX3.out (by omega) hWF)
  have f0 := cell_of_row _ _ 0 _ _ _ e1
  have f1 := cell_of_row _ _ 1 _ _ _ e1
  clear hWF e1 hbf
  refine bodyPost_ret (v := .tuple #[.agg #[.slice a3 X.nodes.length c3, .int .i64 X.root], .int .i64 E]) ?_ rfl ?_
  · rw [results_cell_tmp rfl]
    go_simp
  · exact ⟨a3, c3, rfl, fun w2 hg => HXF.out w2 fun g h1 h2 => hg g (by omega) h2, HBF.out⟩
end Go.Proofs.YtcojmmhclklpoaaGreatDoor
namespace Go.Proofs.YtcojmmhclklpoaaGreatDoor
open Go.RowKit Go.Shelf

def RtC (x : Xpr) (w0 : World) (f : Nat) : Prop :=
  ∀ (a : Option Addr) (n c : Nat), XM w0 a n c x.nodes → ∀ (i : Nat), i < f → i < x.nodes.length → ∀ (u : World), Below w0.heap.size w0 u → (treF x.nodes noSub f i).txt.length ≤ 1000000 →
    Calls Tryz.prog 69 #[.agg #[.slice a n c, .int .i64 x.root], .int .i64 i] u fun e w' => e = .returned (.string (mkB (treF x.nodes noSub f i).txt)) ∧ Below u.heap.size u w'

theorem txt_next {KT : List ET} {ws : List Int} {k : Nat} {t : ET} (h : KT.take (k + 1) = KT.take k ++ [t]) (hk : k ≤ KT.length) (P : Byts) :
    mkB (P ++ ETs.txt (KT.take k) ws 0) ++ mkB (if k = 0 then [] else [44, 32]) ++ mkB t.txt ++ mkB (if ws = [] then [] else 42 :: Lib.decDigits (ws.getD k 0).toNat) = mkB (P ++ ETs.txt (KT.take (k + 1)) ws 0) := by
  rw [h, txt_snoc, mkB_app, mkB_app, mkB_app, List.length_take, Nat.min_eq_left hk, Nat.zero_add]
  simp only [List.append_assoc]

set_option maxRecDepth 100000 in
set_option maxHeartbeats 16000000 in
theorem rtext_step (x : Xpr) (hx : xprE x = 0) (w0 : World) (hpow : HasPow w0) (f : Nat) (ih : RtC x w0 f) : RtC x w0 (f + 1) := by
  intro a n c h i hif hil u hb0 hl
  obtain ⟨nd, hnd⟩ : ∃ nd, x.nodes[i]? = some nd := ⟨_, List.getElem?_eq_getElem hil⟩
  have xok := xprE_ok hx
  have ok := xok.node i nd hnd
  have hthr := xprE_thr0 hx i nd hnd
  have hln := h.len
  obtain ⟨b, o, ha, hat⟩ := h.at' (by omega)
  have hM := hat i nd hnd
  obtain ⟨aw, nw, cw, m3, rw3⟩ := hM.ws
  obtain ⟨ak, nk, ck, m4, rk4⟩ := hM.ks
  have m00 := cell_keep hb0 hM.c0
  have m01 := cell_keep hb0 hM.c1
  have m02 := cell_keep hb0 hM.c2
  have m03 := cell_keep hb0 m3
  have m04 := cell_keep hb0 m4
  have hbl : b < u.heap.size := cell_lt m00
  have m0 : ∀ ob, (u.alloc ob).cell? ⟨b, o + i * 5, none⟩ = some (.int .i64 nd.kind) := fun ob => (World.cell?_alloc_lt _ _ _ hbl).trans m00
  have m1 : ∀ ob, (u.alloc ob).cell? ⟨b, o + i * 5 + 1, none⟩ = some (.int .i64 nd.server) := fun ob => (World.cell?_alloc_lt _ _ _ hbl).trans m01
  have m2 : ∀ ob, (u.alloc ob).cell? ⟨b, o + i * 5 + 2, none⟩ = some (.int .i64 nd.need) := fun ob => (World.cell?_alloc_lt _ _ _ hbl).trans m02
  have m3 : ∀ ob, (u.alloc ob).cell? ⟨b, o + i * 5 + 3, none⟩ = some (.slice aw nw cw) := fun ob => (World.cell?_alloc_lt _ _ _ hbl).trans m03
  have m4 : ∀ ob, (u.alloc ob).cell? ⟨b, o + i * 5 + 4, none⟩ = some (.slice ak nk ck) := fun ob => (World.cell?_alloc_lt _ _ _ hbl).trans m04
  have HPOW := Lib.hid (fun (v : World) (hv : Below w0.heap.size w0 v) => hpow.below hv)
  have hwl := rw3.len
  have hkl := rk4.len
  rw [List.length_map] at hwl hkl
  have hin : i < n := by omega
  have hbi : decide ((i : Int) < (n : Int)) = true := decide_eq_true (by omega)
  subst ha
  clear m00 m01 m02 m03 m04
  obtain ⟨kind, server, need, ws, ks⟩ := nd
  simp only at m0 m1 m2 rw3 rk4 hwl hkl hthr
  obtain ⟨U2, hU2⟩ : ∃ U2, U2 = (u.alloc (.cells #[.slice (some ⟨b, o, none⟩) n c, .int .i64 x.root] 32)).alloc (.cells #[.int .i64 kind, .int .i64 server, .int .i64 need, .slice aw nw cw, .slice ak nk ck] 71) := ⟨_, rfl⟩
  obtain ⟨gX, gN, hb2, hs2⟩ := box2 hU2.symm
  have HB2 := Lib.hid hb2
  have HB02 := Lib.hid (Below.next hb0 hb2)
  have GX := Lib.hid gX
  have GN := Lib.hid gN
  obtain ⟨n0, n1, n2, n3, n4⟩ := open5 gN
  by_cases hk1 : kind = 1
  · subst hk1
    have hT : treF x.nodes noSub (f + 1) i = .srv server := by
      have e : x.nodes.getD i nod0 = ⟨1, server, need, ws, ks⟩ := by rw [List.getD_eq_getElem?_getD, hnd]; rfl
      rw [treF, e, if_pos rfl]; rfl
    rw [hT, ET.txt]
    have hsr := ok.server
    simp only at hsr
    obtain ⟨sn, rfl⟩ := Int.eq_ofNat_of_zero_le hsr.1
    rw [Int.toNat_natCast]
    have HIT := Lib.hid (itoa_c sn (by omega) U2 (HPOW.out _ HB02.out))
    have hDl := dec_len6 sn (by omega)
    obtain ⟨D, hD⟩ : ∃ D, Lib.decDigits sn = D := ⟨_, rfl⟩
    rw [hD] at hDl HIT ⊢
    have HF : Hid ((⟨#[115]⟩ : ByteArray) ++ mkB D = mkB (115 :: D)) := Lib.hid (mkB_app [115] D)
    have hDs : (mkB D).size ≤ 6 := by have := mkB_size D; omega
    obtain ⟨DB, hDB⟩ : ∃ DB, mkB D = DB := ⟨_, rfl⟩
    rw [hDB] at HIT HF hDs
    rw [← HF.out]
    rw [hU2] at n0 n1
    clear hT hD hM hat hnd rw3 rk4 hwl hkl ok xok hthr h hl hb2 gX gN hs2 n2 n3 n4 ih hDB hb0
    go_enter Tryz.func69, Tryz.ntmps69
    go_wp2_with fail
    rw [← hU2]
    with_reducible refine HIT.out.mono ?_
    rintro e U3 ⟨rfl, hb3⟩
    have HB3 := Lib.hid (Below.next HB2.out hb3)
    clear hb3 n0 n1 HIT
    go_wp2_with fail
    go_ret
    exact ⟨rfl, HB3.out⟩
  · have hk2 : (kind == 1) = false := by simpa using hk1
    obtain rfl : server = 0 := hthr hk1
    have hT : treF x.nodes noSub (f + 1) i = .thr need ws (kidT x.nodes noSub f ks) := by
      have e : x.nodes.getD i nod0 = ⟨kind, 0, need, ws, ks⟩ := by rw [List.getD_eq_getElem?_getD, hnd]; rfl
      rw [treF, e, if_neg hk1]; rfl
    rw [hT, ET.txt] at hl ⊢
    have hneed := ok.need
    simp only at hneed
    obtain ⟨nd, rfl⟩ := Int.eq_ofNat_of_zero_le hneed.1
    rw [Int.toNat_natCast] at hl ⊢
    have HWW := Lib.hid ok.weights
    have HKR := Lib.hid ok.kids
    have HAR := Lib.hid ok.arity
    have HIT := Lib.hid (itoa_c nd (by omega) U2 (HPOW.out _ HB02.out))
    have hDl := dec_len6 nd (by omega)
    obtain ⟨D, hD⟩ : ∃ D, Lib.decDigits nd = D := ⟨_, rfl⟩
    obtain ⟨KT, hKT⟩ : ∃ KT, kidT x.nodes noSub f ks = KT := ⟨_, rfl⟩
    rw [hD] at hl hDl HIT ⊢
    rw [hKT] at hl ⊢
    have hKl : KT.length = nk := by rw [← hKT, kidT_len]; exact hkl.symm
    have HKT := Lib.hid hKT
    have HKL := Lib.hid hKl
    have HL : Hid (D.length + 1 + (ETs.txt KT ws 0).length + 1 ≤ 1000000) := Lib.hid (by
      simp only [List.length_append, List.length_cons, List.length_nil] at hl; omega)
    have HP0 : Hid (mkB D ++ (⟨#[40]⟩ : ByteArray) = mkB (D ++ [40])) := Lib.hid (mkB_app D [40])
    have HPZ : Hid (mkB (D ++ [40] ++ ETs.txt KT ws 0) ++ (⟨#[41]⟩ : ByteArray) = mkB (D ++ 40 :: (ETs.txt KT ws 0 ++ [41]))) := Lib.hid (by
      rw [show (⟨#[41]⟩ : ByteArray) = mkB [41] from rfl, mkB_app]; congr 1; simp)
    rw [← HPZ.out]
    have hDs : (mkB D).size ≤ 6 := by have := mkB_size D; omega
    obtain ⟨DB, hDB⟩ : ∃ DB, mkB D = DB := ⟨_, rfl⟩
    rw [hDB] at HIT HP0 hDs
    have HWL := Lib.hid hwl
    have HKS := Lib.hid hkl
    have HLN := Lib.hid hln
    have HIH := Lib.hid (ih (some ⟨b, o, none⟩) n c h)
    have HRW := Lib.hid rw3
    have HRK := Lib.hid rk4
    have hnkm : nk ≤ 9223372036854775807 := by have h1 := rk4.le; have h2 := rk4.max; unfold maxLen at h2; omega
    have hnwm : nw ≤ 9223372036854775807 := by have h1 := rw3.le; have h2 := rw3.max; unfold maxLen at h2; omega
    rw [hU2] at n0 n2
    clear hT hD hKT hM hat hnd rw3 rk4 hwl hkl ok xok hthr h hl hb2 gX gN hs2 n1 n3 n4 ih hKl hln hDB hb0
    go_enter Tryz.func69, Tryz.ntmps69
    go_wp2_with fail
    rw [← hU2]
    with_reducible refine HIT.out.mono ?_
    rintro e U3 ⟨rfl, hb3⟩
    have HB3 := Lib.hid hb3
    clear hb3 n0 n2 HIT m0 m1 m2 m3 m4 hU2
    go_wp2_with fail
    go_loopw [6, 7] (fun ob q wr => ∃ (OB : ByteArray) (k : Nat), Value.string OB = ob ∧ k ≤ nk ∧ q = .int .i64 ((k : Nat) : Int) ∧ Hid (OB = mkB (D ++ [40] ++ ETs.txt (KT.take k) ws 0)) ∧ Below U2.heap.size U2 wr) (fun _ q _ => nk - (intOf q).toNat)
    case atStart => exact ⟨_, 0, rfl, Nat.zero_le _, rfl, Lib.hid (by rw [HP0.out, List.take_zero, ETs.txt, List.append_nil]), HB3.out⟩
    case round =>
      obtain ⟨OB, k, rfl, hk, rfl, HOB, hb⟩ := hrel
      have gN3 := heap_below hb GN.out
      obtain ⟨_, _, _, p3, p4⟩ := open5 gN3
      have hobs : OB.size ≤ 1000000 := by
        have := txt_take ws KT k
        have h5 := HL.out
        rw [HOB.out, mkB_size]
        simp only [List.length_append, List.length_cons, List.length_nil]
        omega
      by_cases hlt : k < nk
      · obtain ⟨z, hz⟩ : ∃ z, ks[k]? = some z := ⟨_, List.getElem?_eq_getElem (by have := HKS.out; omega)⟩
        have hzr := HKR.out z (List.mem_of_getElem? hz)
        obtain ⟨zn, hzn⟩ := Int.eq_ofNat_of_zero_le hzr.1
        subst hzn
        obtain ⟨b4, o4, ha4, hc4⟩ := HRK.out.at' (by omega)
        have hc := hc4 k (.int .i64 zn) (by rw [List.getElem?_map, hz]; rfl)
        have hT := kidT_take x.nodes noSub f ks k zn hz
        rw [HKT.out, Int.toNat_natCast] at hT
        have hnx := txt_next (ws := ws) hT (by have := HKL.out; omega) (D ++ [40])
        have hle1 := txt_take ws KT (k + 1)
        have hsz1 : (mkB (D ++ [40] ++ ETs.txt (KT.take (k + 1)) ws 0)).size ≤ 1000000 := by
          have h5 := HL.out
          rw [mkB_size]
          simp only [List.length_append, List.length_cons, List.length_nil]
          omega
        have hbw := Below.next HB02.out hb
        obtain ⟨X, hX⟩ : ∃ X, (treF x.nodes noSub f zn).txt = X := ⟨_, rfl⟩
        have hxl : X.length ≤ 1000000 := by
          rw [← hX]
          rw [hT, txt_snoc] at hle1
          have h5 := HL.out
          simp only [List.length_append] at hle1
          omega
        have hCall := fun y (hy : Below wr.heap.size wr y) => HIH.out zn (by omega) (by have := HLN.out; omega) y (Below.next hbw hy) (by rw [hX]; exact hxl)
        rw [hX] at hCall hnx
        rw [← HOB.out] at hnx
        obtain ⟨XT, hXT⟩ : ∃ XT, mkB X = XT := ⟨_, rfl⟩
        have hxs : XT.size ≤ 1000000 := by rw [← hXT, mkB_size]; exact hxl
        rw [hXT] at hCall hnx
        have HCALL := Lib.hid hCall
        have HNX := Lib.hid hnx
        have HB := Lib.hid hb
        have HBW := Lib.hid hbw
        obtain ⟨NW, hNW⟩ : ∃ NW, mkB (D ++ [40] ++ ETs.txt (KT.take (k + 1)) ws 0) = NW := ⟨_, rfl⟩
        rw [hNW] at HNX hsz1
        have HNW := Lib.hid hNW
        subst ha4
        have KS : Hid (∀ y : World, Below wr.heap.size wr y → (y.cell? ⟨u.heap.size, 0, none⟩ = some (.slice (some ⟨b, o, none⟩) n c) ∧ y.cell? ⟨u.heap.size, 1, none⟩ = some (.int .i64 x.root)) ∧ y.cell? ⟨u.heap.size + 1, 4, none⟩ = some (.slice (some ⟨b4, o4, none⟩) nk ck) ∧ y.cell? ⟨b4, o4 + k, none⟩ = some (.int .i64 zn)) := Lib.hid (fun y hy => ⟨(open2 (heap_below hy (heap_below hb GX.out))).1, cell_of_row _ _ 4 _ _ _ (heap_below hy gN3), cell_keep (Below.next hbw hy) hc⟩)
        have GN3 := Lib.hid gN3
        clear hCall hnx hb hbw hT hle1 hX hXT hNW hc hc4 hzr gN3 hxl
        obtain ⟨O2, hO2⟩ : ∃ O2, OB ++ mkB (if k = 0 then [] else [44, 32]) = O2 := ⟨_, rfl⟩
        have hO2s : O2.size ≤ 1000002 := by
          rw [← hO2, ByteArray.size_append, mkB_size]; split <;> simp <;> omega
        rw [hO2] at HNX
        have hsel : (decide ((0 : Int) < (k : Int)) = true ∧ decide (0 < k) = true ∧ OB ++ (⟨#[44, 32]⟩ : ByteArray) = O2) ∨ (k = 0 ∧ OB = O2) := by
          rcases Nat.eq_zero_or_pos k with h9 | h9
          · refine .inr ⟨h9, ?_⟩
            rw [← hO2, if_pos h9]
            exact (ByteArray.append_empty (b := OB)).symm
          · refine .inl ⟨decide_eq_true (by omega), decide_eq_true h9, ?_⟩
            rw [← hO2, if_neg (by omega)]; rfl
        clear hO2
        have HWK : Hid (0 < nw → ∃ (wz b5 o5 : Nat), aw = some ⟨b5, o5, none⟩ ∧ k < nw ∧ wz ≤ 1000 ∧ (∀ y, Below w0.heap.size w0 y → y.cell? ⟨b5, o5 + k, none⟩ = some (.int .i64 (wz : Int))) ∧ (ws.getD k 0).toNat = wz ∧ ws ≠ []) := Lib.hid (fun hw0 => by
          have hws : ws ≠ [] := fun e => by have := HWL.out; rw [e] at this; simp at this; omega
          have hnwk : nw = nk := by
            rcases HAR.out with h9 | h9
            · exact absurd h9 hws
            · have := HWL.out; have := HKS.out; omega
          obtain ⟨wv, hwv⟩ : ∃ wv, ws[k]? = some wv := ⟨_, List.getElem?_eq_getElem (by have := HWL.out; omega)⟩
          have hwr := HWW.out wv (List.mem_of_getElem? hwv)
          obtain ⟨wz, hwz⟩ := Int.eq_ofNat_of_zero_le (show 0 ≤ wv by omega)
          subst hwz
          obtain ⟨b5, o5, ha5, hc5⟩ := HRW.out.at' (by omega)
          refine ⟨wz, b5, o5, ha5, by omega, by omega, fun y hy => cell_keep hy (hc5 k _ (by rw [List.getElem?_map, hwv]; rfl)), ?_, hws⟩
          rw [List.getD_eq_getElem?_getD, hwv]; rfl)
        rcases hsel with ⟨d1, d2, e2⟩ | ⟨e0, e2⟩
        all_goals
          first | (subst e0; simp only [Nat.add_zero] at KS) | skip
          go_upto_region 10 with fail
          subst e2
          clear p3 p4
          refine wp_region_quiet (C := fun y => Below wr.heap.size wr y) (by kernel_rfl) (by kernel_rfl) (below_drew (Below.refl _ _)) ?_
          repeat (refine wpQuiet_step (fun K hK => ?_); go_simp; (first | (refine hK _ ?_; clear hK K) | (apply Exists.intro; refine ⟨fun y hy => ?_, hK _ ?_⟩; (first | (rw [if_neg (by omega)]; exact ⟨rfl, rfl⟩) | with_reducible exact rfl | with_reducible exact ⟨rfl, hy⟩ | with_reducible exact ⟨rfl, rfl⟩ | ((with_reducible refine (HCALL.out y hy).mono ?_); (rintro e w3 ⟨rfl, h3⟩; exact ⟨rfl, Below.next hy h3⟩)) | (obtain ⟨⟨q1, q2⟩, q3, q4⟩ := KS.out y hy; go_simp; first | with_reducible exact rfl | with_reducible exact ⟨rfl, hy⟩ | with_reducible exact hy | exact rfl | exact ⟨rfl, hy⟩ | exact hy)); clear hK K)))
          refine wpQuiet_nil ?_
          intro wq hwq
          have HBQ := Lib.hid hwq
          have p3 := cell_of_row _ _ 3 _ _ _ (heap_below hwq GN3.out)
          clear hwq KS HCALL
          rcases Nat.eq_zero_or_pos nw with hw0 | hw0
          · have hws : ws = [] := List.length_eq_zero_iff.1 (by have := HWL.out; omega)
            have HN := HNX.out
            rw [if_pos hws, show mkB [] = ByteArray.empty from rfl, ByteArray.append_empty] at HN
            have HNQ := Lib.hid HN
            subst hw0
            clear HN HNX
            go_wp2_with fail
            go_roundw
            case rel => first | exact ⟨_, k + 1, rfl, by omega, by go_num, Lib.hid (by rw [HNQ.out, ← HNW.out]), HB.out.trans (HBQ.out.mono HB.out.size)⟩ | exact ⟨_, 1, rfl, by omega, by go_num, Lib.hid (by rw [HNQ.out, ← HNW.out]), HB.out.trans (HBQ.out.mono HB.out.size)⟩
            case measure => simp [intOf] <;> omega
          · obtain ⟨wz, b5, o5, rfl, hkw, hwz, hcw, hgd, hws⟩ := HWK.out hw0
            try simp only [Nat.add_zero] at hcw
            have hdw : decide ((0 : Int) < (nw : Int)) = true := decide_eq_true (by omega)
            have c5 := hcw wq (Below.next HBW.out HBQ.out)
            have HIW := Lib.hid (itoa_c wz (by omega) wq (HPOW.out wq (Below.next HBW.out HBQ.out)))
            have HN := HNX.out
            rw [if_neg hws, hgd] at HN
            have hDw := dec_len6 wz (by omega)
            have hWs : (mkB (Lib.decDigits wz)).size ≤ 6 := by rw [mkB_size]; exact hDw
            have h42 : mkB (42 :: Lib.decDigits wz) = (⟨#[42]⟩ : ByteArray) ++ mkB (Lib.decDigits wz) := (mkB_app [42] _).symm
            rw [h42] at HN
            obtain ⟨WB, hWB⟩ : ∃ WB, mkB (Lib.decDigits wz) = WB := ⟨_, rfl⟩
            rw [hWB] at HN HIW hWs
            rw [← ByteArray.append_assoc] at HN
            have HNQ := Lib.hid HN
            clear HN HNX h42 hgd hcw hWB
            go_wp2_with fail
            with_reducible refine HIW.out.mono ?_
            rintro e w8 ⟨rfl, h8⟩
            have HB8 := Lib.hid (Below.next HBQ.out h8)
            clear h8 c5 HIW p3
            go_wp2_with fail
            go_roundw
            case rel => first | exact ⟨_, k + 1, rfl, by omega, by go_num, Lib.hid (by rw [HNQ.out, ← HNW.out]), HB.out.trans (HB8.out.mono HB.out.size)⟩ | exact ⟨_, 1, rfl, by omega, by go_num, Lib.hid (by rw [HNQ.out, ← HNW.out]), HB.out.trans (HB8.out.mono HB.out.size)⟩
            case measure => simp [intOf] <;> omega
      · obtain rfl : k = nk := by omega
        have HE := HOB.out
        rw [List.take_of_length_le (by have := HKL.out; omega)] at HE
        have HEQ := Lib.hid HE
        have HBF := Lib.hid (Below.next HB2.out hb)
        clear HE hb gN3
        go_wp2_with fail
        go_ret
        exact ⟨by rw [HEQ.out]; rfl, HBF.out⟩
theorem rtext_c (x : Xpr) (hx : xprE x = 0) (w0 : World) (hpow : HasPow w0) : ∀ f, RtC x w0 f
  | 0 => fun a n c h i hi => by omega
  | f + 1 => rtext_step x hx w0 hpow f (rtext_c x hx w0 hpow f)

set_option maxRecDepth 100000 in
set_option maxHeartbeats 4000000 in
theorem rformat_c (x : Xpr) (hsx : XprSum x) (hf : XprFew x) (a : Option Addr) (n c : Nat) (w : World) (hp : HasPow w) (h : XM w a n c x.nodes) :
    Calls Tryz.prog 30 #[.agg #[.slice a n c, .int .i64 x.root]] w fun e w' => e = .returned (.tuple #[.string (mkB (fmtX x).1), .int .i64 (fmtX x).2]) ∧ Below w.heap.size w w' := by
  have HS := Lib.hid (fun (u : World) (hu : Below w.heap.size w u) => rtidy_c x hsx hf a n c u (h.below hu))
  have HP := Lib.hid hp
  clear h hp
  by_cases hE : (tidS x).2 = 0
  · obtain ⟨hx, hz, h1⟩ := tidS_ok hE
    have hR : fmtX x = ((treX x).txt, 0) := by unfold fmtX; rw [if_neg (by rw [hE]; simp)]
    rw [hR]
    have hok := treX_ok (xprE_ok hx)
    have hyx := treX_xpr (treX x)
    have hyE := xpr_ok hok hz
    have htx := txt_60 hok hz
    obtain ⟨T, hT⟩ : ∃ T, treX x = T := ⟨_, rfl⟩
    rw [hT] at h1 hz hok hyx hyE htx ⊢
    rw [h1, hE] at HS
    have HYX := Lib.hid hyx
    have HYE := Lib.hid hyE
    have hlen : (T.post 0).length = T.sz := T.post_len 0
    have hpos := T.sz_pos
    have HXR := Lib.hid (show T.xpr.root = ((T.sz - 1 : Nat) : Int) from rfl)
    have HXN := Lib.hid (show T.xpr.nodes.length = T.sz from hlen)
    have HTX := Lib.hid htx
    clear hR h1 hE hx hT hok hyx hyE hlen htx
    go_enter Tryz.func30, Tryz.ntmps30
    go_wp2_with fail
    generalize hW1 : w.alloc _ = W1
    have hb1 : Below w.heap.size w W1 := by rw [← hW1]; exact (Below.refl _ _).alloc (Nat.le_refl _) _
    have HB1 := Lib.hid hb1
    clear hW1
    with_reducible refine (HS.out W1 hb1).mono ?_
    rintro e w3 ⟨a', c', rfl, hxm, hb3⟩
    have hxm2 := hxm.xm
    obtain ⟨W4, hW4⟩ : ∃ W4, W4 = w3.alloc (.cells #[.slice a' T.xpr.nodes.length c', .int .i64 T.xpr.root] 32) := ⟨_, rfl⟩
    have hb4 : Below w3.heap.size w3 W4 := by rw [hW4]; exact (Below.refl _ _).alloc (Nat.le_refl _) _
    have g4 : W4.heap[w3.heap.size]? = some (.cells #[.slice a' T.xpr.nodes.length c', .int .i64 T.xpr.root] 32 (0, 0)) := by rw [hW4]; exact heap_alloc_new _ _
    have hbw := Below.next HB1.out (Below.next hb3 hb4)
    have hTT : treF T.xpr.nodes noSub (T.xpr.root.toNat + 1) T.xpr.root.toNat = T := HYX.out
    have hroot : T.xpr.root.toNat < T.xpr.nodes.length := by rw [HXR.out, HXN.out, Int.toNat_natCast]; omega
    have hC := rtext_c T.xpr HYE.out W4 (HP.out.below hbw) (T.xpr.root.toNat + 1) a' _ c' (hxm2.below hb4) T.xpr.root.toNat (Nat.lt_succ_self _) hroot W4 (Below.refl _ _) (by rw [hTT]; have := HTX.out; omega)
    rw [hTT, show ((T.xpr.root.toNat : Nat) : Int) = T.xpr.root from Int.toNat_of_nonneg (by rw [HXR.out]; omega)] at hC
    have HC := Lib.hid hC
    have HBW := Lib.hid hbw
    obtain ⟨⟨t0, t1⟩, _⟩ := open2 g4
    obtain ⟨NL, hNL⟩ : ∃ NL, T.xpr.nodes.length = NL := ⟨_, rfl⟩
    obtain ⟨RT, hRT⟩ : ∃ RT, T.xpr.root = RT := ⟨_, rfl⟩
    rw [hNL, hRT] at HC hW4
    rw [hNL] at t0
    rw [hRT] at t1
    rw [hNL, hRT]
    rw [hW4] at t0 t1
    clear hb3 hxm hxm2 hb4 g4 hbw hTT hroot hC HS
    go_wp2_with fail
    rw [← hW4]
    with_reducible refine HC.out.mono ?_
    rintro e w5 ⟨rfl, h5⟩
    have HB5 := Lib.hid (Below.next HBW.out h5)
    clear h5
    go_wp2_with fail
    go_ret2
    exact ⟨rfl, HB5.out⟩
  · have hR : fmtX x = ([], (tidS x).2) := by unfold fmtX; rw [if_pos hE]
    rw [hR]
    obtain ⟨R, hRR⟩ : ∃ R, tidS x = R := ⟨_, rfl⟩
    rw [hRR] at HS hE ⊢
    obtain ⟨y, er⟩ := R
    simp only at HS hE ⊢
    have hne : (er != 0) = true := by simpa using hE
    clear hR hRR hE
    go_enter Tryz.func30, Tryz.ntmps30
    go_wp2_with fail
    generalize hW1 : w.alloc _ = W1
    have hb1 : Below w.heap.size w W1 := by rw [← hW1]; exact (Below.refl _ _).alloc (Nat.le_refl _) _
    clear hW1
    with_reducible refine (HS.out W1 hb1).mono ?_
    rintro e w3 ⟨a', c', rfl, hxm, hb3⟩
    have HB3 := Lib.hid (Below.next hb1 (Below.next hb3 ((Below.refl _ _).alloc (Nat.le_refl _) (.cells #[.slice a' y.nodes.length c', .int .i64 y.root] 32))))
    clear hb3 hxm HS hb1
    go_wp2_with fail
    go_ret2
    exact ⟨rfl, HB3.out⟩
end Go.Proofs.YtcojmmhclklpoaaGreatDoor
namespace Go.Proofs.YtcojmmhclklpoaaGreatDoor
open Go.RowKit Go.ChangeShapes Go.WideShapes Go.Deep

def XprRch (x : Xpr) : Prop := ∀ (k : Nat) nd, x.nodes[k]? = some nd → nd.weights.length ≤ 17592186044416 ∧ nd.kids.length ≤ 17592186044416
theorem Tryz.bytesInt : Tryz.prog.bytesOf 3 = 8 := by kernel_rfl
theorem ints64_rch {H : Type} {enc : TypeId × Value → H} {W : World} {base : Nat} {held : Bool} {fuel : Nat} {cs : List Value} {x : DataW H × List MemPlace} (h : DataW.trod enc Tryz.prog W base (fun _ => true) held fuel 69 cs = some x) (hw : ∀ n ∈ x.1.weights Tryz.prog 69, n ≤ reachBytes) :
    ∃ a n c z, cs = [.slice a n c] ∧ IsInts .i64 W a n c z ∧ z.length ≤ 17592186044416 := by
  rcases open_ints Tryz.underlying69 Tryz.underlying3 (by kernel_rfl) h with ⟨hcs, _⟩ | ⟨b, l, c, zs, hcs, _, hl, hm, hz, hx, hcell, hwz⟩
  · exact ⟨_, _, _, _, hcs, .nil, by simp⟩
  · refine ⟨_, _, _, _, hcs, .row hl hm (by simpa using hz) hcell hwz, ?_⟩
    have h1 := hw ((lits .i64 (zs.take l) : List (DataW H)).length * 8 + (lits .i64 (zs.drop l) : List (DataW H)).length * 8) (by
      rw [hx]
      simp only [DataW.weights, Tryz.underlying69, Tryz.bytesInt]
      rw [Nat.add_mul]
      exact List.mem_cons_self)
    simp only [lits, List.length_map, reachBytes] at h1
    omega
theorem open_nodesS {H : Type} {enc : TypeId × Value → H} {w : World} {base : Nat} {held : Bool} {fuel : Nat} {cs : List Value} {x : DataW H × List MemPlace} (h : DataW.trod enc Tryz.prog w base (fun _ => true) held fuel 30 cs = some x) (hw : ∀ n ∈ x.1.weights Tryz.prog 30, n ≤ reachBytes) :
    ∃ a n c ns, cs = [.slice a n c] ∧ XM w a n c ns ∧ ∀ nd ∈ ns, nd.weights.length ≤ 17592186044416 ∧ nd.kids.length ≤ 17592186044416 := by
  rcases open_slice_fields Tryz.underlying30 Tryz.underlying71 (by kernel_rfl) (by kernel_rfl) h with ⟨hcs, _⟩ | ⟨a, len, cap, m, D, Pl, hcs, _, hl, hm, hmm, hxx, hi⟩
  · exact ⟨none, 0, 0, [], hcs, XM.none_ _, fun nd h => by cases h⟩
  · have hlm : len ≤ m := by rw [hmm]; split <;> omega
    have hel : ∀ i, i < len → ∀ n ∈ (D i).weights Tryz.prog 71, n ≤ reachBytes := fun i hil n hn => by
      refine hw n ?_
      rw [hxx]
      simp only [DataW.weights, Tryz.underlying30]
      refine List.mem_cons_of_mem _ (List.mem_append_left _ ?_)
      have key : ∀ (l : List Nat), i ∈ l → n ∈ DataW.weightsAll Tryz.prog 71 (l.map D) := by
        intro l
        induction l with
        | nil => intro h; cases h
        | cons y l ih =>
          intro h
          rw [List.map_cons, DataW.weightsAll]
          rcases List.mem_cons.1 h with rfl | h
          · exact List.mem_append_left _ hn
          · exact List.mem_append_right _ (ih h)
      exact key _ (List.mem_range.2 hil)
    obtain ⟨L, hL1, hL2⟩ := list_of (α := Nod) (Q := fun i r => (w.cell? (a.add (i * 5 + 0)) = some (.int .i64 r.kind) ∧ w.cell? (a.add (i * 5 + 1)) = some (.int .i64 r.server) ∧ w.cell? (a.add (i * 5 + 2)) = some (.int .i64 r.need) ∧ (∃ a3 n3 c3, w.cell? (a.add (i * 5 + 3)) = some (.slice a3 n3 c3) ∧ Rd w a3 n3 c3 (r.weights.map (Value.int .i64))) ∧ ∃ a4 n4 c4, w.cell? (a.add (i * 5 + 4)) = some (.slice a4 n4 c4) ∧ Rd w a4 n4 c4 (r.kids.map (Value.int .i64))) ∧ r.weights.length ≤ 17592186044416 ∧ r.kids.length ≤ 17592186044416) len (fun i hil => by
      obtain ⟨ys, n, hD, _, hyl, hf⟩ := hi i (by omega)
      have hwi := hel i hil
      rw [hD] at hwi
      simp only [DataW.weights, Tryz.underlying71] at hwi
      obtain ⟨v0, y0, c0, _, t0⟩ := hf 0 _ rfl
      obtain ⟨v1, y1, c1, _, t1⟩ := hf 1 _ rfl
      obtain ⟨v2, y2, c2, _, t2⟩ := hf 2 _ rfl
      obtain ⟨v3, y3, c3, hy3, t3⟩ := hf 3 _ rfl
      obtain ⟨v4, y4, c4, hy4, t4⟩ := hf 4 _ rfl
      obtain ⟨z0, e0, _, _⟩ := DataW.trod_int Tryz.underlying3 t0
      obtain ⟨z1, e1, _, _⟩ := DataW.trod_int Tryz.underlying3 t1
      obtain ⟨z2, e2, _, _⟩ := DataW.trod_int Tryz.underlying3 t2
      obtain ⟨a3, n3, k3, z3, e3, i3, b3⟩ := ints64_rch t3 (fun n hn => hwi n (DataW.weights_mem_each (j := 3) rfl (by rw [List.getElem?_map, hy3]; rfl) n hn))
      obtain ⟨a4, n4, k4, z4, e4, i4, b4⟩ := ints64_rch t4 (fun n hn => hwi n (DataW.weights_mem_each (j := 4) rfl (by rw [List.getElem?_map, hy4]; rfl) n hn))
      cases e0; cases e1; cases e2; cases e3; cases e4
      exact ⟨⟨z0, z1, z2, z3, z4⟩, ⟨c0, c1, c2, ⟨a3, n3, k3, c3, i3.rd⟩, a4, n4, k4, c4, i4.rd⟩, b3, b4⟩)
    refine ⟨some a, len, cap, L, hcs, ⟨hL1, hl, hm, fun h => (by cases h), fun hn0 => ?_⟩, fun nd hnd => ?_⟩
    · obtain ⟨x0, hx0⟩ : ∃ x, L[0]? = some x := ⟨_, List.getElem?_eq_getElem (by omega)⟩
      have h0 := (hL2 0 x0 hx0).1.1
      rw [Nat.zero_mul, Nat.zero_add] at h0
      have ha := addr_plain h0
      refine ⟨a.block, a.off, by rw [← ha], fun i p hp => ?_⟩
      obtain ⟨⟨d0, d1, d2, ⟨a3, n3, c3, d3, r3⟩, a4, n4, c4, d4, r4⟩, _⟩ := hL2 i p hp
      rw [ha, Addr.add_lit] at d0 d1 d2 d3 d4
      exact ⟨d0, by rw [Nat.add_assoc]; exact d1, by rw [Nat.add_assoc]; exact d2, ⟨a3, n3, c3, by rw [Nat.add_assoc]; exact d3, r3⟩, a4, n4, c4, by rw [Nat.add_assoc]; exact d4, r4⟩
    · obtain ⟨i, hi⟩ := List.mem_iff_getElem?.1 hnd
      exact (hL2 i nd hi).2
set_option maxRecDepth 100000 in
theorem open_xprS {H : Type} {enc : TypeId × Value → H} {W : World} {base b0 : Nat} {held : Bool} {v : Value} {d : DataW H} {p : List MemPlace} {r : Reach}
    (hv : Value.okWide Tryz.prog W r b0 32 v) (h : DataW.Trod enc Tryz.prog W base (fun _ => true) held 32 v d p) (hw : ∀ n ∈ d.weights Tryz.prog 32, n ≤ reachBytes) : ∃ x, IsXpr W v x ∧ XprRch x := by
  obtain ⟨cs, rfl, hsz⟩ := okWide_struct Tryz.underlying32 hv
  rw [show Tryz.prog.cellsOf 32 = 2 by kernel_rfl] at hsz
  obtain ⟨l⟩ := cs
  obtain ⟨c0, c1, rfl⟩ := list2 l hsz
  obtain ⟨fuel, hf⟩ := h
  obtain ⟨xs, n, _, hdd, _, _, hfl⟩ := DataW.trod_struct Tryz.underlying32 hf
  have k8 : Tryz.prog.cellsOf 30 = 1 := by kernel_rfl
  have ku : Tryz.prog.cellsOf 3 = 1 := by kernel_rfl
  have h0 : DataW.trod enc Tryz.prog W base (fun _ => true) held n 30 (List.take (Tryz.prog.cellsOf 30) [c0, c1]) = xs[0]? := hfl 0 _ rfl
  have h1 : DataW.trod enc Tryz.prog W base (fun _ => true) held n 3 (List.take (Tryz.prog.cellsOf 3) [c1]) = xs[1]? := hfl 1 _ rfl
  rw [k8] at h0
  rw [ku] at h1
  have hxl : xs.length = 2 := by assumption
  have hx0 : xs[0]? = some (xs[0]'(by omega)) := List.getElem?_eq_getElem (by omega)
  rw [List.getElem?_eq_getElem (by omega)] at h0 h1
  simp only [Prod.mk.injEq] at hdd
  obtain ⟨rfl, _⟩ := hdd
  simp only [DataW.weights, Tryz.underlying32] at hw
  obtain ⟨a, n1, cc, ns, e0, i0, b0⟩ := open_nodesS h0 (fun n hn => hw n (DataW.weights_mem_each (j := 0) rfl (by rw [List.getElem?_map, hx0]; rfl) n hn))
  obtain ⟨z, e1, _, _⟩ := DataW.trod_int Tryz.underlying3 h1
  simp at e0 e1
  subst e0 e1
  exact ⟨⟨ns, z⟩, ⟨a, n1, cc, rfl, i0⟩, fun k nd hk => b0 nd (List.mem_of_getElem? hk)⟩
end Go.Proofs.YtcojmmhclklpoaaGreatDoor
namespace Go.Proofs.YtcojmmhclklpoaaGreatDoor
open Go.RowKit Go.Shelf

/-- kids and weights of the first nodes -/
def cntN (nodes : List Nod) : Nat → Nat
  | 0 => 0
  | k + 1 => cntN nodes k + ((nodes.getD k nod0).kids.length + (nodes.getD k nod0).weights.length)
def fewX (x : Xpr) : Bool := decide (x.nodes.length ≤ 70) && decide (cntN x.nodes x.nodes.length ≤ 400)
theorem cntN_bd {x : Xpr} (h : XprRch x) : ∀ k, k ≤ x.nodes.length → cntN x.nodes k ≤ k * 35184372088832 := by
  intro k
  induction k with
  | zero => intro _; simp [cntN]
  | succ k ih =>
    intro hk
    have h1 := ih (by omega)
    have h2 := h k (x.nodes[k]'(by omega)) (List.getElem?_eq_getElem (by omega))
    have e : x.nodes.getD k nod0 = x.nodes[k]'(by omega) := by rw [List.getD_eq_getElem?_getD, List.getElem?_eq_getElem (by omega)]; rfl
    rw [cntN, e]
    omega
/-- the sum as the code reckons it: it may wrap beyond 70 nodes -/
def cntW (nodes : List Nod) : Nat → Int
  | 0 => 0
  | k + 1 => wrap64 (wrap64 (cntW nodes k + ((nodes.getD k nod0).kids.length : Int)) + ((nodes.getD k nod0).weights.length : Int))
theorem cntW_eq {x : Xpr} (h : XprRch x) : ∀ k, k ≤ x.nodes.length → k ≤ 70 → cntW x.nodes k = (cntN x.nodes k : Int) := by
  intro k
  induction k with
  | zero => intro _ _; rfl
  | succ k ih =>
    intro hk h70
    have h1 := ih (by omega) (by omega)
    have h3 := cntN_bd h (k + 1) hk
    rw [cntN] at h3
    rw [cntW, cntN, h1]
    unfold wrap64
    omega

set_option maxRecDepth 100000 in
set_option maxHeartbeats 4000000 in
theorem few10_c (x : Xpr) (hr : XprRch x) (a : Option Addr) (n c : Nat) (w : World) (h : XM w a n c x.nodes) :
    Calls Tryz.prog 26 #[.agg #[.slice a n c, .int .i64 x.root]] w fun e w' => e = .returned (.bool (fewX x)) ∧ Below w.heap.size w w' := by
  obtain ⟨W2, hW2⟩ : ∃ W2, W2 = w.alloc (.cells #[.slice a n c, .int .i64 x.root] 32) := ⟨_, rfl⟩
  have hb2 : Below w.heap.size w W2 := by rw [hW2]; exact (Below.refl _ w).alloc (Nat.le_refl _) _
  have g2 : W2.heap[w.heap.size]? = some (.cells #[.slice a n c, .int .i64 x.root] 32 (0, 0)) := by rw [hW2]; exact heap_alloc_new _ _
  have HX := Lib.hid (h.below hb2)
  have HR := Lib.hid hr
  have HN := Lib.hid h.len
  have hle := h.le
  have hm := h.max
  unfold maxLen at hm
  have HB2 := Lib.hid hb2
  have HG2 := Lib.hid g2
  clear h hb2 hr g2
  go_enter Tryz.func26, Tryz.ntmps26
  go_wp2_with fail
  rw [← hW2]
  clear hW2
  go_loopw [3, 4] (fun v i wr => ∃ k : Nat, k ≤ n ∧ i = .int .i64 k ∧ v = .int .i64 (cntW x.nodes k) ∧ Below W2.heap.size W2 wr) (fun _ i _ => n - (intOf i).toNat)
  case atStart => exact ⟨0, Nat.zero_le _, rfl, rfl, Below.refl _ _⟩
  case round =>
    obtain ⟨k, hk, rfl, rfl, hb⟩ := hrel
    obtain ⟨⟨q0, q1⟩, _⟩ := open2 (heap_below hb HG2.out)
    by_cases hlt : k < n
    · obtain ⟨nd, hnd⟩ : ∃ nd, x.nodes[k]? = some nd := ⟨_, List.getElem?_eq_getElem (by have := HN.out; omega)⟩
      obtain ⟨b, o, ha, hat⟩ := (HX.out.below hb).at' (by omega)
      have hM := hat k nd hnd
      obtain ⟨a3, n3, c3, m3, r3⟩ := hM.ws
      obtain ⟨a4, n4, c4, m4, r4⟩ := hM.ks
      have h3 : nd.weights.length = n3 := by have := r3.len; simp at this; omega
      have h4 : nd.kids.length = n4 := by have := r4.len; simp at this; omega
      have hst : cntW x.nodes (k + 1) = wrap64 (wrap64 (cntW x.nodes k + (n4 : Int)) + (n3 : Int)) := by
        rw [cntW, show x.nodes.getD k nod0 = nd by rw [List.getD_eq_getElem?_getD, hnd]; rfl, h3, h4]
      obtain ⟨S, hS⟩ : ∃ S, cntW x.nodes k = S := ⟨_, rfl⟩
      rw [hS] at hst ⊢
      have HST := Lib.hid hst
      have HB := Lib.hid hb
      have q0d : wr.drew.cell? ⟨w.heap.size, 0, none⟩ = some (.slice a n c) := q0
      subst ha
      have m3d : wr.drew.cell? ⟨b, o + k * 5 + 3, none⟩ = some (.slice a3 n3 c3) := m3
      have m4d : wr.drew.cell? ⟨b, o + k * 5 + 4, none⟩ = some (.slice a4 n4 c4) := m4
      clear hM hat hnd hS r3 r4 h3 h4 hst hb
      go_wp2_with fail
      go_region
      all_goals
        go_wp2_with fail
        go_roundw
      case rel => exact ⟨k + 1, by omega, by go_num, by rw [HST.out], below_drew HB.out⟩
      case measure => simp [intOf]; omega
    · obtain rfl : k = n := by omega
      have HV : Hid (fewX x = (decide (k ≤ 70) && decide (cntN x.nodes k ≤ 400))) := Lib.hid (by unfold fewX; rw [HN.out])
      have HE : Hid (k ≤ 70 → cntW x.nodes k = (cntN x.nodes k : Int)) := Lib.hid (fun h => cntW_eq HR.out k (by rw [HN.out]; exact Nat.le_refl _) h)
      obtain ⟨S, hS⟩ : ∃ S, cntW x.nodes k = S := ⟨_, rfl⟩
      rw [hS] at HE ⊢
      by_cases h70 : k ≤ 70
      · have e := HE.out h70
        have d1 : decide ((k : Int) ≤ 70) = true := decide_eq_true (by omega)
        by_cases h4 : S ≤ 400
        · have d2 : decide (S ≤ 400) = true := decide_eq_true h4
          have HF : Hid (fewX x = true) := Lib.hid (by rw [HV.out, decide_eq_true h70, decide_eq_true (show cntN x.nodes k ≤ 400 by omega)]; rfl)
          clear e hS h4 h70
          go_wp2_with fail
          go_ret
          exact ⟨ret_bool HF.out.symm, Below.next HB2.out hb⟩
        · have d2 : decide (S ≤ 400) = false := decide_eq_false h4
          have HF : Hid (fewX x = false) := Lib.hid (by rw [HV.out, decide_eq_false (show ¬ cntN x.nodes k ≤ 400 by omega)]; simp)
          clear e hS h4 h70
          go_wp2_with fail
          go_ret
          exact ⟨ret_bool HF.out.symm, Below.next HB2.out hb⟩
      · have d1 : decide ((k : Int) ≤ 70) = false := decide_eq_false (by omega)
        have HF : Hid (fewX x = false) := Lib.hid (by rw [HV.out, decide_eq_false h70]; rfl)
        clear hS h70
        go_wp2_with fail
        go_ret
        exact ⟨ret_bool HF.out.symm, Below.next HB2.out hb⟩
end Go.Proofs.YtcojmmhclklpoaaGreatDoor
namespace Go.Proofs.YtcojmmhclklpoaaGreatDoor
open Go.RowKit Go.Shelf

theorem cntN_ge {x : Xpr} : ∀ k, k ≤ x.nodes.length → ∀ (j : Nat) nd, j < k → x.nodes[j]? = some nd → nd.kids.length + nd.weights.length ≤ cntN x.nodes k
  | 0, _, j, _, hj, _ => by omega
  | k + 1, hk, j, nd, hj, hn => by
    unfold cntN
    by_cases e : j = k
    · subst e
      rw [List.getD_eq_getElem?_getD, hn]
      simp only [Option.getD_some]
      omega
    · have := cntN_ge k (by omega) j nd (by omega) hn
      omega
theorem few_of {x : Xpr} (h : fewX x = true) : XprFew x := fun k nd hk => by
  unfold fewX at h
  simp only [Bool.and_eq_true, decide_eq_true_eq] at h
  have := cntN_ge x.nodes.length (Nat.le_refl _) k nd (List.getElem?_eq_some_iff.1 hk).1 hk
  omega
theorem sum_of {x : Xpr} (h : XprRch x) : XprSum x := fun k nd hk => by have := h k nd hk; omega
/-- what is written is read back -/
theorem par_txt {T : ET} (h : T.ok) (hz : T.sz ≤ 60) : parX T.txt = (T.xpr, 0) := by
  have hl := txt_60 h hz
  have h1 := pE_txt (full := fl60) numX_rd (fun n hn => by unfold fl60; simp; omega) T h (T.txt.length + 1) [] [] (by omega) nonD_nil (by simp; omega)
  rw [List.append_nil, List.nil_append] at h1
  have h2 := par_ok (by omega) h1 ⟨rfl, by
    have : T.xpr = ⟨T.post 0, (((T.post 0).length - 1 : Nat) : Int)⟩ := by rw [ET.post_len]; rfl
    have hx := xpr_ok h hz
    rw [this] at hx
    exact hx⟩
  rw [h2]
  have : T.xpr = ⟨T.post 0, (((T.post 0).length - 1 : Nat) : Int)⟩ := by rw [ET.post_len]; rfl
  rw [this]
  rfl
theorem fmt_err (x : Xpr) : (fmtX x).2 = (tidS x).2 := by
  unfold fmtX
  split
  · rfl
  · rename_i h; exact (Classical.not_not.1 h).symm
theorem fmt_back {x : Xpr} (h : (tidS x).2 = 0) : parX (fmtX x).1 = ((tidS x).1, 0) := by
  obtain ⟨hx, hz, h1⟩ := tidS_ok h
  unfold fmtX
  rw [if_neg (by rw [h]; simp), h1]
  exact par_txt (treX_ok (xprE_ok hx)) hz

set_option maxRecDepth 100000 in
set_option maxHeartbeats 8000000 in
theorem texts_w (v : Value) (x : Xpr) (w : World) (ht : HasTab w) (hp : HasPow w) (hr : HasRng w) (hy : HasSyn w) (w0 : IsXpr w v x ∧ XprRch x) :
    Calls Tryz.prog 7 #[v] w fun e w' => e = .returned (.bool true) ∧ Below w.heap.size w w' := by
  have HA := Lib.hid (fun u (hb : Below w.heap.size w u) => awake10_c u (ht.below hb) (hp.below hb) (hr.below hb) (hy.below hb))
  obtain ⟨a1, n1, c1, rfl, hx1⟩ := w0.1.val
  have HF1 := Lib.hid (fun u (hb : Below w.heap.size w u) => few10_c x w0.2 a1 n1 c1 u (hx1.below hb))
  have HT := Lib.hid (fun u (hb : Below w.heap.size w u) => tidy_c x a1 n1 c1 u (hx1.below hb))
  have HRT := Lib.hid (fun (hf : fewX x = true) u (hb : Below w.heap.size w u) => rtidy_c x (sum_of w0.2) (few_of hf) a1 n1 c1 u (hx1.below hb))
  have HFM := Lib.hid (fun u (hb : Below w.heap.size w u) => formatx_c x a1 n1 c1 u (hp.below hb) (hx1.below hb))
  have HRF := Lib.hid (fun (hf : fewX x = true) u (hb : Below w.heap.size w u) => rformat_c x (sum_of w0.2) (few_of hf) a1 n1 c1 u (hp.below hb) (hx1.below hb))
  have HBK : Hid ((tidS x).2 = 0 → parX (fmtX x).1 = ((tidS x).1, 0)) := Lib.hid fmt_back
  have hfe := fmt_err x
  have HPR := Lib.hid (fun s u (hb : Below w.heap.size w u) => parse_c s u (hp.below hb) (hr.below hb) (hy.below hb))
  obtain ⟨⟨X, E0⟩, hTD⟩ : ∃ Q, tidS x = Q := ⟨_, rfl⟩
  obtain ⟨⟨S, E⟩, hFX⟩ : ∃ Q, fmtX x = Q := ⟨_, rfl⟩
  rw [hTD] at HT HRT HBK hfe
  rw [hFX] at HFM HRF HBK hfe
  simp only at HT HRT HBK hfe HFM HRF
  subst hfe
  obtain ⟨SB, hSB⟩ : ∃ SB, mkB S = SB := ⟨_, rfl⟩
  have HPS := Lib.hid (HPR.out S)
  rw [hSB] at HFM HRF HPS
  have HSM := Lib.hid (fun a n c a2 n2 c2 u h h2 => same10_c X a n c a2 n2 c2 u h h2)
  obtain ⟨F1, hF1⟩ : ∃ F, fewX x = F := ⟨_, rfl⟩
  rw [hF1] at HF1 HRT HRF
  obtain ⟨NL, hNL⟩ : ∃ NL, X.nodes.length = NL := ⟨_, rfl⟩
  obtain ⟨RR, hRR⟩ : ∃ RR, X.root = RR := ⟨_, rfl⟩
  unfold RetX at HT HRT HPS
  rw [hNL, hRR] at HT HRT
  rw [hRR] at HSM
  obtain ⟨W2, hW2⟩ : ∃ W2, W2 = w.alloc (.cells #[.slice a1 n1 c1, .int .i64 x.root] 32) := ⟨_, rfl⟩
  have hb2 : Below w.heap.size w W2 := by rw [hW2]; exact (Below.refl _ _).alloc (Nat.le_refl _) _
  have g2 : W2.heap[w.heap.size]? = some (.cells #[.slice a1 n1 c1, .int .i64 x.root] 32 (0, 0)) := by rw [hW2]; exact heap_alloc_new _ _
  have HB2 := Lib.hid hb2
  have HK := Lib.hid (fun (u : World) (hu : Below W2.heap.size W2 u) => (open2 (heap_below hu g2)).1)
  have HNL := Lib.hid hNL
  have HRR := Lib.hid hRR
  have hee : (E == E) = true := by simp
  have hen : (E != E) = false := by rw [bne_eq_false_iff_eq]
  clear ht hp hr hy w0 hx1 hb2 g2 hTD hFX hSB hF1 hNL hRR HPR
  go_enter Tryz.func7, Tryz.ntmps7
  go_wp2_with fail
  rw [← hW2]
  with_reducible refine (HA.out W2 HB2.out).mono ?_
  rintro e w1 ⟨rfl, b1⟩
  obtain ⟨k0, k1⟩ := HK.out w1 b1
  have HB1 := Lib.hid (Below.next HB2.out b1)
  have HK1 := Lib.hid b1
  clear b1 hW2
  go_wp2_with fail
  with_reducible refine (HF1.out w1 HB1.out).mono ?_
  rintro e w3 ⟨rfl, b3⟩
  have HB3 := Lib.hid (Below.next HB1.out b3)
  have HK3 := Lib.hid (Below.next HK1.out b3)
  obtain ⟨k0, k1⟩ := HK.out w3 HK3.out
  clear b3
  cases F1
  · go_wp2_with fail
    with_reducible refine (HA.out w3 HB3.out).mono ?_
    rintro e w4 ⟨rfl, b4⟩
    have HB4 := Lib.hid (Below.next HB3.out b4)
    clear b4
    go_wp2_with fail
    go_ret
    exact ⟨rfl, HB4.out⟩
  go_wp2_with fail
  with_reducible refine (HT.out w3 HB3.out).mono ?_
  rintro e w4 ⟨a4, c4, rfl, x4, b4⟩
  obtain ⟨W5, hW5⟩ : ∃ W5, W5 = w4.alloc (.cells #[.slice a4 NL c4, .int .i64 RR] 32) := ⟨_, rfl⟩
  have b5 : Below w4.heap.size w4 W5 := by rw [hW5]; exact (Below.refl _ _).alloc (Nat.le_refl _) _
  have g5 : W5.heap[w4.heap.size]? = some (.cells #[.slice a4 NL c4, .int .i64 RR] 32 (0, 0)) := by rw [hW5]; exact heap_alloc_new _ _
  have HB5 := Lib.hid (Below.next HB3.out (Below.next b4 b5))
  have HK5 := Lib.hid (Below.next HK3.out (Below.next b4 b5))
  have HX5 := Lib.hid (x4.xm.below b5)
  have HKA := Lib.hid (fun (u : World) (hu : Below W5.heap.size W5 u) => (open2 (heap_below hu g5)).1)
  obtain ⟨k0, k1⟩ := HK.out W5 HK5.out
  rw [hW5] at k0 k1
  clear b4 b5 g5 x4 HT
  go_wp2_with fail
  rw [← hW5]
  clear hW5 k0 k1
  with_reducible refine (HRT.out trivial W5 HB5.out).mono ?_
  rintro e w6 ⟨a6, c6, rfl, x6, b6⟩
  obtain ⟨W7, hW7⟩ : ∃ W7, W7 = w6.alloc (.cells #[.slice a6 NL c6, .int .i64 RR] 32) := ⟨_, rfl⟩
  have b7 : Below w6.heap.size w6 W7 := by rw [hW7]; exact (Below.refl _ _).alloc (Nat.le_refl _) _
  have g7 : W7.heap[w6.heap.size]? = some (.cells #[.slice a6 NL c6, .int .i64 RR] 32 (0, 0)) := by rw [hW7]; exact heap_alloc_new _ _
  have b67 := Below.next b6 b7
  have HB7 := Lib.hid (Below.next HB5.out b67)
  have HK7 := Lib.hid (Below.next HK5.out b67)
  have HX7 := Lib.hid (HX5.out.below b67)
  have HY7 := Lib.hid (x6.xm.below b7)
  have HKX := Lib.hid (fun (u : World) (hu : Below W7.heap.size W7 u) => HKA.out u (Below.next b67 hu))
  have HKY := Lib.hid (fun (u : World) (hu : Below W7.heap.size W7 u) => (open2 (heap_below hu g7)).1)
  obtain ⟨k0, k1⟩ := HK.out W7 HK7.out
  rw [hW7] at k0 k1
  clear b6 b7 b67 g7 x6 HRT HKA HX5
  go_wp2_with fail
  rw [← hW7]
  clear hW7 k0 k1
  with_reducible refine (HFM.out W7 HB7.out).mono ?_
  rintro e w8 ⟨rfl, b8⟩
  have HB8 := Lib.hid (Below.next HB7.out b8)
  have HK8 := Lib.hid b8
  obtain ⟨k0, k1⟩ := HK.out w8 (Below.next HK7.out b8)
  clear b8
  go_wp2_with fail
  clear k0 k1
  with_reducible refine (HRF.out trivial w8 HB8.out).mono ?_
  rintro e w9 ⟨rfl, b9⟩
  have HB9 := Lib.hid (Below.next HB8.out b9)
  have HK9 := Lib.hid (Below.next HK8.out b9)
  have HS9 := Lib.hid (HSM.out a4 NL c4 a6 NL c6 w9 (HX7.out.below HK9.out) (HY7.out.below HK9.out))
  obtain ⟨k0, k1⟩ := HKX.out w9 HK9.out
  obtain ⟨l0, l1⟩ := HKY.out w9 HK9.out
  clear b9
  go_wp2_with fail
  clear k0 k1 l0 l1
  with_reducible refine HS9.out.mono ?_
  rintro e w10 ⟨rfl, b10⟩
  have HB10 := Lib.hid (Below.next HB9.out b10)
  have HK10 := Lib.hid (Below.next HK9.out b10)
  have HS10 := Lib.hid (HSM.out a4 NL c4 a6 NL c6 w10 (HX7.out.below HK10.out) (HY7.out.below HK10.out))
  obtain ⟨k0, k1⟩ := HKX.out w10 HK10.out
  obtain ⟨l0, l1⟩ := HKY.out w10 HK10.out
  clear b10 HS9
  by_cases hE : E = 0
  · subst hE
    have hpb := HBK.out rfl
    rw [hpb] at HPS
    simp only [HNL.out, HRR.out] at HPS
    clear hpb hee hen
    go_wp2_with fail
    clear k0 k1 l0 l1
    with_reducible refine (HPS.out w10 HB10.out).mono ?_
    rintro e w11 ⟨a11, c11, rfl, x11, b11⟩
    obtain ⟨W12, hW12⟩ : ∃ W12, W12 = w11.alloc (.cells #[.slice a11 NL c11, .int .i64 RR] 32) := ⟨_, rfl⟩
    have b12 : Below w11.heap.size w11 W12 := by rw [hW12]; exact (Below.refl _ _).alloc (Nat.le_refl _) _
    have b1112 := Below.next b11 b12
    have HK12 := Lib.hid (Below.next HK10.out b1112)
    have HB12 := Lib.hid (Below.next HB10.out b1112)
    have HS12 := Lib.hid (HSM.out a11 NL c11 a4 NL c4 W12 (x11.xm.below b12) (HX7.out.below HK12.out))
    obtain ⟨k0, k1⟩ := HKX.out W12 HK12.out
    rw [hW12] at k0 k1
    clear b11 b12 b1112 x11 HPS
    go_wp2_with fail
    rw [← hW12]
    with_reducible refine HS12.out.mono ?_
    rintro e w13 ⟨rfl, b13⟩
    have HB13 := Lib.hid (Below.next HB12.out b13)
    clear b13 k0 k1 hW12
    go_wp2_with fail
    go_ret
    exact ⟨rfl, HB13.out⟩
  · have hne : (E != 0) = true := by simpa using hE
    have hnz : (E == 0) = false := by simpa using hE
    go_wp2_with fail
    clear k0 k1 l0 l1
    with_reducible refine HS10.out.mono ?_
    rintro e w11 ⟨rfl, b11⟩
    have HB11 := Lib.hid (Below.next HB10.out b11)
    clear b11
    go_wp2_with fail
    go_ret
    exact ⟨rfl, HB11.out⟩
end Go.Proofs.YtcojmmhclklpoaaGreatDoor
namespace Go.Proofs.YtcojmmhclklpoaaGreatDoor

def fl61 (n : Nat) : Bool := decide (60 < n)
theorem nRg_len : ∀ (l : Byts) (n k : Nat), (nRg l n k).2.2.length + (nRg l n k).2.1 = l.length + k ∧ k ≤ (nRg l n k).2.1
  | [], n, k => by simp [nRg]
  | c :: r, n, k => by
    rw [nRg]
    split
    · have := nRg_len r (n * 10 + (c.toNat - 48)) (k + 1)
      rw [List.length_cons]; omega
    · simp
theorem numR_len {s r : Byts} {v : Nat} (h : numR s = some (v, r)) : r.length + 1 ≤ s.length := by
  unfold numR at h
  have h1 := nRg_len s 0 0
  split at h
  · cases h
  · simp only [Option.some.injEq, Prod.mk.injEq] at h
    obtain ⟨_, rfl⟩ := h
    omega
theorem numR_le {s r : Byts} {v : Nat} (h : numR s = some (v, r)) : v ≤ 100000 := by
  unfold numR at h
  split at h
  · cases h
  · simp only [Option.some.injEq, Prod.mk.injEq] at h
    obtain ⟨rfl, _⟩ := h
    omega
/-- what Parse of the reference answers -/
def parR (s : Byts) : Xpr × Int := if 4096 < s.length then (⟨[], 0⟩, 2) else
  match pE numR fl61 (s.length + 1) s [] with
  | none => (⟨[], 0⟩, 2)
  | some q => if (q.1 = [] ∧ xprE ⟨q.2, ((q.2.length - 1 : Nat) : Int)⟩ = 0) ∧ fmtX ⟨q.2, ((q.2.length - 1 : Nat) : Int)⟩ = (s, 0) then (⟨q.2, ((q.2.length - 1 : Nat) : Int)⟩, 0) else (⟨[], 0⟩, 2)
theorem parR_none {s : Byts} (hl : ¬ 4096 < s.length) (h : pE numR fl61 (s.length + 1) s [] = none) : parR s = (⟨[], 0⟩, 2) := by
  unfold parR; rw [if_neg hl, h]
theorem parR_bad {s : Byts} (hl : ¬ 4096 < s.length) {q : Byts × List Nod} (h : pE numR fl61 (s.length + 1) s [] = some q) (hb : ¬ ((q.1 = [] ∧ xprE ⟨q.2, ((q.2.length - 1 : Nat) : Int)⟩ = 0) ∧ fmtX ⟨q.2, ((q.2.length - 1 : Nat) : Int)⟩ = (s, 0))) : parR s = (⟨[], 0⟩, 2) := by
  unfold parR; rw [if_neg hl, h]; exact if_neg hb
theorem parR_ok {s : Byts} (hl : ¬ 4096 < s.length) {q : Byts × List Nod} (h : pE numR fl61 (s.length + 1) s [] = some q) (hb : (q.1 = [] ∧ xprE ⟨q.2, ((q.2.length - 1 : Nat) : Int)⟩ = 0) ∧ fmtX ⟨q.2, ((q.2.length - 1 : Nat) : Int)⟩ = (s, 0)) : parR s = (⟨q.2, ((q.2.length - 1 : Nat) : Int)⟩, 0) := by
  unfold parR; rw [if_neg hl, h]; exact if_pos hb
/-- a reader's nodes have no more kids than the text has bytes -/
theorem pE_few (num : Byts → Option (Nat × Byts)) (full : Nat → Bool) (hn : ∀ s r v, num s = some (v, r) → r.length + 1 ≤ s.length) (M : Nat) : ∀ f, (∀ s ns q, pE num full f s ns = some q → s.length ≤ M → (∀ nd ∈ ns, nd.kids.length ≤ M) → ∀ nd ∈ q.2, nd.kids.length ≤ M) ∧ (∀ s ns v ws ks q, pL num full f s ns v ws ks = some q → ks.length + s.length ≤ M → (∀ nd ∈ ns, nd.kids.length ≤ M) → ∀ nd ∈ q.2, nd.kids.length ≤ M) := by
  intro f
  induction f with
  | zero => exact ⟨fun s ns q h => by simp [pE] at h, fun s ns v ws ks q h => by simp [pL] at h⟩
  | succ f ih =>
    refine ⟨fun s ns q h hM hns => ?_, fun s ns v ws ks q h hM hns => ?_⟩
    · rw [pE] at h
      split at h
      · rename_i r hr
        split at h
        · cases h
        · rename_i p hp
          cases h
          intro nd hnd
          rcases List.mem_append.1 hnd with hnd | hnd
          · exact hns nd hnd
          · rw [List.mem_singleton] at hnd; subst hnd; simp
      · split at h
        · cases h
        · rename_i p hp
          split at h
          · cases h
          · rename_i r hr
            have h1 := hn _ _ _ hp
            have h2 := strip_len hr
            exact ih.2 _ _ _ _ _ _ h (by simp; omega) hns
    · rw [pL] at h
      split at h
      · rename_i r hr
        cases h
        intro nd hnd
        rcases List.mem_append.1 hnd with hnd | hnd
        · exact hns nd hnd
        · rw [List.mem_singleton] at hnd; subst hnd; show ks.length ≤ M; omega
      · split at h
        · cases h
        · rename_i s1 hs1
          have hs : s1.length ≤ s.length := by
            split at hs1
            · cases hs1; exact Nat.le_refl _
            · have := strip_len hs1; omega
          split at h
          · cases h
          · split at h
            · cases h
            · rename_i q1 hq
              have h1 := (pEL_len num full hn f).1 _ _ _ hq
              have h9 := ih.1 _ _ _ hq (by omega) hns
              split at h
              · exact ih.2 _ _ _ _ _ _ h (by simp; omega) h9
              · rename_i r1 hr1
                have h2 := strip_len hr1
                split at h
                · cases h
                · rename_i p hp
                  have h3 := hn _ _ _ hp
                  exact ih.2 _ _ _ _ _ _ h (by simp; omega) h9
theorem xpr_tree (T : ET) : (⟨T.post 0, (((T.post 0).length - 1 : Nat) : Int)⟩ : Xpr) = T.xpr := by rw [ET.post_len]; rfl
/-- the reference reads what is written -/
theorem parR_txt {T : ET} (h : T.ok) (hz : T.sz ≤ 60) : parR T.txt = (T.xpr, 0) := by
  have hl := txt_60 h hz
  have h1 := pE_txt (full := fl61) numR_rd (fun n hn => by unfold fl61; simp; omega) T h (T.txt.length + 1) [] [] (by omega) nonD_nil (by simp; omega)
  rw [List.append_nil, List.nil_append] at h1
  have hx := xpr_ok h hz
  have hf : fmtX T.xpr = (T.txt, 0) := by
    have ht : tidS T.xpr = (T.xpr, 0) := by
      unfold tidS
      rw [if_neg (by rw [hx]; simp), treX_xpr, if_neg (by omega)]
    unfold fmtX
    rw [ht, if_neg (by simp), treX_xpr]
  rw [parR_ok (by omega) h1 ⟨⟨rfl, by
    show xprE ⟨T.post 0, (((T.post 0).length - 1 : Nat) : Int)⟩ = 0
    rw [xpr_tree]; exact hx⟩, by
    show fmtX ⟨T.post 0, (((T.post 0).length - 1 : Nat) : Int)⟩ = _
    rw [xpr_tree]; exact hf⟩]
  show ((⟨T.post 0, (((T.post 0).length - 1 : Nat) : Int)⟩ : Xpr), (0 : Int)) = _
  rw [xpr_tree]
/-- what the program accepts is the text of a valid tree -/
theorem parX_back {s : Byts} (h : (parX s).2 = 0) : ∃ T : ET, s = T.txt ∧ T.ok ∧ T.sz ≤ 60 := by
  unfold parX at h
  split at h
  · cases h
  · split at h
    · cases h
    · rename_i q hq
      split at h
      · rename_i hc
        obtain ⟨r, ns⟩ := q
        simp only at hc
        obtain ⟨rfl, hx⟩ := hc
        have hok := xprE_ok hx
        have har : ∀ nd ∈ ns, arC nd := fun nd hnd => by
          obtain ⟨k, hk⟩ := List.getElem?_of_mem hnd
          exact (hok.node k nd hk).arity
        obtain ⟨T, h1, h2⟩ := (pE_back numX_ex _).1 _ _ _ _ hq har
        rw [List.append_nil] at h1
        simp only [List.nil_append, List.length_nil] at h2
        subst h2
        rw [xpr_tree] at hx
        refine ⟨T, h1, ?_, ?_⟩
        · have := treX_ok (xprE_ok hx)
          rwa [treX_xpr] at this
        · have := (xprE_ok hx).most
          have e : T.xpr.nodes.length = T.sz := T.post_len 0
          omega
      · cases h
theorem parR_back {s : Byts} (h : (parR s).2 = 0) : ∃ T : ET, s = T.txt ∧ T.ok ∧ T.sz ≤ 60 := by
  unfold parR at h
  split at h
  · cases h
  · split at h
    · cases h
    · rename_i q hq
      split at h
      · rename_i hc
        have h2 := hc.2
        have he := fmt_err ⟨q.2, ((q.2.length - 1 : Nat) : Int)⟩
        rw [h2] at he
        obtain ⟨hx, hz, h1⟩ := tidS_ok he.symm
        refine ⟨_, ?_, treX_ok (xprE_ok hx), hz⟩
        unfold fmtX at h2
        rw [if_neg (by rw [← he]; simp)] at h2
        exact (congrArg Prod.fst h2).symm
      · cases h
theorem par_two (s : Byts) : (parX s).2 = 0 ∨ parX s = (⟨[], 0⟩, 2) := by
  unfold parX
  split
  · exact .inr rfl
  · split
    · exact .inr rfl
    · split
      · exact .inl rfl
      · exact .inr rfl
theorem parR_two (s : Byts) : (parR s).2 = 0 ∨ parR s = (⟨[], 0⟩, 2) := by
  unfold parR
  split
  · exact .inr rfl
  · split
    · exact .inr rfl
    · split
      · exact .inl rfl
      · exact .inr rfl
theorem par_eq (s : Byts) : parR s = parX s := by
  rcases par_two s with h | h
  · obtain ⟨T, rfl, h1, h2⟩ := parX_back h
    rw [parR_txt h1 h2, par_txt h1 h2]
  · rcases parR_two s with h3 | h3
    · obtain ⟨T, rfl, h1, h2⟩ := parR_back h3
      rw [parR_txt h1 h2, par_txt h1 h2]
    · rw [h, h3]
theorem pR_few {s : Byts} (hs : s.length ≤ 1000) {q : Byts × List Nod} (h : pE numR fl61 (s.length + 1) s [] = some q) (r : Int) : XprFew ⟨q.2, r⟩ := fun k nd hk => by
  have := (pE_few numR fl61 (fun _ _ _ => numR_len) 1000 _).1 _ _ _ h hs (fun nd h => by cases h) nd (List.mem_of_getElem? hk)
  exact this
end Go.Proofs.YtcojmmhclklpoaaGreatDoor
namespace Go.Proofs.YtcojmmhclklpoaaGreatDoor
open Go.RowKit Go.Shelf

theorem strip_take : ∀ (p s : Byts), stripP p s = if s.take p.length = p then some (s.drop p.length) else none
  | [], s => by simp [stripP]
  | c :: p, [] => by simp [stripP]
  | c :: p, d :: s => by
    show (if c = d then stripP p s else none) = _
    rw [strip_take p s, List.length_cons, List.take_succ_cons, List.drop_succ_cons]
    by_cases h : c = d
    · subst h
      rw [if_pos rfl]
      by_cases h2 : s.take p.length = p
      · rw [if_pos h2, if_pos (by rw [h2])]
      · rw [if_neg h2, if_neg (fun e => h2 (List.cons.inj e).2)]
    · rw [if_neg h, if_neg (fun e => h (List.cons.inj e).1.symm)]

set_option maxRecDepth 100000 in
set_option maxHeartbeats 2000000 in
theorem take_c (pre s : Byts) (RB : Nat) (bd : Bool) (v : Value) (r : Int) (w : World) (h : RdB 101 w RB s bd v r) :
    Calls Tryz.prog 97 #[.pointer (some ⟨RB, 0, none⟩), .string (mkB pre)] w fun e w' => e = .returned (.bool (!bd && (stripP pre s).isSome)) ∧ w' = if (!bd && (stripP pre s).isSome) = true then w.setCell ⟨RB, 0, none⟩ (.string (mkB ((stripP pre s).getD s))) else w := by
  obtain ⟨p0, p1, _, _⟩ := h.at
  have z0 := h.frz 0
  clear h
  have hB := mkB_size s
  have hP := mkB_size pre
  cases bd
  · by_cases hl : s.length < pre.length
    · have hS : stripP pre s = none := by
        rw [strip_take, if_neg]
        intro e
        have := congrArg List.length e
        rw [List.length_take] at this; omega
      rw [hS]
      obtain ⟨B, hBe⟩ : ∃ B, mkB s = B := ⟨_, rfl⟩
      obtain ⟨P, hPe⟩ : ∃ P, mkB pre = P := ⟨_, rfl⟩
      rw [hBe] at p0 hB
      rw [hPe] at hP ⊢
      have d1 : (B.size : Int) < (P.size : Int) := by omega
      have d2 : decide (B.size < P.size) = true := decide_eq_true (by omega)
      have d3 : B.size < P.size := by omega
      clear hS hl hBe hPe hB hP
      go_enter Tryz.func97, Tryz.ntmps97
      go_wp2_with fail
      go_ret
      exact ⟨rfl, rfl⟩
    · have hx : (mkB s).extract 0 pre.length = mkB (s.take pre.length) := by rw [mkB_extract]; simp
      have hy : (mkB s).extract pre.length s.length = mkB (s.drop pre.length) := by
        rw [mkB_extract, List.take_of_length_le (by rw [List.length_drop]; exact Nat.le_refl _)]
      have he : s.take pre.length = pre ↔ mkB (s.take pre.length) = mkB pre := ⟨fun e => by rw [e], fun e => congrArg (fun b : ByteArray => b.data.toList) e⟩
      have hS := strip_take pre s
      obtain ⟨B, hBe⟩ : ∃ B, mkB s = B := ⟨_, rfl⟩
      obtain ⟨P, hPe⟩ : ∃ P, mkB pre = P := ⟨_, rfl⟩
      rw [hBe] at p0 hB hx hy
      rw [hPe] at hP he ⊢
      rw [← hP] at hx
      rw [← hP, ← hB] at hy
      have d1 : ¬ ((B.size : Int) < (P.size : Int)) := by omega
      have d2 : decide (B.size < P.size) = false := decide_eq_false (by omega)
      have d3 : P.size ≤ B.size := by omega
      have d4 : (P.size : Int) ≤ (B.size : Int) := by omega
      by_cases h1 : s.take pre.length = pre
      · have e1 : ((B.extract 0 P.size).toList == P.toList) = true := by rw [hx, hP, he.1 h1]; exact bs_same _
        rw [if_pos h1] at hS
        rw [hS]
        simp only [Option.isSome_some, Option.getD_some, Bool.not_false, Bool.and_self, if_true]
        rw [← hP]
        obtain ⟨Y, hY⟩ : ∃ Y, mkB (s.drop P.size) = Y := ⟨_, rfl⟩
        rw [hY] at hy ⊢
        clear hS hl hBe hPe he h1 hx hY hB hP
        go_enter Tryz.func97, Tryz.ntmps97
        go_wp2_with fail
        go_ret
        exact ⟨rfl, rfl⟩
      · have e1 : ((B.extract 0 P.size).toList == P.toList) = false := by rw [hx]; exact bs_diff (fun e => h1 (he.2 (by rw [← hP]; exact e)))
        rw [if_neg h1] at hS
        rw [hS]
        simp only [Option.isSome_none, Bool.and_false, if_false, Bool.false_eq_true]
        clear hS hl hBe hPe he h1 hx hy hB hP
        go_enter Tryz.func97, Tryz.ntmps97
        go_wp2_with fail
        go_ret
        exact ⟨rfl, rfl⟩
  · go_enter Tryz.func97, Tryz.ntmps97
    go_wp2_with fail
    go_ret
    exact ⟨rfl, rfl⟩

theorem nRg_go {s : Byts} {k V : Nat} {c : UInt8} (h : s[k]? = some c) (hd : digB c = true) (hV : V ≤ 100000) : nRg (s.drop k) V k = nRg (s.drop (k + 1)) (V * 10 + (c.toNat - 48)) (k + 1) := by
  obtain ⟨h1, h2⟩ := List.getElem?_eq_some_iff.1 h
  rw [List.drop_eq_getElem_cons h1, h2]
  show (if digB c = true ∧ V ≤ 100000 then _ else _) = _
  rw [if_pos ⟨hd, hV⟩]
theorem nRg_stop {s : Byts} {k V : Nat} (h : ∀ c, s[k]? = some c → digB c = true → 100000 < V) : nRg (s.drop k) V k = (V, k, s.drop k) := by
  by_cases hk : k < s.length
  · rw [List.drop_eq_getElem_cons hk]
    show (if digB s[k] = true ∧ V ≤ 100000 then _ else _) = _
    rw [if_neg (fun q => by have := h _ (List.getElem?_eq_getElem hk) q.1; omega)]
  · rw [List.drop_eq_nil_iff.2 (by omega)]; rfl

/-- what the reader's number answers -/
def NumP (s : Byts) (RB : Nat) (w : World) (e : Ending) (w' : World) : Prop := ∃ (n : Nat) (q : Byts) (b : Bool), e = .returned (.int .i64 n) ∧ w' = (w.setCell ⟨RB, 0, none⟩ (.string (mkB q))).setCell ⟨RB, 1, none⟩ (.bool b) ∧ ((b = false ∧ numR s = some (n, q)) ∨ (b = true ∧ numR s = none))

set_option maxRecDepth 100000 in
set_option maxHeartbeats 4000000 in
theorem rnumber_c (s : Byts) (hs : s.length ≤ 100000) (RB : Nat) (v : Value) (r : Int) (w : World) (h : RdB 101 w RB s false v r) :
    Calls Tryz.prog 98 #[.pointer (some ⟨RB, 0, none⟩)] w fun e w' => NumP s RB w e w' := by
  obtain ⟨p0, p1, _, _⟩ := h.at
  have hsz := mkB_size s
  obtain ⟨B, hB⟩ : ∃ B, mkB s = B := ⟨_, rfl⟩
  rw [hB] at p0 hsz
  have HB := Lib.hid hB
  have z0 := h.frz 0
  have z1 := h.frz 1
  clear h hB
  go_enter Tryz.func98, Tryz.ntmps98
  go_wp2_with fail
  go_loopw [3, 4] (fun p q wr => ∃ V k : Nat, k ≤ s.length ∧ V ≤ 2000000 ∧ p = .int .i64 V ∧ q = .int .i64 k ∧ Hid (nRg s 0 0 = nRg (s.drop k) V k) ∧ wr = w) (fun _ q _ => s.length - (intOf q).toNat)
  case atStart => exact ⟨0, 0, Nat.zero_le _, Nat.zero_le _, rfl, rfl, Lib.hid rfl, rfl⟩
  case round =>
    obtain ⟨V, k, hk, hV, rfl, rfl, HR, rfl⟩ := hrel
    by_cases hgo : ∃ c, s[k]? = some c ∧ digB c = true ∧ V ≤ 100000
    · obtain ⟨c, hc, hd, hV1⟩ := hgo
      have hlt : k < s.length := (List.getElem?_eq_some_iff.1 hc).1
      have HG := Lib.hid (nRg_go hc hd hV1)
      have hlt1 : decide (k < B.size) = true := decide_eq_true (by omega)
      have hlt2 : (k : Int) < (B.size : Int) := by omega
      have hlt3 : k < B.size := by omega
      have hcb : ∀ (h : k < B.size), B[k] = c := by
        rw [← HB.out]
        intro h
        rw [mkB_get]
        exact (List.getElem?_eq_some_iff.1 hc).2
      unfold digB at hd
      simp only [Bool.and_eq_true, decide_eq_true_eq] at hd
      have hd1 : (48 : Int) ≤ (c.toNat : Int) := by have := UInt8.le_iff_toNat_le.1 hd.1; simp at this; omega
      have hd2 : (c.toNat : Int) ≤ 57 := by have := UInt8.le_iff_toNat_le.1 hd.2; simp at this; omega
      have hkk : B[k]'(by omega) = c := hcb (by omega)
      rw [← hkk] at hd1 hd2 HG
      have hv2 : (V : Int) ≤ 100000 := by omega
      clear hc hcb hkk hd
      go_wp2_with fail
      go_roundw
      case rel =>
        refine ⟨V * 10 + ((B[k]'(by omega)).toNat - 48), k + 1, by omega, by omega, ?_, by go_num, Lib.hid (by rw [HR.out, HG.out]), trivial⟩
        congr 1
        have := (B[k]'(by omega)).toNat_lt
        omega
      case measure => simp [intOf] <;> omega
    · have hstop : nRg (s.drop k) V k = (V, k, s.drop k) := nRg_stop fun c hc hd => by
        refine Classical.byContradiction fun h => hgo ⟨c, hc, hd, by omega⟩
      have hN : numR s = if k = 0 ∨ 100000 < V then none else some (V, s.drop k) := by
        unfold numR; rw [HR.out, hstop]
      have hcs : (B.size ≤ k) ∨ (∃ h : k < B.size, (B[k].toNat : Int) < 48) ∨ (∃ h : k < B.size, (48 : Int) ≤ (B[k].toNat : Int) ∧ (57 : Int) < (B[k].toNat : Int)) ∨ (∃ h : k < B.size, ((48 : Int) ≤ (B[k].toNat : Int) ∧ (B[k].toNat : Int) ≤ 57) ∧ (100000 : Int) < (V : Int)) := by
        by_cases hlt : k < B.size
        · right
          obtain ⟨c, hc⟩ : ∃ c, s[k]? = some c := ⟨_, List.getElem?_eq_getElem (by omega)⟩
          have hcb : B[k] = c := by
            have : ∀ (h : k < B.size), B[k] = c := by
              rw [← HB.out]
              intro h
              rw [mkB_get]
              exact (List.getElem?_eq_some_iff.1 hc).2
            exact this hlt
          by_cases hd : digB c = true
          · right; right
            have hV9 : 100000 < V := by
              refine Classical.byContradiction fun h => hgo ⟨c, hc, hd, by omega⟩
            unfold digB at hd
            simp only [Bool.and_eq_true, decide_eq_true_eq] at hd
            refine ⟨hlt, ⟨?_, ?_⟩, by omega⟩
            · rw [hcb]; have := UInt8.le_iff_toNat_le.1 hd.1; simp at this; omega
            · rw [hcb]; have := UInt8.le_iff_toNat_le.1 hd.2; simp at this; omega
          · have hnd : digB c = false := by simpa using hd
            unfold digB at hnd
            simp only [Bool.and_eq_false_iff, decide_eq_false_iff_not, UInt8.le_iff_toNat_le] at hnd
            simp at hnd
            by_cases h48 : (c.toNat : Int) < 48
            · exact .inl ⟨hlt, by rw [hcb]; exact h48⟩
            · exact .inr (.inl ⟨hlt, by rw [hcb]; omega, by rw [hcb]; omega⟩)
        · exact .inl (by omega)
      have hpd : B.extract k s.length = mkB (s.drop k) := by
        rw [← HB.out, mkB_extract, List.take_of_length_le (by rw [List.length_drop]; exact Nat.le_refl _)]
      have HPD := Lib.hid hpd
      have HN := Lib.hid hN
      have hkB : (k : Int) ≤ (B.size : Int) := by omega
      have hkB2 : k ≤ B.size := by omega
      have HZ := Lib.hid (show B.size = s.length from hsz)
      clear hgo hstop hpd hN HR hk
      have hfin : ∀ bb : Bool, bb = (((k : Int) == 0) || decide ((100000 : Int) < (V : Int))) → ((bb = false ∧ numR s = some (V, s.drop k)) ∨ (bb = true ∧ numR s = none)) := fun bb hb => by
        by_cases h0 : k = 0
        · right; subst h0; exact ⟨by rw [hb]; rfl, by rw [HN.out, if_pos (.inl rfl)]⟩
        · by_cases hv9 : 100000 < V
          · right
            exact ⟨by rw [hb, decide_eq_true (by omega)]; simp, by rw [HN.out, if_pos (.inr hv9)]⟩
          · left
            refine ⟨by rw [hb, decide_eq_false (by omega), beq_eq_false_iff_ne.2 (by omega)]; rfl, by rw [HN.out, if_neg (by omega)]⟩
      have HFIN := Lib.hid hfin
      clear hfin HN
      rcases hcs with hs1 | ⟨hs0, hs1⟩ | ⟨hs0, hs1, hs2⟩ | ⟨hs0, ⟨hs1, hs2⟩, hs3⟩
      all_goals
        (try have hn1 : decide (k < B.size) = true := decide_eq_true hs0)
        (try have hn1 : decide (k < B.size) = false := decide_eq_false (by omega))
        by_cases h0 : k = 0
        · have e0 : ((k : Int) == 0) = true := by rw [h0]; rfl
          have HPD0 : Hid (B.extract 0 s.length = mkB (s.drop k)) := Lib.hid (by have h9 := HPD.out; rw [h0] at h9 ⊢; exact h9)
          have HF := Lib.hid (show NumP s RB wr (.returned (.int .i64 V)) ((wr.setCell ⟨RB, 0, none⟩ (.string (B.extract 0 s.length))).setCell ⟨RB, 1, none⟩ (.bool true)) from ⟨V, _, true, rfl, by rw [HPD0.out], HFIN.out true (by rw [e0]; rfl)⟩)
          subst h0
          go_wp2_with fail
          go_ret
          exact HF.out
        · have e0 : ((k : Int) == 0) = false := beq_eq_false_iff_ne.2 (by omega)
          by_cases hv9 : (100000 : Int) < (V : Int)
          · have e9 : decide ((100000 : Int) < (V : Int)) = true := decide_eq_true hv9
            have HF := Lib.hid (show NumP s RB wr (.returned (.int .i64 V)) ((wr.setCell ⟨RB, 0, none⟩ (.string (B.extract k s.length))).setCell ⟨RB, 1, none⟩ (.bool true)) from ⟨V, _, true, rfl, by rw [HPD.out], HFIN.out true (by rw [e0, e9]; rfl)⟩)
            go_wp2_with fail
            go_ret
            exact HF.out
          · first
            | (exfalso; omega)
            | (have e9 : decide ((100000 : Int) < (V : Int)) = false := decide_eq_false hv9
               have HF := Lib.hid (show NumP s RB wr (.returned (.int .i64 V)) ((wr.setCell ⟨RB, 0, none⟩ (.string (B.extract k s.length))).setCell ⟨RB, 1, none⟩ (.bool false)) from ⟨V, _, false, rfl, by rw [HPD.out], HFIN.out false (by rw [e0, e9]; rfl)⟩)
               go_wp2_with fail
               go_ret
               exact HF.out)
end Go.Proofs.YtcojmmhclklpoaaGreatDoor
namespace Go.Proofs.YtcojmmhclklpoaaGreatDoor
open Go.RowKit Go.Shelf

theorem RdX.trans' {RB B : Nat} {S S1 S2 : Nat → Prop} {v v1 v2 : Value} {w w1 w2 : World} (h : RdX RB B S v w S1 v1 w1) (h2 : RdX RB B S1 v1 w1 S2 v2 w2) : RdX RB B S v w S2 v2 w2 := by
  have hs := h.1.bel.size
  refine ⟨h.1.trans h2.1, fun g hg => h2.2.1 g (h.2.1 g hg), fun g hg => ?_⟩
  rcases h2.2.2 g hg with h3 | h3
  · exact h.2.2 g h3
  · exact .inr (by omega)
/-- a server's node behind the nodes, the box written -/
theorem RdI.push {w0 : World} {T : TypeId} {RB B : Nat} {S : Nat → Prop} {s : Byts} {bd : Bool} {v : Value} {r : Int} {nodes : List Nod} {wr : World} (h : RdI w0 T RB B S s bd v r nodes wr) (hB : B ≤ RB) (hw : w0.heap.size ≤ B) {V : List NodV} (hV : V.length = nodes.length) (h3 : ∀ (i : Nat) p nd, V[i]? = some p → nodes[i]? = some nd → NodS S wr p nd)
    {m : Int} {x : World} {u : Value} {y : World} (hb : Below wr.heap.size wr x) (hg : x.grownBy y v.ownBlock) (ho : y.ownsRow B 71 5 u (nodes.length + 1) (V.flatMap nodVC ++ nodVC (⟨1, m, 0, .slice none 0 0, .slice none 0 0⟩ : NodV))) (hv : ∀ g, u.ownBlock = some g → v.ownBlock = some g ∨ wr.heap.size ≤ g) :
    RdI w0 T RB B S s bd u r (nodes ++ [(⟨1, m, 0, [], []⟩ : Nod)]) (y.setCell ⟨RB, 2, none⟩ u) ∧ RdX RB B S v wr S u (y.setCell ⟨RB, 2, none⟩ u) := by
  have hx := hb.size
  have hR := h.lt
  have hvl := h.xb.lt_own
  have hgx : wr.grownBy y v.ownBlock := ⟨hg.os.trans hb.os, hg.tape.trans hb.tape, hg.output.trans hb.output, Nat.le_trans hx hg.size, fun g g1 g2 => (hg.block g (by omega) g2).trans (hb.block g g1)⟩
  have hxy := (h.xb.app (SW := fun _ => False) (p := ⟨1, m, 0, .slice none 0 0, .slice none 0 0⟩) (nd := ⟨1, m, 0, [], []⟩) hV h3 (Below.refl _ _) hgx ho hv (nodS_srv _ _ _ _) (fun g hg => hg.elim)).mono (S' := S) (fun g hg => hg.elim id (fun h => h.elim)) (fun g hg => Nat.lt_of_lt_of_le (h.xb.lt g hg) hgx.size) (fun g e hS => by
    rcases hv g e with h6 | h6
    · exact h.xb.own g h6 hS
    · have := h.xb.lt g hS; omega)
  have hbox : RdB T y RB s bd v r := by
    show y.heap[RB]? = _
    rw [hgx.block RB hR (fun e => h.own e.symm)]; exact h.bx
  have huo : u.ownBlock ≠ some RB := fun e => by
    rcases hv _ e with h6 | h6
    · exact h.own h6
    · omega
  have keep : ∀ g, g ≠ RB → (y.setCell ⟨RB, 2, none⟩ u).heap[g]? = y.heap[g]? := fun g hg' => Below.heap_setCell _ ⟨RB, 2, none⟩ _ g (by exact hg')
  have hBw : B ≤ wr.heap.size := by omega
  have hbel : Below B wr (y.setCell ⟨RB, 2, none⟩ u) := (((Below.refl _ _).grown hgx hBw (fun g hg' => (hvl g hg').1)).setCell (p := ⟨RB, 2, none⟩) hB _)
  refine ⟨⟨h.bel.trans (hbel.mono hw), ?_, hxy.move (fun g hg' => keep g (fun e => h.ob (e ▸ hg'))) (fun g hg' => keep g (fun e => huo (e ▸ hg'))) (by simp), h.ob, huo⟩, ⟨hbel, fun g g1 g2 g3 => ?_, hv⟩, fun g hg' => hg', fun g hg' => .inl hg'⟩
  · show (y.setCell ⟨RB, 2, none⟩ u).heap[RB]? = _
    rw [heap_set_at hbox]; rfl
  · rw [keep g g2, hgx.block g g1 (fun e => g3 e.symm)]

/-- what the reader's skip does -/
theorem take_y {w0 : World} {RB B : Nat} {S : Nat → Prop} {s : Byts} {v : Value} {r : Int} {nodes : List Nod} {w : World} (h : RdI w0 101 RB B S s false v r nodes w) (hw : w0.heap.size ≤ B) (hB : B ≤ RB) {pre s2 : Byts} (hs : stripP pre s = some s2) :
    Calls Tryz.prog 97 #[.pointer (some ⟨RB, 0, none⟩), .string (mkB pre)] w fun e w' => e = .returned (.bool true) ∧ RdI w0 101 RB B S s2 false v r nodes w' ∧ RdX RB B S v w S v w' := by
  have h1 := take_c pre s RB false v r w h.bx
  rw [hs] at h1
  refine h1.mono ?_
  rintro e w' ⟨rfl, rfl⟩
  exact ⟨rfl, h.put (by omega) s2, rdx_box hB _ _ _⟩
theorem take_n {w0 : World} {RB B : Nat} {S : Nat → Prop} {s : Byts} {bd : Bool} {v : Value} {r : Int} {nodes : List Nod} {w : World} (h : RdI w0 101 RB B S s bd v r nodes w) {pre : Byts} (hs : bd = true ∨ stripP pre s = none) :
    Calls Tryz.prog 97 #[.pointer (some ⟨RB, 0, none⟩), .string (mkB pre)] w fun e w' => e = .returned (.bool false) ∧ w' = w := by
  have h1 := take_c pre s RB bd v r w h.bx
  have h2 : (!bd && (stripP pre s).isSome) = false := by rcases hs with rfl | hs <;> simp_all
  rw [h2] at h1
  exact h1
theorem rnumber_i {w0 : World} {RB B : Nat} {S : Nat → Prop} {s : Byts} {v : Value} {r : Int} {nodes : List Nod} {w : World} (h : RdI w0 101 RB B S s false v r nodes w) (hw : w0.heap.size ≤ B) (hB : B ≤ RB) (hs : s.length ≤ 100000) :
    Calls Tryz.prog 98 #[.pointer (some ⟨RB, 0, none⟩)] w fun e w' => ∃ (n : Nat) (s2 : Byts) (b2 : Bool), e = .returned (.int .i64 n) ∧ RdI w0 101 RB B S s2 b2 v r nodes w' ∧ RdX RB B S v w S v w' ∧ ((b2 = false ∧ numR s = some (n, s2)) ∨ (b2 = true ∧ numR s = none)) := by
  refine (rnumber_c s hs RB v r w h.bx).mono ?_
  rintro e w' ⟨n, q, b, rfl, rfl, h1⟩
  have h2 := h.put (by omega) q
  exact ⟨n, q, b, rfl, h2.setB (by omega) 1 _ (by unfold RdB; rw [heap_set_at h2.bx]; rfl), (rdx_box hB w 0 _).trans' (rdx_box hB _ 1 _), h1⟩

def NdR (w0 : World) (RB B : Nat) (r : Int) (f : Nat) : Prop :=
  ∀ (w : World) (S : Nat → Prop) (v : Value) (nodes : List Nod) (s : Byts), RdI w0 101 RB B S s false v r nodes w → s.length < f → nodes.length ≤ 60 → f ≤ 100000 →
    Calls Tryz.prog 71 #[.pointer (some ⟨RB, 0, none⟩)] w fun e w' => ∃ (S2 : Nat → Prop) (v2 : Value) (s2 : Byts) (b2 : Bool) (nodes2 : List Nod) (z : Int), e = .returned (.int .i64 z) ∧ RdI w0 101 RB B S2 s2 b2 v2 r nodes2 w' ∧ RdX RB B S v w S2 v2 w' ∧ nodes2.length ≤ 60 + f ∧ ((b2 = false ∧ pE numR fl61 f s nodes = some (s2, nodes2) ∧ z = ((nodes2.length - 1 : Nat) : Int)) ∨ (b2 = true ∧ pE numR fl61 f s nodes = none))

def LpR (f : Nat) (s : Byts) (nodes : List Nod) (n : Nat) (ws ks : List Int) (s' : Byts) (bd : Bool) (nodes' : List Nod) : Prop :=
  ws.length ≤ ks.length ∧ ks.length ≤ f + 1 ∧ nodes'.length ≤ 60 + f ∧ ((bd = false ∧ ∃ g, pE numR fl61 (f + 1) s nodes = pL numR fl61 g s' nodes' n ws ks ∧ s'.length + 1 < g ∧ g ≤ f ∧ ks.length + s'.length ≤ f ∧ nodes'.length ≤ 60 + g) ∨ (bd = true ∧ pE numR fl61 (f + 1) s nodes = none))
section
variable {f : Nat} {s : Byts} {nodes : List Nod} {n : Nat} {ws ks : List Int} {s' : Byts} {nodes' : List Nod}
theorem lr_bad (h : LpR f s nodes n ws ks s' true nodes') : pE numR fl61 (f + 1) s nodes = none := by
  rcases h.2.2.2 with ⟨h1, _⟩ | ⟨_, h1⟩
  · cases h1
  · exact h1
theorem lr_end (h : LpR f s nodes n ws ks s' false nodes') {r3 : Byts} (h3 : stripP [41] s' = some r3) : pE numR fl61 (f + 1) s nodes = some (r3, nodes' ++ [⟨2, 0, (n : Int), ws, ks⟩]) := by
  rcases h.2.2.2 with ⟨_, g, h1, h2, _⟩ | ⟨h1, _⟩
  · obtain ⟨g, rfl⟩ : ∃ k, g = k + 1 := ⟨g - 1, by omega⟩
    rw [h1, pL, h3]
  · cases h1
def lrQ (g n : Nat) (ws ks : List Int) : Option (Byts × List Nod) → Option (Byts × List Nod)
  | none => none
  | some q => match stripP [42] q.1 with
    | none => pL numR fl61 g q.1 q.2 n ws (ks ++ [((q.2.length - 1 : Nat) : Int)])
    | some r1 => match numR r1 with
      | none => none
      | some p => pL numR fl61 g p.2 q.2 n (ws ++ [(p.1 : Int)]) (ks ++ [((q.2.length - 1 : Nat) : Int)])
theorem lr_go (h : LpR f s nodes n ws ks s' false nodes') (h3 : stripP [41] s' = none) : ∃ g, g < f ∧ s'.length < g ∧ ks.length + s'.length ≤ f ∧ nodes'.length ≤ 60 + g + 1 ∧ Hid (pE numR fl61 (f + 1) s nodes = match (if ks = [] then some s' else stripP [44, 32] s') with
      | none => none
      | some s1 => if fl61 nodes'.length = true then none else lrQ g n ws ks (pE numR fl61 g s1 nodes')) := by
  rcases h.2.2.2 with ⟨_, g, h1, h2, h4, h5, h6⟩ | ⟨h1, _⟩
  · obtain ⟨g, rfl⟩ : ∃ k, g = k + 1 := ⟨g - 1, by omega⟩
    refine ⟨g, by omega, by omega, h5, by omega, Lib.hid ?_⟩
    rw [h1, pL, h3]
    cases (if ks = [] then some s' else stripP [44, 32] s') with
    | none => rfl
    | some s1 =>
      show (if fl61 nodes'.length = true then none else _) = (if fl61 nodes'.length = true then none else _)
      by_cases hf : fl61 nodes'.length = true
      · rw [if_pos hf, if_pos hf]
      · rw [if_neg hf, if_neg hf]
        cases pE numR fl61 g s1 nodes' with
        | none => rfl
        | some q => rfl
  · cases h1
variable {g : Nat} {s1 s5 s8 r6 : Byts} {b5 b8 : Bool} {nodes5 : List Nod} {z5 : Int} {m8 : Nat}
theorem lr_kid (hwl : ws.length ≤ ks.length) (hks : ks.length + s'.length ≤ f) (hs1 : s1.length ≤ s'.length) (hg : s'.length < g) (hgf : g < f) (hgo : pE numR fl61 (f + 1) s nodes = lrQ g n ws ks (pE numR fl61 g s1 nodes')) (hc : nodes5.length ≤ 60 + g) (hp : (b5 = false ∧ pE numR fl61 g s1 nodes' = some (s5, nodes5) ∧ z5 = ((nodes5.length - 1 : Nat) : Int)) ∨ (b5 = true ∧ pE numR fl61 g s1 nodes' = none)) (h6 : b5 = true ∨ stripP [42] s5 = none) : LpR f s nodes n ws (ks ++ [z5]) s5 b5 nodes5 := by
  have hkl : (ks ++ [z5]).length = ks.length + 1 := by simp
  refine ⟨by omega, by omega, by omega, ?_⟩
  rcases hp with ⟨rfl, h1, h2⟩ | ⟨rfl, h1⟩
  · have hl := (pEL_len numR fl61 (fun _ _ _ => numR_len) g).1 _ _ _ h1
    simp only at hl
    rcases h6 with h6 | h6
    · cases h6
    · refine .inl ⟨rfl, g, ?_, by omega, by omega, by omega, hc⟩
      rw [hgo, h1, h2]
      show (match stripP [42] s5 with | none => _ | some _ => _) = _
      rw [h6]
  · exact .inr ⟨rfl, by rw [hgo, h1]; rfl⟩
theorem lr_wgt (hwl : ws.length ≤ ks.length) (hks : ks.length + s'.length ≤ f) (hs1 : s1.length ≤ s'.length) (hg : s'.length < g) (hgf : g < f) (hgo : pE numR fl61 (f + 1) s nodes = lrQ g n ws ks (pE numR fl61 g s1 nodes')) (hc : nodes5.length ≤ 60 + g) (h1 : pE numR fl61 g s1 nodes' = some (s5, nodes5)) (h2 : z5 = ((nodes5.length - 1 : Nat) : Int)) (h6 : stripP [42] s5 = some r6) (hp : (b8 = false ∧ numR r6 = some (m8, s8)) ∨ (b8 = true ∧ numR r6 = none)) : LpR f s nodes n (ws ++ [(m8 : Int)]) (ks ++ [z5]) s8 b8 nodes5 := by
  have hkl : (ks ++ [z5]).length = ks.length + 1 := by simp
  have hwl2 : (ws ++ [(m8 : Int)]).length = ws.length + 1 := by simp
  have hl := (pEL_len numR fl61 (fun _ _ _ => numR_len) g).1 _ _ _ h1
  simp only at hl
  have hl6 := strip_len h6
  have hgo2 : pE numR fl61 (f + 1) s nodes = match numR r6 with
      | none => none
      | some p => pL numR fl61 g p.2 nodes5 n (ws ++ [(p.1 : Int)]) (ks ++ [((nodes5.length - 1 : Nat) : Int)]) := by
    rw [hgo, h1]
    show (match stripP [42] s5 with | none => _ | some _ => _) = _
    rw [h6]
  refine ⟨by omega, by omega, by omega, ?_⟩
  rcases hp with ⟨rfl, h8⟩ | ⟨rfl, h8⟩
  · have := numR_len h8
    refine .inl ⟨rfl, g, ?_, by omega, by omega, by omega, hc⟩
    rw [hgo2, h8, h2]
  · exact .inr ⟨rfl, by rw [hgo2, h8]⟩
end


set_option maxRecDepth 100000 in
set_option maxHeartbeats 8000000 in
theorem rnode_step (w0 : World) (RB B : Nat) (hw0 : w0.heap.size ≤ B) (hB : B ≤ RB) (r : Int) (f : Nat) (ih : ∀ g, g ≤ f → NdR w0 RB B r g) : NdR w0 RB B r (f + 1) := by
  intro w S v nodes s hI hsf hnl hf
  have hrl := hI.lt
  have HI := Lib.hid hI
  have HIH := Lib.hid ih
  clear hI ih
  go_enter Tryz.func71, Tryz.ntmps71
  go_wp2_with fail
  cases h1 : stripP [115] s with
  | some r1 =>
    have hl1 := strip_len h1
    simp at hl1
    have HS := Lib.hid (take_y HI.out hw0 hB h1)
    have H1 := Lib.hid h1
    clear h1
    refine HS.out.mono ?_
    rintro e w3 ⟨rfl, hI3, hX3⟩
    obtain ⟨av, cv, hav, _⟩ := hI3.xb.shape
    subst hav
    have HI3 := Lib.hid hI3
    have HX3 := Lib.hid hX3
    have q2 := hI3.bx.at.2.2.1
    have HNUM : Hid (∀ u : World, Below w3.heap.size w3 u → Calls Tryz.prog 98 #[.pointer (some ⟨RB, 0, none⟩)] u fun e w' => ∃ (m : Nat) (s2 : Byts) (b2 : Bool), e = .returned (.int .i64 m) ∧ RdI w0 101 RB B S s2 b2 (.slice av nodes.length cv) r nodes w' ∧ RdX RB B S (.slice av nodes.length cv) w3 S (.slice av nodes.length cv) w' ∧ ((b2 = false ∧ numR r1 = some (m, s2)) ∨ (b2 = true ∧ numR r1 = none))) := Lib.hid (fun u hu => by
      have hI3 := HI3.out
      refine (rnumber_i (hI3.below hu) hw0 hB (by omega)).mono ?_
      rintro e w' ⟨m, s2, b2, h1, h2, h3, h4⟩
      exact ⟨m, s2, b2, h1, h2, h3.below (by have := hI3.lt; omega) hu, h4⟩)
    obtain ⟨i0, hi0, hz0, hz1, hz2⟩ := info_parts Tryz.infoNod
    have hs3 := HI3.out.lt
    clear hI3 hX3 HS
    go_wp2_with fail
    go_region_law (first
      | (go_simp; go_at_call 98; (with_reducible refine (HNUM.out w3.drew (below_drew (Below.refl _ _))).mono ?_); rintro e w5 ⟨m, s5, b5, rfl, hI5, hX5, hN5⟩; have p45 := hI5.bx.at.2.2.1; have p45b : ∀ ob, (w5.alloc ob).cell? ⟨RB, 2, none⟩ = some (.slice av nodes.length cv) := (fun ob => (World.cell?_alloc_lt _ _ _ (cell_lt p45)).trans p45); obtain ⟨V, hV1, hV2, hV3⟩ := hI5.xb.row; have HROW := Lib.hid hV2; have HV1 := Lib.hid hV1; have HV3 := Lib.hid hV3; have HI5 := Lib.hid hI5; have HX5 := Lib.hid hX5; have HN5 := Lib.hid hN5; have hs5 := HI5.out.lt; clear hI5 hX5 hN5 hV1 hV2 hV3)
      | (refine step_append_lies _ (by rfl) _ _ _ (by rfl) B 71 i0 _ 5 72 Tryz.underlying30 hi0 hz0 hz1 hz2 rfl (by omega) (.slice av nodes.length cv) nodes.length _ (by rfl) (HROW.out.alloc _) ⟨w5.heap.size, 0, none⟩ 1 1 [.int .i64 1, .int .i64 (m : Int), .int .i64 0, .slice none 0 0, .slice none 0 0] (by rfl) (by rfl) (World.news_of_block (cs := #[.int .i64 1, .int .i64 (m : Int), .int .i64 0, .slice none 0 0, .slice none 0 0]) (t := 71) (fr := (0, 0)) (heap_alloc_new w5 _)) (by simp [Value.oneCell']) (by omega) (by unfold maxLen; omega) (by omega) (by simp; omega) (w5.heap.size + 1) (by simp) ?_; intro gg cap wA hownA hgrow hat hlt; have hA := (hgrow.block RB (by simp; omega) (fun e => HI5.out.own e.symm)).trans ((Below.heap_alloc w5 _ RB (by omega)).trans HI5.out.bx); have pA := cell_of_row _ _ 2 _ _ _ hA; have zA := frozen_row hA 2; have HA := Lib.hid hA; have HOA := Lib.hid hownA; have HGA := Lib.hid hgrow; have HAT := Lib.hid hat; clear hA hownA hgrow hat))
    all_goals
      have hP := HI5.out.push hB hw0 HV1.out HV3.out (m := (m : Int)) (x := w5.alloc (.cells #[.int .i64 1, .int .i64 (m : Int), .int .i64 0, .slice none 0 0, .slice none 0 0] 71)) (u := .slice (some ⟨gg, 0, none⟩) (nodes.length + 1) cap) (y := wA) ((Below.refl _ _).alloc (Nat.le_refl _) _) HGA.out HOA.out (fun g hg => by
        have e2 : gg = g := by simpa [Value.ownBlock] using hg
        rcases HAT.out with h1 | h1
        · exact .inl (e2 ▸ h1)
        · exact .inr (by omega))
      have HP := Lib.hid hP
      clear hP HOA HGA HAT HV1 HV3 HROW HA HNUM p45 p45b
      go_wp2_with fail
      go_ret
      refine ⟨S, _, _, _, _, (nodes.length : Int), ?_, HP.out.1, HX3.out.trans' (HX5.out.trans' HP.out.2), by simp; omega, ?_⟩
      · show Ending.returned (.int .i64 _) = _
        congr 2
        all_goals omega
      rcases HN5.out with ⟨rfl, hx⟩ | ⟨rfl, hx⟩
      · refine .inl ⟨rfl, by rw [pE, H1.out]; simp only; rw [hx], ?_⟩
        rw [List.length_append]; simp
      · exact .inr ⟨rfl, by rw [pE, H1.out]; simp only; rw [hx]⟩
  | none =>
    have HS := Lib.hid (take_n HI.out (.inr h1))
    have H1 := Lib.hid h1
    clear h1
    refine HS.out.mono ?_
    rintro e w3 ⟨rfl, rfl⟩
    clear HS
    go_wp2_with fail
    with_reducible refine (rnumber_i HI.out hw0 hB (by omega)).mono ?_
    rintro e wb ⟨n, s2, b2, rfl, hI5, hX5, hN5⟩
    have hrl5 := hI5.lt
    have HI5 := Lib.hid hI5
    have HX5 := Lib.hid hX5
    have HN5 := Lib.hid hN5
    clear hI5 hX5 hN5
    go_wp2_with fail
    generalize hW6 : wb.alloc _ = w6
    have gN6 : w6.heap[wb.heap.size]? = some (.cells #[.int .i64 2, .int .i64 0, .int .i64 (n : Int), .slice none 0 0, .slice none 0 0] 71 (0, 0)) := by rw [← hW6]; exact heap_alloc_new _ _
    have hb6 : Below wb.heap.size wb w6 := by rw [← hW6]; exact (Below.refl _ _).alloc (Nat.le_refl _) _
    have HL6 := Lib.hid (NdL.start HI5.out hB hb6 gN6)
    clear hW6 gN6 hb6
    have hcase : (b2 = false ∧ ∃ r2, stripP [40] s2 = some r2 ∧ numR s = some (n, s2)) ∨ ((b2 = true ∨ stripP [40] s2 = none) ∧ pE numR fl61 (f + 1) s nodes = none) := by
      rcases HN5.out with ⟨rfl, hx⟩ | ⟨rfl, hx⟩
      · cases h2 : stripP [40] s2 with
        | none => exact .inr ⟨.inr rfl, by rw [pE, H1.out]; simp only; rw [hx]; simp only; rw [h2]⟩
        | some r2 => exact .inl ⟨rfl, r2, rfl, hx⟩
      · exact .inr ⟨.inl rfl, by rw [pE, H1.out]; simp only; rw [hx]⟩
    rcases hcase with ⟨rfl, r2, h2, hx⟩ | ⟨hh, hN⟩
    · have hl2 := strip_len h2
      have hl3 := numR_len hx
      simp at hl2
      have HS := Lib.hid (take_y HL6.out.i hw0 hB h2)
      have hpe : pE numR fl61 (f + 1) s nodes = pL numR fl61 f r2 nodes n [] [] := by rw [pE, H1.out]; simp only; rw [hx]; simp only; rw [h2]
      have HPE := Lib.hid hpe
      clear h2 hx hpe HN5
      refine HS.out.mono ?_
      rintro e w7 ⟨rfl, hI7, hX7⟩
      have hL7 := HL6.out.step hrl5 HI5.out hI7 hX7
      have HL7 := Lib.hid hL7
      clear hI7 hX7 hL7 HS HL6
      go_wp2_with fail
      go_loopw [36] (fun _ wr => ∃ (ws ks : List Int) (wv kv : Value) (S' : Nat → Prop) (v' : Value) (s' : Byts) (bd : Bool) (nodes' : List Nod), NdL w0 wb 101 RB B S v (.int .i64 2) (.int .i64 0) (.int .i64 n) wv kv ws ks S' v' s' bd r nodes' wr ∧ LpR f s nodes n ws ks s' bd nodes') (fun _ wr => rdM RB wr)
      case atStart => exact ⟨[], [], _, _, S, v, r2, false, nodes, HL7.out, Nat.le_refl _, by simp, by omega, .inl ⟨rfl, f, HPE.out, by omega, Nat.le_refl _, by simp; omega, by omega⟩⟩
      case round =>
        obtain ⟨ws, ks, wv, kv, S', v', s', bd, nodes', hL, hP⟩ := hrel
        clear HL7 HPE
        have hrw := hL.rw
        have hrk := hL.rk
        obtain ⟨aw2, cw2, rfl, _⟩ := rd_of_row hrw
        obtain ⟨ak2, ck2, rfl, _⟩ := rd_of_row hrk
        have hbx := hL.i.bx
        have HM := Lib.hid (rdM_eq hbx)
        have p1 := hbx.at.2.1
        have y1 := hbx.frz 1
        have hnx := hP.2.2.1
        have hkl := hP.2.1
        have hwl := hP.1
        have HL := Lib.hid hL
        have HLP := Lib.hid hP
        clear hL hP hrw hrk hbx
        cases bd with
        | true =>
          have HN := Lib.hid (lr_bad HLP.out)
          go_wp2_with fail
          clear p1 y1
          obtain ⟨V, hV1, hV2, hV3⟩ := HL.out.i.xb.row
          obtain ⟨NN, hNN⟩ : ∃ NN, NN = nodes'.length := ⟨_, rfl⟩
          rw [← hNN] at hV2
          obtain ⟨av, cv, hav, _⟩ := rdK_of_row hV2
          subst hav
          have hnn : NN ≤ 60 + f := by omega
          have HNN := Lib.hid hNN
          have HV1 := Lib.hid hV1
          have HV3 := Lib.hid hV3
          have HRV := Lib.hid hV2
          have hbx := HL.out.i.bx
          unfold RdB at hbx
          have q2 := cell_of_row _ _ 2 _ _ _ hbx
          have f2 := frozen_row hbx 2
          obtain ⟨n0, n1, n2, n3, n4⟩ := open5 HL.out.nb
          have hws := HL.out.sz
          have hBw : B ≤ wr.heap.size := by omega
          have q2b : (wr.alloc (Obj.cells #[(.int .i64 2), (.int .i64 0), (.int .i64 n), (.slice aw2 ws.length cw2), (.slice ak2 ks.length ck2)] 71)).cell? ⟨RB, 2, none⟩ = some (.slice av NN cv) := cell_of_row _ _ 2 _ _ _ (heap_alloc_at hbx _)
          have hown : ∀ g, (Value.slice av NN cv).ownBlock = some g → g ≠ RB := fun g hg e => HL.out.i.own (e ▸ hg)
          have HBX := Lib.hid hbx
          have KA : Hid (∀ x y : World, x.grownBy y (Value.slice av NN cv).ownBlock → x.heap[RB]? = wr.heap[RB]? → wr.heap.size ≤ x.heap.size → ∃ s b r, y.heap[RB]? = some (.cells #[.string (mkB s), .bool b, .slice av NN cv, .int .i64 r] 101 (0, 0))) := Lib.hid (fun x y hg hx hsx => ⟨_, _, _, by
            rw [hg.block RB (by omega) (fun e => hown _ e.symm rfl), hx]
            exact HBX.out⟩)
          obtain ⟨i0, hi0, hz0, hz1, hz2⟩ := info_parts Tryz.infoNod
          clear hV1 hV2 hV3 hbx hNN hown
          go_wp2_with fail
          go_region_law (first
            | (refine step_append_lies _ (by rfl) _ _ _ (by rfl) B 71 i0 _ 5 72 Tryz.underlying30 hi0 hz0 hz1 hz2 rfl (by omega) (.slice av NN cv) NN _ (by rfl) ((HRV.out.alloc _).drew) ⟨wr.heap.size, 0, none⟩ 1 1 [(.int .i64 2), (.int .i64 0), (.int .i64 n), (.slice aw2 ws.length cw2), (.slice ak2 ks.length ck2)] (by rfl) (by rfl) (World.news_of_block (cs := #[(.int .i64 2), (.int .i64 0), (.int .i64 n), (.slice aw2 ws.length cw2), (.slice ak2 ks.length ck2)]) (t := 71) (fr := (0, 0)) (heap_alloc_new wr _)) (by simp [Value.oneCell']) (by omega) (by unfold maxLen; omega) (by omega) (by simp; omega) (wr.heap.size + 1) (by simp) ?_; intro gg cap wA hownA hgrow hat hlt; obtain ⟨sA, bA, rA, hA⟩ := KA.out _ _ hgrow (Below.heap_alloc wr _ _ (by omega)) (by simp); have pA := cell_of_row _ _ 2 _ _ _ hA; have zA := frozen_row hA 2; have HA := Lib.hid hA; have HOA := Lib.hid hownA; have HGA := Lib.hid hgrow; have HAT := Lib.hid hat; clear hA hownA hgrow hat q2 q2b f2))
          all_goals
            obtain ⟨a5, c5, hv5, _⟩ := rdK_of_row HOA.out
            cases hv5
            obtain ⟨SF, hF1, hF2⟩ := HL.out.fin HI5.out hB hw0 HV1.out HV3.out (x := (wr.alloc _).drew) (u := .slice (some ⟨gg, 0, none⟩) (NN + 1) cap) (y := wA) (below_drew ((Below.refl _ _).alloc (Nat.le_refl _) _)) HGA.out (by rw [← HNN.out]; exact HOA.out) (fun g hg => by
              have e2 : gg = g := by simpa [Value.ownBlock] using hg
              rcases HAT.out with h1 | h1
              · exact .inl (e2 ▸ h1)
              · exact .inr (by omega)) HGA.out.size
            have HF1 := Lib.hid hF1
            have HF2 := Lib.hid hF2
            clear hF1 hF2 HOA HGA HAT HV1 HV3 HRV KA HBX HA
            go_wp2_with fail
            go_ret
            refine ⟨SF, _, _, _, _, (NN : Int), ?_, HF1.out, HX5.out.trans' HF2.out, by rw [List.length_append, ← HNN.out]; simp; omega, ?_⟩
            · show Ending.returned (.int .i64 _) = _
              congr 2
              all_goals omega
            exact .inr ⟨rfl, HN.out⟩
        | false =>
          have HM : Hid (rdM RB wr = s'.length + 1) := Lib.hid (by rw [HM.out]; simp)
          cases h3 : stripP [41] s' with
          | some r3 =>
            have HN := Lib.hid (lr_end HLP.out h3)
            have HS := Lib.hid (take_y HL.out.i hw0 hB h3)
            clear h3
            go_wp2_with fail
            refine HS.out.mono ?_
            rintro e w7 ⟨rfl, hI7, hX7⟩
            have HL7 := Lib.hid (HL.out.step hrl5 HI5.out hI7 hX7)
            clear hI7 hX7 HS HL HM p1 y1
            go_wp2_with fail
            obtain ⟨V, hV1, hV2, hV3⟩ := HL7.out.i.xb.row
            obtain ⟨NN, hNN⟩ : ∃ NN, NN = nodes'.length := ⟨_, rfl⟩
            rw [← hNN] at hV2
            obtain ⟨av, cv, hav, _⟩ := rdK_of_row hV2
            subst hav
            have hnn : NN ≤ 60 + f := by omega
            have HNN := Lib.hid hNN
            have HV1 := Lib.hid hV1
            have HV3 := Lib.hid hV3
            have HRV := Lib.hid hV2
            have hbx := HL7.out.i.bx
            unfold RdB at hbx
            have q2 := cell_of_row _ _ 2 _ _ _ hbx
            have f2 := frozen_row hbx 2
            obtain ⟨n0, n1, n2, n3, n4⟩ := open5 HL7.out.nb
            have hws := HL7.out.sz
            have hBw : B ≤ w7.heap.size := by omega
            have q2b : (w7.alloc (Obj.cells #[(.int .i64 2), (.int .i64 0), (.int .i64 n), (.slice aw2 ws.length cw2), (.slice ak2 ks.length ck2)] 71)).cell? ⟨RB, 2, none⟩ = some (.slice av NN cv) := cell_of_row _ _ 2 _ _ _ (heap_alloc_at hbx _)
            have hown : ∀ g, (Value.slice av NN cv).ownBlock = some g → g ≠ RB := fun g hg e => HL7.out.i.own (e ▸ hg)
            have HBX := Lib.hid hbx
            have KA : Hid (∀ x y : World, x.grownBy y (Value.slice av NN cv).ownBlock → x.heap[RB]? = w7.heap[RB]? → w7.heap.size ≤ x.heap.size → ∃ s b r, y.heap[RB]? = some (.cells #[.string (mkB s), .bool b, .slice av NN cv, .int .i64 r] 101 (0, 0))) := Lib.hid (fun x y hg hx hsx => ⟨_, _, _, by
              rw [hg.block RB (by omega) (fun e => hown _ e.symm rfl), hx]
              exact HBX.out⟩)
            obtain ⟨i0, hi0, hz0, hz1, hz2⟩ := info_parts Tryz.infoNod
            clear hV1 hV2 hV3 hbx hNN hown
            go_wp2_with fail
            go_region_law (first
              | (refine step_append_lies _ (by rfl) _ _ _ (by rfl) B 71 i0 _ 5 72 Tryz.underlying30 hi0 hz0 hz1 hz2 rfl (by omega) (.slice av NN cv) NN _ (by rfl) ((HRV.out.alloc _).drew) ⟨w7.heap.size, 0, none⟩ 1 1 [(.int .i64 2), (.int .i64 0), (.int .i64 n), (.slice aw2 ws.length cw2), (.slice ak2 ks.length ck2)] (by rfl) (by rfl) (World.news_of_block (cs := #[(.int .i64 2), (.int .i64 0), (.int .i64 n), (.slice aw2 ws.length cw2), (.slice ak2 ks.length ck2)]) (t := 71) (fr := (0, 0)) (heap_alloc_new w7 _)) (by simp [Value.oneCell']) (by omega) (by unfold maxLen; omega) (by omega) (by simp; omega) (w7.heap.size + 1) (by simp) ?_; intro gg cap wA hownA hgrow hat hlt; obtain ⟨sA, bA, rA, hA⟩ := KA.out _ _ hgrow (Below.heap_alloc w7 _ _ (by omega)) (by simp); have pA := cell_of_row _ _ 2 _ _ _ hA; have zA := frozen_row hA 2; have HA := Lib.hid hA; have HOA := Lib.hid hownA; have HGA := Lib.hid hgrow; have HAT := Lib.hid hat; clear hA hownA hgrow hat q2 q2b f2))
            all_goals
              obtain ⟨a5, c5, hv5, _⟩ := rdK_of_row HOA.out
              cases hv5
              obtain ⟨SF, hF1, hF2⟩ := HL7.out.fin HI5.out hB hw0 HV1.out HV3.out (x := (w7.alloc _).drew) (u := .slice (some ⟨gg, 0, none⟩) (NN + 1) cap) (y := wA) (below_drew ((Below.refl _ _).alloc (Nat.le_refl _) _)) HGA.out (by rw [← HNN.out]; exact HOA.out) (fun g hg => by
                have e2 : gg = g := by simpa [Value.ownBlock] using hg
                rcases HAT.out with h1 | h1
                · exact .inl (e2 ▸ h1)
                · exact .inr (by omega)) HGA.out.size
              have HF1 := Lib.hid hF1
              have HF2 := Lib.hid hF2
              clear hF1 hF2 HOA HGA HAT HV1 HV3 HRV KA HBX HA
              go_wp2_with fail
              go_ret
              refine ⟨SF, _, _, _, _, (NN : Int), ?_, HF1.out, HX5.out.trans' HF2.out, by rw [List.length_append, ← HNN.out]; simp; omega, ?_⟩
              · show Ending.returned (.int .i64 _) = _
                congr 2
                all_goals omega
              exact .inl ⟨rfl, HN.out, by rw [List.length_append, ← HNN.out]; simp⟩
          | none =>
            have HS := Lib.hid (take_n HL.out.i (.inr h3))
            obtain ⟨g, hgf, hsg, hks, hng, hgo⟩ := lr_go HLP.out h3
            clear h3
            go_wp2_with fail
            refine HS.out.mono ?_
            rintro e w7 ⟨rfl, hw7⟩
            have hw8 := hw7.symm
            clear hw7
            subst hw8
            clear HS
            have n4 := (open5 HL.out.nb).2.2.2.2
            have q2 := HL.out.i.bx.at.2.2.1
            have hnv := HL.out.i.xb.shape
            obtain ⟨av, cv, hav, _⟩ := hnv
            subst hav
            by_cases hk0 : ks = []
            · rw [if_pos hk0] at hgo
              have e1 : decide ((0 : Int) < (ks.length : Int)) = false := decide_eq_false (by rw [hk0]; simp)
              have e4 : decide (0 < ks.length) = false := decide_eq_false (by rw [hk0]; simp)
              have HK0 := Lib.hid hk0
              clear hk0
              by_cases hfull : 60 < nodes'.length
              · have HN : Hid (pE numR fl61 (f + 1) s nodes = none) := Lib.hid (by rw [hgo.out]; exact if_pos (decide_eq_true hfull))
                have e2 : decide ((60 : Int) < (nodes'.length : Int)) = true := decide_eq_true (by omega)
                have e3 : decide (60 < nodes'.length) = true := decide_eq_true (by omega)
                clear hfull hgo
                go_wp2_with fail
                go_ret
                exact ⟨S', _, _, true, nodes', 0, rfl, HL.out.i.fail (by omega), HX5.out.trans' (HL.out.step hrl5 HI5.out (HL.out.i.fail (by omega)) (rdx_box hB _ 1 (.bool true))).rdx, by omega, .inr ⟨rfl, HN.out⟩⟩
              · have HGO : Hid (pE numR fl61 (f + 1) s nodes = lrQ g n ws ks (pE numR fl61 g s' nodes')) := Lib.hid (by rw [hgo.out]; exact if_neg (by simp [fl61]; omega))
                have e2 : decide ((60 : Int) < (nodes'.length : Int)) = false := decide_eq_false (by omega)
                have e3 : decide (60 < nodes'.length) = false := decide_eq_false (by omega)
                clear hgo
                have HIHG := Lib.hid (HIH.out g (by omega))
                have HCALL : Hid (∀ u : World, Below wr.heap.size wr u → Calls Tryz.prog 71 #[.pointer (some ⟨RB, 0, none⟩)] u fun e w' => ∃ (S2 : Nat → Prop) (v2 : Value) (s2 : Byts) (b2 : Bool) (nodes2 : List Nod) (z : Int), e = .returned (.int .i64 z) ∧ NdL w0 wb 101 RB B S v (.int .i64 2) (.int .i64 0) (.int .i64 n) (.slice aw2 ws.length cw2) (.slice ak2 ks.length ck2) ws ks S2 v2 s2 b2 r nodes2 w' ∧ nodes2.length ≤ 60 + g ∧ ((b2 = false ∧ pE numR fl61 g s' nodes' = some (s2, nodes2) ∧ z = ((nodes2.length - 1 : Nat) : Int)) ∨ (b2 = true ∧ pE numR fl61 g s' nodes' = none))) := Lib.hid (fun u hu => by
                  have hL1 := HL.out
                  refine (HIHG.out u S' _ nodes' s' (hL1.i.below hu) (by omega) (by omega) (by omega)).mono ?_
                  rintro e w' ⟨S2, v2, s2, b2, nodes2, z, h1, h2, h3, h4, h5⟩
                  exact ⟨S2, v2, s2, b2, nodes2, z, h1, hL1.step hrl5 HI5.out h2 (h3.below (by have := hL1.sz; omega) hu), h4, h5⟩)
                have k4 := (open5 HL.out.nb).2.2.2.2
                have hsz1 := HL.out.sz
                obtain ⟨ii, hi0, hz0, hz1, hz2⟩ := info_parts Tryz.infoInt
                clear HIHG
                go_wp2_with fail
                go_region_law (first
                  | (go_simp; go_at_call 71; (with_reducible refine (HCALL.out wr.drew (below_drew (Below.refl _ _))).mono ?_); rintro e w5 ⟨S5, v5, s5, b5, nodes5, z5, rfl, hL5, hc5, hp5⟩; have p45 := (open5 hL5.nb).2.2.2.2; have p45b : ∀ ob, (w5.alloc ob).cell? ⟨wb.heap.size, 4, none⟩ = some (.slice ak2 ks.length ck2) := (fun ob => (World.cell?_alloc_lt _ _ _ (cell_lt p45)).trans p45); have z45 := (frz5 hL5.nb).2.2.2.2; have HROW := Lib.hid hL5.rk; have HL5 := Lib.hid hL5; have HC5 := Lib.hid hc5; have HP5 := Lib.hid hp5; have hs5 := HL5.out.sz; clear hL5 hc5 hp5)
                  | (refine step_append_lies _ (by rfl) _ _ _ (by rfl) (wb.heap.size + 1) 3 ii _ 1 8 Tryz.underlying69 hi0 hz0 hz1 hz2 rfl (by omega) (.slice ak2 ks.length ck2) ks.length _ (by rfl) (HROW.out.alloc _) ⟨w5.heap.size, 0, none⟩ 1 1 [.int .i64 z5] (by rfl) (by rfl) (World.news_of_block (cs := #[.int .i64 z5]) (t := 3) (fr := (0, 0)) (heap_alloc_new w5 _)) (by simp [Value.oneCell']) (by omega) (by unfold maxLen; omega) (by omega) (by simp; omega) (w5.heap.size + 1) (by simp) ?_; intro gg cap wA hownA hgrow hat hlt; have hA := (hgrow.block wb.heap.size (by simp; omega) (fun e => by have := (HROW.out.lt _ e.symm).1; omega)).trans ((Below.heap_alloc w5 _ wb.heap.size (by omega)).trans HL5.out.nb); have pA := (open5 hA).2.2.2.2; have zA := (frz5 hA).2.2.2.2; have HA := Lib.hid hA; have HOA := Lib.hid hownA; have HGA := Lib.hid hgrow; have HAT := Lib.hid hat; clear hA hownA hgrow hat))
                all_goals
                  have hK := HL5.out.kid HI5.out hB hw0 (z := z5) (x := w5.alloc (.cells #[.int .i64 z5] 3)) (u := .slice (some ⟨gg, 0, none⟩) (ks.length + 1) cap) (y := wA) ((Below.refl _ _).alloc (Nat.le_refl _) _) HGA.out HOA.out (fun q hq => by
                    have e2 : gg = q := by simpa [Value.ownBlock] using hq
                    rcases HAT.out with h1 | h1
                    · exact .inl (e2 ▸ h1)
                    · exact .inr (by omega)) HGA.out.size
                  have HL6 := Lib.hid hK
                  clear hK HGA HOA HA pA zA HAT HROW p45 p45b z45 HL5 hs5 HCALL HL k4 hsz1 hi0 hz0 hz1 hz2
                  generalize wA.setCell _ _ = w6 at HL6 ⊢
                  have hcs : (b5 = false ∧ ∃ r6, stripP [42] s5 = some r6) ∨ (b5 = true ∨ stripP [42] s5 = none) := by
                    cases b5
                    · cases stripP [42] s5
                      · exact .inr (.inr rfl)
                      · exact .inl ⟨rfl, _, rfl⟩
                    · exact .inr (.inl rfl)
                  rcases hcs with ⟨rfl, r6, h6⟩ | h6
                  · have HS := Lib.hid (take_y HL6.out.i hw0 hB h6)
                    have hl6 := strip_len h6
                    simp at hl6
                    have H6 := Lib.hid h6
                    clear h6
                    go_wp2_with fail
                    refine HS.out.mono ?_
                    rintro e w7 ⟨rfl, hI7, hX7⟩
                    have HL7 := Lib.hid (HL6.out.step hrl5 HI5.out hI7 hX7)
                    clear hI7 hX7 HS HL6
                    obtain ⟨hq5, hz5⟩ : pE numR fl61 g s' nodes' = some (s5, nodes5) ∧ z5 = ((nodes5.length - 1 : Nat) : Int) := by
                      rcases HP5.out with ⟨_, h1, h2⟩ | ⟨h1, _⟩
                      · exact ⟨h1, h2⟩
                      · cases h1
                    have hql := (pEL_len numR fl61 (fun _ _ _ => numR_len) g).1 _ _ _ hq5
                    simp only at hql
                    have HQ5 := Lib.hid hq5
                    have HZ5 := Lib.hid hz5
                    have HNUM : Hid (∀ u : World, Below w7.heap.size w7 u → Calls Tryz.prog 98 #[.pointer (some ⟨RB, 0, none⟩)] u fun e w' => ∃ (m : Nat) (s2 : Byts) (b2 : Bool), e = .returned (.int .i64 m) ∧ NdL w0 wb 101 RB B S v (.int .i64 2) (.int .i64 0) (.int .i64 n) (.slice aw2 ws.length cw2) (.slice (some ⟨gg, 0, none⟩) (ks.length + 1) cap) ws (ks ++ [z5]) S5 v5 s2 b2 r nodes5 w' ∧ ((b2 = false ∧ numR r6 = some (m, s2)) ∨ (b2 = true ∧ numR r6 = none))) := Lib.hid (fun u hu => by
                      have hL7 := HL7.out
                      refine (rnumber_i (hL7.i.below hu) hw0 hB (by omega)).mono ?_
                      rintro e w' ⟨m, s2, b2, h1, h2, h3, h4⟩
                      exact ⟨m, s2, b2, h1, hL7.step hrl5 HI5.out h2 (h3.below (by have := hL7.sz; omega) hu), h4⟩)
                    have k3 := (open5 HL7.out.nb).2.2.2.1
                    have hsz7 := HL7.out.sz
                    obtain ⟨ij, hi0, hz0, hz1, hz2⟩ := info_parts Tryz.infoInt
                    clear hq5 hz5
                    go_wp2_with fail
                    go_region_law (first
                      | (go_simp; go_at_call 98; (with_reducible refine (HNUM.out w7.drew (below_drew (Below.refl _ _))).mono ?_); rintro e w8 ⟨m8, s8, b8, rfl, hL8, hp8⟩; have p38 := (open5 hL8.nb).2.2.2.1; have p38b : ∀ ob, (w8.alloc ob).cell? ⟨wb.heap.size, 3, none⟩ = some (.slice aw2 ws.length cw2) := (fun ob => (World.cell?_alloc_lt _ _ _ (cell_lt p38)).trans p38); have z38 := (frz5 hL8.nb).2.2.2.1; have HROW := Lib.hid hL8.rw; have HL9 := Lib.hid hL8; have HP8 := Lib.hid hp8; have hs8 := HL9.out.sz; clear hL8 hp8)
                      | (refine step_append_lies _ (by rfl) _ _ _ (by rfl) (wb.heap.size + 1) 3 ij _ 1 8 Tryz.underlying69 hi0 hz0 hz1 hz2 rfl (by omega) (.slice aw2 ws.length cw2) ws.length _ (by rfl) (HROW.out.alloc _) ⟨w8.heap.size, 0, none⟩ 1 1 [.int .i64 (m8 : Int)] (by rfl) (by rfl) (World.news_of_block (cs := #[.int .i64 (m8 : Int)]) (t := 3) (fr := (0, 0)) (heap_alloc_new w8 _)) (by simp [Value.oneCell']) (by omega) (by unfold maxLen; omega) (by omega) (by simp; omega) (w8.heap.size + 1) (by simp) ?_; intro g2 cap2 wA hownA hgrow hat hlt; have hA := (hgrow.block wb.heap.size (by simp; omega) (fun e => by have := (HROW.out.lt _ e.symm).1; omega)).trans ((Below.heap_alloc w8 _ wb.heap.size (by omega)).trans HL9.out.nb); have pA := (open5 hA).2.2.2.1; have zA := (frz5 hA).2.2.2.1; have HA := Lib.hid hA; have HOA := Lib.hid hownA; have HGA := Lib.hid hgrow; have HAT := Lib.hid hat; clear hA hownA hgrow hat))
                    all_goals
                      have hK := HL9.out.wgt HI5.out hB hw0 (z := (m8 : Int)) (x := w8.alloc (.cells #[.int .i64 (m8 : Int)] 3)) (u := .slice (some ⟨g2, 0, none⟩) (ws.length + 1) cap2) (y := wA) ((Below.refl _ _).alloc (Nat.le_refl _) _) HGA.out HOA.out (fun q hq => by
                        have e2 : g2 = q := by simpa [Value.ownBlock] using hq
                        rcases HAT.out with h1 | h1
                        · exact .inl (e2 ▸ h1)
                        · exact .inr (by omega)) HGA.out.size
                      have HL6 := Lib.hid hK
                      clear hK HGA HOA HA pA zA HAT HROW p38 p38b z38 HL9 hs8 HNUM HL7 k3 hsz7
                      go_wp2_with fail
                      go_roundw
                      case rel => exact ⟨ws ++ [(m8 : Int)], ks ++ [z5], _, _, S5, v5, s8, b8, nodes5, HL6.out, lr_wgt hwl hks (by omega) hsg hgf HGO.out HC5.out HQ5.out HZ5.out H6.out HP8.out⟩
                      case measure =>
                        rw [rdM_eq HL6.out.i.bx, HM.out]
                        rcases HP8.out with ⟨rfl, h8⟩ | ⟨rfl, _⟩
                        · have := numR_len h8
                          simp; omega
                        · simp
                  · have HS := Lib.hid (take_n HL6.out.i h6)
                    have H6 := Lib.hid h6
                    clear h6
                    go_wp2_with fail
                    refine HS.out.mono ?_
                    rintro e w7 ⟨rfl, rfl⟩
                    clear HS
                    go_wp2_with fail
                    go_roundw
                    case rel => exact ⟨ws, ks ++ [z5], _, _, S5, v5, s5, b5, nodes5, HL6.out, lr_kid hwl hks (by omega) hsg hgf HGO.out HC5.out HP5.out H6.out⟩
                    case measure =>
                      rw [rdM_eq HL6.out.i.bx, HM.out]
                      rcases HP5.out with ⟨rfl, h8, _⟩ | ⟨rfl, _⟩
                      · have := (pEL_len numR fl61 (fun _ _ _ => numR_len) g).1 _ _ _ h8
                        simp at this ⊢; omega
                      · simp
            · rw [if_neg hk0] at hgo
              have e1 : decide ((0 : Int) < (ks.length : Int)) = true := decide_eq_true (by have := List.length_pos_iff.2 hk0; omega)
              have e4 : decide (0 < ks.length) = true := decide_eq_true (by have := List.length_pos_iff.2 hk0; omega)
              clear hk0
              go_wp2_with fail
              cases h4 : stripP [44, 32] s' with
              | none =>
                rw [h4] at hgo
                have HN : Hid (pE numR fl61 (f + 1) s nodes = none) := Lib.hid hgo.out
                have HS := Lib.hid (take_n HL.out.i (.inr h4))
                clear hgo h4
                refine HS.out.mono ?_
                rintro e w7 ⟨rfl, hw7⟩
                have hw8 := hw7.symm
                clear hw7
                subst hw8
                clear HS
                go_wp2_with fail
                go_ret
                exact ⟨S', _, _, true, nodes', 0, rfl, HL.out.i.fail (by omega), HX5.out.trans' (HL.out.step hrl5 HI5.out (HL.out.i.fail (by omega)) (rdx_box hB _ 1 (.bool true))).rdx, by omega, .inr ⟨rfl, HN.out⟩⟩
              | some s1 =>
                rw [h4] at hgo
                have HS := Lib.hid (take_y HL.out.i hw0 hB h4)
                have hl4 := strip_len h4
                simp at hl4
                clear h4 n4 q2 p1 y1
                refine HS.out.mono ?_
                rintro e w1 ⟨rfl, hI7, hX7⟩
                have HL1 := Lib.hid (HL.out.step hrl5 HI5.out hI7 hX7)
                clear hI7 hX7 HS
                have p1 := HL1.out.i.bx.at.2.1
                have y1 := HL1.out.i.bx.frz 1
                have q2 := HL1.out.i.bx.at.2.2.1
                by_cases hfull : 60 < nodes'.length
                · have HN : Hid (pE numR fl61 (f + 1) s nodes = none) := Lib.hid (by rw [hgo.out]; exact if_pos (decide_eq_true hfull))
                  have e2 : decide ((60 : Int) < (nodes'.length : Int)) = true := decide_eq_true (by omega)
                  have e3 : decide (60 < nodes'.length) = true := decide_eq_true (by omega)
                  clear hfull hgo
                  go_wp2_with fail
                  go_ret
                  exact ⟨S', _, _, true, nodes', 0, rfl, HL1.out.i.fail (by omega), HX5.out.trans' (HL1.out.step hrl5 HI5.out (HL1.out.i.fail (by omega)) (rdx_box hB _ 1 (.bool true))).rdx, by omega, .inr ⟨rfl, HN.out⟩⟩
                · have HGO : Hid (pE numR fl61 (f + 1) s nodes = lrQ g n ws ks (pE numR fl61 g s1 nodes')) := Lib.hid (by rw [hgo.out]; exact if_neg (by simp [fl61]; omega))
                  have e2 : decide ((60 : Int) < (nodes'.length : Int)) = false := decide_eq_false (by omega)
                  have e3 : decide (60 < nodes'.length) = false := decide_eq_false (by omega)
                  clear hgo
                  have HIHG := Lib.hid (HIH.out g (by omega))
                  have HCALL : Hid (∀ u : World, Below w1.heap.size w1 u → Calls Tryz.prog 71 #[.pointer (some ⟨RB, 0, none⟩)] u fun e w' => ∃ (S2 : Nat → Prop) (v2 : Value) (s2 : Byts) (b2 : Bool) (nodes2 : List Nod) (z : Int), e = .returned (.int .i64 z) ∧ NdL w0 wb 101 RB B S v (.int .i64 2) (.int .i64 0) (.int .i64 n) (.slice aw2 ws.length cw2) (.slice ak2 ks.length ck2) ws ks S2 v2 s2 b2 r nodes2 w' ∧ nodes2.length ≤ 60 + g ∧ ((b2 = false ∧ pE numR fl61 g s1 nodes' = some (s2, nodes2) ∧ z = ((nodes2.length - 1 : Nat) : Int)) ∨ (b2 = true ∧ pE numR fl61 g s1 nodes' = none))) := Lib.hid (fun u hu => by
                    have hL1 := HL1.out
                    refine (HIHG.out u S' _ nodes' s1 (hL1.i.below hu) (by omega) (by omega) (by omega)).mono ?_
                    rintro e w' ⟨S2, v2, s2, b2, nodes2, z, h1, h2, h3, h4, h5⟩
                    exact ⟨S2, v2, s2, b2, nodes2, z, h1, hL1.step hrl5 HI5.out h2 (h3.below (by have := hL1.sz; omega) hu), h4, h5⟩)
                  have k4 := (open5 HL1.out.nb).2.2.2.2
                  have hsz1 := HL1.out.sz
                  obtain ⟨ii, hi0, hz0, hz1, hz2⟩ := info_parts Tryz.infoInt
                  clear HIHG
                  go_wp2_with fail
                  go_region_law (first
                    | (go_simp; go_at_call 71; (with_reducible refine (HCALL.out w1.drew (below_drew (Below.refl _ _))).mono ?_); rintro e w5 ⟨S5, v5, s5, b5, nodes5, z5, rfl, hL5, hc5, hp5⟩; have p45 := (open5 hL5.nb).2.2.2.2; have p45b : ∀ ob, (w5.alloc ob).cell? ⟨wb.heap.size, 4, none⟩ = some (.slice ak2 ks.length ck2) := (fun ob => (World.cell?_alloc_lt _ _ _ (cell_lt p45)).trans p45); have z45 := (frz5 hL5.nb).2.2.2.2; have HROW := Lib.hid hL5.rk; have HL5 := Lib.hid hL5; have HC5 := Lib.hid hc5; have HP5 := Lib.hid hp5; have hs5 := HL5.out.sz; clear hL5 hc5 hp5)
                    | (refine step_append_lies _ (by rfl) _ _ _ (by rfl) (wb.heap.size + 1) 3 ii _ 1 8 Tryz.underlying69 hi0 hz0 hz1 hz2 rfl (by omega) (.slice ak2 ks.length ck2) ks.length _ (by rfl) (HROW.out.alloc _) ⟨w5.heap.size, 0, none⟩ 1 1 [.int .i64 z5] (by rfl) (by rfl) (World.news_of_block (cs := #[.int .i64 z5]) (t := 3) (fr := (0, 0)) (heap_alloc_new w5 _)) (by simp [Value.oneCell']) (by omega) (by unfold maxLen; omega) (by omega) (by simp; omega) (w5.heap.size + 1) (by simp) ?_; intro gg cap wA hownA hgrow hat hlt; have hA := (hgrow.block wb.heap.size (by simp; omega) (fun e => by have := (HROW.out.lt _ e.symm).1; omega)).trans ((Below.heap_alloc w5 _ wb.heap.size (by omega)).trans HL5.out.nb); have pA := (open5 hA).2.2.2.2; have zA := (frz5 hA).2.2.2.2; have HA := Lib.hid hA; have HOA := Lib.hid hownA; have HGA := Lib.hid hgrow; have HAT := Lib.hid hat; clear hA hownA hgrow hat))
                  all_goals
                    have hK := HL5.out.kid HI5.out hB hw0 (z := z5) (x := w5.alloc (.cells #[.int .i64 z5] 3)) (u := .slice (some ⟨gg, 0, none⟩) (ks.length + 1) cap) (y := wA) ((Below.refl _ _).alloc (Nat.le_refl _) _) HGA.out HOA.out (fun q hq => by
                      have e2 : gg = q := by simpa [Value.ownBlock] using hq
                      rcases HAT.out with h1 | h1
                      · exact .inl (e2 ▸ h1)
                      · exact .inr (by omega)) HGA.out.size
                    have HL6 := Lib.hid hK
                    clear hK HGA HOA HA pA zA HAT HROW p45 p45b z45 HL5 hs5 HCALL HL1 k4 hsz1 hi0 hz0 hz1 hz2
                    generalize wA.setCell _ _ = w6 at HL6 ⊢
                    have hcs : (b5 = false ∧ ∃ r6, stripP [42] s5 = some r6) ∨ (b5 = true ∨ stripP [42] s5 = none) := by
                      cases b5
                      · cases stripP [42] s5
                        · exact .inr (.inr rfl)
                        · exact .inl ⟨rfl, _, rfl⟩
                      · exact .inr (.inl rfl)
                    rcases hcs with ⟨rfl, r6, h6⟩ | h6
                    · have HS := Lib.hid (take_y HL6.out.i hw0 hB h6)
                      have hl6 := strip_len h6
                      simp at hl6
                      have H6 := Lib.hid h6
                      clear h6
                      go_wp2_with fail
                      refine HS.out.mono ?_
                      rintro e w7 ⟨rfl, hI7, hX7⟩
                      have HL7 := Lib.hid (HL6.out.step hrl5 HI5.out hI7 hX7)
                      clear hI7 hX7 HS HL6
                      obtain ⟨hq5, hz5⟩ : pE numR fl61 g s1 nodes' = some (s5, nodes5) ∧ z5 = ((nodes5.length - 1 : Nat) : Int) := by
                        rcases HP5.out with ⟨_, h1, h2⟩ | ⟨h1, _⟩
                        · exact ⟨h1, h2⟩
                        · cases h1
                      have hql := (pEL_len numR fl61 (fun _ _ _ => numR_len) g).1 _ _ _ hq5
                      simp only at hql
                      have HQ5 := Lib.hid hq5
                      have HZ5 := Lib.hid hz5
                      have HNUM : Hid (∀ u : World, Below w7.heap.size w7 u → Calls Tryz.prog 98 #[.pointer (some ⟨RB, 0, none⟩)] u fun e w' => ∃ (m : Nat) (s2 : Byts) (b2 : Bool), e = .returned (.int .i64 m) ∧ NdL w0 wb 101 RB B S v (.int .i64 2) (.int .i64 0) (.int .i64 n) (.slice aw2 ws.length cw2) (.slice (some ⟨gg, 0, none⟩) (ks.length + 1) cap) ws (ks ++ [z5]) S5 v5 s2 b2 r nodes5 w' ∧ ((b2 = false ∧ numR r6 = some (m, s2)) ∨ (b2 = true ∧ numR r6 = none))) := Lib.hid (fun u hu => by
                        have hL7 := HL7.out
                        refine (rnumber_i (hL7.i.below hu) hw0 hB (by omega)).mono ?_
                        rintro e w' ⟨m, s2, b2, h1, h2, h3, h4⟩
                        exact ⟨m, s2, b2, h1, hL7.step hrl5 HI5.out h2 (h3.below (by have := hL7.sz; omega) hu), h4⟩)
                      have k3 := (open5 HL7.out.nb).2.2.2.1
                      have hsz7 := HL7.out.sz
                      obtain ⟨ij, hi0, hz0, hz1, hz2⟩ := info_parts Tryz.infoInt
                      clear hq5 hz5
                      go_wp2_with fail
                      go_region_law (first
                        | (go_simp; go_at_call 98; (with_reducible refine (HNUM.out w7.drew (below_drew (Below.refl _ _))).mono ?_); rintro e w8 ⟨m8, s8, b8, rfl, hL8, hp8⟩; have p38 := (open5 hL8.nb).2.2.2.1; have p38b : ∀ ob, (w8.alloc ob).cell? ⟨wb.heap.size, 3, none⟩ = some (.slice aw2 ws.length cw2) := (fun ob => (World.cell?_alloc_lt _ _ _ (cell_lt p38)).trans p38); have z38 := (frz5 hL8.nb).2.2.2.1; have HROW := Lib.hid hL8.rw; have HL9 := Lib.hid hL8; have HP8 := Lib.hid hp8; have hs8 := HL9.out.sz; clear hL8 hp8)
                        | (refine step_append_lies _ (by rfl) _ _ _ (by rfl) (wb.heap.size + 1) 3 ij _ 1 8 Tryz.underlying69 hi0 hz0 hz1 hz2 rfl (by omega) (.slice aw2 ws.length cw2) ws.length _ (by rfl) (HROW.out.alloc _) ⟨w8.heap.size, 0, none⟩ 1 1 [.int .i64 (m8 : Int)] (by rfl) (by rfl) (World.news_of_block (cs := #[.int .i64 (m8 : Int)]) (t := 3) (fr := (0, 0)) (heap_alloc_new w8 _)) (by simp [Value.oneCell']) (by omega) (by unfold maxLen; omega) (by omega) (by simp; omega) (w8.heap.size + 1) (by simp) ?_; intro g2 cap2 wA hownA hgrow hat hlt; have hA := (hgrow.block wb.heap.size (by simp; omega) (fun e => by have := (HROW.out.lt _ e.symm).1; omega)).trans ((Below.heap_alloc w8 _ wb.heap.size (by omega)).trans HL9.out.nb); have pA := (open5 hA).2.2.2.1; have zA := (frz5 hA).2.2.2.1; have HA := Lib.hid hA; have HOA := Lib.hid hownA; have HGA := Lib.hid hgrow; have HAT := Lib.hid hat; clear hA hownA hgrow hat))
                      all_goals
                        have hK := HL9.out.wgt HI5.out hB hw0 (z := (m8 : Int)) (x := w8.alloc (.cells #[.int .i64 (m8 : Int)] 3)) (u := .slice (some ⟨g2, 0, none⟩) (ws.length + 1) cap2) (y := wA) ((Below.refl _ _).alloc (Nat.le_refl _) _) HGA.out HOA.out (fun q hq => by
                          have e2 : g2 = q := by simpa [Value.ownBlock] using hq
                          rcases HAT.out with h1 | h1
                          · exact .inl (e2 ▸ h1)
                          · exact .inr (by omega)) HGA.out.size
                        have HL6 := Lib.hid hK
                        clear hK HGA HOA HA pA zA HAT HROW p38 p38b z38 HL9 hs8 HNUM HL7 k3 hsz7
                        go_wp2_with fail
                        go_roundw
                        case rel => exact ⟨ws ++ [(m8 : Int)], ks ++ [z5], _, _, S5, v5, s8, b8, nodes5, HL6.out, lr_wgt hwl hks (by omega) hsg hgf HGO.out HC5.out HQ5.out HZ5.out H6.out HP8.out⟩
                        case measure =>
                          rw [rdM_eq HL6.out.i.bx, HM.out]
                          rcases HP8.out with ⟨rfl, h8⟩ | ⟨rfl, _⟩
                          · have := numR_len h8
                            simp; omega
                          · simp
                    · have HS := Lib.hid (take_n HL6.out.i h6)
                      have H6 := Lib.hid h6
                      clear h6
                      go_wp2_with fail
                      refine HS.out.mono ?_
                      rintro e w7 ⟨rfl, rfl⟩
                      clear HS
                      go_wp2_with fail
                      go_roundw
                      case rel => exact ⟨ws, ks ++ [z5], _, _, S5, v5, s5, b5, nodes5, HL6.out, lr_kid hwl hks (by omega) hsg hgf HGO.out HC5.out HP5.out H6.out⟩
                      case measure =>
                        rw [rdM_eq HL6.out.i.bx, HM.out]
                        rcases HP5.out with ⟨rfl, h8, _⟩ | ⟨rfl, _⟩
                        · have := (pEL_len numR fl61 (fun _ _ _ => numR_len) g).1 _ _ _ h8
                          simp at this ⊢; omega
                        · simp
    · have HN := Lib.hid hN
      have HS := Lib.hid (take_n HL6.out.i hh)
      clear hh hN HN5
      refine HS.out.mono ?_
      rintro e w7 ⟨rfl, rfl⟩
      have p1 := HL6.out.i.bx.at.2.1
      have y1 := HL6.out.i.bx.frz 1
      clear HS
      go_wp2_with fail
      have HL8 := Lib.hid (HL6.out.step hrl5 HI5.out (HL6.out.i.fail (by omega)) (rdx_box hB _ 1 (.bool true)))
      clear p1 y1
      generalize w7.setCell _ _ = w8 at HL8 ⊢
      go_loopw [36] (fun _ wr => wr = w8) (fun _ _ => 0)
      case atStart => rfl
      case round =>
        subst hrel
        have p1 := HL8.out.i.bx.at.2.1
        go_wp2_with fail
        clear p1
        obtain ⟨V, hV1, hV2, hV3⟩ := HL8.out.i.xb.row
        obtain ⟨NN, hNN⟩ : ∃ NN, NN = nodes.length := ⟨_, rfl⟩
        rw [← hNN] at hV2
        obtain ⟨av, cv, hav, _⟩ := rdK_of_row hV2
        subst hav
        have hnn : NN ≤ 60 + f := by omega
        have HNN := Lib.hid hNN
        have HV1 := Lib.hid hV1
        have HV3 := Lib.hid hV3
        have HRV := Lib.hid hV2
        have hbx := HL8.out.i.bx
        unfold RdB at hbx
        have q2 := cell_of_row _ _ 2 _ _ _ hbx
        have f2 := frozen_row hbx 2
        obtain ⟨n0, n1, n2, n3, n4⟩ := open5 HL8.out.nb
        have hws := HL8.out.sz
        have hBw : B ≤ wr.heap.size := by omega
        have q2b : (wr.alloc (Obj.cells #[(.int .i64 2), (.int .i64 0), (.int .i64 n), (.slice none 0 0), (.slice none 0 0)] 71)).cell? ⟨RB, 2, none⟩ = some (.slice av NN cv) := cell_of_row _ _ 2 _ _ _ (heap_alloc_at hbx _)
        have hown : ∀ g, (Value.slice av NN cv).ownBlock = some g → g ≠ RB := fun g hg e => HL8.out.i.own (e ▸ hg)
        have HBX := Lib.hid hbx
        have KA : Hid (∀ x y : World, x.grownBy y (Value.slice av NN cv).ownBlock → x.heap[RB]? = wr.heap[RB]? → wr.heap.size ≤ x.heap.size → ∃ s b r, y.heap[RB]? = some (.cells #[.string (mkB s), .bool b, .slice av NN cv, .int .i64 r] 101 (0, 0))) := Lib.hid (fun x y hg hx hsx => ⟨_, _, _, by
          rw [hg.block RB (by omega) (fun e => hown _ e.symm rfl), hx]
          exact HBX.out⟩)
        obtain ⟨i0, hi0, hz0, hz1, hz2⟩ := info_parts Tryz.infoNod
        clear hV1 hV2 hV3 hbx hNN hown
        go_wp2_with fail
        go_region_law (first
          | (refine step_append_lies _ (by rfl) _ _ _ (by rfl) B 71 i0 _ 5 72 Tryz.underlying30 hi0 hz0 hz1 hz2 rfl (by omega) (.slice av NN cv) NN _ (by rfl) ((HRV.out.alloc _).drew) ⟨wr.heap.size, 0, none⟩ 1 1 [(.int .i64 2), (.int .i64 0), (.int .i64 n), (.slice none 0 0), (.slice none 0 0)] (by rfl) (by rfl) (World.news_of_block (cs := #[(.int .i64 2), (.int .i64 0), (.int .i64 n), (.slice none 0 0), (.slice none 0 0)]) (t := 71) (fr := (0, 0)) (heap_alloc_new wr _)) (by simp [Value.oneCell']) (by omega) (by unfold maxLen; omega) (by omega) (by simp; omega) (wr.heap.size + 1) (by simp) ?_; intro gg cap wA hownA hgrow hat hlt; obtain ⟨sA, bA, rA, hA⟩ := KA.out _ _ hgrow (Below.heap_alloc wr _ _ (by omega)) (by simp); have pA := cell_of_row _ _ 2 _ _ _ hA; have zA := frozen_row hA 2; have HA := Lib.hid hA; have HOA := Lib.hid hownA; have HGA := Lib.hid hgrow; have HAT := Lib.hid hat; clear hA hownA hgrow hat q2 q2b f2))
        all_goals
          obtain ⟨a5, c5, hv5, _⟩ := rdK_of_row HOA.out
          cases hv5
          obtain ⟨SF, hF1, hF2⟩ := HL8.out.fin HI5.out hB hw0 HV1.out HV3.out (x := (wr.alloc _).drew) (u := .slice (some ⟨gg, 0, none⟩) (NN + 1) cap) (y := wA) (below_drew ((Below.refl _ _).alloc (Nat.le_refl _) _)) HGA.out (by rw [← HNN.out]; exact HOA.out) (fun g hg => by
            have e2 : gg = g := by simpa [Value.ownBlock] using hg
            rcases HAT.out with h1 | h1
            · exact .inl (e2 ▸ h1)
            · exact .inr (by omega)) HGA.out.size
          have HF1 := Lib.hid hF1
          have HF2 := Lib.hid hF2
          clear hF1 hF2 HOA HGA HAT HV1 HV3 HRV KA HBX HA
          go_wp2_with fail
          go_ret
          refine ⟨SF, _, _, _, _, (NN : Int), ?_, HF1.out, HX5.out.trans' HF2.out, by rw [List.length_append, ← HNN.out]; simp; omega, ?_⟩
          · show Ending.returned (.int .i64 _) = _
            congr 2
            all_goals omega
          exact .inr ⟨rfl, HN.out⟩
end Go.Proofs.YtcojmmhclklpoaaGreatDoor
namespace Go.Proofs.YtcojmmhclklpoaaGreatDoor
open Go.RowKit Go.Shelf

theorem rdnode_c (w0 : World) (RB B : Nat) (hw0 : w0.heap.size ≤ B) (hB : B ≤ RB) (r : Int) (f : Nat) : NdR w0 RB B r f := by
  induction f using Nat.strongRecOn with
  | _ f ih =>
    cases f with
    | zero => intro w S v nodes s _ h; omega
    | succ f => exact rnode_step w0 RB B hw0 hB r f (fun g hg => ih g (by omega))
/-- a reader's nodes have no more weights than the text has bytes -/
theorem pE_wts (num : Byts → Option (Nat × Byts)) (full : Nat → Bool) (hn : ∀ s r v, num s = some (v, r) → r.length + 1 ≤ s.length) (M : Nat) : ∀ f, (∀ s ns q, pE num full f s ns = some q → s.length ≤ M → (∀ nd ∈ ns, nd.weights.length ≤ M) → ∀ nd ∈ q.2, nd.weights.length ≤ M) ∧ (∀ s ns v ws ks q, pL num full f s ns v ws ks = some q → ws.length + s.length ≤ M → (∀ nd ∈ ns, nd.weights.length ≤ M) → ∀ nd ∈ q.2, nd.weights.length ≤ M) := by
  intro f
  induction f with
  | zero => exact ⟨fun s ns q h => by simp [pE] at h, fun s ns v ws ks q h => by simp [pL] at h⟩
  | succ f ih =>
    refine ⟨fun s ns q h hM hns => ?_, fun s ns v ws ks q h hM hns => ?_⟩
    · rw [pE] at h
      split at h
      · rename_i r hr
        split at h
        · cases h
        · rename_i p hp
          cases h
          intro nd hnd
          rcases List.mem_append.1 hnd with hnd | hnd
          · exact hns nd hnd
          · rw [List.mem_singleton] at hnd; subst hnd; simp
      · split at h
        · cases h
        · rename_i p hp
          split at h
          · cases h
          · rename_i r hr
            have h1 := hn _ _ _ hp
            have h2 := strip_len hr
            exact ih.2 _ _ _ _ _ _ h (by simp; omega) hns
    · rw [pL] at h
      split at h
      · rename_i r hr
        cases h
        intro nd hnd
        rcases List.mem_append.1 hnd with hnd | hnd
        · exact hns nd hnd
        · rw [List.mem_singleton] at hnd; subst hnd; show ws.length ≤ M; omega
      · split at h
        · cases h
        · rename_i s1 hs1
          have hs : s1.length ≤ s.length := by
            split at hs1
            · cases hs1; exact Nat.le_refl _
            · have := strip_len hs1; omega
          split at h
          · cases h
          · split at h
            · cases h
            · rename_i q1 hq
              have h1 := (pEL_len num full hn f).1 _ _ _ hq
              have h9 := ih.1 _ _ _ hq (by omega) hns
              split at h
              · exact ih.2 _ _ _ _ _ _ h (by omega) h9
              · rename_i r1 hr1
                have h2 := strip_len hr1
                split at h
                · cases h
                · rename_i p hp
                  have h3 := hn _ _ _ hp
                  exact ih.2 _ _ _ _ _ _ h (by simp; omega) h9
theorem pR_sum {s : Byts} (hs : s.length ≤ 1000) {q : Byts × List Nod} (h : pE numR fl61 (s.length + 1) s [] = some q) (r : Int) : XprSum ⟨q.2, r⟩ := fun k nd hk => by
  have h1 := (pE_few numR fl61 (fun _ _ _ => numR_len) 1000 _).1 _ _ _ h hs (fun nd h => by cases h) nd (List.mem_of_getElem? hk)
  have h2 := (pE_wts numR fl61 (fun _ _ _ => numR_len) 1000 _).1 _ _ _ h hs (fun nd h => by cases h) nd (List.mem_of_getElem? hk)
  omega

set_option maxRecDepth 100000 in
set_option maxHeartbeats 4000000 in
theorem rparse_c (s : Byts) (hs1000 : s.length ≤ 1000) (w : World) (hp : HasPow w) :
    Calls Tryz.prog 32 #[.string (mkB s)] w fun e w' => RetX (parR s).1 (parR s).2 w e w' := by
  have hsz := mkB_size s
  obtain ⟨D, hD⟩ : ∃ D, mkB s = D := ⟨_, rfl⟩
  have HD := Lib.hid hD
  rw [hD] at hsz ⊢
  clear hD
  have hl : ¬ 4096 < s.length := by omega
  have HPN : Hid (pE numR fl61 (s.length + 1) s [] = none → parR s = (⟨[], 0⟩, 2)) := Lib.hid (parR_none hl)
  have HPB : Hid (∀ q, pE numR fl61 (s.length + 1) s [] = some q → ¬ ((q.1 = [] ∧ xprE ⟨q.2, ((q.2.length - 1 : Nat) : Int)⟩ = 0) ∧ fmtX ⟨q.2, ((q.2.length - 1 : Nat) : Int)⟩ = (s, 0)) → parR s = (⟨[], 0⟩, 2)) := Lib.hid (fun q => parR_bad hl)
  have HPK : Hid (∀ q, pE numR fl61 (s.length + 1) s [] = some q → ((q.1 = [] ∧ xprE ⟨q.2, ((q.2.length - 1 : Nat) : Int)⟩ = 0) ∧ fmtX ⟨q.2, ((q.2.length - 1 : Nat) : Int)⟩ = (s, 0)) → parR s = (⟨q.2, ((q.2.length - 1 : Nat) : Int)⟩, 0)) := Lib.hid (fun q => parR_ok hl)
  obtain ⟨R, hR⟩ : ∃ R, parR s = R := ⟨_, rfl⟩
  rw [hR] at HPN HPB HPK ⊢
  have e1 : decide (4096 < D.size) = false := decide_eq_false (by omega)
  have e2 : decide (4096 < s.length) = false := decide_eq_false hl
  have e3 : decide ((4096 : Int) < (s.length : Int)) = false := decide_eq_false (by omega)
  have HP := Lib.hid hp
  clear hR hp
  go_enter Tryz.func32, Tryz.ntmps32
  go_wp2_with fail
  generalize hW2 : (w.alloc _).alloc _ = W2
  obtain ⟨gX, gR, hb2, hs2⟩ := box2' hW2
  have GX := Lib.hid gX
  have HS2 := Lib.hid hs2
  have hlt2 : w.heap.size + 1 < W2.heap.size := by omega
  have hI2 : RdI w 101 (w.heap.size + 1) (w.heap.size + 1) (fun _ => False) s false (.slice none 0 0) 0 [] W2 := by
    refine ⟨hb2, ?_, XB.nil _ _ _ _ (fun _ h => h.elim), fun h => h, by simp [Value.ownBlock]⟩
    unfold RdB
    rw [HD.out]; exact gR
  have HN := Lib.hid (rdnode_c w (w.heap.size + 1) (w.heap.size + 1) (Nat.le_succ _) (Nat.le_refl _) 0  (s.length + 1) W2 _ _ [] s hI2 (by omega) (by simp) (by omega))
  clear hW2 gX gR hb2 hs2 hI2
  with_reducible refine HN.out.mono ?_
  rintro e w3 ⟨S3, v3, s3, b3, n3, z, rfl, hI3, hX3, hc3, hp3⟩
  have h3X : w3.heap[w.heap.size]? = some (.cells #[.slice none 0 0, .int .i64 0] 32 (0, 0)) := by
    rw [hX3.1.blk _ (by omega) (by omega) (by simp [Value.ownBlock])]; exact GX.out
  have hxl : ∀ g, S3 g → w.heap.size + 2 ≤ g := fun g hg => by
    rcases hX3.2.2 g hg with h | h
    · exact h.elim
    · have := HS2.out; omega
  have hvl : ∀ g, v3.ownBlock = some g → w.heap.size + 2 ≤ g := fun g hg => by
    rcases hX3.1.own g hg with h | h
    · simp [Value.ownBlock] at h
    · have := HS2.out; omega
  obtain ⟨x0, x1⟩ := (open2 h3X).1
  obtain ⟨y0, y1⟩ := (open2 h3X).2
  have H3X := Lib.hid h3X
  obtain ⟨p0, p1, p2, p3⟩ := hI3.bx.at
  have z3 := hI3.bx.frz 3
  obtain ⟨a3, c3, hv3, _⟩ := hI3.xb.shape
  subst hv3
  have hbw := hI3.bel
  have H3 := Lib.hid hI3
  have HX3 := Lib.hid hX3.1.bel.size
  have HP3 := Lib.hid hp3
  have HXL := Lib.hid hxl
  have HVL := Lib.hid hvl
  have HB3 := Lib.hid hbw
  clear hI3 hX3 h3X hc3 hp3 hxl hvl hbw HN GX
  have HX4 : Hid ((w3.setCell ⟨w.heap.size + 1, 3, none⟩ (.int .i64 z)).heap[w.heap.size]? = some (.cells #[.slice none 0 0, .int .i64 0] 32 (0, 0))) := Lib.hid (by
    rw [Below.heap_setCell _ _ _ _ (by show w.heap.size ≠ w.heap.size + 1; omega)]; exact H3X.out)
  have HB4 : Hid (Below w.heap.size w (w3.setCell ⟨w.heap.size + 1, 3, none⟩ (.int .i64 z))) := Lib.hid (HB3.out.setCell (p := ⟨w.heap.size + 1, 3, none⟩) (Nat.le_succ _) _)
  rcases HP3.out with ⟨rfl, hq, hz⟩ | ⟨rfl, hq⟩
  · have HQ := Lib.hid hq
    have HZ := Lib.hid hz
    clear hq hz
    by_cases hs0 : s3 = []
    · have e5 : (mkB s3).toList.isEmpty = true := by rw [ByteArray.toList_eq, mkB_list, hs0]; rfl
      have HS0 := Lib.hid hs0
      clear hs0
      have hXB := H3.out.xb.move (w' := w3.setCell ⟨w.heap.size + 1, 3, none⟩ (.int .i64 z)) (fun g hg => Below.heap_setCell _ _ _ _ (by have := HXL.out g hg; show g ≠ w.heap.size + 1; omega)) (fun g hg => Below.heap_setCell _ _ _ _ (by have := HVL.out g hg; show g ≠ w.heap.size + 1; omega)) (by simp)
      obtain ⟨a4, c4, e4, hxm⟩ := hXB.shape
      cases e4
      have HV := Lib.hid (rvalid10_c ⟨n3, z⟩ (pR_sum hs1000 HQ.out z) a3 n3.length c3 _ hxm)
      have HXB := Lib.hid hXB
      clear hXB hxm
      go_wp2_with fail
      with_reducible refine HV.out.mono ?_
      rintro e w5 ⟨rfl, hb5⟩
      have hx5 := heap_below hb5 HX4.out
      obtain ⟨x0, x1⟩ := (open2 hx5).1
      obtain ⟨y0, y1⟩ := (open2 hx5).2
      have hb5' := Below.next HB4.out hb5
      have HXB5 := Lib.hid (HXB.out.below hb5)
      have hr5 := (H3.out.bx)
      have t2 : w5.cell? ⟨w.heap.size + 1, 2, none⟩ = some (.slice a3 n3.length c3) := cell_keep hb5 (by go_simp)
      have t3 : w5.cell? ⟨w.heap.size + 1, 3, none⟩ = some (.int .i64 z) := cell_keep hb5 (by go_simp)
      have HX5 := Lib.hid hx5
      have HB5 := Lib.hid hb5'
      obtain ⟨E, hE⟩ : ∃ E, xprE ⟨n3, z⟩ = E := ⟨_, rfl⟩
      rw [hE]
      have HE := Lib.hid hE
      clear hx5 hb5 hb5' hr5 hE HV HXB p0 p1 p2 p3 z3
      by_cases hE0 : E = 0
      · subst hE0
        have hxE : xprE ⟨n3, z⟩ = 0 := HE.out
        have HFM := Lib.hid (rformat_c ⟨n3, z⟩ (pR_sum hs1000 HQ.out z) (pR_few hs1000 HQ.out z) a3 n3.length c3 w5 (HP.out.below HB5.out) (by obtain ⟨a9, c9, e9, h9⟩ := HXB5.out.shape; cases e9; exact h9))
        obtain ⟨⟨FS, FE⟩, hFX⟩ : ∃ Q, fmtX ⟨n3, z⟩ = Q := ⟨_, rfl⟩
        have HFX := Lib.hid hFX
        rw [hFX] at HFM
        simp only at HFM
        obtain ⟨FB, hFB⟩ : ∃ FB, mkB FS = FB := ⟨_, rfl⟩
        rw [hFB] at HFM
        have HFB := Lib.hid hFB
        clear hFX hFB
        go_wp2_with fail
        with_reducible refine HFM.out.mono ?_
        rintro e w6 ⟨rfl, hb6⟩
        have HX6 := Lib.hid (heap_below hb6 HX5.out)
        have HB6 := Lib.hid (Below.next HB5.out hb6)
        have HXB6 := Lib.hid (HXB5.out.below hb6)
        have t2 : w6.cell? ⟨w.heap.size + 1, 2, none⟩ = some (.slice a3 n3.length c3) := cell_keep hb6 t2
        have t3 : w6.cell? ⟨w.heap.size + 1, 3, none⟩ = some (.int .i64 z) := cell_keep hb6 t3
        clear x0 x1 y0 y1
        obtain ⟨x0, x1⟩ := (open2 HX6.out).1
        obtain ⟨y0, y1⟩ := (open2 HX6.out).2
        clear hb6 HFM HX5 HB5 HXB5 hxE
        by_cases hfe : FE = 0
        · subst hfe
          by_cases hfs : FB = D
          · have e7 : (FB.toList == D.toList) = true := by rw [hfs]; exact bs_same _
            have HQ2 : Hid (R = (⟨n3, z⟩, 0)) := Lib.hid (by
              have hfs2 : FS = s := by
                have h9 : mkB FS = mkB s := by rw [HFB.out, HD.out, hfs]
                exact congrArg (fun b : ByteArray => b.data.toList) h9
              have := HPK.out _ HQ.out ⟨⟨HS0.out, by have h1 := HE.out; rw [HZ.out] at h1; exact h1⟩, by have h1 := HFX.out; rw [HZ.out, hfs2] at h1; exact h1⟩
              rw [this, HZ.out])
            clear hfs
            go_wp2_with fail
            generalize hWF : (w6.setCell _ _).setCell _ _ = WF
            obtain ⟨e9, hbf⟩ := fin_box HX6.out (Nat.le_refl _) HB6.out hWF
            have hkeep : ∀ g, g ≠ w.heap.size → WF.heap[g]? = w6.heap[g]? := fun g hg => by
              rw [← hWF, Below.heap_setCell _ ⟨w.heap.size, 1, none⟩ _ g hg, Below.heap_setCell _ ⟨w.heap.size, 0, none⟩ _ g hg]
            have hsF : WF.heap.size = w6.heap.size := by rw [← hWF]; simp
            have hxb := HXB6.out.move (w' := WF) (fun g hg => hkeep g (by have := HXL.out g hg; omega)) (fun g hg => hkeep g (by have := HVL.out g hg; omega)) (by omega)
            obtain ⟨a4, c4, e4, hxmr⟩ := hxb.xmr (lo := w.heap.size) (fun g hg => by have := HXL.out g hg; omega) (by omega)
            cases e4
            have HXM := Lib.hid hxmr
            have HBF := Lib.hid hbf
            obtain ⟨⟨f0, f1⟩, _⟩ := open2 e9
            clear hWF e9 hbf hkeep hsF hxb hxmr x0 x1 y0 y1
            refine bodyPost_ret (v := .tuple #[.agg #[.slice a3 n3.length c3, .int .i64 z], .int .i64 0]) ?_ rfl (by rw [HQ2.out]; exact ⟨a3, c3, rfl, HXM.out, HBF.out⟩)
            rw [results_cell_tmp rfl]
            go_simp
          · have e7 : (FB.toList == D.toList) = false := bs_diff hfs
            have HQ2 : Hid (R = (⟨[], 0⟩, 2)) := Lib.hid (HPB.out _ HQ.out (fun h => hfs (by have h2 := h.2; rw [← HZ.out, HFX.out] at h2; have h3 : FS = s := congrArg Prod.fst h2; rw [← HFB.out, ← HD.out, h3])))
            clear hfs
            go_wp2_with fail
            generalize hWF : (w6.setCell _ _).setCell _ _ = WF
            obtain ⟨e9, hbf⟩ := fin_box HX6.out (Nat.le_refl _) HB6.out hWF
            have HBF := Lib.hid hbf
            obtain ⟨⟨f0, f1⟩, _⟩ := open2 e9
            clear hWF e9 hbf x0 x1 y0 y1
            refine bodyPost_ret (v := .tuple #[.agg #[.slice none 0 0, .int .i64 0], .int .i64 2]) ?_ rfl (by rw [HQ2.out]; exact RetX.none_ rfl HBF.out)
            rw [results_cell_tmp rfl]
            go_simp
        · have hnf : (FE != 0) = true := by simpa using hfe
          have HQ2 : Hid (R = (⟨[], 0⟩, 2)) := Lib.hid (HPB.out _ HQ.out (fun h => hfe (by have h2 := h.2; rw [← HZ.out, HFX.out] at h2; exact congrArg Prod.snd h2)))
          clear hfe
          go_wp2_with fail
          generalize hWF : (w6.setCell _ _).setCell _ _ = WF
          obtain ⟨e9, hbf⟩ := fin_box HX6.out (Nat.le_refl _) HB6.out hWF
          have HBF := Lib.hid hbf
          obtain ⟨⟨f0, f1⟩, _⟩ := open2 e9
          clear hWF e9 hbf x0 x1 y0 y1
          refine bodyPost_ret (v := .tuple #[.agg #[.slice none 0 0, .int .i64 0], .int .i64 2]) ?_ rfl (by rw [HQ2.out]; exact RetX.none_ rfl HBF.out)
          rw [results_cell_tmp rfl]
          go_simp
      · have hne : (E != 0) = true := by simpa using hE0
        have HQ2 : Hid (R = (⟨[], 0⟩, 2)) := Lib.hid (HPB.out _ HQ.out (fun h => hE0 (by rw [← HE.out, HZ.out]; exact h.1.2)))
        clear hE0
        go_wp2_with fail
        generalize hWF : (w5.setCell _ _).setCell _ _ = WF
        obtain ⟨e9, hbf⟩ := fin_box HX5.out (Nat.le_refl _) HB5.out hWF
        have HBF := Lib.hid hbf
        obtain ⟨⟨f0, f1⟩, _⟩ := open2 e9
        clear hWF e9 hbf x0 x1 y0 y1
        refine bodyPost_ret (v := .tuple #[.agg #[.slice none 0 0, .int .i64 0], .int .i64 2]) ?_ rfl (by rw [HQ2.out]; exact RetX.none_ rfl HBF.out)
        rw [results_cell_tmp rfl]
        go_simp
    · have e5 : (mkB s3).toList.isEmpty = false := by
        rw [ByteArray.toList_eq, mkB_list]
        cases s3 with
        | nil => exact absurd rfl hs0
        | cons c r => rfl
      have HQ2 : Hid (R = (⟨[], 0⟩, 2)) := Lib.hid (HPB.out _ HQ.out (fun h => hs0 h.1.1))
      clear hs0
      go_wp2_with fail
      generalize hWF : ((w3.setCell _ _).setCell _ _).setCell _ _ = WF
      obtain ⟨e9, hbf⟩ := fin_box HX4.out (Nat.le_refl _) HB4.out hWF
      have HBF := Lib.hid hbf
      obtain ⟨⟨f0, f1⟩, _⟩ := open2 e9
      clear hWF e9 hbf x0 x1 y0 y1 p0 p1 p2 p3 z3
      refine bodyPost_ret (v := .tuple #[.agg #[.slice none 0 0, .int .i64 0], .int .i64 2]) ?_ rfl (by rw [HQ2.out]; exact RetX.none_ rfl HBF.out)
      rw [results_cell_tmp rfl]
      go_simp
  · have HQ := Lib.hid (HPN.out hq)
    clear hq
    go_wp2_with fail
    generalize hWF : ((w3.setCell _ _).setCell _ _).setCell _ _ = WF
    obtain ⟨e9, hbf⟩ := fin_box HX4.out (Nat.le_refl _) HB4.out hWF
    have HBF := Lib.hid hbf
    obtain ⟨⟨f0, f1⟩, _⟩ := open2 e9
    clear hWF e9 hbf x0 x1 y0 y1 p0 p1 p2 p3 z3
    refine bodyPost_ret (v := .tuple #[.agg #[.slice none 0 0, .int .i64 0], .int .i64 2]) ?_ rfl (by rw [HQ.out]; exact RetX.none_ rfl HBF.out)
    rw [results_cell_tmp rfl]
    go_simp
end Go.Proofs.YtcojmmhclklpoaaGreatDoor
namespace Go.Proofs.YtcojmmhclklpoaaGreatDoor
open Go.RowKit Go.Shelf

set_option maxRecDepth 100000 in
set_option maxHeartbeats 8000000 in
theorem parses_w (s : ByteArray) (w : World) (ht : HasTab w) (hp : HasPow w) (hr : HasRng w) (hy : HasSyn w) (w0 : s.size ≤ maxLen) :
    Calls Tryz.prog 8 #[.string s] w fun e w' => e = .returned (.bool true) ∧ Below w.heap.size w w' := by
  have HA := Lib.hid (fun u (hb : Below w.heap.size w u) => awake10_c u (ht.below hb) (hp.below hb) (hr.below hb) (hy.below hb))
  by_cases h1 : (600 : Int) < (s.size : Int)
  · have d1 : decide ((600 : Int) < (s.size : Int)) = true := decide_eq_true h1
    have d2 : decide (600 < s.size) = true := decide_eq_true (by omega)
    clear h1 ht hp hr hy w0
    go_enter Tryz.func8, Tryz.ntmps8
    go_wp2_with fail
    with_reducible refine (HA.out w (Below.refl _ _)).mono ?_
    rintro e w1 ⟨rfl, b1⟩
    go_wp2_with fail
    with_reducible refine (HA.out w1 b1).mono ?_
    rintro e w2 ⟨rfl, b2⟩
    go_wp2_with fail
    go_ret
    exact ⟨rfl, Below.next b1 b2⟩
  have d1 : decide ((600 : Int) < (s.size : Int)) = false := decide_eq_false h1
  have d2 : decide (600 < s.size) = false := decide_eq_false (by omega)
  obtain ⟨L, hL⟩ : ∃ L, s.data.toList = L := ⟨_, rfl⟩
  have hms : mkB L = s := by rw [← hL]; exact mkB_of s
  have hLs : L.length = s.size := by rw [← hms]; exact (mkB_size L).symm
  have HP := Lib.hid (fun u (hb : Below w.heap.size w u) => parse_c L u (hp.below hb) (hr.below hb) (hy.below hb))
  have HR := Lib.hid (fun u (hb : Below w.heap.size w u) => rparse_c L (by omega) u (hp.below hb))
  rw [par_eq] at HR
  have HSM := Lib.hid (fun a n c a2 n2 c2 u h h2 => same10_c (parX L).1 a n c a2 n2 c2 u h h2)
  rw [hms] at HP HR
  obtain ⟨Q, hQ⟩ : ∃ Q, parX L = Q := ⟨_, rfl⟩
  rw [hQ] at HP HR HSM
  obtain ⟨X, E⟩ := Q
  simp only at HP HR HSM
  unfold RetX at HP HR
  obtain ⟨NL, hNL⟩ : ∃ NL, X.nodes.length = NL := ⟨_, rfl⟩
  obtain ⟨RR, hRR⟩ : ∃ RR, X.root = RR := ⟨_, rfl⟩
  rw [hNL, hRR] at HP HR
  rw [hRR] at HSM
  have hee : (E == E) = true := by simp
  clear h1 ht hp hr hy hQ hNL hRR hms hL hLs w0
  go_enter Tryz.func8, Tryz.ntmps8
  go_wp2_with fail
  with_reducible refine (HA.out w (Below.refl _ _)).mono ?_
  rintro e w3 ⟨rfl, b3⟩
  have HB3 := Lib.hid b3
  clear b3 HA
  go_wp2_with fail
  with_reducible refine (HP.out w3 HB3.out).mono ?_
  rintro e w4 ⟨a4, c4, rfl, x4, b4⟩
  obtain ⟨W5, hW5⟩ : ∃ W5, W5 = w4.alloc (.cells #[.slice a4 NL c4, .int .i64 RR] 32) := ⟨_, rfl⟩
  have b5 : Below w4.heap.size w4 W5 := by rw [hW5]; exact (Below.refl _ _).alloc (Nat.le_refl _) _
  have g5 : W5.heap[w4.heap.size]? = some (.cells #[.slice a4 NL c4, .int .i64 RR] 32 (0, 0)) := by rw [hW5]; exact heap_alloc_new _ _
  have HB5 := Lib.hid (Below.next HB3.out (Below.next b4 b5))
  have HX5 := Lib.hid (x4.xm.below b5)
  have HKA := Lib.hid (fun (u : World) (hu : Below W5.heap.size W5 u) => (open2 (heap_below hu g5)).1)
  clear b4 b5 g5 x4 HP
  go_wp2_with fail
  rw [← hW5]
  clear hW5
  with_reducible refine (HR.out W5 HB5.out).mono ?_
  rintro e w6 ⟨a6, c6, rfl, x6, b6⟩
  obtain ⟨W7, hW7⟩ : ∃ W7, W7 = w6.alloc (.cells #[.slice a6 NL c6, .int .i64 RR] 32) := ⟨_, rfl⟩
  have b7 : Below w6.heap.size w6 W7 := by rw [hW7]; exact (Below.refl _ _).alloc (Nat.le_refl _) _
  have g7 : W7.heap[w6.heap.size]? = some (.cells #[.slice a6 NL c6, .int .i64 RR] 32 (0, 0)) := by rw [hW7]; exact heap_alloc_new _ _
  have b67 := Below.next b6 b7
  have HB7 := Lib.hid (Below.next HB5.out b67)
  have HX7 := Lib.hid (HX5.out.below b67)
  have HY7 := Lib.hid (x6.xm.below b7)
  have HS7 := Lib.hid (HSM.out a4 NL c4 a6 NL c6 W7 HX7.out HY7.out)
  obtain ⟨k0, k1⟩ := HKA.out W7 b67
  obtain ⟨l0, l1⟩ := (open2 g7).1
  rw [hW7] at k0 k1 l0 l1
  clear b6 b7 b67 g7 x6 HR HKA HX5
  go_wp2_with fail
  rw [← hW7]
  clear hW7 k0 k1 l0 l1
  with_reducible refine HS7.out.mono ?_
  rintro e w8 ⟨rfl, b8⟩
  have HB8 := Lib.hid (Below.next HB7.out b8)
  clear b8 HS7
  go_wp2_with fail
  go_ret
  exact ⟨rfl, HB8.out⟩
end Go.Proofs.YtcojmmhclklpoaaGreatDoor
