/- Texts laid together. Layer 20: awake (printed by aw20.py). Drafts in memory; nodes whose lists lie where nothing is being built. Plain lemmas over the model, no program. A handed slice of integers, as a law's frame opens it. Handed drafts, as a law's frame opens them. Handed trees, choices, expressions, descriptions, as a law's frame opens them. The reference's weight and sum of layer 10. Nodes that lie in a range of blocks: they read the same in every world that agrees there. Plain lemmas over the model, no program. A region that draws its order: operations that stay in a class of worlds, and behind them, in one forced order, a tail that writes. Over any program. -/
import Derived.Test.YtflpkkebampmfaaGreatDoorGIntersectCheck1
import Derived.Test.YtflpkkebampmfaaGreatDoorGIntersectCheck3
import Derived.Test.YtflpkkebampmfaaGreatDoorGIntersectCheck4
import Derived.Test.YtflpkkebampmfaaGreatDoorGIntersectCheck5
import Derived.Test.YtflpkkebampmfaaGreatDoorGIntersectCheck7
import Derived.Test.YtflpkkebampmfaaGreatDoorProg
import Derived.Deep.RegionHeld3
import Derived.OpenShut
import Derived.Deep.Slices
import Derived.Deep.Fields
import Derived.ChangeSame
import Derived.StillTail
import Derived.Deep.Quiet
import Derived.Deep.QuietTactic
namespace Go.Proofs.YtflpkkebampmfaaGreatDoor
open Go.RowKit Go.Shelf

theorem awL : ([3#16, 5#16, 6#16] : List (BitVec 16)).map setV2 = [.int .u16 3, .int .u16 5, .int .u16 6] := rfl
theorem aw_p1 (u : World) (a : Option Addr) (h : Rd u a 3 3 [.int .u16 3, .int .u16 5, .int .u16 6]) : Calls Tryz.prog 14 #[.slice a 3 3, .slice a 3 3, .int .u16 1] u fun e w' => e = .returned (.tuple #[.int .u16 3, .int .u16 5, .int .i64 0]) ∧ Below u.heap.size u w' := by
  rw [← awL] at h
  have := pair_c [3#16, 5#16, 6#16] [3#16, 5#16, 6#16] 1#16 a 3 3 a 3 3 u h h
  rw [aw_pair.1] at this
  exact this
theorem aw_p0 (u : World) (a : Option Addr) (h : Rd u a 3 3 [.int .u16 3, .int .u16 5, .int .u16 6]) : Calls Tryz.prog 14 #[.slice a 3 3, .slice a 3 3, .int .u16 0] u fun e w' => ∃ x y, e = .returned (.tuple #[.int .u16 x, .int .u16 y, .int .i64 13]) ∧ Below u.heap.size u w' := by
  rw [← awL] at h
  have := pair_c [3#16, 5#16, 6#16] [3#16, 5#16, 6#16] 0#16 a 3 3 a 3 3 u h h
  rw [aw_pair.2] at this
  exact this.mono fun e w' hh => ⟨_, _, hh⟩
theorem aw_pa (u : World) (hr : HasRng u) (hy : HasSyn u) : Calls Tryz.prog 15 #[.string ⟨#[48, 40, 49, 40, 121, 44, 32, 50, 40, 121, 44, 32, 120, 41, 41, 44, 32, 49, 40, 50, 40, 121, 44, 32, 120, 41, 44, 32, 120, 41, 41]⟩] u fun e w' => ∃ a c, e = .returned (.tuple #[.agg #[.slice a 11 c, .int .i64 (parC awT).1.root], .int .i64 0]) ∧ TM w' a 11 c (parC awT).1.nodes ∧ Below u.heap.size u w' := by
  have := parse_c awT (by decide) u hr hy
  rw [aw_par.1, aw_par.2.1] at this
  exact this
theorem aw_v0 (u : World) (a1 : Option Addr) (c1 : Nat) (a2 : Option Addr) (c2 : Nat) (h1 : XM u a1 4 c1 twoX.nodes) (h2 : XM u a2 4 c2 twoX.nodes) (ht : HasTab u) :
    Calls Tryz.prog 8 #[.agg #[.slice a1 4 c1, .int .i64 3], .agg #[.slice a2 4 c2, .int .i64 3], .int .u16 0] u fun e w' => ∃ a n c r, e = .returned (.tuple #[.agg #[.slice a n c, .int .i64 r], .int .i64 0]) ∧ (TM w' a n c (prvS twoX twoX (leftS twoX twoX 0#16)).1.nodes ∧ r = (prvS twoX twoX (leftS twoX twoX 0#16)).1.root) ∧ Below u.heap.size u w' := by
  have := prove_ok twoX twoX 0#16 twoX_ok twoX_ok twoX_few twoX_few a1 4 c1 a2 4 c2 u h1 h2 ht
  rw [aw_prv.1] at this
  exact this.mono fun e w' ⟨a, c, h1, h2, h3⟩ => ⟨a, _, c, _, h1, ⟨h2, rfl⟩, h3⟩
theorem aw_v1 (u : World) (a1 : Option Addr) (c1 : Nat) (a2 : Option Addr) (c2 : Nat) (h1 : XM u a1 4 c1 twoX.nodes) (h2 : XM u a2 4 c2 twoX.nodes) (ht : HasTab u) :
    Calls Tryz.prog 8 #[.agg #[.slice a1 4 c1, .int .i64 3], .agg #[.slice a2 4 c2, .int .i64 3], .int .u16 1] u fun e w' => ∃ a n c r, e = .returned (.tuple #[.agg #[.slice a n c, .int .i64 r], .int .i64 12]) ∧ Below u.heap.size u w' := by
  have := prove_ok twoX twoX 1#16 twoX_ok twoX_ok twoX_few twoX_few a1 4 c1 a2 4 c2 u h1 h2 ht
  rw [aw_prv.2.2] at this
  exact this.mono fun e w' ⟨a, c, h1, h2, h3⟩ => ⟨a, _, c, _, h1, h3⟩
theorem aw_c (b : BitVec 16) (bi : Int) (hbi : U b = bi) (t : Tre) (V : Bool) (hV : certC twoX twoX b t = V) (u : World) (a1 : Option Addr) (c1 : Nat) (a2 : Option Addr) (c2 : Nat) (a : Option Addr) (n c : Nat) (h1 : XM u a1 4 c1 twoX.nodes) (h2 : XM u a2 4 c2 twoX.nodes) (h : TM u a n c t.nodes) :
    Calls Tryz.prog 12 #[.agg #[.slice a1 4 c1, .int .i64 3], .agg #[.slice a2 4 c2, .int .i64 3], .int .u16 bi, .agg #[.slice a n c, .int .i64 t.root]] u fun e w' => e = .returned (.bool V) ∧ Below u.heap.size u w' := by
  have := check_c twoX twoX b twoX_ok twoX_ok twoX_few twoX_few t a1 4 c1 a2 4 c2 a n c u h1 h2 h
  rw [hV, hbi] at this
  exact this

set_option maxRecDepth 100000 in
set_option maxHeartbeats 4000000 in
theorem awake20_c (w : World) (ht : HasTab w) (hr : HasRng w) (hy : HasSyn w) :
    Calls Tryz.prog 5 #[] w fun e w' => e = .returned (.bool true) ∧ Below w.heap.size w w' := by
  obtain ⟨W1, hW1⟩ : ∃ W1, W1 = w.alloc (.cells #[.int .u16 3, .int .u16 5, .int .u16 6] 26) := ⟨_, rfl⟩
  have hb1 : Below w.heap.size w W1 := by rw [hW1]; exact (Below.refl _ w).alloc (Nat.le_refl _) _
  have hf : Rd W1 (some ⟨w.heap.size, 0, none⟩) 3 3 [.int .u16 3, .int .u16 5, .int .u16 6] := by rw [hW1]; exact Rd.lit' w _ _ 3 _ rfl rfl (by decide) rfl
  have HF := Lib.hid hf
  have HB1 := Lib.hid hb1
  have HT := Lib.hid (fun u (hb : Below w.heap.size w u) => ht.below hb)
  have HE := Lib.hid (fun u (hb : Below w.heap.size w u) => aw_pa u (hr.below hb) (hy.below hb))
  obtain ⟨T, hT⟩ : ∃ T, (parC awT).1 = T := ⟨_, rfl⟩
  obtain ⟨Q, hQ⟩ : ∃ Q, (prvS twoX twoX (leftS twoX twoX 0#16)).1 = Q := ⟨_, rfl⟩
  have HV0 := Lib.hid aw_v0
  rw [hQ] at HV0
  rw [hT] at HE
  have HC0 : Hid (certC twoX twoX 0#16 T = true) := Lib.hid (by rw [← hT]; exact aw_par.2.2.1)
  have HC1 : Hid (certC twoX twoX 1#16 T = false) := Lib.hid (by rw [← hT]; exact aw_par.2.2.2)
  have HCQ : Hid (certC twoX twoX 0#16 Q = true) := Lib.hid (by rw [← hQ]; exact aw_prv.2.1)
  obtain ⟨rT, hrT⟩ : ∃ r, T.root = r := ⟨_, rfl⟩
  rw [hrT] at HE
  have HRT := Lib.hid hrT
  clear hT hQ ht hr hy hb1 hf hrT
  go_enter Tryz.func5, Tryz.ntmps5
  go_wp2_with fail
  rw [← hW1]
  clear hW1
  with_reducible refine (aw_p1 W1 _ HF.out).mono ?_
  rintro e w2 ⟨rfl, hb2⟩
  have HF2 := Lib.hid (HF.out.below hb2)
  have HB2 := Lib.hid (Below.next HB1.out hb2)
  clear hb2
  go_wp2_with fail
  with_reducible refine (aw_p0 w2 _ HF2.out).mono ?_
  rintro e w3 ⟨x3, y3, rfl, hb3⟩
  have HB3 := Lib.hid (Below.next HB2.out hb3)
  clear hb3
  go_wp2_with fail
  with_reducible refine (HE.out w3 HB3.out).mono ?_
  rintro e w4 ⟨aT, cT, rfl, htm, hb4⟩
  have HM4 := Lib.hid htm
  have HB4 := Lib.hid (Below.next HB3.out hb4)
  clear htm hb4
  go_wp2_with fail
  obtain ⟨W5, hW5⟩ : ∃ W5, W5 = w4.alloc (.cells #[.slice aT 11 cT, .int .i64 rT] 38) := ⟨_, rfl⟩
  rw [← hW5]
  have hb5 : Below w4.heap.size w4 W5 := by rw [hW5]; exact (Below.refl _ _).alloc (Nat.le_refl _) _
  have g5 : W5.heap[w4.heap.size]? = some (.cells #[.slice aT 11 cT, .int .i64 rT] 38 (0, 0)) := by rw [hW5]; exact heap_alloc_new _ _
  have HG5 := Lib.hid g5
  have HM5 := Lib.hid (RdK.below HM4.out hb5)
  have HB5 := Lib.hid (Below.next HB4.out hb5)
  clear hb5 g5 hW5
  with_reducible refine (two20_c W5).mono ?_
  rintro e w6 ⟨a6, c6, rfl, hx6, hb6⟩
  have HX6 := Lib.hid hx6
  have HS6 := Lib.hid hb6
  clear hx6 hb6
  go_wp2_with fail
  with_reducible refine (two20_c w6).mono ?_
  rintro e w7 ⟨a7, c7, rfl, hx7, hb7⟩
  have HX7 := Lib.hid hx7
  have HX67 := Lib.hid (HX6.out.below hb7)
  have HS7 := Lib.hid (Below.next HS6.out hb7)
  have HB7 := Lib.hid (Below.next HB5.out (Below.next HS6.out hb7))
  clear hx7 hb7
  go_wp2_with fail
  with_reducible refine (HV0.out w7 a6 c6 a7 c7 HX67.out HX7.out (HT.out w7 HB7.out)).mono ?_
  rintro e w8 ⟨aQ, nQ, cQ, rQ, rfl, ⟨htm, hrQ⟩, hb8⟩
  have HM8 := Lib.hid htm
  have HRQ := Lib.hid hrQ
  have HS8 := Lib.hid (Below.next HS7.out hb8)
  have HB8 := Lib.hid (Below.next HB7.out hb8)
  clear htm hrQ hb8
  go_wp2_with fail
  obtain ⟨W9, hW9⟩ : ∃ W9, W9 = w8.alloc (.cells #[.slice aQ nQ cQ, .int .i64 rQ] 38) := ⟨_, rfl⟩
  rw [← hW9]
  have hb9 : Below w8.heap.size w8 W9 := by rw [hW9]; exact (Below.refl _ _).alloc (Nat.le_refl _) _
  have g9 : W9.heap[w8.heap.size]? = some (.cells #[.slice aQ nQ cQ, .int .i64 rQ] 38 (0, 0)) := by rw [hW9]; exact heap_alloc_new _ _
  have HG9 := Lib.hid g9
  have HM9 := Lib.hid (RdK.below HM8.out hb9)
  have HS9 := Lib.hid (Below.next HS8.out hb9)
  have HB9 := Lib.hid (Below.next HB8.out hb9)
  clear hb9 g9 hW9
  with_reducible refine (two20_c W9).mono ?_
  rintro e w10 ⟨a10, c10, rfl, hx10, hb10⟩
  have HX10 := Lib.hid hx10
  have HZ10 := Lib.hid hb10
  clear hx10 hb10
  go_wp2_with fail
  with_reducible refine (two20_c w10).mono ?_
  rintro e w11 ⟨a11, c11, rfl, hx11, hb11⟩
  have HX11 := Lib.hid hx11
  have HX1011 := Lib.hid (HX10.out.below hb11)
  have HZ11 := Lib.hid (Below.next HZ10.out hb11)
  clear hx11 hb11
  go_wp2_with fail
  with_reducible refine (aw_v1 w11 a10 c10 a11 c11 HX1011.out HX11.out (HT.out w11 (Below.next HB9.out HZ11.out))).mono ?_
  rintro e w12 ⟨aR, nR, cR, rR, rfl, hb12⟩
  have HZ12 := Lib.hid (Below.next HZ11.out hb12)
  clear hb12
  go_wp2_with fail
  generalize hWA : w12.alloc _ = WA
  have hbA : Below w12.heap.size w12 WA := by rw [← hWA]; exact (Below.refl _ _).alloc (Nat.le_refl _) _
  have hz := Below.next HZ12.out hbA
  have hzw := Below.next HB9.out hz
  have hz5 := Below.next HS9.out hz
  have HZW := Lib.hid hzw
  have HMT := Lib.hid (RdK.below HM5.out hz5)
  have HMQ := Lib.hid (RdK.below HM9.out hz)
  have gT := heap_below hz5 HG5.out
  have gQ := heap_below hz HG9.out
  have KS : Hid (∀ u : World, Below WA.heap.size WA u → (u.cell? ⟨w4.heap.size, 0, none⟩ = some (.slice aT 11 cT) ∧ u.cell? ⟨w4.heap.size, 1, none⟩ = some (.int .i64 rT)) ∧ u.cell? ⟨w8.heap.size, 0, none⟩ = some (.slice aQ nQ cQ) ∧ u.cell? ⟨w8.heap.size, 1, none⟩ = some (.int .i64 rQ)) :=
    Lib.hid (fun u hu => ⟨⟨cell_of_row _ _ 0 _ _ _ (heap_below hu gT), cell_of_row _ _ 1 _ _ _ (heap_below hu gT)⟩, cell_of_row _ _ 0 _ _ _ (heap_below hu gQ), cell_of_row _ _ 1 _ _ _ (heap_below hu gQ)⟩)
  have HCT0 := Lib.hid (fun u a1 c1 a2 c2 h1 h2 h => aw_c 0#16 0 rfl T true HC0.out u a1 c1 a2 c2 aT 11 cT h1 h2 h)
  have HCQ0 := Lib.hid (fun u a1 c1 a2 c2 h1 h2 h => aw_c 0#16 0 rfl Q true HCQ.out u a1 c1 a2 c2 aQ nQ cQ h1 h2 h)
  have HCT1 := Lib.hid (fun u a1 c1 a2 c2 h1 h2 h => aw_c 1#16 1 rfl T false HC1.out u a1 c1 a2 c2 aT 11 cT h1 h2 h)
  rw [HRT.out] at HCT0 HCT1
  rw [← HRQ.out] at HCQ0
  have HY := Lib.hid (below_drew (Below.refl WA.heap.size WA))
  clear hWA hbA hz hzw hz5 gT gQ
  refine wp_region_noPanic ?_
  refine wp_region_takes (fun u => Below WA.heap.size WA u) [0, 1, 2, 3, 4, 5, 6, 7, 8, 9, 12] 23 (by kernel_rfl) (by kernel_rfl) (by kernel_rfl) (fun _ _ _ _ _ h => h) HY.out ?_
  repeat (refine wpTk_cons rfl (fun K hK => ?_); go_simp; apply Exists.intro; refine ⟨fun u hu => ?_, hK _ ?_⟩; (first | exact rfl | (obtain ⟨⟨q1, q2⟩, q3, q4⟩ := KS.out u hu; go_simp; done) | (obtain ⟨⟨q1, q2⟩, q3, q4⟩ := KS.out u hu; go_simp; exact rfl)); clear hK K)
  refine wpTk_nil ?_
  refine held_ready (rs := [10]) (by kernel_rfl) (by simp) ?_
  refine AllReadyH.cons rfl (fun K hK => ?_) AllReadyH.nil
  go_simp
  with_reducible refine (two20_c _).mono ?_
  rintro e v10 ⟨x10, d10, rfl, hx, hv⟩
  have HY2 := Lib.hid (below_at rfl HY.out hv)
  have HXA := Lib.hid hx
  have HVA := Lib.hid hv
  clear hx
  clear hv HY
  have HY := Lib.hid HY2.out
  clear HY2
  go_simp
  refine hK.out _ _ HY.out (fun hh => ?_)
  clear hh hK K; try simp only [Act.put, List.setIfInBounds_toArray, List.set_cons_zero, List.set_cons_succ]
  refine held_ready (rs := [11]) (by kernel_rfl) (by simp) ?_
  refine AllReadyH.cons rfl (fun K hK => ?_) AllReadyH.nil
  go_simp
  with_reducible refine (two20_c _).mono ?_
  rintro e v11 ⟨x11, d11, rfl, hx, hv⟩
  have HY2 := Lib.hid (below_at rfl HY.out hv)
  have HXB := Lib.hid hx
  have HXC := Lib.hid (HXA.out.below hv)
  clear hx HXA HVA
  clear hv HY
  have HY := Lib.hid HY2.out
  clear HY2
  go_simp
  refine hK.out _ _ HY.out (fun hh => ?_)
  clear hh hK K; try simp only [Act.put, List.setIfInBounds_toArray, List.set_cons_zero, List.set_cons_succ]
  refine held_ready (rs := [13]) (by kernel_rfl) (by simp) ?_
  refine AllReadyH.cons rfl (fun K hK => ?_) AllReadyH.nil
  go_simp
  with_reducible refine (HCT0.out _ x10 d10 x11 d11 HXC.out HXB.out (RdK.below HMT.out HY.out)).mono ?_
  rintro e v13 ⟨rfl, hv⟩
  have HY2 := Lib.hid (below_at rfl HY.out hv)
  clear HXB HXC
  clear hv HY
  have HY := Lib.hid HY2.out
  clear HY2
  go_simp
  refine hK.out _ _ HY.out (fun hh => ?_)
  clear hh hK K; try simp only [Act.put, List.setIfInBounds_toArray, List.set_cons_zero, List.set_cons_succ]
  refine held_takes (f := 17) (by kernel_rfl) (fun _ _ _ _ _ h => h) HY.out [14, 15, 18] _ _ (by kernel_rfl) ?_
  repeat (refine wpTk_cons rfl (fun K hK => ?_); go_simp; apply Exists.intro; refine ⟨fun u hu => ?_, hK _ ?_⟩; (first | exact rfl | (obtain ⟨⟨q1, q2⟩, q3, q4⟩ := KS.out u hu; go_simp; done) | (obtain ⟨⟨q1, q2⟩, q3, q4⟩ := KS.out u hu; go_simp; exact rfl)); clear hK K)
  refine wpTk_nil ?_
  refine held_ready (rs := [16]) (by kernel_rfl) (by simp) ?_
  refine AllReadyH.cons rfl (fun K hK => ?_) AllReadyH.nil
  go_simp
  with_reducible refine (two20_c _).mono ?_
  rintro e v16 ⟨x16, d16, rfl, hx, hv⟩
  have HY2 := Lib.hid (below_at rfl HY.out hv)
  have HXA := Lib.hid hx
  have HVA := Lib.hid hv
  clear hx
  clear hv HY
  have HY := Lib.hid HY2.out
  clear HY2
  go_simp
  refine hK.out _ _ HY.out (fun hh => ?_)
  clear hh hK K; try simp only [Act.put, List.setIfInBounds_toArray, List.set_cons_zero, List.set_cons_succ]
  refine held_ready (rs := [17]) (by kernel_rfl) (by simp) ?_
  refine AllReadyH.cons rfl (fun K hK => ?_) AllReadyH.nil
  go_simp
  with_reducible refine (two20_c _).mono ?_
  rintro e v17 ⟨x17, d17, rfl, hx, hv⟩
  have HY2 := Lib.hid (below_at rfl HY.out hv)
  have HXB := Lib.hid hx
  have HXC := Lib.hid (HXA.out.below hv)
  clear hx HXA HVA
  clear hv HY
  have HY := Lib.hid HY2.out
  clear HY2
  go_simp
  refine hK.out _ _ HY.out (fun hh => ?_)
  clear hh hK K; try simp only [Act.put, List.setIfInBounds_toArray, List.set_cons_zero, List.set_cons_succ]
  refine held_ready (rs := [19]) (by kernel_rfl) (by simp) ?_
  refine AllReadyH.cons rfl (fun K hK => ?_) AllReadyH.nil
  go_simp
  with_reducible refine (HCQ0.out _ x16 d16 x17 d17 HXC.out HXB.out (RdK.below HMQ.out HY.out)).mono ?_
  rintro e v19 ⟨rfl, hv⟩
  have HY2 := Lib.hid (below_at rfl HY.out hv)
  clear HXB HXC
  clear hv HY
  have HY := Lib.hid HY2.out
  clear HY2
  go_simp
  refine hK.out _ _ HY.out (fun hh => ?_)
  clear hh hK K; try simp only [Act.put, List.setIfInBounds_toArray, List.set_cons_zero, List.set_cons_succ]
  refine held_takes (f := 11) (by kernel_rfl) (fun _ _ _ _ _ h => h) HY.out [20, 21, 24] _ _ (by kernel_rfl) ?_
  repeat (refine wpTk_cons rfl (fun K hK => ?_); go_simp; apply Exists.intro; refine ⟨fun u hu => ?_, hK _ ?_⟩; (first | exact rfl | (obtain ⟨⟨q1, q2⟩, q3, q4⟩ := KS.out u hu; go_simp; done) | (obtain ⟨⟨q1, q2⟩, q3, q4⟩ := KS.out u hu; go_simp; exact rfl)); clear hK K)
  refine wpTk_nil ?_
  refine held_ready (rs := [22]) (by kernel_rfl) (by simp) ?_
  refine AllReadyH.cons rfl (fun K hK => ?_) AllReadyH.nil
  go_simp
  with_reducible refine (two20_c _).mono ?_
  rintro e v22 ⟨x22, d22, rfl, hx, hv⟩
  have HY2 := Lib.hid (below_at rfl HY.out hv)
  have HXA := Lib.hid hx
  have HVA := Lib.hid hv
  clear hx
  clear hv HY
  have HY := Lib.hid HY2.out
  clear HY2
  go_simp
  refine hK.out _ _ HY.out (fun hh => ?_)
  clear hh hK K; try simp only [Act.put, List.setIfInBounds_toArray, List.set_cons_zero, List.set_cons_succ]
  refine held_ready (rs := [23]) (by kernel_rfl) (by simp) ?_
  refine AllReadyH.cons rfl (fun K hK => ?_) AllReadyH.nil
  go_simp
  with_reducible refine (two20_c _).mono ?_
  rintro e v23 ⟨x23, d23, rfl, hx, hv⟩
  have HY2 := Lib.hid (below_at rfl HY.out hv)
  have HXB := Lib.hid hx
  have HXC := Lib.hid (HXA.out.below hv)
  clear hx HXA HVA
  clear hv HY
  have HY := Lib.hid HY2.out
  clear HY2
  go_simp
  refine hK.out _ _ HY.out (fun hh => ?_)
  clear hh hK K; try simp only [Act.put, List.setIfInBounds_toArray, List.set_cons_zero, List.set_cons_succ]
  refine held_ready (rs := [25]) (by kernel_rfl) (by simp) ?_
  refine AllReadyH.cons rfl (fun K hK => ?_) AllReadyH.nil
  go_simp
  with_reducible refine (HCT1.out _ x22 d22 x23 d23 HXC.out HXB.out (RdK.below HMT.out HY.out)).mono ?_
  rintro e v25 ⟨rfl, hv⟩
  have HY2 := Lib.hid (below_at rfl HY.out hv)
  clear HXB HXC
  clear hv HY
  have HY := Lib.hid HY2.out
  clear HY2
  go_simp
  refine hK.out _ _ HY.out (fun hh => ?_)
  clear hh hK K; try simp only [Act.put, List.setIfInBounds_toArray, List.set_cons_zero, List.set_cons_succ]
  refine held_takes (f := 4) (by kernel_rfl) (fun _ _ _ _ _ h => h) HY.out [26, 27, 28, 29] _ _ (by kernel_rfl) ?_
  repeat (refine wpTk_cons rfl (fun K hK => ?_); go_simp; apply Exists.intro; refine ⟨fun u hu => ?_, hK _ ?_⟩; (first | exact rfl | (obtain ⟨⟨q1, q2⟩, q3, q4⟩ := KS.out u hu; go_simp; done) | (obtain ⟨⟨q1, q2⟩, q3, q4⟩ := KS.out u hu; go_simp; exact rfl)); clear hK K)
  refine wpTk_nil ?_
  refine held_ready (rs := [30]) (by kernel_rfl) (by simp) ?_
  refine AllReadyH.cons rfl (fun K hK => ?_) AllReadyH.nil
  go_simp
  with_reducible refine (size_c _ _ _ _ _).mono ?_
  rintro e v30 ⟨rfl, hv⟩
  have HY2 := Lib.hid (below_at rfl HY.out hv)
  clear hv HY
  have HY := Lib.hid HY2.out
  clear HY2
  go_simp
  refine hK.out _ _ HY.out (fun hh => ?_)
  clear hh hK K; try simp only [Act.put, List.setIfInBounds_toArray, List.set_cons_zero, List.set_cons_succ]
  refine held_takes (f := 0) (by kernel_rfl) (fun _ _ _ _ _ h => h) HY.out [31, 32, 33] _ _ (by kernel_rfl) ?_
  repeat (refine wpTk_cons rfl (fun K hK => ?_); go_simp; apply Exists.intro; refine ⟨fun u hu => ?_, hK _ ?_⟩; (first | exact rfl | (obtain ⟨⟨q1, q2⟩, q3, q4⟩ := KS.out u hu; go_simp; done) | (obtain ⟨⟨q1, q2⟩, q3, q4⟩ := KS.out u hu; go_simp; exact rfl)); clear hK K)
  refine wpTk_nil ?_
  refine wpAnyH_done (by kernel_rfl) (NoPanic.normal ?_) _
  go_wp2_with fail
  go_ret
  exact ⟨rfl, Below.next HZW.out HY.out⟩
end Go.Proofs.YtflpkkebampmfaaGreatDoor
namespace Go.Proofs.YtflpkkebampmfaaGreatDoor
open Go.RowKit

/-- the five cells of a piece -/
structure PceM (w : World) (b o : Nat) (p : Pce) : Prop where
  c0 : w.cell? ⟨b, o, none⟩ = some (.int .u8 p.kind)
  c1 : w.cell? ⟨b, o + 1, none⟩ = some (.int .u8 p.server)
  c2 : w.cell? ⟨b, o + 2, none⟩ = some (.int .u8 p.need)
  c3 : w.cell? ⟨b, o + 3, none⟩ = some (.bool p.heavy)
  ks : ∃ a n c, w.cell? ⟨b, o + 4, none⟩ = some (.slice a n c) ∧ Rd w a n c (p.kids.map (Value.int .u8))
structure PM (w : World) (a : Option Addr) (n c : Nat) (ps : List Pce) : Prop where
  len : ps.length = n
  le : n ≤ c
  max : c ≤ maxLen
  at' : 0 < n → ∃ b o, a = some ⟨b, o, none⟩ ∧ ∀ i p, ps[i]? = some p → PceM w b (o + i * 5) p
theorem PceM.below {w w' : World} {b o : Nat} {p : Pce} (h : PceM w b o p) (hb : Below w.heap.size w w') : PceM w' b o p := by
  obtain ⟨a, n, c, h4, r4⟩ := h.ks
  exact ⟨cell_keep hb h.c0, cell_keep hb h.c1, cell_keep hb h.c2, cell_keep hb h.c3, ⟨a, n, c, cell_keep hb h4, r4.below hb⟩⟩
theorem PM.below {w w' : World} {a : Option Addr} {n c : Nat} {ps : List Pce} (h : PM w a n c ps) (hb : Below w.heap.size w w') : PM w' a n c ps := by
  refine ⟨h.len, h.le, h.max, fun hn => ?_⟩
  obtain ⟨b, o, ha, hc⟩ := h.at' hn
  exact ⟨b, o, ha, fun i p hi => (hc i p hi).below hb⟩

/-- a block as a value whose own block it is -/
def blkV (X : Nat) : Value := .slice (some ⟨X, 0, none⟩) 1 1
theorem blkV_own (X : Nat) : (blkV X).ownBlock = some X := rfl
theorem Rd.setOther {w : World} {a : Option Addr} {n c : Nat} {l : List Value} {X : Nat} (h : Rd w a n c l) (hc : Clear n (blkV X) a) (j : Nat) (u : Value) : Rd (w.setCell ⟨X, j, none⟩ u) a n c l := by
  refine ⟨h.len, h.le, h.max, h.nil, fun hn => ?_⟩
  obtain ⟨b, o, ha, hcell⟩ := h.at' hn
  refine ⟨b, o, ha, fun i v hv => ?_⟩
  have hne : b ≠ X := fun e => hc hn b o ha (by rw [blkV_own, e])
  have := hcell i v hv
  rw [World.cell?_of_block (w := w) (w' := w.setCell ⟨X, j, none⟩ u) (a := ⟨b, o + i, none⟩) (Below.heap_setCell _ _ _ _ hne)]
  exact this

/-- a node's value reads as the node, and its lists lie apart from a block and from the row of a value -/
structure NodC (w : World) (X : Nat) (v : Value) (p : NodV) (nd : Nod) : Prop where
  e0 : p.kind = nd.kind
  e1 : p.server = nd.server
  e2 : p.need = nd.need
  ws : ∃ a n c, p.wv = .slice a n c ∧ Rd w a n c (nd.weights.map (Value.int .i64)) ∧ Clear n v a ∧ ∀ Y, Y ≤ X → Clear n (blkV Y) a
  ks : ∃ a n c, p.kv = .slice a n c ∧ Rd w a n c (nd.kids.map (Value.int .i64)) ∧ Clear n v a ∧ ∀ Y, Y ≤ X → Clear n (blkV Y) a
theorem NodC.toR {w : World} {X : Nat} {v : Value} {p : NodV} {nd : Nod} (h : NodC w X v p nd) : NodR w p nd := by
  obtain ⟨a, n, c, h3, r3, _, _⟩ := h.ws
  obtain ⟨a', n', c', h4, r4, _, _⟩ := h.ks
  exact ⟨h.e0, h.e1, h.e2, ⟨a, n, c, h3, r3⟩, ⟨a', n', c', h4, r4⟩⟩
theorem NodC.below {w w' : World} {X : Nat} {v : Value} {p : NodV} {nd : Nod} (h : NodC w X v p nd) (hb : Below w.heap.size w w') : NodC w' X v p nd := by
  obtain ⟨a, n, c, h3, r3, k1, k2⟩ := h.ws
  obtain ⟨a', n', c', h4, r4, k3, k4⟩ := h.ks
  exact ⟨h.e0, h.e1, h.e2, ⟨a, n, c, h3, r3.below hb, k1, k2⟩, ⟨a', n', c', h4, r4.below hb, k3, k4⟩⟩
theorem NodC.grown {w w' : World} {X : Nat} {v v' : Value} {p : NodV} {nd : Nod} (h : NodC w X v p nd) (hg : w.grownBy w' v.ownBlock) (hv : ∀ g, v'.ownBlock = some g → v.ownBlock = some g ∨ w.heap.size ≤ g) : NodC w' X v' p nd := by
  obtain ⟨a, n, c, h3, r3, k1, k2⟩ := h.ws
  obtain ⟨a', n', c', h4, r4, k3, k4⟩ := h.ks
  exact ⟨h.e0, h.e1, h.e2, ⟨a, n, c, h3, r3.grown hg k1, k1.step r3 hv, k2⟩, ⟨a', n', c', h4, r4.grown hg k3, k3.step r4 hv, k4⟩⟩
theorem NodC.setAt {w : World} {X : Nat} {v : Value} {p : NodV} {nd : Nod} (h : NodC w X v p nd) (Y : Nat) (hY : Y ≤ X) (j : Nat) (u : Value) : NodC (w.setCell ⟨Y, j, none⟩ u) X v p nd := by
  obtain ⟨a, n, c, h3, r3, k1, k2⟩ := h.ws
  obtain ⟨a', n', c', h4, r4, k3, k4⟩ := h.ks
  exact ⟨h.e0, h.e1, h.e2, ⟨a, n, c, h3, r3.setOther (k2 Y hY) j u, k1, k2⟩, ⟨a', n', c', h4, r4.setOther (k4 Y hY) j u, k3, k4⟩⟩
theorem Clear.none (n : Nat) (v : Value) : Clear n v none := fun _ _ _ h => by cases h
/-- a row of the call's own lies above what lies below its base -/
theorem Clear.lower {w : World} {B k m n c : Nat} {e : TypeId} {a : Option Addr} {xs : List Value} {v : Value} (h : w.ownsRow B e k (.slice a n c) m xs) (hlt : ∀ g, v.ownBlock = some g → g < B) : Clear n v a := by
  intro hn b o ha he
  have h1 := (h.lt b (by rw [ha]; rfl)).1
  have h2 := hlt b he
  omega
/-- a server's node -/
theorem NodC.srv (w : World) (X : Nat) (v : Value) (k s : Int) : NodC w X v ⟨k, s, 0, .slice none 0 0, .slice none 0 0⟩ ⟨k, s, 0, [], []⟩ :=
  ⟨rfl, rfl, rfl, ⟨none, 0, 0, rfl, Rd.none_ _, Clear.none _ _, fun _ _ => Clear.none _ _⟩, ⟨none, 0, 0, rfl, Rd.none_ _, Clear.none _ _, fun _ _ => Clear.none _ _⟩⟩
/-- the nodes made so far, in the row of a field of a block -/
structure XW (w : World) (X : Nat) (v : Value) (t : TypeId) (nodes : List Nod) : Prop where
  row : ∃ V : List NodV, V.length = nodes.length ∧ w.ownsRow (X + 1) t 5 v nodes.length (V.flatMap nodVC) ∧ ∀ (i : Nat) p nd, V[i]? = some p → nodes[i]? = some nd → NodC w X v p nd
theorem XW.nil (w : World) (X : Nat) (t : TypeId) : XW w X (.slice none 0 0) t [] := ⟨[], rfl, World.ownsRow_nil _ _ _ _, fun i p nd h => by simp at h⟩
theorem XW.below {w w' : World} {X : Nat} {v : Value} {t : TypeId} {nodes : List Nod} (h : XW w X v t nodes) (hb : Below w.heap.size w w') : XW w' X v t nodes := by
  obtain ⟨V, h1, h2, h3⟩ := h.row
  exact ⟨V, h1, rowK_below h2 hb, fun i p nd hp hn => (h3 i p nd hp hn).below hb⟩
theorem XW.setAt {w : World} {X : Nat} {v : Value} {t : TypeId} {nodes : List Nod} (h : XW w X v t nodes) (Y : Nat) (hY : Y ≤ X) (j : Nat) (u : Value) : XW (w.setCell ⟨Y, j, none⟩ u) X v t nodes := by
  obtain ⟨V, h1, h2, h3⟩ := h.row
  exact ⟨V, h1, rowK_at h2 fun g hg => Below.heap_setCell _ _ _ _ (by have := (h2.lt g hg).1; show g ≠ Y; omega), fun i p nd hp hn => (h3 i p nd hp hn).setAt Y hY j u⟩
theorem XW.set {w : World} {X : Nat} {v : Value} {t : TypeId} {nodes : List Nod} (h : XW w X v t nodes) (j : Nat) (u : Value) : XW (w.setCell ⟨X, j, none⟩ u) X v t nodes := h.setAt X (Nat.le_refl _) j u
/-- a node more -/
theorem XW.push {w w' : World} {X : Nat} {v v' : Value} {t : TypeId} {nodes : List Nod} {p : NodV} {nd : Nod} {V : List NodV} (hV : V.length = nodes.length) (h3 : ∀ (i : Nat) p nd, V[i]? = some p → nodes[i]? = some nd → NodC w X v p nd) (hr : w'.ownsRow (X + 1) t 5 v' (nodes.length + 1) (V.flatMap nodVC ++ nodVC p))
    (hp : NodC w X v p nd) (hg : w.grownBy w' v.ownBlock) (hv : ∀ g, v'.ownBlock = some g → v.ownBlock = some g ∨ w.heap.size ≤ g) : XW w' X v' t (nodes ++ [nd]) := by
  refine ⟨V ++ [p], by simp [hV], ?_, fun i q m hq hm => ?_⟩
  · rw [List.flatMap_append, List.length_append, List.flatMap_cons, List.flatMap_nil, List.append_nil]; exact hr
  · by_cases hi : i < V.length
    · rw [List.getElem?_append_left hi] at hq
      rw [List.getElem?_append_left (by omega)] at hm
      exact (h3 i q m hq hm).grown hg hv
    · have hq2 := (List.getElem?_eq_some_iff.1 hq).1
      have : i = V.length := by simp at hq2; omega
      subst this
      rw [List.getElem?_append_right (Nat.le_refl _), Nat.sub_self] at hq
      rw [hV, List.getElem?_append_right (Nat.le_refl _), Nat.sub_self] at hm
      cases hq; cases hm
      exact hp.grown hg hv
theorem XW.xm {w : World} {X : Nat} {v : Value} {t : TypeId} {nodes : List Nod} (h : XW w X v t nodes) : ∃ a c, v = .slice a nodes.length c ∧ XM w a nodes.length c nodes := by
  obtain ⟨V, h1, h2, h3⟩ := h.row
  exact XM.of_row h2 h1 fun i p nd hp hn => (h3 i p nd hp hn).toR
end Go.Proofs.YtflpkkebampmfaaGreatDoor
namespace Go.Proofs.YtflpkkebampmfaaGreatDoor
open Go.RowKit

inductive IsInts (k : IntKind) (W : World) : Option Addr → Nat → Nat → List Int → Prop
  | nil : IsInts k W none 0 0 []
  | row {a : Addr} {len cap : Nat} {zs : List Int} (hl : len ≤ cap) (hm : cap ≤ maxLen) (hz : zs.length = cap)
      (hcell : ∀ i, i < zs.length → W.cell? (a.add i) = some (.int k (zs.getD i 0))) (hwz : ∀ n ∈ zs, (Lit.int k n).wf = true) : IsInts k W (some a) len cap (zs.take len)

theorem IsInts.rd {k : IntKind} {W : World} {a : Option Addr} {n c : Nat} {l : List Int} (h : IsInts k W a n c l) : Rd W a n c (l.map (Value.int k)) := by
  cases h with
  | nil => exact Rd.none_ W
  | @row a len cap zs hl hm hz hcell hwz =>
    refine ⟨by simp; omega, hl, hm, fun h => (by cases h), fun hn => ?_⟩
    have h0 := hcell 0 (by omega)
    have ha : a = ⟨a.block, a.off, none⟩ := by
      have : a.add 0 = a := by simp [Addr.add]
      rw [this] at h0
      unfold World.cell? at h0
      cases hs : a.spot with
      | none => cases a; simp_all
      | some s => rw [hs] at h0; split at h0 <;> simp at h0
    refine ⟨a.block, a.off, by rw [← ha], fun i v hv => ?_⟩
    have hi := (List.getElem?_eq_some_iff.1 hv).1
    have hi : i < n ∧ i < zs.length := by simp at hi; omega
    have h1 := hcell i (by omega)
    rw [ha] at h1
    rw [Addr.add_lit] at h1
    rw [h1]
    rw [List.getElem?_map, List.getElem?_take_of_lt hi.1, List.getElem?_eq_getElem hi.2] at hv
    simp at hv
    simp [List.getD, List.getElem?_eq_getElem hi.2, hv]
theorem IsInts.wf {k : IntKind} {W : World} {a : Option Addr} {n c : Nat} {l : List Int} (h : IsInts k W a n c l) : ∀ z ∈ l, (Lit.int k z).wf = true := by
  cases h with
  | nil => intro z hz; cases hz
  | row hl hm hz hcell hwz => exact fun z hz => hwz z (List.mem_of_mem_take hz)
theorem IsInts.len {k : IntKind} {W : World} {a : Option Addr} {n c : Nat} {l : List Int} (h : IsInts k W a n c l) : l.length = n := by
  cases h with
  | nil => rfl
  | row hl hm hz hcell hwz => simp; omega
end Go.Proofs.YtflpkkebampmfaaGreatDoor
namespace Go.Proofs.YtflpkkebampmfaaGreatDoor
open Go.RowKit Go.ChangeShapes Go.WideShapes Go.Deep

section
variable {H : Type} {enc : TypeId × Value → H} {P : Program} {w : World} {base : Nat} {spare : Nat → Bool} {held : Bool}
theorem open_slice_fields {t e : TypeId} {fs : Array Field} {fuel : Nat} {cs : List Value} {x : DataW H × List MemPlace} (ht : P.underlying t = some (.slice e)) (he : P.underlying e = some (.struct fs))
    (hone : oneCellFields P fs = true) (hC : P.cellsOf e = fs.size) (h : DataW.trod enc P w base spare held fuel t cs = some x) :
    (cs = [.slice none 0 0] ∧ x = (.nil, [])) ∨
    ∃ (a : Addr) (len cap m : Nat) (D : Nat → DataW H) (Pl : Nat → List MemPlace), cs = [.slice (some a) len cap] ∧ base ≤ a.block ∧ len ≤ cap ∧ cap ≤ maxLen ∧ m = (if spare a.block then cap else len) ∧
      x = (.slice ((List.range len).map D) ((List.range (m - len)).map fun j => D (len + j)), MemPlace.row a (m * fs.size) ++ (List.range m).flatMap Pl) ∧
      ∀ i, i < m → ∃ (ys : List (DataW H × List MemPlace)) (n : Nat), D i = .agg (ys.map (·.1)) ∧ Pl i = ys.flatMap (·.2) ∧ ys.length = fs.size ∧
        ∀ (j : Nat) (f : Field), fs[j]? = some f → ∃ (v : Value) (y : DataW H × List MemPlace), w.cell? (a.add (i * fs.size + j)) = some v ∧ ys[j]? = some y ∧ DataW.trod enc P w base spare held n f.type [v] = some y := by
  rcases open_slice ht h with h0 | ⟨a, len, cap, m, n, D, Pl, hcs, hb, hl, hm, hmm, hx, hi⟩
  · exact .inl h0
  · refine .inr ⟨a, len, cap, m, D, Pl, hcs, hb, hl, hm, hmm, by rw [hC] at hx; exact hx, fun i him => ?_⟩
    obtain ⟨cs', hc, ht'⟩ := hi i him
    rw [hC] at hc
    obtain ⟨ys, n', hn', hy, hlen, hyl, hf⟩ := DataW.trod_struct he ht'
    obtain ⟨_, hcl, hat⟩ := World.cells?_some hc
    simp only [Prod.mk.injEq] at hy
    refine ⟨ys, n', hy.1, hy.2, hyl, fun j f hj => ?_⟩
    obtain ⟨ho, hk⟩ := hone_of hone j f hj
    have hjl : j < fs.size := (Array.getElem?_eq_some_iff.1 hj).1
    have hcell := hat j hjl
    have hv : cs'[j]? = some (cs'[j]'(by omega)) := List.getElem?_eq_getElem (by omega)
    have h1 := hf j f hj
    rw [ho, hk] at h1
    have hone' : (cs'.drop j).take 1 = [cs'[j]'(by omega)] := by
      rw [List.drop_eq_getElem_cons (by omega)]
      rfl
    rw [hone'] at h1
    have hys : ys[j]? = some (ys[j]'(by omega)) := List.getElem?_eq_getElem (by omega)
    refine ⟨_, _, ?_, hys, h1.trans hys⟩
    rw [← Go.Deep.add_add, hcell, hv]
end

theorem list_of {α : Type} {Q : Nat → α → Prop} : ∀ n, (∀ i, i < n → ∃ r, Q i r) → ∃ L : List α, L.length = n ∧ ∀ i r, L[i]? = some r → Q i r := by
  intro n
  induction n with
  | zero => intro _; exact ⟨[], rfl, fun i r h => by simp at h⟩
  | succ n ih =>
    intro h
    obtain ⟨L, hl, hL⟩ := ih (fun i hi => h i (by omega))
    obtain ⟨r, hr⟩ := h n (by omega)
    refine ⟨L ++ [r], by simp [hl], fun i q hq => ?_⟩
    by_cases hi : i < n
    · rw [List.getElem?_append_left (by omega)] at hq; exact hL i q hq
    · have := (List.getElem?_eq_some_iff.1 hq).1
      simp at this
      obtain rfl : i = n := by omega
      rw [List.getElem?_append_right (by omega), hl, Nat.sub_self] at hq
      cases hq; exact hr

theorem addr_plain {W : World} {a : Addr} {v : Value} (h : W.cell? (a.add 0) = some v) : a = ⟨a.block, a.off, none⟩ := by
  have : a.add 0 = a := by simp [Addr.add]
  rw [this] at h
  unfold World.cell? at h
  cases hs : a.spot with
  | none => cases a; simp_all
  | some s => rw [hs] at h; split at h <;> simp at h

theorem u8_bd {z : Int} (h : (Lit.int .u8 z).wf = true) : 0 ≤ z ∧ z < 256 := by
  simp [Lit.wf, IntKind.min, IntKind.max, IntKind.bits, IntKind.signed] at h; omega
set_option maxRecDepth 100000 in
theorem ints_of {H : Type} {enc : TypeId × Value → H} {W : World} {base : Nat} {held : Bool} {fuel : Nat} {cs : List Value} {x : DataW H × List MemPlace} (h : DataW.trod enc Tryz.prog W base (fun _ => true) held fuel 53 cs = some x) :
    ∃ a n c z, cs = [.slice a n c] ∧ IsInts .u8 W a n c z := by
  rcases open_ints Tryz.underlying53 Tryz.underlying5 (by kernel_rfl) h with ⟨hcs, _⟩ | ⟨x, l, c, zs, hcs, _, hl, hm, hz, _, hcell, hwz⟩
  · exact ⟨_, _, _, _, hcs, .nil⟩
  · exact ⟨_, _, _, _, hcs, .row hl hm (by simpa using hz) hcell hwz⟩
theorem open_pieces {H : Type} {enc : TypeId × Value → H} {w : World} {base : Nat} {held : Bool} {fuel : Nat} {cs : List Value} {x : DataW H × List MemPlace} (h : DataW.trod enc Tryz.prog w base (fun _ => true) held fuel 22 cs = some x) :
    ∃ a n c ps, cs = [.slice a n c] ∧ PM w a n c ps ∧ ∀ p ∈ ps, p.ok := by
  rcases open_slice_fields Tryz.underlying22 Tryz.underlying55 (by kernel_rfl) (by kernel_rfl) h with ⟨hcs, _⟩ | ⟨a, len, cap, m, D, Pl, hcs, _, hl, hm, hmm, _, hi⟩
  · exact ⟨none, 0, 0, [], hcs, ⟨rfl, Nat.le_refl _, by unfold maxLen; omega, fun hn => absurd hn (by decide)⟩, fun r hr => by cases hr⟩
  · have hlm : len ≤ m := by rw [hmm]; split <;> omega
    obtain ⟨L, hL1, hL2⟩ := list_of (α := Pce) (Q := fun i r => (w.cell? (a.add (i * 5 + 0)) = some (.int .u8 r.kind) ∧ w.cell? (a.add (i * 5 + 1)) = some (.int .u8 r.server) ∧ w.cell? (a.add (i * 5 + 2)) = some (.int .u8 r.need) ∧ w.cell? (a.add (i * 5 + 3)) = some (.bool r.heavy) ∧ ∃ a4 n4 c4, w.cell? (a.add (i * 5 + 4)) = some (.slice a4 n4 c4) ∧ Rd w a4 n4 c4 (r.kids.map (Value.int .u8))) ∧ r.ok) len (fun i hil => by
      obtain ⟨ys, n, _, _, _, hf⟩ := hi i (by omega)
      obtain ⟨v0, y0, c0, _, t0⟩ := hf 0 _ rfl
      obtain ⟨v1, y1, c1, _, t1⟩ := hf 1 _ rfl
      obtain ⟨v2, y2, c2, _, t2⟩ := hf 2 _ rfl
      obtain ⟨v3, y3, c3, _, t3⟩ := hf 3 _ rfl
      obtain ⟨v4, y4, c4, _, t4⟩ := hf 4 _ rfl
      obtain ⟨z0, e0, _, b0⟩ := DataW.trod_int Tryz.underlying5 t0
      obtain ⟨z1, e1, _, b1⟩ := DataW.trod_int Tryz.underlying5 t1
      obtain ⟨z2, e2, _, b2⟩ := DataW.trod_int Tryz.underlying5 t2
      obtain ⟨z3, e3, _⟩ := DataW.trod_bool Tryz.underlying4 t3
      obtain ⟨a4, n4, k4, z4, e4, i4⟩ := ints_of t4
      cases e0; cases e1; cases e2; cases e3; cases e4
      exact ⟨⟨z0, z1, z2, z3, z4⟩, ⟨c0, c1, c2, c3, a4, n4, k4, c4, i4.rd⟩, ⟨u8_bd b0, u8_bd b1, u8_bd b2⟩, fun z hz => u8_bd (i4.wf z hz)⟩)
    refine ⟨some a, len, cap, L, hcs, ⟨hL1, hl, hm, fun hn0 => ?_⟩, fun r hr => ?_⟩
    · obtain ⟨x0, hx0⟩ : ∃ x, L[0]? = some x := ⟨_, List.getElem?_eq_getElem (by omega)⟩
      have h0 := (hL2 0 x0 hx0).1.1
      rw [Nat.zero_mul, Nat.zero_add] at h0
      have ha := addr_plain h0
      refine ⟨a.block, a.off, by rw [← ha], fun i p hp => ?_⟩
      obtain ⟨⟨d0, d1, d2, d3, a4, n4, c4, d4, r4⟩, _⟩ := hL2 i p hp
      rw [ha, Addr.add_lit] at d0 d1 d2 d3 d4
      exact ⟨d0, by rw [Nat.add_assoc]; exact d1, by rw [Nat.add_assoc]; exact d2, by rw [Nat.add_assoc]; exact d3, a4, n4, c4, by rw [Nat.add_assoc]; exact d4, r4⟩
    · obtain ⟨i, hi⟩ := List.mem_iff_getElem?.1 hr
      exact (hL2 i r hi).2
theorem list3 {α : Type} (l : List α) (h : (⟨l⟩ : Array α).size = 3) : ∃ a b c, l = [a, b, c] := by
  match l, h with
  | [a, b, c], _ => exact ⟨a, b, c, rfl⟩
set_option maxRecDepth 100000 in
theorem open_draft {H : Type} {enc : TypeId × Value → H} {w : World} {base : Nat} {held : Bool} {fuel : Nat} {c : Value} {x : DataW H × List MemPlace} (h : DataW.trod enc Tryz.prog w base (fun _ => true) held fuel 24 [c] = some x) :
    ∃ a n cc ps, c = .slice a n cc ∧ PM w a n cc ps ∧ ∀ p ∈ ps, p.ok := by
  obtain ⟨xs, n, _, _, _, _, hfl⟩ := DataW.trod_struct Tryz.underlying24 h
  have k8 : Tryz.prog.cellsOf 22 = 1 := by kernel_rfl
  have h0 : DataW.trod enc Tryz.prog w base (fun _ => true) held n 22 (List.take (Tryz.prog.cellsOf 22) [c]) = xs[0]? := hfl 0 _ rfl
  rw [k8] at h0
  have hxl : xs.length = 1 := by assumption
  rw [List.getElem?_eq_getElem (by omega)] at h0
  obtain ⟨a, n1, cc, ps, e0, i0, i1⟩ := open_pieces h0
  simp at e0
  exact ⟨a, n1, cc, ps, e0, i0, i1⟩
/-- a case among the arguments -/
structure IsCase (W : World) (v : Value) (xs ys : List Pce) (b : Int) : Prop where
  val : ∃ a n c a2 n2 c2, v = .agg #[.slice a n c, .slice a2 n2 c2, .int .u16 b] ∧ PM W a n c xs ∧ PM W a2 n2 c2 ys
  okx : ∀ p ∈ xs, p.ok
  oky : ∀ p ∈ ys, p.ok
  num : (Lit.int .u16 b).wf = true
set_option maxRecDepth 100000 in
theorem open_case {H : Type} {enc : TypeId × Value → H} {W : World} {base b0 : Nat} {held : Bool} {v : Value} {d : DataW H} {p : List MemPlace} {r : Reach}
    (hv : Value.okWide Tryz.prog W r b0 46 v) (h : DataW.Trod enc Tryz.prog W base (fun _ => true) held 46 v d p) : ∃ xs ys b, IsCase W v xs ys b := by
  obtain ⟨cs, rfl, hsz⟩ := okWide_struct Tryz.underlying46 hv
  rw [show Tryz.prog.cellsOf 46 = 3 by kernel_rfl] at hsz
  obtain ⟨l⟩ := cs
  obtain ⟨c0, c1, c2, rfl⟩ := list3 l hsz
  obtain ⟨fuel, hf⟩ := h
  obtain ⟨xs, n, _, _, _, _, hfl⟩ := DataW.trod_struct Tryz.underlying46 hf
  have k8 : Tryz.prog.cellsOf 24 = 1 := by kernel_rfl
  have ku : Tryz.prog.cellsOf 26 = 1 := by kernel_rfl
  have h0 : DataW.trod enc Tryz.prog W base (fun _ => true) held n 24 (List.take (Tryz.prog.cellsOf 24) [c0, c1, c2]) = xs[0]? := hfl 0 _ rfl
  have h1 : DataW.trod enc Tryz.prog W base (fun _ => true) held n 24 (List.take (Tryz.prog.cellsOf 24) [c1, c2]) = xs[1]? := hfl 1 _ rfl
  have h2 : DataW.trod enc Tryz.prog W base (fun _ => true) held n 26 (List.take (Tryz.prog.cellsOf 26) [c2]) = xs[2]? := hfl 2 _ rfl
  rw [k8] at h0 h1
  rw [ku] at h2
  have hxl : xs.length = 3 := by assumption
  rw [List.getElem?_eq_getElem (by omega)] at h0 h1 h2
  obtain ⟨a, n1, cc, z1, e0, i0, o0⟩ := open_draft h0
  obtain ⟨a2, n2, cc2, z2, e1, i1, o1⟩ := open_draft h1
  obtain ⟨s, e2, _, hs⟩ := DataW.trod_int Tryz.underlying26 h2
  simp at e2
  subst e0 e1 e2
  exact ⟨z1, z2, s, ⟨a, n1, cc, a2, n2, cc2, rfl, i0, i1⟩, o0, o1, hs⟩
end Go.Proofs.YtflpkkebampmfaaGreatDoor
namespace Go.Proofs.YtflpkkebampmfaaGreatDoor
open Go.RowKit Go.ChangeShapes Go.WideShapes Go.Deep

theorem rdK_of {α : Type} (k : Nat) (hk0 : 0 < k) (enc : α → List Value) (hk : ∀ x, (enc x).length = k) {W : World} {a : Addr} {len cap : Nat} (hl : len ≤ cap) (hm : cap ≤ maxLen) (L : List α) (hn : L.length = len)
    (h : ∀ i x, L[i]? = some x → ∀ j, j < k → W.cell? (a.add (i * k + j)) = (enc x)[j]?) : RdK k W (some a) len cap (L.flatMap enc) := by
  refine ⟨by rw [flat_len k enc hk, hn], hl, hm, fun h => (by cases h), fun hn0 => ?_⟩
  obtain ⟨x0, hx0⟩ : ∃ x, L[0]? = some x := ⟨_, List.getElem?_eq_getElem (by omega)⟩
  have h0 := h 0 x0 hx0 0 hk0
  rw [Nat.zero_mul, Nat.zero_add, List.getElem?_eq_getElem (by rw [hk]; exact hk0)] at h0
  have ha := addr_plain h0
  refine ⟨a.block, a.off, by rw [← ha], fun i v hv => ?_⟩
  have hi := (List.getElem?_eq_some_iff.1 hv).1
  rw [flat_len k enc hk, hn] at hi
  have hq : i / k < len := Nat.div_lt_of_lt_mul (by rw [Nat.mul_comm]; exact hi)
  obtain ⟨x, hx⟩ : ∃ x, L[i / k]? = some x := ⟨_, List.getElem?_eq_getElem (by omega)⟩
  have hmod := Nat.mod_lt i hk0
  have h1 := h (i / k) x hx (i % k) hmod
  have h2 := flat_at k enc hk L (i / k) (i % k) x hx hmod
  have e : i / k * k + i % k = i := by rw [Nat.mul_comm]; exact Nat.div_add_mod i k
  rw [e] at h1 h2
  rw [hv] at h2
  rw [ha, Addr.add_lit] at h1
  rw [h1, ← h2]

/-- a description among the arguments -/
structure IsDraft (W : World) (v : Value) (xs : List Pce) : Prop where
  val : ∃ a n c, v = .agg #[.slice a n c] ∧ PM W a n c xs
  okx : ∀ p ∈ xs, p.ok
theorem list1 {α : Type} (l : List α) (h : (⟨l⟩ : Array α).size = 1) : ∃ a, l = [a] := by
  match l, h with
  | [a], _ => exact ⟨a, rfl⟩
theorem list2 {α : Type} (l : List α) (h : (⟨l⟩ : Array α).size = 2) : ∃ a b, l = [a, b] := by
  match l, h with
  | [a, b], _ => exact ⟨a, b, rfl⟩
set_option maxRecDepth 100000 in
theorem open_draftv {H : Type} {enc : TypeId × Value → H} {W : World} {base b0 : Nat} {held : Bool} {v : Value} {d : DataW H} {p : List MemPlace} {r : Reach}
    (hv : Value.okWide Tryz.prog W r b0 24 v) (h : DataW.Trod enc Tryz.prog W base (fun _ => true) held 24 v d p) : ∃ xs, IsDraft W v xs := by
  obtain ⟨cs, rfl, hsz⟩ := okWide_struct Tryz.underlying24 hv
  rw [show Tryz.prog.cellsOf 24 = 1 by kernel_rfl] at hsz
  obtain ⟨l⟩ := cs
  obtain ⟨c0, rfl⟩ := list1 l hsz
  obtain ⟨fuel, hf⟩ := h
  obtain ⟨a, n, cc, ps, e0, h1, h2⟩ := open_draft hf
  subst e0
  exact ⟨ps, ⟨a, n, cc, rfl, h1⟩, h2⟩

theorem open_choices {H : Type} {enc : TypeId × Value → H} {w : World} {base : Nat} {held : Bool} {fuel : Nat} {cs : List Value} {x : DataW H × List MemPlace} (h : DataW.trod enc Tryz.prog w base (fun _ => true) held fuel 36 cs = some x) :
    ∃ a n c ns, cs = [.slice a n c] ∧ TM w a n c ns := by
  rcases open_slice_fields Tryz.underlying36 Tryz.underlying72 (by kernel_rfl) (by kernel_rfl) h with ⟨hcs, _⟩ | ⟨a, len, cap, m, D, Pl, hcs, _, hl, hm, hmm, _, hi⟩
  · exact ⟨none, 0, 0, [], hcs, RdK.none_ _ _⟩
  · have hlm : len ≤ m := by rw [hmm]; split <;> omega
    obtain ⟨L, hL1, hL2⟩ := list_of (α := Cho) (Q := fun i r => ∀ j, j < 3 → w.cell? (a.add (i * 3 + j)) = (choC r)[j]?) len (fun i hil => by
      obtain ⟨ys, n, _, _, _, hf⟩ := hi i (by omega)
      obtain ⟨v0, y0, c0, _, t0⟩ := hf 0 _ rfl
      obtain ⟨v1, y1, c1, _, t1⟩ := hf 1 _ rfl
      obtain ⟨v2, y2, c2, _, t2⟩ := hf 2 _ rfl
      obtain ⟨z0, e0, _, _⟩ := DataW.trod_int Tryz.underlying3 t0
      obtain ⟨z1, e1, _, _⟩ := DataW.trod_int Tryz.underlying3 t1
      obtain ⟨z2, e2, _, _⟩ := DataW.trod_int Tryz.underlying3 t2
      cases e0; cases e1; cases e2
      refine ⟨⟨z0, z1, z2⟩, fun j hj => ?_⟩
      match j, hj with
      | 0, _ => exact c0
      | 1, _ => exact c1
      | 2, _ => exact c2)
    exact ⟨some a, len, cap, L, hcs, rdK_of 3 (by decide) choC choC_len hl hm L hL1 (fun i x hx j hj => hL2 i x hx j hj)⟩
/-- a tree among the arguments -/
structure IsTree (W : World) (v : Value) (t : Tre) : Prop where
  val : ∃ a n c, v = .agg #[.slice a n c, .int .i64 t.root] ∧ TM W a n c t.nodes
set_option maxRecDepth 100000 in
theorem open_tree {H : Type} {enc : TypeId × Value → H} {W : World} {base b0 : Nat} {held : Bool} {v : Value} {d : DataW H} {p : List MemPlace} {r : Reach}
    (hv : Value.okWide Tryz.prog W r b0 38 v) (h : DataW.Trod enc Tryz.prog W base (fun _ => true) held 38 v d p) : ∃ t, IsTree W v t := by
  obtain ⟨cs, rfl, hsz⟩ := okWide_struct Tryz.underlying38 hv
  rw [show Tryz.prog.cellsOf 38 = 2 by kernel_rfl] at hsz
  obtain ⟨l⟩ := cs
  obtain ⟨c0, c1, rfl⟩ := list2 l hsz
  obtain ⟨fuel, hf⟩ := h
  obtain ⟨xs, n, _, _, _, _, hfl⟩ := DataW.trod_struct Tryz.underlying38 hf
  have k8 : Tryz.prog.cellsOf 36 = 1 := by kernel_rfl
  have ku : Tryz.prog.cellsOf 3 = 1 := by kernel_rfl
  have h0 : DataW.trod enc Tryz.prog W base (fun _ => true) held n 36 (List.take (Tryz.prog.cellsOf 36) [c0, c1]) = xs[0]? := hfl 0 _ rfl
  have h1 : DataW.trod enc Tryz.prog W base (fun _ => true) held n 3 (List.take (Tryz.prog.cellsOf 3) [c1]) = xs[1]? := hfl 1 _ rfl
  rw [k8] at h0
  rw [ku] at h1
  have hxl : xs.length = 2 := by assumption
  rw [List.getElem?_eq_getElem (by omega)] at h0 h1
  obtain ⟨a, n1, cc, ns, e0, i0⟩ := open_choices h0
  obtain ⟨z, e1, _, _⟩ := DataW.trod_int Tryz.underlying3 h1
  simp at e0 e1
  subst e0 e1
  exact ⟨⟨ns, z⟩, ⟨a, n1, cc, rfl, i0⟩⟩
/-- a choice among the arguments -/
structure IsChoice (W : World) (v : Value) (q : Cho) : Prop where
  val : v = .agg #[.int .i64 q.server, .int .i64 q.first, .int .i64 q.second]
set_option maxRecDepth 100000 in
theorem open_choice {H : Type} {enc : TypeId × Value → H} {W : World} {base b0 : Nat} {held : Bool} {v : Value} {d : DataW H} {p : List MemPlace} {r : Reach}
    (hv : Value.okWide Tryz.prog W r b0 72 v) (h : DataW.Trod enc Tryz.prog W base (fun _ => true) held 72 v d p) : ∃ q, IsChoice W v q := by
  obtain ⟨cs, rfl, hsz⟩ := okWide_struct Tryz.underlying72 hv
  rw [show Tryz.prog.cellsOf 72 = 3 by kernel_rfl] at hsz
  obtain ⟨l⟩ := cs
  obtain ⟨c0, c1, c2, rfl⟩ := list3 l hsz
  obtain ⟨fuel, hf⟩ := h
  obtain ⟨xs, n, _, _, _, _, hfl⟩ := DataW.trod_struct Tryz.underlying72 hf
  have ku : Tryz.prog.cellsOf 3 = 1 := by kernel_rfl
  have h0 : DataW.trod enc Tryz.prog W base (fun _ => true) held n 3 (List.take (Tryz.prog.cellsOf 3) [c0, c1, c2]) = xs[0]? := hfl 0 _ rfl
  have h1 : DataW.trod enc Tryz.prog W base (fun _ => true) held n 3 (List.take (Tryz.prog.cellsOf 3) [c1, c2]) = xs[1]? := hfl 1 _ rfl
  have h2 : DataW.trod enc Tryz.prog W base (fun _ => true) held n 3 (List.take (Tryz.prog.cellsOf 3) [c2]) = xs[2]? := hfl 2 _ rfl
  rw [ku] at h0 h1 h2
  have hxl : xs.length = 3 := by assumption
  rw [List.getElem?_eq_getElem (by omega)] at h0 h1 h2
  obtain ⟨z0, e0, _, _⟩ := DataW.trod_int Tryz.underlying3 h0
  obtain ⟨z1, e1, _, _⟩ := DataW.trod_int Tryz.underlying3 h1
  obtain ⟨z2, e2, _, _⟩ := DataW.trod_int Tryz.underlying3 h2
  simp at e0 e1 e2
  subst e0 e1 e2
  exact ⟨⟨z0, z1, z2⟩, ⟨rfl⟩⟩

theorem ints64_of {H : Type} {enc : TypeId × Value → H} {W : World} {base : Nat} {held : Bool} {fuel : Nat} {cs : List Value} {x : DataW H × List MemPlace} (h : DataW.trod enc Tryz.prog W base (fun _ => true) held fuel 56 cs = some x) :
    ∃ a n c z, cs = [.slice a n c] ∧ IsInts .i64 W a n c z := by
  rcases open_ints Tryz.underlying56 Tryz.underlying3 (by kernel_rfl) h with ⟨hcs, _⟩ | ⟨x, l, c, zs, hcs, _, hl, hm, hz, _, hcell, hwz⟩
  · exact ⟨_, _, _, _, hcs, .nil⟩
  · exact ⟨_, _, _, _, hcs, .row hl hm (by simpa using hz) hcell hwz⟩
theorem open_nodes {H : Type} {enc : TypeId × Value → H} {w : World} {base : Nat} {held : Bool} {fuel : Nat} {cs : List Value} {x : DataW H × List MemPlace} (h : DataW.trod enc Tryz.prog w base (fun _ => true) held fuel 28 cs = some x) :
    ∃ a n c ns, cs = [.slice a n c] ∧ XM w a n c ns := by
  rcases open_slice_fields Tryz.underlying28 Tryz.underlying58 (by kernel_rfl) (by kernel_rfl) h with ⟨hcs, _⟩ | ⟨a, len, cap, m, D, Pl, hcs, _, hl, hm, hmm, _, hi⟩
  · exact ⟨none, 0, 0, [], hcs, XM.none_ _⟩
  · have hlm : len ≤ m := by rw [hmm]; split <;> omega
    obtain ⟨L, hL1, hL2⟩ := list_of (α := Nod) (Q := fun i r => w.cell? (a.add (i * 5 + 0)) = some (.int .i64 r.kind) ∧ w.cell? (a.add (i * 5 + 1)) = some (.int .i64 r.server) ∧ w.cell? (a.add (i * 5 + 2)) = some (.int .i64 r.need) ∧ (∃ a3 n3 c3, w.cell? (a.add (i * 5 + 3)) = some (.slice a3 n3 c3) ∧ Rd w a3 n3 c3 (r.weights.map (Value.int .i64))) ∧ ∃ a4 n4 c4, w.cell? (a.add (i * 5 + 4)) = some (.slice a4 n4 c4) ∧ Rd w a4 n4 c4 (r.kids.map (Value.int .i64))) len (fun i hil => by
      obtain ⟨ys, n, _, _, _, hf⟩ := hi i (by omega)
      obtain ⟨v0, y0, c0, _, t0⟩ := hf 0 _ rfl
      obtain ⟨v1, y1, c1, _, t1⟩ := hf 1 _ rfl
      obtain ⟨v2, y2, c2, _, t2⟩ := hf 2 _ rfl
      obtain ⟨v3, y3, c3, _, t3⟩ := hf 3 _ rfl
      obtain ⟨v4, y4, c4, _, t4⟩ := hf 4 _ rfl
      obtain ⟨z0, e0, _, _⟩ := DataW.trod_int Tryz.underlying3 t0
      obtain ⟨z1, e1, _, _⟩ := DataW.trod_int Tryz.underlying3 t1
      obtain ⟨z2, e2, _, _⟩ := DataW.trod_int Tryz.underlying3 t2
      obtain ⟨a3, n3, k3, z3, e3, i3⟩ := ints64_of t3
      obtain ⟨a4, n4, k4, z4, e4, i4⟩ := ints64_of t4
      cases e0; cases e1; cases e2; cases e3; cases e4
      exact ⟨⟨z0, z1, z2, z3, z4⟩, c0, c1, c2, ⟨a3, n3, k3, c3, i3.rd⟩, a4, n4, k4, c4, i4.rd⟩)
    refine ⟨some a, len, cap, L, hcs, ⟨hL1, hl, hm, fun h => (by cases h), fun hn0 => ?_⟩⟩
    obtain ⟨x0, hx0⟩ : ∃ x, L[0]? = some x := ⟨_, List.getElem?_eq_getElem (by omega)⟩
    have h0 := (hL2 0 x0 hx0).1
    rw [Nat.zero_mul, Nat.zero_add] at h0
    have ha := addr_plain h0
    refine ⟨a.block, a.off, by rw [← ha], fun i p hp => ?_⟩
    obtain ⟨d0, d1, d2, ⟨a3, n3, c3, d3, r3⟩, a4, n4, c4, d4, r4⟩ := hL2 i p hp
    rw [ha, Addr.add_lit] at d0 d1 d2 d3 d4
    exact ⟨d0, by rw [Nat.add_assoc]; exact d1, by rw [Nat.add_assoc]; exact d2, ⟨a3, n3, c3, by rw [Nat.add_assoc]; exact d3, r3⟩, a4, n4, c4, by rw [Nat.add_assoc]; exact d4, r4⟩
/-- an expression among the arguments -/
structure IsXpr (W : World) (v : Value) (x : Xpr) : Prop where
  val : ∃ a n c, v = .agg #[.slice a n c, .int .i64 x.root] ∧ XM W a n c x.nodes
set_option maxRecDepth 100000 in
theorem open_xpr {H : Type} {enc : TypeId × Value → H} {W : World} {base b0 : Nat} {held : Bool} {v : Value} {d : DataW H} {p : List MemPlace} {r : Reach}
    (hv : Value.okWide Tryz.prog W r b0 30 v) (h : DataW.Trod enc Tryz.prog W base (fun _ => true) held 30 v d p) : ∃ x, IsXpr W v x := by
  obtain ⟨cs, rfl, hsz⟩ := okWide_struct Tryz.underlying30 hv
  rw [show Tryz.prog.cellsOf 30 = 2 by kernel_rfl] at hsz
  obtain ⟨l⟩ := cs
  obtain ⟨c0, c1, rfl⟩ := list2 l hsz
  obtain ⟨fuel, hf⟩ := h
  obtain ⟨xs, n, _, _, _, _, hfl⟩ := DataW.trod_struct Tryz.underlying30 hf
  have k8 : Tryz.prog.cellsOf 28 = 1 := by kernel_rfl
  have ku : Tryz.prog.cellsOf 3 = 1 := by kernel_rfl
  have h0 : DataW.trod enc Tryz.prog W base (fun _ => true) held n 28 (List.take (Tryz.prog.cellsOf 28) [c0, c1]) = xs[0]? := hfl 0 _ rfl
  have h1 : DataW.trod enc Tryz.prog W base (fun _ => true) held n 3 (List.take (Tryz.prog.cellsOf 3) [c1]) = xs[1]? := hfl 1 _ rfl
  rw [k8] at h0
  rw [ku] at h1
  have hxl : xs.length = 2 := by assumption
  rw [List.getElem?_eq_getElem (by omega)] at h0 h1
  obtain ⟨a, n1, cc, ns, e0, i0⟩ := open_nodes h0
  obtain ⟨z, e1, _, _⟩ := DataW.trod_int Tryz.underlying3 h1
  simp at e0 e1
  subst e0 e1
  exact ⟨⟨ns, z⟩, ⟨a, n1, cc, rfl, i0⟩⟩
end Go.Proofs.YtflpkkebampmfaaGreatDoor
namespace Go.Proofs.YtflpkkebampmfaaGreatDoor
open Go.RowKit Go.Shelf

set_option maxRecDepth 100000 in
set_option maxHeartbeats 1000000 in
theorem rwgt_c (nd : Nod) (k : Nat) (aw : Option Addr) (nw cw : Nat) (ak : Option Addr) (nk ck : Nat) (w : World) (hw : Rd w aw nw cw (nd.weights.map (Value.int .i64))) (hk : nd.weights = [] ∨ k < nd.weights.length) :
    Calls Tryz.prog 34 #[.agg #[.int .i64 nd.kind, .int .i64 nd.server, .int .i64 nd.need, .slice aw nw cw, .slice ak nk ck], .int .i64 k] w fun e w' => e = .returned (.int .i64 (wgtN nd k)) ∧ Below w.heap.size w w' := by
  have hlw : nd.weights.length = nw := by have := hw.len; simp at this; omega
  have hle := hw.le
  have hm := hw.max
  unfold maxLen at hm
  obtain ⟨W2, hW2⟩ : ∃ W2, W2 = w.alloc (Obj.cells #[.int .i64 nd.kind, .int .i64 nd.server, .int .i64 nd.need, .slice aw nw cw, .slice ak nk ck] 58) := ⟨_, rfl⟩
  have hb2 : Below w.heap.size w W2 := by rw [hW2]; exact (Below.refl _ w).alloc (Nat.le_refl _) _
  have HB2 := Lib.hid hb2
  by_cases h0 : nw = 0
  · have hn : nd.weights = [] := List.eq_nil_of_length_eq_zero (by omega)
    have hV : Hid (wgtN nd k = 1) := by show _ = _; unfold wgtN; rw [if_pos hn]
    subst h0
    clear hn hlw hk hw hb2
    go_enter Tryz.func34, Tryz.ntmps34
    go_wp2_with fail
    go_ret
    exact ⟨ret_int hV.out.symm, by rw [← hW2]; exact HB2.out⟩
  · have hne : ((nw : Int) == 0) = false := by rw [beq_eq_false_iff_ne]; omega
    have hkn : k < nw := by rcases hk with h | h
                            · rw [h] at hlw; simp at hlw; omega
                            · omega
    obtain ⟨z, hz⟩ : ∃ z, nd.weights[k]? = some z := ⟨_, List.getElem?_eq_getElem (by omega)⟩
    have hV : Hid (wgtN nd k = z) := by
      show _ = _; unfold wgtN
      rw [if_neg (fun e => by rw [e] at hlw; simp at hlw; omega), List.getD_eq_getElem?_getD, hz]; rfl
    obtain ⟨b, o, ha, hcell⟩ := (hw.below hb2).at' (by omega)
    have hc := hcell k (.int .i64 z) (by rw [List.getElem?_map, hz]; rfl)
    subst ha
    clear hlw hk hw hb2 hcell hz h0
    rw [hW2] at hc
    go_enter Tryz.func34, Tryz.ntmps34
    go_wp2_with fail
    go_ret
    exact ⟨ret_int hV.out.symm, by rw [← hW2]; exact HB2.out⟩

set_option maxRecDepth 100000 in
set_option maxHeartbeats 2000000 in
theorem rsum_c (nd : Nod) (hnd : nd.weights = [] ∨ nd.weights.length = nd.kids.length) (hsm : ∀ k, k ≤ nd.kids.length → 0 ≤ sumTo nd k ∧ sumTo nd k ≤ 1000000) (hwt : ∀ k, k < nd.kids.length → sumTo nd (k + 1) = sumTo nd k + wgtN nd k) (aw : Option Addr) (nw cw : Nat) (ak : Option Addr) (nk ck : Nat) (w : World) (hw : Rd w aw nw cw (nd.weights.map (Value.int .i64))) (hk : Rd w ak nk ck (nd.kids.map (Value.int .i64))) :
    Calls Tryz.prog 17 #[.agg #[.int .i64 nd.kind, .int .i64 nd.server, .int .i64 nd.need, .slice aw nw cw, .slice ak nk ck]] w fun e w' => e = .returned (.int .i64 (sumN nd)) ∧ Below w.heap.size w w' := by
  have hlk : nd.kids.length = nk := by have := hk.len; simp at this; omega
  have hle := hk.le
  have hm := hk.max
  unfold maxLen at hm
  obtain ⟨W2, hW2⟩ : ∃ W2, W2 = w.alloc (Obj.cells #[.int .i64 nd.kind, .int .i64 nd.server, .int .i64 nd.need, .slice aw nw cw, .slice ak nk ck] 58) := ⟨_, rfl⟩
  have hb2 : Below w.heap.size w W2 := by rw [hW2]; exact (Below.refl _ w).alloc (Nat.le_refl _) _
  have HB2 := Lib.hid hb2
  have g2 : W2.heap[w.heap.size]? = some (.cells #[.int .i64 nd.kind, .int .i64 nd.server, .int .i64 nd.need, .slice aw nw cw, .slice ak nk ck] 58 (0, 0)) := by rw [hW2]; exact heap_alloc_new _ _
  have G2 := Lib.hid g2
  have HWW := Lib.hid (hw.below hb2)
  have HLK := Lib.hid hlk
  have HND := Lib.hid hnd
  have HSM := Lib.hid hsm
  have HWT := Lib.hid hwt
  have HV : Hid (sumTo nd nk = sumN nd) := by show _ = _; unfold sumN; rw [HLK.out]
  clear hw hk hb2 g2 hlk hnd hsm hwt
  go_enter Tryz.func17, Tryz.ntmps17
  go_wp2_with fail
  rw [← hW2]
  clear hW2
  go_loopw [3, 4] (fun v i wr => ∃ k : Nat, k ≤ nk ∧ i = .int .i64 k ∧ v = .int .i64 (sumTo nd k) ∧ Below W2.heap.size W2 wr) (fun _ i _ => nk - (intOf i).toNat)
  case atStart => exact ⟨0, Nat.zero_le _, rfl, rfl, Below.refl _ _⟩
  case round =>
    obtain ⟨k, hk, rfl, rfl, hb⟩ := hrel
    have g := heap_below hb G2.out
    have q0 := cell_of_row _ _ 0 _ _ _ g
    have q1 := cell_of_row _ _ 1 _ _ _ g
    have q2 := cell_of_row _ _ 2 _ _ _ g
    have q3 := cell_of_row _ _ 3 _ _ _ g
    have q4 := cell_of_row _ _ 4 _ _ _ g
    by_cases hlt : k < nk
    · have hwk : nd.weights = [] ∨ k < nd.weights.length := by
        rcases HND.out with h | h
        · exact .inl h
        · exact .inr (by have := HLK.out; omega)
      have HC := Lib.hid (rwgt_c nd k aw nw cw ak nk ck wr (HWW.out.below hb) hwk)
      clear hwk
      have hst := HWT.out k (by have := HLK.out; omega)
      have s1 := HSM.out k (by have := HLK.out; omega)
      have s2 := HSM.out (k + 1) (by have := HLK.out; omega)
      obtain ⟨x, hx⟩ : ∃ x, wgtN nd k = x := ⟨_, rfl⟩
      obtain ⟨y, hy⟩ : ∃ y, sumTo nd k = y := ⟨_, rfl⟩
      rw [hx] at HC hst
      rw [hy] at hst s1 ⊢
      have hwr : wrap64 (y + x) = y + x := by unfold wrap64; omega
      have HST := Lib.hid hst
      have HB := Lib.hid hb
      clear g hst s1 s2 hx hy hb
      go_wp2_with fail
      with_reducible refine HC.out.mono ?_
      rintro e w5 ⟨rfl, hb5⟩
      go_wp2_with fail
      go_roundw
      case rel => exact ⟨k + 1, by omega, by go_num, by (rw [HST.out]; first | rfl | rw [hwr]), Below.next HB.out hb5⟩
      case measure => simp [intOf]; omega
    · obtain rfl : k = nk := by omega
      rw [HV.out]
      clear g
      go_wp2_with fail
      go_ret
      exact ⟨rfl, Below.next HB2.out hb⟩
end Go.Proofs.YtflpkkebampmfaaGreatDoor
namespace Go.Proofs.YtflpkkebampmfaaGreatDoor
open Go.RowKit

def XMR (lo hi : Nat) (w : World) (a : Option Addr) (n c : Nat) (nodes : List Nod) : Prop :=
  ∀ w2 : World, (∀ g, lo ≤ g → g < hi → w2.heap[g]? = w.heap[g]?) → XM w2 a n c nodes
theorem XMR.xm {lo hi : Nat} {w : World} {a : Option Addr} {n c : Nat} {nodes : List Nod} (h : XMR lo hi w a n c nodes) : XM w a n c nodes := h w fun _ _ _ => rfl
theorem XMR.mono {lo hi lo' hi' : Nat} {w : World} {a : Option Addr} {n c : Nat} {nodes : List Nod} (h : XMR lo hi w a n c nodes) (h1 : lo' ≤ lo) (h2 : hi ≤ hi') : XMR lo' hi' w a n c nodes :=
  fun w2 hg => h w2 fun g g1 g2 => hg g (by omega) (by omega)
theorem XMR.agree {lo hi : Nat} {w w' : World} {a : Option Addr} {n c : Nat} {nodes : List Nod} (h : XMR lo hi w a n c nodes) (hg : ∀ g, lo ≤ g → g < hi → w'.heap[g]? = w.heap[g]?) : XMR lo hi w' a n c nodes :=
  fun w2 h2 => h w2 fun g g1 g2 => (h2 g g1 g2).trans (hg g g1 g2)
theorem cell_blk_lt {w : World} {b o : Nat} {v : Value} (h : w.cell? ⟨b, o, none⟩ = some v) : b < w.heap.size := by
  by_cases hb : b < w.heap.size
  · exact hb
  · have h0 : w.heap[b]? = none := Array.getElem?_eq_none (by omega)
    simp [World.cell?, h0] at h
theorem Rd.agree {w w2 : World} {a : Option Addr} {n c X : Nat} {l : List Value} (h : Rd w a n c l) (hc : ∀ Y, Y ≤ X → Clear n (blkV Y) a) (hg : ∀ g, X + 1 ≤ g → g < w.heap.size → w2.heap[g]? = w.heap[g]?) : Rd w2 a n c l := by
  refine ⟨h.len, h.le, h.max, h.nil, fun hn => ?_⟩
  obtain ⟨b, o, ha, hcell⟩ := h.at' hn
  refine ⟨b, o, ha, fun i v hv => ?_⟩
  have h1 := hcell i v hv
  have hX : X + 1 ≤ b := by
    by_cases h2 : b ≤ X
    · exact absurd (blkV_own b) (hc b h2 hn b o ha)
    · omega
  rw [World.cell?_of_block (w := w) (w' := w2) (a := ⟨b, o + i, none⟩) (hg b hX (cell_blk_lt h1))]
  exact h1
theorem NodC.agree {w w2 : World} {X : Nat} {v : Value} {p : NodV} {nd : Nod} (h : NodC w X v p nd) (hg : ∀ g, X + 1 ≤ g → g < w.heap.size → w2.heap[g]? = w.heap[g]?) : NodR w2 p nd := by
  obtain ⟨a, n, c, h3, r3, _, k2⟩ := h.ws
  obtain ⟨a', n', c', h4, r4, _, k4⟩ := h.ks
  exact ⟨h.e0, h.e1, h.e2, ⟨a, n, c, h3, r3.agree k2 hg⟩, ⟨a', n', c', h4, r4.agree k4 hg⟩⟩
theorem XW.xmr {w : World} {X : Nat} {v : Value} {t : TypeId} {nodes : List Nod} (h : XW w X v t nodes) : ∃ a c, v = .slice a nodes.length c ∧ XMR (X + 1) w.heap.size w a nodes.length c nodes := by
  obtain ⟨V, h1, h2, h3⟩ := h.row
  obtain ⟨a, c, rfl, _⟩ := rdK_of_row h2
  refine ⟨a, c, rfl, fun w2 hg => ?_⟩
  obtain ⟨a', c', e, hx⟩ := XM.of_row (rowK_at h2 fun g hgv => hg g (h2.lt g hgv).1 (h2.lt g hgv).2) h1 fun i p nd hp hn => (h3 i p nd hp hn).agree hg
  cases e
  exact hx
end Go.Proofs.YtflpkkebampmfaaGreatDoor
namespace Go.Proofs.YtflpkkebampmfaaGreatDoor
open Go.RowKit
section
variable {P : Program} {ops : Array Oper} {md : Region.Mode} {C : World → Prop}

/-- the first n operations in any order, each quiet in the class; then L -/
def headQ (P : Program) (md : Region.Mode) (ops : Array Oper) (C : World → Prop) (n : Nat) (L : Array Bool → Act → Prop) : Nat → Array Bool → Act → Prop
  | 0, listed, a => L listed a
  | f + 1, listed, a => Region.ready md ops listed ≠ [] ∧ ∀ i ∈ Region.ready md ops listed, i < n ∧ qOp P ops C i (headQ P md ops C n L f (listed.setIfInBounds i true)) a

theorem any_of_headQ {n g : Nat} {L : Array Bool → Act → Prop} {Q' : Exit → Act → World → Prop} (hL : ∀ listed a w, C w → L listed a → wpAny P md ops Q' g listed a w) :
    ∀ (f : Nat) (listed : Array Bool) (a : Act) (w : World), C w → headQ P md ops C n L f listed a → wpAny P md ops Q' (f + g) listed a w
  | 0, listed, a, w, hw, h => by rw [Nat.zero_add]; exact hL _ _ _ hw h
  | f + 1, listed, a, w, hw, h => by
    rw [show f + 1 + g = (f + g) + 1 by omega]
    exact ⟨fun h0 => absurd h0 h.1, fun i hi => wpOp_of_qOp hw (fun a' w' hw' h' => any_of_headQ hL f _ a' w' hw' h') (h.2 i hi).2⟩

theorem headQ_first {n i : Nat} {oi : Oper} {v : Value} {L : Array Bool → Act → Prop} (hi : ops[i]? = some oi) (hsel : ∀ (j : Nat) (o : Oper) cs b, ops[j]? = some o → o.op ≠ .select cs b)
    (hs : Region.sinkB md ops n = true) (hc : Region.chainB md ops n = true) (hn : n < ops.size) (hin : i < n)
    (hdone : ∀ listed a, L listed a → ∀ j ∈ Region.ready md ops listed, n ≤ j) :
    ∀ (f : Nat) (listed : Array Bool) (a : Act), HeadInv md ops n listed →
      (∀ j oj, ops[j]? = some oj → j ≠ i → listed.getD j true = false → (∀ e ∈ oj.after, Region.binds md e = true → e.on ≠ i) → oi.apart ops oj = true) →
      i ∈ Region.ready md ops listed → YieldsIn P ops C oi v a →
      headQ P md ops C n L f (listed.setIfInBounds i true) (a.put oi.dst v) → headQ P md ops C n L (f + 1) listed a := by
  intro f
  induction f with
  | zero =>
    intro listed a inv _ hr hy H
    have hun := (mem_ready.1 hr).1
    refine ⟨fun h => (by rw [h] at hr; cases hr), fun j hj => ?_⟩
    have hjn : j < n := by
      rcases Nat.lt_or_ge j n with h | h
      · exact h
      · exact absurd hj (tail_waits hs hc hn inv _ i rfl hin hun j h)
    refine ⟨hjn, ?_⟩
    by_cases hji : j = i
    · subst hji; exact hy.qOp hi H
    · have := hdone _ _ H j (ready_mono hj hji)
      omega
  | succ f ih =>
    intro listed a inv hfree hr hy H
    have hun := (mem_ready.1 hr).1
    refine ⟨fun h => (by rw [h] at hr; cases hr), fun j hj => ?_⟩
    have hjn : j < n := by
      rcases Nat.lt_or_ge j n with h | h
      · exact h
      · exact absurd hj (tail_waits hs hc hn inv _ i rfl hin hun j h)
    refine ⟨hjn, ?_⟩
    by_cases hji : j = i
    · subst hji; exact hy.qOp hi H
    · have h1 := (H.2 j (ready_mono hj hji)).2
      obtain ⟨hjun, oj, hoj, hall⟩ := mem_ready.1 hj
      have hnot : ∀ e ∈ oj.after, Region.binds md e = true → e.on ≠ i := fun e he hb heq => by
        have h1 := hall e he hb
        rw [heq, getD_both hun] at h1
        cases h1
      have h2 := qOp_put hoj (hfree j oj hoj hji hjun hnot) (fun cs b => hsel i oi cs b hi) (fun cs b => hsel j oj cs b hoj) hy h1
      have hfree' : ∀ k ok, ops[k]? = some ok → k ≠ i → (listed.setIfInBounds j true).getD k true = false →
          (∀ e ∈ ok.after, Region.binds md e = true → e.on ≠ i) → oi.apart ops ok = true := fun k ok hk hki hun hno => by
        refine hfree k ok hk hki ?_ hno
        by_cases hjk : j = k
        · subst hjk; exact hjun
        · rw [getD_set_ne true hjk] at hun; exact hun
      refine qOp_mono (fun a' h3 => ih (listed.setIfInBounds j true) a' (inv.set hj hjn) hfree' (ready_mono hr (Ne.symm hji)) h3.1 ?_) h2
      rw [Array.setIfInBounds_comm _ _ hji]
      exact h3.2

theorem headQ_lex {n g : Nat} {Lq : Act → Prop} (hsel : Region.noSelect ops = true) (hs : Region.sinkB md ops n = true) (hc : Region.chainB md ops n = true) (hn : n < ops.size) :
    ∀ (l : List Oper) (k : Nat) (listed : Array Bool) (a : Act), (∀ j, j < l.length → l[j]? = ops[k + j]?) → k + l.length = n → HeadInv md ops n listed →
    Region.lexHead md ops g l.length k listed = true → wpQuiet P ops C Lq l a →
    headQ P md ops C n (fun listed' a' => Region.seqB md ops g n listed' = true ∧ Lq a') l.length listed a
  | [], k, listed, a, _, hk, _, hB, h => by
    have : k = n := by simpa using hk
    subst this
    exact ⟨by simpa [Region.lexHead] using hB, h⟩
  | o :: l, k, listed, a, hl, hk, inv, hB, h => by
    have h0 : ops[k]? = some o := by simpa using (hl 0 (by simp)).symm
    simp only [List.length_cons, Region.lexHead, Bool.and_eq_true] at hB
    obtain ⟨⟨hr, hf⟩, hB'⟩ := hB
    have hkn : k < n := by simp only [List.length_cons] at hk; omega
    have hr' : k ∈ Region.ready md ops listed := by simpa using hr
    have hst : qOp P ops C k (wpQuiet P ops C Lq l) a := by unfold qOp; simp only [h0]; exact h
    obtain ⟨v, hy, hK⟩ := yieldsIn_of_qOp h0 hst
    exact headQ_first h0 (Region.noSelect_spec hsel) hs hc hn hkn (fun listed' a' hL => seqB_ready hL.1) l.length listed a inv (Region.free_spec h0 hf) hr' hy
      (headQ_lex hsel hs hc hn l (k + 1) _ _ (fun j hj => by have := hl (j + 1) (by simp; omega); simpa [Nat.add_assoc, Nat.add_comm 1 j] using this) (by simp only [List.length_cons] at hk; omega) (inv.set hr' hkn) hB' hK)

/-- one walk in the order of the text serves every order; the tail stands behind, in any world of the class -/
theorem wp_region_quiet_tail {id : Nat} {Q : Exit → Act → World → Prop} {a : Act} {w : World} {l : List Oper} (C : World → Prop) (n : Nat) (hm : P.follows .mixedOrders = true) (hB : Region.lexTailB .any l.toArray n = true) (hC : C { w with drawn := w.drawn + 1 })
    (h : wpQuiet P l.toArray C (fun a' => ∀ w', C w' → wpList P l.toArray Q (l.drop n) a' w') (l.take n) a) : (Code.region id l.toArray true).wp P Q a w := by
  simp only [Region.lexTailB, Bool.and_eq_true, decide_eq_true_eq] at hB
  obtain ⟨⟨⟨⟨hsel, hn⟩, hs⟩, hc⟩, hlex⟩ := hB
  have hn' : n < l.length := by simpa using hn
  have htl : (l.take n).length = n := by simp; omega
  have hdl : (l.drop n).length = l.toArray.size - n := by simp
  have inv0 : HeadInv .any l.toArray n (Array.replicate l.toArray.size false) :=
    ⟨by simp, fun j oj _ hl => (by rw [getD_replicate_false] at hl; cases hl), fun t _ ht => getD_in (by simpa using ht) (getD_replicate_false _ _)⟩
  have H := headQ_lex (md := .any) (C := C) (g := l.toArray.size - n) hsel hs hc hn (l.take n) 0 _ a (fun j hj => by
    have hj' : j < n := by rw [htl] at hj; exact hj
    simp [hj']) (by simpa using htl) inv0 (by rw [htl]; exact hlex) h
  refine wp_region_any hm ?_
  have := any_of_headQ (Q' := Q) (g := l.toArray.size - n) (fun listed a' w' hw' hL => by
    have := wpAny_of_seq (md := .any) (Q' := Q) (l.drop n) n listed a' w' (fun j => by simp [List.getElem?_drop]) (by rw [hdl]; exact hL.1) (hL.2 w' hw')
    rwa [hdl] at this) _ _ _ _ hC H
  rw [htl, show n + (l.toArray.size - n) = l.toArray.size by omega] at this
  exact this
end
end Go.Proofs.YtflpkkebampmfaaGreatDoor
