/- Texts laid together. expr.size: the number of nodes of a tidy expression, at most 61. Writing the nodes of a tree: what the memory looks like on the way. Plain lemmas over the model, no program. The reference's weight and sum of layer 10. -/
import Derived.Test.YtmjgdnpfgkpaoaaDoorGTopSimplified3
import Derived.Test.YtmjgdnpfgkpaoaaDoorGTopSimplified4
import Derived.Deep.RegionHeld3
namespace Go.Proofs.YtmjgdnpfgkpaoaaDoor
open Go.RowKit Go.Shelf

/-- sixty places for numbers, the first ones filled -/
def inA (l : List Nat) : Array Value := ((l ++ List.replicate (60 - l.length) 0).map fun k => Value.int .i64 ((k : Nat) : Int)).toArray
theorem inA_at {l : List Nat} (h : l.length ≤ 60) {i : Nat} (hi : i < 60) : (inA l)[i]? = some (.int .i64 ((l.getD i 0 : Nat) : Int)) := by
  unfold inA
  rw [List.getElem?_toArray, List.getElem?_map, List.getD_eq_getElem?_getD]
  by_cases h1 : i < l.length
  · rw [List.getElem?_append_left h1, List.getElem?_eq_getElem h1]; rfl
  · rw [List.getElem?_append_right (by omega), List.getElem?_replicate, if_pos (by omega), List.getElem?_eq_none (by omega)]; rfl
theorem inA_set {l : List Nat} (h : l.length < 60) (v : Nat) : (inA l).setIfInBounds l.length (.int .i64 (v : Int)) = inA (l ++ [v]) := by
  unfold inA
  rw [List.setIfInBounds_toArray]
  congr 1
  have e : 60 - l.length = (60 - (l ++ [v]).length) + 1 := by simp; omega
  rw [e, List.replicate_succ, List.map_append, List.map_append, List.map_append, List.map_cons, List.set_append_right _ _ (by simp)]
  simp
theorem inA_reset {l : List Nat} (u v : Nat) : (inA (l ++ [u])).setIfInBounds l.length (.int .i64 (v : Int)) = inA (l ++ [v]) := by
  unfold inA
  rw [List.setIfInBounds_toArray]
  congr 1
  rw [List.append_assoc, List.append_assoc, List.map_append, List.map_append, List.set_append_right _ _ (by simp)]
  simp
theorem inA_old {l : List Nat} (u : Nat) {i : Nat} (h : l.length < 60) (hi : i < l.length) : (inA (l ++ [u]))[i]? = some (.int .i64 ((l.getD i 0 : Nat) : Int)) := by
  rw [inA_at (by simp; omega) (by omega), List.getD_eq_getElem?_getD, List.getElem?_append_left hi, ← List.getD_eq_getElem?_getD]
theorem inA_new {l : List Nat} (u : Nat) (h : l.length < 60) : (inA (l ++ [u]))[l.length]? = some (.int .i64 (u : Int)) := by
  rw [inA_at (by simp; omega) h, List.getD_eq_getElem?_getD, List.getElem?_append_right (Nat.le_refl _), Nat.sub_self]; rfl

/-- the tree of the root, with substitutions -/
def treY (x : Xpr) (sub : Nat → Option ET) : ET := treF x.nodes sub (x.root.toNat + 1) x.root.toNat
/-- a function value that answers a server's size -/
def OfAt (w0 : World) (g : Nat) (lb : Array Value) (sz : Nat → Nat) : Prop := ∀ (s : Nat), s < 12 → ∀ (W : World), Below w0.heap.size w0 W → Calls Tryd.prog g (#[.int .i64 (s : Int)] ++ lb) W fun e w' => e = .returned (.int .i64 ((sz s : Nat) : Int)) ∧ Below W.heap.size W w'

set_option maxRecDepth 100000 in
set_option maxHeartbeats 4000000 in
theorem size_c (x : Xpr) (hx : xprE x = 0) (sub : Nat → Option ET) (G : Nat) (lb : Array Value) (eg : ∀ args w, (callFunc G args).run Tryd.prog w = .ok (.enter G args) w) (w : World) (hof : OfAt w G lb (subZ 61 sub)) (hs61 : ∀ s, subZ 61 sub s ≤ 61) (a : Option Addr) (n c : Nat) (h : XM w a n c x.nodes) :
    Calls Tryd.prog 67 #[.agg #[.slice a n c, .int .i64 x.root], .func (.func G) #[] lb] w fun e w' => e = .returned (.int .i64 ((min 61 (treY x sub).sz : Nat) : Int)) ∧ Below w.heap.size w w' := by
  have ok := xprE_ok hx
  obtain ⟨r, hr⟩ := Int.eq_ofNat_of_zero_le ok.root.1
  have hrn : r < n := by have h1 := ok.root.2; have h2 := h.len; omega
  have hle := h.le
  have hm := h.max
  have hn60 : n ≤ 60 := by have h1 := ok.most; have h2 := h.len; omega
  unfold maxLen at hm
  have hwr : wrap64 ((r : Int) + 1) = (r : Int) + 1 := by unfold wrap64; omega
  have HV : Hid (min 61 (treY x sub).sz = (szl 61 x.nodes sub (r + 1)).getD r 0) := Lib.hid (by
    rw [szl_get _ _ _ _ _ (Nat.lt_succ_self r)]; unfold treY; rw [hr, Int.toNat_natCast])
  rw [hr]
  have HX := Lib.hid h
  have HO := Lib.hid ok
  have HXX := Lib.hid hx
  have HN := Lib.hid h.len
  have HOF := Lib.hid hof
  have HS61 := Lib.hid hs61
  clear h hx hr ok hof hs61
  obtain ⟨b, o, rfl, _⟩ := HX.out.at' (by omega)
  go_enter Tryd.func67, Tryd.ntmps67
  go_wp2_with fail
  generalize hWS : (w.alloc _).alloc _ = WS
  have hS : WS.heap.size = w.heap.size + 2 := by rw [← hWS]; simp
  have hbS : Below w.heap.size w WS := by rw [← hWS]; exact ((Below.refl _ w).alloc (Nat.le_refl _) _).alloc (by simp) _
  have g1 : WS.heap[w.heap.size + 1]? = some (.cells (inA []) 131 (0, 0)) := by
    rw [← hWS]
    have := heap_alloc_new (w.alloc (Obj.cells #[Value.slice (some { block := b, off := o }) n c, Value.int IntKind.i64 r] 28)) (.cells (inA []) 131)
    rw [World.size_alloc] at this; exact this
  have g0 : WS.heap[w.heap.size]? = some (.cells #[Value.slice (some { block := b, off := o }) n c, Value.int IntKind.i64 r] 28 (0, 0)) := by
    rw [← hWS]; exact heap_alloc_at (heap_alloc_new _ _) _
  have HS := Lib.hid hS
  have HBS := Lib.hid hbS
  have G0 := Lib.hid g0
  have G1 := Lib.hid g1
  clear hWS hS hbS g0 g1
  go_loopw [17] (fun i wr => ∃ k : Nat, k ≤ r + 1 ∧ i = .int .i64 k ∧ wr.heap[w.heap.size + 1]? = some (.cells (inA (szl 61 x.nodes sub k)) 131 (0, 0)) ∧ wr.heap[w.heap.size]? = some (.cells #[Value.slice (some { block := b, off := o }) n c, Value.int IntKind.i64 r] 28 (0, 0)) ∧ w.heap.size + 2 ≤ wr.heap.size ∧ Below w.heap.size w wr) (fun i _ => r + 1 - (intOf i).toNat)
  case atStart => exact ⟨0, Nat.zero_le _, rfl, G1.out, G0.out, by rw [HS.out]; exact Nat.le_refl _, HBS.out⟩
  case round =>
    obtain ⟨k, hk, rfl, e1, e0, hsz, hb⟩ := hrel
    by_cases hlt : k < r + 1
    · obtain ⟨nd, hnd⟩ : ∃ nd, x.nodes[k]? = some nd := ⟨_, List.getElem?_eq_getElem (by have := HN.out; omega)⟩
      obtain ⟨b', o', ha, hat⟩ := HX.out.at' (by omega)
      cases ha
      have hM := hat k nd hnd
      obtain ⟨a3, n3, c3, m3, r3⟩ := hM.ws
      obtain ⟨a4, n4, c4, m4, r4⟩ := hM.ks
      have m0 := cell_keep hb hM.c0
      have m1 := cell_keep hb hM.c1
      have m2 := cell_keep hb hM.c2
      have m3 := cell_keep hb m3
      have m4 := cell_keep hb m4
      have HOK := Lib.hid (HO.out.node k nd hnd)
      have HST := Lib.hid (szl_succ 61 x.nodes sub k)
      have HL := Lib.hid (szl_len 61 x.nodes sub k)
      have HND := Lib.hid hnd
      have hkk := Lib.hid (fun j kd hj => sz_kid HXX.out 61 sub k nd hnd j kd hj)
      have hIb := Lib.hid (fun i (hi : i < k) => show (szl 61 x.nodes sub k).getD i 0 ≤ 61 from by rw [szl_get _ _ _ _ _ hi]; omega)
      obtain ⟨I, hI⟩ : ∃ I, szl 61 x.nodes sub k = I := ⟨_, rfl⟩
      have hleaf := Lib.hid (fun hk1 => sz_leaf (x := x) 61 (by omega) sub k nd hnd hk1)
      have hnode := Lib.hid (fun hk1 => sz_node HXX.out 61 sub k nd hnd hk1)
      rw [hI] at e1 HST HL hkk hIb
      obtain ⟨kind, server, need, ws, ks⟩ := nd
      simp only at m0 m1 m2 r3 r4 hleaf hnode hkk
      have R3 := Lib.hid r3
      have R4 := Lib.hid r4
      have HB := Lib.hid hb
      clear hM r3 r4 hat hnd hI hb
      have hkd : decide ((k : Int) < (r : Int) + 1) = true := decide_eq_true (by omega)
      have ea := heap_alloc_at e1 (Obj.cells #[.int .i64 kind, .int .i64 server, .int .i64 need, .slice a3 n3 c3, .slice a4 n4 c4] 58)
      have ea0 := heap_alloc_at e0 (Obj.cells #[.int .i64 kind, .int .i64 server, .int .i64 need, .slice a3 n3 c3, .slice a4 n4 c4] 58)
      have en := heap_alloc_new wr (Obj.cells #[.int .i64 kind, .int .i64 server, .int .i64 need, .slice a3 n3 c3, .slice a4 n4 c4] 58)
      have hbn : Below wr.heap.size wr (wr.alloc (Obj.cells #[.int .i64 kind, .int .i64 server, .int .i64 need, .slice a3 n3 c3, .slice a4 n4 c4] 58)) := (Below.refl _ wr).alloc (Nat.le_refl _) _
      have hlk : ks.length = n4 := by have := R4.out.len; simp at this; omega
      have HLK := Lib.hid hlk
      have hk60 : k < 60 := by omega
      have za := frozen_row ea k
      have zb := cell_of_row _ _ k _ _ _ ea |>.trans (inA_at (by have := HL.out; omega) hk60)
      have EA := Lib.hid ea
      have EA0 := Lib.hid ea0
      have EN := Lib.hid en
      have HBN := Lib.hid hbn
      clear ea ea0 en hbn hlk
      by_cases hkind : kind = 1
      · subst hkind
        obtain ⟨sv, rfl⟩ := Int.eq_ofNat_of_zero_le HOK.out.server.1
        have hsv12 := HOK.out.server.2
        simp only at hsv12
        obtain ⟨hnd0, hws0, hks⟩ := HOK.out.leaf rfl
        simp only at hks hnd0 hws0
        subst hks hnd0 hws0
        have hn0 : n4 = 0 := HLK.out.symm
        subst hn0
        go_wp2_with fail
        generalize hW5 : (wr.alloc _).setCell _ _ = W5
        have e5 : W5.heap[w.heap.size + 1]? = some (.cells (inA (I ++ [1])) 131 (0, 0)) := by
          rw [← hW5, heap_set_at EA.out]
          have := inA_set (l := I) (by have := HL.out; omega) 1
          rw [HL.out] at this
          rw [← this]; rfl
        have e50 : W5.heap[w.heap.size]? = some (.cells #[Value.slice (some { block := b, off := o }) n c, Value.int IntKind.i64 r] 28 (0, 0)) := by
          rw [← hW5]; exact heap_set_other (by omega) _ _ EA0.out
        have en5 : W5.heap[wr.heap.size]? = some (.cells #[.int .i64 1, .int .i64 (sv : Int), .int .i64 0, .slice a3 n3 c3, .slice a4 0 c4] 58 (0, 0)) := by rw [← hW5]; exact heap_set_other (by omega) _ _ EN.out
        have hb5 : Below w.heap.size w W5 := by rw [← hW5]; exact (HB.out.trans (HBN.out.mono HB.out.size)).setCell (p := ⟨w.heap.size + 1, k, none⟩) (Nat.le_succ _) _
        have hs5 : wr.heap.size < W5.heap.size := (Array.getElem?_eq_some_iff.1 en5).1
        have HCALL := Lib.hid (HOF.out sv (by omega) W5 hb5)
        have E5 := Lib.hid e5
        have E50 := Lib.hid e50
        have EN5 := Lib.hid en5
        have HB5 := Lib.hid hb5
        clear hW5 e5 e50 en5 hb5 za zb m0 m1 m2 m3 m4
        with_reducible refine HCALL.out.mono ?_
        rintro e w6 ⟨rfl, hb6⟩
        have e6 := heap_below hb6 E5.out
        have E6 := Lib.hid e6
        have E60 := Lib.hid (heap_below hb6 E50.out)
        have en6 := heap_below hb6 EN5.out
        have n4 := cell_of_row _ _ 4 _ _ _ en6
        have z6 := frozen_row e6 k
        have c6 := cell_of_row _ _ k _ _ _ e6 |>.trans (inA_at (by simp; have := HL.out; omega) hk60)
        have n4b := (World.cell?_of_block (w := w6) (w' := w6.setCell ⟨w.heap.size + 1, k, none⟩ (.int .i64 ((subZ 61 sub sv : Nat) : Int))) (a := ⟨wr.heap.size, 4, none⟩) (Below.heap_setCell _ _ _ _ (by show wr.heap.size ≠ w.heap.size + 1; omega))).trans n4
        have HB6 := Lib.hid (HB5.out.trans (hb6.mono HB5.out.size))
        have hs6 := hb6.size
        clear e6 hb6 en6 HCALL n4
        go_wp2_with fail
        generalize hW7 : w6.setCell _ _ = W7
        have e7 : W7.heap[w.heap.size + 1]? = some (.cells (inA (szl 61 x.nodes sub (k + 1))) 131 (0, 0)) := by
          rw [← hW7, heap_set_at E6.out, HST.out, hleaf.out (by trivial)]
          have := inA_reset (l := I) 1 (subZ 61 sub sv)
          rw [HL.out] at this
          exact congrArg (fun q => some (Obj.cells q 131 (0, 0))) this
        have e70 : W7.heap[w.heap.size]? = some (.cells #[Value.slice (some { block := b, off := o }) n c, Value.int IntKind.i64 r] 28 (0, 0)) := by rw [← hW7]; exact heap_set_other (by omega) _ _ E60.out
        have hs7 : W7.heap.size = w6.heap.size := by rw [← hW7]; simp
        have hb7 : Below w.heap.size w W7 := by rw [← hW7]; exact HB6.out.setCell (p := ⟨w.heap.size + 1, k, none⟩) (Nat.le_succ _) _
        have E7 := Lib.hid e7
        have E70 := Lib.hid e70
        have HB7 := Lib.hid hb7
        clear hW7 e7 e70 hb7 z6 c6 n4b
        go_loopw [36] (fun i wq => i = .int .i64 ((0 : Nat) : Int) ∧ wq = W7) (fun i _ => 0)
        case atStart => exact ⟨rfl, rfl⟩
        case round =>
          obtain ⟨rfl, rfl⟩ := hrel
          go_wp2_with fail
          go_roundw
          case rel => exact ⟨k + 1, by omega, by go_num, E7.out, E70.out, by omega, HB7.out⟩
          case measure => simp [intOf] <;> omega
      · have hk2 : (kind == 1) = false := by simpa using hkind
        go_wp2_with fail
        generalize hW5 : (wr.alloc _).setCell _ _ = W5
        have e5 : W5.heap[w.heap.size + 1]? = some (.cells (inA (I ++ [1])) 131 (0, 0)) := by
          rw [← hW5, heap_set_at EA.out]
          have := inA_set (l := I) (by have := HL.out; omega) 1
          rw [HL.out] at this
          rw [← this]; rfl
        have e50 : W5.heap[w.heap.size]? = some (.cells #[Value.slice (some { block := b, off := o }) n c, Value.int IntKind.i64 r] 28 (0, 0)) := by
          rw [← hW5]; exact heap_set_other (by omega) _ _ EA0.out
        have en5 : W5.heap[wr.heap.size]? = some (.cells #[.int .i64 kind, .int .i64 server, .int .i64 need, .slice a3 n3 c3, .slice a4 n4 c4] 58 (0, 0)) := by rw [← hW5]; exact heap_set_other (by omega) _ _ EN.out
        have hb5 : Below w.heap.size w W5 := by rw [← hW5]; exact (HB.out.trans (HBN.out.mono HB.out.size)).setCell (p := ⟨w.heap.size + 1, k, none⟩) (Nat.le_succ _) _
        have hs5 : wr.heap.size < W5.heap.size := (Array.getElem?_eq_some_iff.1 en5).1
        have E5 := Lib.hid e5
        have E50 := Lib.hid e50
        have EN5 := Lib.hid en5
        have HB5 := Lib.hid hb5
        obtain ⟨KT, hKT⟩ : ∃ KT, KT = kidT x.nodes sub k ks := ⟨_, rfl⟩
        rw [← hKT] at hkk hnode
        have hKl : KT.length = n4 := by rw [hKT, kidT_len, HLK.out]
        have HKl := Lib.hid hKl
        have hn4m : n4 ≤ 9223372036854775807 := by have h1 := R4.out.le; have h2 := R4.out.max; unfold maxLen at h2; omega
        clear hKl hKT hW5 e5 e50 en5 hb5 za zb m0 m1 m2 m3 m4
        obtain ⟨W0, hW0⟩ : ∃ W0, W0 = wr := ⟨_, rfl⟩
        subst hW0
        go_loopw [9, 36] (fun _ i wq => ∃ j : Nat, j ≤ n4 ∧ i = .int .i64 ((j : Nat) : Int) ∧ wq.heap[w.heap.size + 1]? = some (.cells (inA (I ++ [min 61 (1 + ETs.sz (KT.take j))])) 131 (0, 0)) ∧ wq.heap[w.heap.size]? = some (.cells #[Value.slice (some { block := b, off := o }) n c, Value.int IntKind.i64 r] 28 (0, 0)) ∧ w.heap.size + 2 ≤ wq.heap.size ∧ Below w.heap.size w wq) (fun _ i _ => n4 - (intOf i).toNat)
        case atStart => exact ⟨0, Nat.zero_le _, rfl, E5.out, E50.out, by omega, HB5.out⟩
        case round =>
          obtain ⟨j, hj, rfl, q1, q0, hsq, hbq⟩ := hrel
          by_cases hltj : j < n4
          · obtain ⟨z, hz⟩ : ∃ z, ks[j]? = some z := ⟨_, List.getElem?_eq_getElem (by have := HLK.out; omega)⟩
            have hzr := HOK.out.kids z (List.mem_of_getElem? hz)
            obtain ⟨kd, rfl⟩ := Int.eq_ofNat_of_zero_le hzr.1
            have hkd2 : kd < k := by omega
            have hkd60 : kd < 60 := by omega
            have hk60i : ((k : Nat) : Int) < 60 := by omega
            have hkd60i : ((kd : Nat) : Int) < 60 := by omega
            obtain ⟨b4, o4, ha4, hcell4⟩ := (R4.out.below hbq).at' (by omega)
            have q4 := hcell4 j (.int .i64 kd) (by rw [List.getElem?_map, hz]; rfl)
            have HKK := Lib.hid (hkk.out j kd hz)
            subst ha4
            have hI61 : I.getD kd 0 ≤ 61 := hIb.out kd hkd2
            obtain ⟨u, hu⟩ : ∃ u, min 61 (1 + ETs.sz (KT.take j)) = u := ⟨_, rfl⟩
            rw [hu] at q1 HKK
            have hu61 : u ≤ 61 := by omega
            obtain ⟨d, hd⟩ : ∃ d, I.getD kd 0 = d := ⟨_, rfl⟩
            rw [hd] at hI61 HKK
            have KS : Hid (∀ y : World, Below wr.heap.size wr y → y.heap[w.heap.size + 1]? = some (.cells (inA (I ++ [u])) 131 (0, 0)) ∧ y.cell? ⟨w.heap.size + 1, k, none⟩ = some (.int .i64 (u : Int)) ∧ y.cell? ⟨w.heap.size + 1, kd, none⟩ = some (.int .i64 (d : Int)) ∧ y.frozen? ⟨w.heap.size + 1, k, none⟩ = false) := Lib.hid (fun y hy => by
              have h1 := heap_below hy q1
              refine ⟨h1, (cell_of_row _ _ k _ _ _ h1).trans ?_, (cell_of_row _ _ kd _ _ _ h1).trans ?_, frozen_row h1 k⟩
              · have := inA_new (l := I) u (by have := HL.out; omega)
                rw [HL.out] at this; exact this
              · rw [inA_old u (by have := HL.out; omega) (by have := HL.out; omega), hd])
            have Q0 := Lib.hid q0
            have HBQ := Lib.hid hbq
            clear hcell4 hz hzr q1 q0 hbq hu hd
            go_wp2_with fail
            refine wp_region_store (fun y => Below wr.heap.size wr y) (fun z => ∃ y, Below wr.heap.size wr y ∧ z = y.setCell ⟨w.heap.size + 1, k, none⟩ (.int .i64 ((min 61 (u + d) : Nat) : Int))) [] 10 (by kernel_rfl) (by kernel_rfl) (by kernel_rfl) (below_drew (Below.refl _ _)) ?_
            simp only [List.take_succ_cons, List.take_zero]
            iterate 7 (refine wpT_step (fun K hK => ?_); go_simp; apply Exists.intro; refine ⟨fun y hy => ?_, ?_, hK _ ?_⟩; (first | exact rfl | (obtain ⟨_, k1, k2, k3⟩ := KS.out y hy; go_simp; first | exact rfl | exact ⟨rfl, hy⟩ | exact hy | exact ⟨rfl, rfl⟩ | (rw [if_pos (by omega)]; exact ⟨rfl, rfl⟩))); (first | exact late_not rfl | (focus (intro _ z hz; go_simp; done))); clear hK K)
            refine wpT_step (fun K hK => ?_)
            go_simp
            refine ⟨.int .i64 ((u : Int) + (d : Int)), fun y hy => ?_, late_not rfl, hK _ ?_⟩
            · rw [show IntKind.i64.wrap ((u : Int) + (d : Int)) = (u : Int) + (d : Int) by unfold IntKind.wrap; simp [IntKind.bits, IntKind.signed]; omega]
            clear hK K
            refine wpT_step (fun K hK => ?_)
            go_simp
            refine ⟨.int .i64 ((min 61 (u + d) : Nat) : Int), fun y hy => ?_, late_not rfl, hK _ ?_⟩
            · congr 1; omega
            clear hK K
            (refine wpT_step (fun K hK => ?_); go_simp; apply Exists.intro; refine ⟨fun y hy => ?_, ?_, hK _ ?_⟩; (first | exact rfl | (obtain ⟨_, k1, k2, k3⟩ := KS.out y hy; go_simp; first | exact rfl | exact ⟨rfl, hy⟩ | exact hy | exact ⟨rfl, rfl⟩ | (rw [if_pos (by omega)]; exact ⟨rfl, rfl⟩))); (first | exact late_not rfl | (focus (intro _ z hz; go_simp; done))); clear hK K)
            refine wpT_nil ?_
            refine ⟨_, rfl, by go_simp, fun y hy => ?_, ?_⟩
            · obtain ⟨_, k1, k2, k3⟩ := KS.out y hy
              refine ⟨_, ?_, y, hy, rfl⟩
              go_simp
            · rintro z ⟨y, hy, rfl⟩
              obtain ⟨h1, _, _, _⟩ := KS.out y hy
              generalize hz : y.setCell _ _ = z
              have ez : z.heap[w.heap.size + 1]? = some (.cells (inA (I ++ [min 61 (1 + ETs.sz (KT.take (j + 1)))])) 131 (0, 0)) := by
                rw [← hz, heap_set_at h1, HKK.out]
                have := inA_reset (l := I) u (min 61 (u + d))
                rw [HL.out] at this
                exact congrArg (fun q => some (Obj.cells q 131 (0, 0))) this
              have ez0 : z.heap[w.heap.size]? = some (.cells #[Value.slice (some { block := b, off := o }) n c, Value.int IntKind.i64 r] 28 (0, 0)) := by
                rw [← hz]; exact heap_set_other (by omega) _ _ (heap_below hy Q0.out)
              have hsz2 : w.heap.size + 2 ≤ z.heap.size := by
                have := hy.size
                rw [← hz]; simp; omega
              have hbz : Below w.heap.size w z := by
                rw [← hz]; exact (HBQ.out.trans (hy.mono HBQ.out.size)).setCell (p := ⟨w.heap.size + 1, k, none⟩) (Nat.le_succ _) _
              have EZ := Lib.hid ez
              have EZ0 := Lib.hid ez0
              have HBZ := Lib.hid hbz
              clear hz ez ez0 hbz h1 hy
              go_simp
              go_wp2_with fail
              go_roundw
              case rel => exact ⟨j + 1, by omega, by go_num, EZ.out, EZ0.out, hsz2, HBZ.out⟩
              case measure => simp [intOf] <;> omega
          · obtain rfl : j = n4 := by omega
            have ez : wr.heap[w.heap.size + 1]? = some (.cells (inA (szl 61 x.nodes sub (k + 1))) 131 (0, 0)) := by
              rw [List.take_of_length_le (by have := HKl.out; omega), Nat.add_comm 1] at q1
              rw [HST.out, hnode.out hkind]
              exact q1
            have EZ := Lib.hid ez
            have Q0 := Lib.hid q0
            have HBQ := Lib.hid hbq
            clear ez q1 q0 hbq
            go_wp2_with fail
            go_roundw
            case rel => exact ⟨k + 1, by omega, by go_num, EZ.out, Q0.out, hsq, HBQ.out⟩
            case measure => simp [intOf] <;> omega
    · obtain rfl : k = r + 1 := by omega
      have q1 := cell_of_row _ _ r _ _ _ e1 |>.trans (inA_at (by rw [szl_len]; omega) (by omega))
      rw [← HV.out] at q1
      have p1 := cell_of_row _ _ 1 _ _ _ e0
      have hr60 : r < 60 := by omega
      have hr60i : ((r : Nat) : Int) < 60 := by omega
      have HB := Lib.hid hb
      clear e1 e0 hb
      go_wp2_with fail
      go_ret
      exact ⟨rfl, HB.out⟩
end Go.Proofs.YtmjgdnpfgkpaoaaDoor
namespace Go.Proofs.YtmjgdnpfgkpaoaaDoor
open Go.RowKit

/-- a slice value that reads as these numbers by the blocks of a set alone -/
def SlS (S : Nat → Prop) (w : World) (v : Value) (ws : List Int) : Prop := ∀ w2 : World, Ag S w w2 → ∃ a c, v = .slice a ws.length c ∧ Rd w2 a ws.length c (ws.map (Value.int .i64))
theorem SlS.move {S : Nat → Prop} {w w' : World} {v : Value} {ws : List Int} (h : SlS S w v ws) (ha : Ag S w w') : SlS S w' v ws := fun w2 h2 => h w2 fun g hg => (h2 g hg).trans (ha g hg)
theorem SlS.mono {S S' : Nat → Prop} {w : World} {v : Value} {ws : List Int} (h : SlS S w v ws) (hs : ∀ g, S g → S' g) : SlS S' w v ws := fun w2 h2 => h w2 fun g hg => h2 g (hs g hg)
theorem SlS.of_row {w : World} {B n : Nat} {e : TypeId} {v : Value} {ws : List Int} (h : w.ownsRow B e 1 v n (ws.map (Value.int .i64))) : SlS (fun g => v.ownBlock = some g) w v ws := fun w2 h2 => by
  have hl : n = ws.length := by obtain ⟨a, c, rfl, r⟩ := rd_of_row h; have := r.len; simpa using this
  subst hl
  exact row_alone h w2 fun g hg => h2 g hg
theorem SlS.nil (S : Nat → Prop) (w : World) : SlS S w (.slice none 0 0) [] := fun _ _ => ⟨none, 0, rfl, Rd.none_ _⟩

/-- a row of nodes whose blocks all lie from a bound on -/
theorem XB.xmr {S : Nat → Prop} {B lo : Nat} {w : World} {v : Value} {t : TypeId} {nodes : List Nod} (h : XB S B w v t nodes) (hS : ∀ g, S g → lo ≤ g) (hB : lo ≤ B) : ∃ a c, v = .slice a nodes.length c ∧ XMR lo w.heap.size w a nodes.length c nodes := by
  obtain ⟨a, c, rfl, _⟩ := h.shape
  refine ⟨a, c, rfl, fun w2 hg => ?_⟩
  obtain ⟨V, h1, h2, h3⟩ := h.row
  obtain ⟨a', c', e, hx⟩ := XM.of_row (rowK_at h2 fun g hgv => hg g (by have := (h2.lt g hgv).1; omega) (h2.lt g hgv).2) h1 fun i p nd hp hn => (h3 i p nd hp hn) w2 fun g hg' => hg g (hS g hg') (h.lt g hg')
  cases e
  exact hx
/-- what a call leaves that writes nodes; E: blocks that belong to what is written -/
def WrO (OB B : Nat) (E S : Nat → Prop) (v : Value) (nodes add : List Nod) (w w' : World) : Prop :=
  ∃ v' S', w'.heap[OB]? = some (.cells #[v', .int .i64 (((nodes ++ add).length : Int) - 1)] 28 (0, 0)) ∧ XB S' B w' v' 58 (nodes ++ add) ∧ KB OB B v v' w w' ∧ (∀ g, S g → S' g) ∧ (∀ g, S' g → S g ∨ E g ∨ w.heap.size ≤ g)
/-- what a call finds -/
structure WrI (w0 : World) (OB B : Nat) (E S : Nat → Prop) (v : Value) (nodes : List Nod) (w : World) : Prop where
  bel : Below w0.heap.size w0 w
  box : ∃ r, w.heap[OB]? = some (.cells #[v, r] 28 (0, 0))
  xb : XB S B w v 58 nodes
  ob : ¬ S OB
  own : v.ownBlock ≠ some OB
  ext : ∀ g, E g → g < w.heap.size ∧ g ≠ OB ∧ v.ownBlock ≠ some g
theorem WrI.ob_lt {w0 : World} {OB B : Nat} {E S : Nat → Prop} {v : Value} {nodes : List Nod} {w : World} (h : WrI w0 OB B E S v nodes w) : OB < w.heap.size := by
  obtain ⟨r, h1⟩ := h.box
  exact (Array.getElem?_eq_some_iff.1 h1).1

/-- on the way: the node's box N and further boxes lie from w's end up to s; rows made since lie from s on -/
structure WrL (w0 w W2 : World) (OB B N s : Nat) (E S SW : Nat → Prop) (v : Value) (nodes : List Nod) (k0 k1 k2 : Value) (wv : Value) (ws : List Int) (v' r kv : Value) (S' : Nat → Prop) (add : List Nod) (ids : List Int) (wr : World) : Prop where
  box : wr.heap[OB]? = some (.cells #[v', r] 28 (0, 0))
  xb : XB S' B wr v' 58 (nodes ++ add)
  kb : KBs w.heap.size OB B v v' w wr
  sub : ∀ g, S g → S' g
  new : ∀ g, S' g → S g ∨ E g ∨ s ≤ g
  nb : wr.heap[N]? = some (.cells #[k0, k1, k2, wv, kv] 58 (0, 0))
  loc : ∀ g, w.heap.size ≤ g → g < s → g ≠ N → wr.heap[g]? = W2.heap[g]?
  own : ∀ g, v'.ownBlock = some g → v.ownBlock = some g ∨ s ≤ g
  sw : SlS SW wr wv ws
  rk : wr.ownsRow s 3 1 kv ids.length (ids.map (Value.int .i64))
  dw : ∀ g, SW g → g < wr.heap.size ∧ g ≠ OB ∧ g ≠ N ∧ v'.ownBlock ≠ some g ∧ kv.ownBlock ≠ some g
  nw : ∀ g, SW g → E g ∨ s ≤ g
  dk : ∀ g, kv.ownBlock = some g → ¬ S' g ∧ ¬ E g ∧ v'.ownBlock ≠ some g
  dn : w.heap.size ≤ N ∧ N < s
  ext : ∀ g, E g → g < w.heap.size ∧ g ≠ OB ∧ v.ownBlock ≠ some g
theorem WrI.below {w0 : World} {OB B : Nat} {E S : Nat → Prop} {v : Value} {nodes : List Nod} {w W2 : World} (h : WrI w0 OB B E S v nodes w) (hb : Below w.heap.size w W2) (hB : w0.heap.size ≤ w.heap.size) : WrI w0 OB B E S v nodes W2 := by
  obtain ⟨r, hr⟩ := h.box
  exact ⟨h.bel.trans (hb.mono hB), ⟨r, (hb.block OB h.ob_lt).trans hr⟩, h.xb.below hb, h.ob, h.own, fun g hg => by
    obtain ⟨h1, h2, h3⟩ := h.ext g hg
    have := hb.size
    exact ⟨by omega, h2, h3⟩⟩
theorem WrO.pre {OB B : Nat} {E S : Nat → Prop} {v : Value} {nodes add : List Nod} {w W2 w' : World} (hB : B ≤ w.heap.size) (hb : Below w.heap.size w W2) (h : WrO OB B E S v nodes add W2 w') : WrO OB B E S v nodes add w w' := by
  obtain ⟨v', S', h1, h2, h3, h4, h5⟩ := h
  have := hb.size
  refine ⟨v', S', h1, h2, (KB.of_below v hB hb).trans h3, h4, fun g hg => ?_⟩
  rcases h5 g hg with h6 | h6 | h6
  · exact .inl h6
  · exact .inr (.inl h6)
  · exact .inr (.inr (by omega))
section
variable {w0 w W2 : World} {OB B N s : Nat} {E S SW : Nat → Prop} {v : Value} {nodes : List Nod} {k0 k1 k2 : Value} {wv : Value} {ws : List Int} {v' r kv : Value} {S' : Nat → Prop} {add : List Nod} {ids : List Int} {wr : World}
theorem WrL.start (hI : WrI w0 OB B E S v nodes w) (hB : B ≤ OB) {W4 : World} (hb : Below w.heap.size w W4) (nb : W4.heap[N]? = some (.cells #[k0, k1, k2, wv, .slice none 0 0] 58 (0, 0))) (loc : ∀ g, w.heap.size ≤ g → g < s → g ≠ N → W4.heap[g]? = W2.heap[g]?) (dn : w.heap.size ≤ N ∧ N < s) (sw : SlS SW W4 wv ws) (nw : ∀ g, SW g → E g ∨ s ≤ g) (hsw : ∀ g, SW g → g < W4.heap.size) :
    ∃ r, WrL w0 w W2 OB B N s E S SW v nodes k0 k1 k2 wv ws v r (.slice none 0 0) S [] [] W4 := by
  obtain ⟨r, hr⟩ := hI.box
  have hob := hI.ob_lt
  refine ⟨r, ⟨(hb.block OB hob).trans hr, by rw [List.append_nil]; exact hI.xb.below hb, (KB.of_below v (by omega) hb).s (Nat.le_refl _), fun _ h => h, fun _ h => .inl h, nb, loc, fun _ h => .inl h, sw, World.ownsRow_nil _ _ _ _, fun g hg => ?_, nw, (fun g hg => by cases hg), dn, hI.ext⟩⟩
  refine ⟨hsw g hg, ?_, ?_, ?_, (fun e => by cases e)⟩
  · rcases nw g hg with h | h
    · exact (hI.ext g h).2.1
    · omega
  · rcases nw g hg with h | h
    · have := (hI.ext g h).1; omega
    · omega
  · rcases nw g hg with h | h
    · exact (hI.ext g h).2.2
    · intro e; have := (hI.xb.lt_own g e).2; omega
/-- ready for a call -/
theorem WrL.toI (h : WrL w0 w W2 OB B N s E S SW v nodes k0 k1 k2 wv ws v' r kv S' add ids wr) (hI : WrI w0 OB B E S v nodes w) (hB : w0.heap.size ≤ B) (hs : w.heap.size ≤ s) (hsr : s ≤ wr.heap.size) : WrI w0 OB B E S' v' (nodes ++ add) wr where
  bel := hI.bel.trans (h.kb.bel.mono hB)
  box := ⟨_, h.box⟩
  xb := h.xb
  ob := fun hS => by
    have := hI.ob_lt
    rcases h.new _ hS with h1 | h1 | h1
    · exact hI.ob h1
    · exact (hI.ext _ h1).2.1 rfl
    · omega
  own := fun e => by
    have := hI.ob_lt
    rcases h.own _ e with h1 | h1
    · exact hI.own h1
    · omega
  ext := fun g hg => by
    obtain ⟨h1, h2, h3⟩ := hI.ext g hg
    refine ⟨by omega, h2, fun e => ?_⟩
    rcases h.own _ e with h4 | h4
    · exact h3 h4
    · omega
/-- behind a call -/
theorem WrL.call (h : WrL w0 w W2 OB B N s E S SW v nodes k0 k1 k2 wv ws v' r kv S' add ids wr) (hI : WrI w0 OB B E S v nodes w) (hs : s ≤ wr.heap.size) {a2 : List Nod} {w2 : World} (hO : WrO OB B E S' v' (nodes ++ add) a2 wr w2) :
    ∃ v'' S'', WrL w0 w W2 OB B N s E S SW v nodes k0 k1 k2 wv ws v'' (.int .i64 (((nodes ++ add ++ a2).length : Int) - 1)) kv S'' (add ++ a2) ids w2 ∧ wr.heap.size ≤ w2.heap.size := by
  obtain ⟨v'', S'', h1, h2, h3, h4, h5⟩ := hO
  have hob := hI.ob_lt
  have hN : N < wr.heap.size := (Array.getElem?_eq_some_iff.1 h.nb).1
  have hsz := h3.bel.size
  have hnv : v'.ownBlock ≠ some N := fun e => by
    rcases h.own _ e with h6 | h6
    · have := (hI.xb.lt_own _ h6).2; have := h.dn; omega
    · have := h.dn; omega
  have hloc : ∀ g, w.heap.size ≤ g → g < s → v'.ownBlock ≠ some g := fun g g1 g2 e => by
    rcases h.own _ e with h6 | h6
    · have := (hI.xb.lt_own _ h6).2; omega
    · omega
  refine ⟨v'', S'', ⟨h1, by rw [← List.append_assoc]; exact h2, h.kb.trans (h3.s h.kb.bel.size), fun g hg => h4 g (h.sub g hg), fun g hg => ?_, ?_, fun g g1 g2 g3 => ?_, fun g hg => ?_, h.sw.move (fun g hg => ?_), rowK_at h.rk (fun g hg => ?_), fun g hg => ?_, h.nw, fun g hg => ?_, h.dn, h.ext⟩, hsz⟩
  · rcases h5 g hg with h6 | h6 | h6
    · exact h.new g h6
    · exact .inr (.inl h6)
    · exact .inr (.inr (by omega))
  · rw [h3.blk N hN (by have := h.dn; omega) hnv]; exact h.nb
  · rw [h3.blk g (by omega) (by omega) (hloc g g1 g2)]; exact h.loc g g1 g2 g3
  · rcases h3.own g hg with h6 | h6
    · exact h.own g h6
    · exact .inr (by omega)
  · obtain ⟨d1, d2, d3, d4, d5⟩ := h.dw g hg
    exact h3.blk g d1 d2 d4
  · have := (h.rk.lt g hg)
    have h7 := h.dk g hg
    have hdn := h.dn
    exact h3.blk g this.2 (by omega) h7.2.2
  · obtain ⟨d1, d2, d3, d4, d5⟩ := h.dw g hg
    refine ⟨by omega, d2, d3, fun e => ?_, d5⟩
    rcases h3.own g e with h6 | h6
    · exact d4 h6
    · omega
  · obtain ⟨k1, k2, k3⟩ := h.dk g hg
    have hlt := (h.rk.lt g hg)
    refine ⟨fun hS => ?_, k2, fun e => ?_⟩
    · rcases h5 g hS with h6 | h6 | h6
      · exact k1 h6
      · exact k2 h6
      · omega
    · rcases h3.own g e with h6 | h6
      · exact k3 h6
      · omega
/-- the kids' row grows: the node's box is written -/
theorem WrL.kid (h : WrL w0 w W2 OB B N s E S SW v nodes k0 k1 k2 wv ws v' r kv S' add ids wr) (hI : WrI w0 OB B E S v nodes w) (hB : B ≤ OB) (hs : s ≤ wr.heap.size) {z : Int} {x : World} {kv' : Value} {y : World} (hb : Below wr.heap.size wr x) (hg : x.grownBy y kv.ownBlock)
    (ho : y.ownsRow s 3 1 kv' (ids.length + 1) (ids.map (Value.int .i64) ++ [.int .i64 z])) (hv : ∀ g, kv'.ownBlock = some g → kv.ownBlock = some g ∨ wr.heap.size ≤ g) (hsz : x.heap.size ≤ y.heap.size) :
    WrL w0 w W2 OB B N s E S SW v nodes k0 k1 k2 wv ws v' r kv' S' add (ids ++ [z]) (y.setCell ⟨N, 4, none⟩ kv') := by
  have hob := hI.ob_lt
  have hN : N < wr.heap.size := (Array.getElem?_eq_some_iff.1 h.nb).1
  have hx := hb.size
  have hdn := h.dn
  have hko : ∀ g, kv.ownBlock = some g → s ≤ g ∧ g < wr.heap.size := fun g hg => h.rk.lt g hg
  have blk : ∀ g, g < wr.heap.size → kv.ownBlock ≠ some g → g ≠ N → (y.setCell ⟨N, 4, none⟩ kv').heap[g]? = wr.heap[g]? := fun g g1 g2 g3 => by
    rw [Below.heap_setCell _ _ _ _ (by show g ≠ N; exact g3), hg.block g (by omega) (fun e => g2 e.symm)]
    exact hb.block g g1
  have hnN : kv.ownBlock ≠ some N := fun e => by have := hko _ e; omega
  have hnb : y.heap[N]? = some (.cells #[k0, k1, k2, wv, kv] 58 (0, 0)) := by
    rw [hg.block N (by omega) (fun e => hnN e.symm), hb.block N hN]; exact h.nb
  have hvl := h.xb.lt_own
  have hvN : v'.ownBlock ≠ some N := fun e => by
    rcases h.own _ e with h6 | h6
    · have := (hI.xb.lt_own _ h6).2; omega
    · omega
  have hsN : ¬ S' N := fun hS => by
    rcases h.new _ hS with h6 | h6 | h6
    · have := hI.xb.lt _ h6; omega
    · have := (h.ext _ h6).1; omega
    · omega
  have hss : (y.setCell ⟨N, 4, none⟩ kv').heap.size = y.heap.size := by simp
  have hrow : (y.setCell ⟨N, 4, none⟩ kv').ownsRow s 3 1 kv' (ids ++ [z]).length ((ids ++ [z]).map (Value.int .i64)) := by
    rw [List.length_append, List.map_append]
    exact rowK_at ho fun g hg' => Below.heap_setCell _ _ _ _ (by have := (ho.lt g hg').1; show g ≠ N; omega)
  refine ⟨?_, h.xb.move (fun g hg' => ?_) (fun g hg' => ?_) (by omega), h.kb.trans ⟨?_, fun g g1 g2 g3 => ?_, fun _ e => .inl e⟩, h.sub, h.new, by rw [heap_set_at hnb]; rfl, fun g g1 g2 g3 => ?_, h.own, h.sw.move (fun g hg' => ?_), hrow, fun g hg' => ?_, h.nw, fun g hg' => ?_, h.dn, h.ext⟩
  · rw [blk OB (by omega) (fun e => by have := hko _ e; omega) (by omega)]; exact h.box
  · exact blk g (h.xb.lt g hg') (fun e => (h.dk g e).1 hg') (fun e => hsN (e ▸ hg'))
  · exact blk g (hvl g hg').2 (fun e => (h.dk g e).2.2 hg') (fun e => hvN (e ▸ hg'))
  · refine ((hb.mono (by omega)).grown hg (by omega) (fun g hg' => by have := hko g hg'; omega)).setCell (p := ⟨N, 4, none⟩) (by show B ≤ N; omega) _
  · exact blk g (by omega) (fun e => by have := hko g e; omega) (by omega)
  · rw [blk g (by omega) (fun e => by have := hko g e; omega) g3]; exact h.loc g g1 g2 g3
  · obtain ⟨d1, d2, d3, d4, d5⟩ := h.dw g hg'
    exact blk g d1 d5 d3
  · obtain ⟨d1, d2, d3, d4, d5⟩ := h.dw g hg'
    refine ⟨by omega, d2, d3, d4, fun e => ?_⟩
    rcases hv g e with h6 | h6
    · exact d5 h6
    · omega
  · rcases hv g hg' with h6 | h6
    · exact h.dk g h6
    · refine ⟨fun hS => by have := h.xb.lt g hS; omega, fun hE => by have := (h.ext g hE).1; have := h.kb.bel.size; omega, fun e => by have := (hvl g e).2; omega⟩
/-- the node is written -/
theorem WrL.fin {k sv nn : Int} (h : WrL w0 w W2 OB B N s E S SW v nodes (.int .i64 k) (.int .i64 sv) (.int .i64 nn) wv ws v' r kv S' add ids wr) (hI : WrI w0 OB B E S v nodes w) (hB : B ≤ OB) (hs : s ≤ wr.heap.size) {V : List NodV} (hV : V.length = (nodes ++ add).length) (h3 : ∀ (i : Nat) p nd, V[i]? = some p → (nodes ++ add)[i]? = some nd → NodS S' wr p nd)
    {x : World} {u : Value} {y : World} (hb : Below wr.heap.size wr x) (hg : x.grownBy y v'.ownBlock) (ho : y.ownsRow B 58 5 u ((nodes ++ add).length + 1) (V.flatMap nodVC ++ nodVC (⟨k, sv, nn, wv, kv⟩ : NodV))) (hv : ∀ g, u.ownBlock = some g → v'.ownBlock = some g ∨ wr.heap.size ≤ g) (hsz : x.heap.size ≤ y.heap.size) {q : Value} (hq : q = .int .i64 (((nodes ++ (add ++ [(⟨k, sv, nn, ws, ids⟩ : Nod)])).length : Int) - 1)) :
    WrO OB B E S v nodes (add ++ [(⟨k, sv, nn, ws, ids⟩ : Nod)]) w ((y.setCell ⟨OB, 0, none⟩ u).setCell ⟨OB, 1, none⟩ q) := by
  have hob := hI.ob_lt
  have hx := hb.size
  have hdn := h.dn
  have hvl := h.xb.lt_own
  have hbs := h.kb.bel.size
  have hvo : v'.ownBlock ≠ some OB := fun e => by
    rcases h.own _ e with h6 | h6
    · exact hI.own h6
    · omega
  have hSo : ¬ S' OB := fun hS => by
    rcases h.new _ hS with h6 | h6 | h6
    · exact hI.ob h6
    · exact (h.ext _ h6).2.1 rfl
    · omega
  let T : Nat → Prop := fun g => S' g ∨ SW g ∨ kv.ownBlock = some g
  have hTlt : ∀ g, T g → g < wr.heap.size := fun g hT => by
    rcases hT with h6 | h6 | h6
    · exact h.xb.lt g h6
    · exact (h.dw g h6).1
    · exact (h.rk.lt g h6).2
  have hTv : ∀ g, v'.ownBlock = some g → ¬ T g := fun g e hT => by
    rcases hT with h6 | h6 | h6
    · exact h.xb.own g e h6
    · exact (h.dw g h6).2.2.2.1 e
    · exact (h.dk g h6).2.2 e
  have hTo : ¬ T OB := fun hT => by
    rcases hT with h6 | h6 | h6
    · exact hSo h6
    · exact (h.dw _ h6).2.1 rfl
    · have := (h.rk.lt _ h6).1; omega
  have hgx : wr.grownBy y v'.ownBlock := by
    exact ⟨hg.os.trans hb.os, hg.tape.trans hb.tape, hg.output.trans hb.output, by omega, fun g g1 g2 => (hg.block g (by omega) g2).trans (hb.block g g1)⟩
  have hp : NodS T wr ⟨k, sv, nn, wv, kv⟩ ⟨k, sv, nn, ws, ids⟩ := fun w2 ha => by
    obtain ⟨a, c, e1, r1⟩ := h.sw w2 (fun g hg' => ha g (.inr (.inl hg')))
    obtain ⟨a', c', e2, r2⟩ := row_alone h.rk w2 (fun g hg' => ha g (.inr (.inr hg')))
    exact ⟨rfl, rfl, rfl, ⟨a, _, c, e1, r1⟩, ⟨a', _, c', e2, r2⟩⟩
  have hxy : XB T B y u 58 ((nodes ++ add) ++ [(⟨k, sv, nn, ws, ids⟩ : Nod)]) :=
    XB.push (S := T) (p := ⟨k, sv, nn, wv, kv⟩) hV (fun i p nd hp hn => (h3 i p nd hp hn).mono fun g hg' => .inl hg') hTlt hTv ho hp hgx hv (by omega)
  have hbox : y.heap[OB]? = some (.cells #[v', r] 28 (0, 0)) := by
    rw [hgx.block OB (by omega) (fun e => hvo e.symm)]; exact h.box
  have hbox2 : (y.setCell ⟨OB, 0, none⟩ u).heap[OB]? = some (.cells #[u, r] 28 (0, 0)) := by rw [heap_set_at hbox]; rfl
  have huo : u.ownBlock ≠ some OB := fun e => by
    rcases hv _ e with h6 | h6
    · exact hvo h6
    · omega
  have keep : ∀ g, g ≠ OB → ((y.setCell ⟨OB, 0, none⟩ u).setCell ⟨OB, 1, none⟩ q).heap[g]? = y.heap[g]? := fun g hg' => by
    rw [Below.heap_setCell _ ⟨OB, 1, none⟩ _ g (by exact hg'), Below.heap_setCell _ ⟨OB, 0, none⟩ _ g (by exact hg')]
  refine ⟨u, T, ?_, ?_, ⟨?_, fun g g1 g2 g3 => ?_, fun g e => ?_⟩, fun g hg' => .inl (h.sub g hg'), fun g hT => ?_⟩
  · rw [heap_set_at hbox2, hq]; rfl
  · rw [← List.append_assoc]
    exact hxy.move (fun g hg' => keep g (fun e => hTo (e ▸ hg'))) (fun g hg' => keep g (fun e => huo (e ▸ hg'))) (by simp)
  · exact (((h.kb.bel.trans (hb.mono (by omega))).grown hg (by omega) (fun g hg' => (hvl g hg').1)).setCell (p := ⟨OB, 0, none⟩) hB _).setCell (p := ⟨OB, 1, none⟩) hB _
  · rw [keep g g2, hgx.block g (by omega) (fun e => ?_)]
    · exact h.kb.blk g g1 g2 g3
    · rcases h.own g e.symm with h6 | h6
      · exact g3 h6
      · omega
  · rcases hv g e with h6 | h6
    · rcases h.own g h6 with h7 | h7
      · exact .inl h7
      · exact .inr (by omega)
    · exact .inr (by omega)
  · rcases hT with h6 | h6 | h6
    · rcases h.new g h6 with h7 | h7 | h7
      · exact .inl h7
      · exact .inr (.inl h7)
      · exact .inr (.inr (by omega))
    · rcases h.nw g h6 with h7 | h7
      · exact .inr (.inl h7)
      · exact .inr (.inr (by omega))
    · exact .inr (.inr (by have := (h.rk.lt _ h6).1; omega))
end
end Go.Proofs.YtmjgdnpfgkpaoaaDoor
namespace Go.Proofs.YtmjgdnpfgkpaoaaDoor
open Go.RowKit Go.Shelf

set_option maxRecDepth 100000 in
set_option maxHeartbeats 1000000 in
theorem rwgt_c (nd : Nod) (k : Nat) (aw : Option Addr) (nw cw : Nat) (ak : Option Addr) (nk ck : Nat) (w : World) (hw : Rd w aw nw cw (nd.weights.map (Value.int .i64))) (hk : nd.weights = [] ∨ k < nd.weights.length) :
    Calls Tryd.prog 38 #[.agg #[.int .i64 nd.kind, .int .i64 nd.server, .int .i64 nd.need, .slice aw nw cw, .slice ak nk ck], .int .i64 k] w fun e w' => e = .returned (.int .i64 (wgtN nd k)) ∧ Below w.heap.size w w' := by
  have hlw : nd.weights.length = nw := by have := hw.len; simp at this; omega
  have hle := hw.le
  have hm := hw.max
  unfold maxLen at hm
  obtain ⟨W2, hW2⟩ : ∃ W2, W2 = w.alloc (Obj.cells #[.int .i64 nd.kind, .int .i64 nd.server, .int .i64 nd.need, .slice aw nw cw, .slice ak nk ck] 58) := ⟨_, rfl⟩
  have hb2 : Below w.heap.size w W2 := by rw [hW2]; exact (Below.refl _ w).alloc (Nat.le_refl _) _
  have HB2 := Lib.hid hb2
  by_cases h0 : nw = 0
  · have hn : nd.weights = [] := List.eq_nil_of_length_eq_zero (by omega)
    have hV : Hid (wgtN nd k = 1) := by show _ = _; unfold wgtN; rw [if_pos hn]
    subst h0
    clear hn hlw hk hw hb2
    go_enter Tryd.func38, Tryd.ntmps38
    go_wp2_with fail
    go_ret
    exact ⟨ret_int hV.out.symm, by rw [← hW2]; exact HB2.out⟩
  · have hne : ((nw : Int) == 0) = false := by rw [beq_eq_false_iff_ne]; omega
    have hkn : k < nw := by rcases hk with h | h
                            · rw [h] at hlw; simp at hlw; omega
                            · omega
    obtain ⟨z, hz⟩ : ∃ z, nd.weights[k]? = some z := ⟨_, List.getElem?_eq_getElem (by omega)⟩
    have hV : Hid (wgtN nd k = z) := by
      show _ = _; unfold wgtN
      rw [if_neg (fun e => by rw [e] at hlw; simp at hlw; omega), List.getD_eq_getElem?_getD, hz]; rfl
    obtain ⟨b, o, ha, hcell⟩ := (hw.below hb2).at' (by omega)
    have hc := hcell k (.int .i64 z) (by rw [List.getElem?_map, hz]; rfl)
    subst ha
    clear hlw hk hw hb2 hcell hz h0
    rw [hW2] at hc
    go_enter Tryd.func38, Tryd.ntmps38
    go_wp2_with fail
    go_ret
    exact ⟨ret_int hV.out.symm, by rw [← hW2]; exact HB2.out⟩

set_option maxRecDepth 100000 in
set_option maxHeartbeats 2000000 in
theorem rsum_c (nd : Nod) (hnd : nd.weights = [] ∨ nd.weights.length = nd.kids.length) (hsm : ∀ k, k ≤ nd.kids.length → 0 ≤ sumTo nd k ∧ sumTo nd k ≤ 1000000) (hwt : ∀ k, k < nd.kids.length → sumTo nd (k + 1) = sumTo nd k + wgtN nd k) (aw : Option Addr) (nw cw : Nat) (ak : Option Addr) (nk ck : Nat) (w : World) (hw : Rd w aw nw cw (nd.weights.map (Value.int .i64))) (hk : Rd w ak nk ck (nd.kids.map (Value.int .i64))) :
    Calls Tryd.prog 15 #[.agg #[.int .i64 nd.kind, .int .i64 nd.server, .int .i64 nd.need, .slice aw nw cw, .slice ak nk ck]] w fun e w' => e = .returned (.int .i64 (sumN nd)) ∧ Below w.heap.size w w' := by
  have hlk : nd.kids.length = nk := by have := hk.len; simp at this; omega
  have hle := hk.le
  have hm := hk.max
  unfold maxLen at hm
  obtain ⟨W2, hW2⟩ : ∃ W2, W2 = w.alloc (Obj.cells #[.int .i64 nd.kind, .int .i64 nd.server, .int .i64 nd.need, .slice aw nw cw, .slice ak nk ck] 58) := ⟨_, rfl⟩
  have hb2 : Below w.heap.size w W2 := by rw [hW2]; exact (Below.refl _ w).alloc (Nat.le_refl _) _
  have HB2 := Lib.hid hb2
  have g2 : W2.heap[w.heap.size]? = some (.cells #[.int .i64 nd.kind, .int .i64 nd.server, .int .i64 nd.need, .slice aw nw cw, .slice ak nk ck] 58 (0, 0)) := by rw [hW2]; exact heap_alloc_new _ _
  have G2 := Lib.hid g2
  have HWW := Lib.hid (hw.below hb2)
  have HLK := Lib.hid hlk
  have HND := Lib.hid hnd
  have HSM := Lib.hid hsm
  have HWT := Lib.hid hwt
  have HV : Hid (sumTo nd nk = sumN nd) := by show _ = _; unfold sumN; rw [HLK.out]
  clear hw hk hb2 g2 hlk hnd hsm hwt
  go_enter Tryd.func15, Tryd.ntmps15
  go_wp2_with fail
  rw [← hW2]
  clear hW2
  go_loopw [3, 4] (fun v i wr => ∃ k : Nat, k ≤ nk ∧ i = .int .i64 k ∧ v = .int .i64 (sumTo nd k) ∧ Below W2.heap.size W2 wr) (fun _ i _ => nk - (intOf i).toNat)
  case atStart => exact ⟨0, Nat.zero_le _, rfl, rfl, Below.refl _ _⟩
  case round =>
    obtain ⟨k, hk, rfl, rfl, hb⟩ := hrel
    have g := heap_below hb G2.out
    have q0 := cell_of_row _ _ 0 _ _ _ g
    have q1 := cell_of_row _ _ 1 _ _ _ g
    have q2 := cell_of_row _ _ 2 _ _ _ g
    have q3 := cell_of_row _ _ 3 _ _ _ g
    have q4 := cell_of_row _ _ 4 _ _ _ g
    by_cases hlt : k < nk
    · have hwk : nd.weights = [] ∨ k < nd.weights.length := by
        rcases HND.out with h | h
        · exact .inl h
        · exact .inr (by have := HLK.out; omega)
      have HC := Lib.hid (rwgt_c nd k aw nw cw ak nk ck wr (HWW.out.below hb) hwk)
      clear hwk
      have hst := HWT.out k (by have := HLK.out; omega)
      have s1 := HSM.out k (by have := HLK.out; omega)
      have s2 := HSM.out (k + 1) (by have := HLK.out; omega)
      obtain ⟨x, hx⟩ : ∃ x, wgtN nd k = x := ⟨_, rfl⟩
      obtain ⟨y, hy⟩ : ∃ y, sumTo nd k = y := ⟨_, rfl⟩
      rw [hx] at HC hst
      rw [hy] at hst s1 ⊢
      have hwr : wrap64 (y + x) = y + x := by unfold wrap64; omega
      have HST := Lib.hid hst
      have HB := Lib.hid hb
      clear g hst s1 s2 hx hy hb
      go_wp2_with fail
      with_reducible refine HC.out.mono ?_
      rintro e w5 ⟨rfl, hb5⟩
      go_wp2_with fail
      go_roundw
      case rel => exact ⟨k + 1, by omega, by go_num, by (rw [HST.out]; first | rfl | rw [hwr]), Below.next HB.out hb5⟩
      case measure => simp [intOf]; omega
    · obtain rfl : k = nk := by omega
      rw [HV.out]
      clear g
      go_wp2_with fail
      go_ret
      exact ⟨rfl, Below.next HB2.out hb⟩
end Go.Proofs.YtmjgdnpfgkpaoaaDoor
