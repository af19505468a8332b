/- Texts laid together. expr.holds, Eval; intersect.satisfied, support. The prover: add. Layer 20, plain: the search for a certificate. No program. Layer 20, plain: pairs of sets that violate; the lists of both. No program. The reference's Of, Rename, Choose, Subsets, Same; set.Rename; slices.Equal and Clone of ints. The reference's Rename, Within, Choose, Subsets, Same; slices.Equal and Clone of ints. The reference's Choose. -/
import Derived.Test.YtflpkkebampmfaaDoorGIntersectErrors1
import Derived.Test.YtflpkkebampmfaaDoorGIntersectErrors2
import Derived.Test.YtflpkkebampmfaaDoorGIntersectErrors3
import Derived.Deep.AppendLies
import Derived.Deep.RegionLaw
namespace Go.Proofs.YtflpkkebampmfaaDoor
open Go.RowKit Go.Shelf

set_option maxRecDepth 100000 in
set_option maxHeartbeats 1000000 in
theorem wgt_c (nd : Nod) (k : Nat) (aw : Option Addr) (nw cw : Nat) (ak : Option Addr) (nk ck : Nat) (w : World) (hw : Rd w aw nw cw (nd.weights.map (Value.int .i64))) (hk : nd.weights = [] ∨ k < nd.weights.length) :
    Calls Tryd.prog 89 #[.agg #[.int .i64 nd.kind, .int .i64 nd.server, .int .i64 nd.need, .slice aw nw cw, .slice ak nk ck], .int .i64 k] w fun e w' => e = .returned (.int .i64 (wgtN nd k)) ∧ Below w.heap.size w w' := by
  have hlw : nd.weights.length = nw := by have := hw.len; simp at this; omega
  have hle := hw.le
  have hm := hw.max
  unfold maxLen at hm
  obtain ⟨W2, hW2⟩ : ∃ W2, W2 = w.alloc (Obj.cells #[.int .i64 nd.kind, .int .i64 nd.server, .int .i64 nd.need, .slice aw nw cw, .slice ak nk ck] 64) := ⟨_, rfl⟩
  have hb2 : Below w.heap.size w W2 := by rw [hW2]; exact (Below.refl _ w).alloc (Nat.le_refl _) _
  have HB2 := Lib.hid hb2
  by_cases h0 : nw = 0
  · have hn : nd.weights = [] := List.eq_nil_of_length_eq_zero (by omega)
    have hV : Hid (wgtN nd k = 1) := by show _ = _; unfold wgtN; rw [if_pos hn]
    subst h0
    clear hn hlw hk hw hb2
    go_enter Tryd.func89, Tryd.ntmps89
    go_wp2_with fail
    go_ret
    exact ⟨ret_int hV.out.symm, by rw [← hW2]; exact HB2.out⟩
  · have hne : ((nw : Int) == 0) = false := by rw [beq_eq_false_iff_ne]; omega
    have hkn : k < nw := by rcases hk with h | h
                            · rw [h] at hlw; simp at hlw; omega
                            · omega
    obtain ⟨z, hz⟩ : ∃ z, nd.weights[k]? = some z := ⟨_, List.getElem?_eq_getElem (by omega)⟩
    have hV : Hid (wgtN nd k = z) := by
      show _ = _; unfold wgtN
      rw [if_neg (fun e => by rw [e] at hlw; simp at hlw; omega), List.getD_eq_getElem?_getD, hz]; rfl
    obtain ⟨b, o, ha, hcell⟩ := (hw.below hb2).at' (by omega)
    have hc := hcell k (.int .i64 z) (by rw [List.getElem?_map, hz]; rfl)
    subst ha
    clear hlw hk hw hb2 hcell hz h0
    rw [hW2] at hc
    go_enter Tryd.func89, Tryd.ntmps89
    go_wp2_with fail
    go_ret
    exact ⟨ret_int hV.out.symm, by rw [← hW2]; exact HB2.out⟩

/-- expressions with few kids -/
def XprFew (x : Xpr) : Prop := ∀ (k : Nat) nd, x.nodes[k]? = some nd → nd.kids.length ≤ 1000
/-- sixty places, the first ones filled -/
def isA (l : List Bool) : Array Value := ((l ++ List.replicate (60 - l.length) false).map Value.bool).toArray
theorem isA_at {l : List Bool} (h : l.length ≤ 60) {i : Nat} (hi : i < 60) : (isA l)[i]? = some (.bool (l.getD i false)) := by
  unfold isA
  rw [List.getElem?_toArray, List.getElem?_map, List.getD_eq_getElem?_getD]
  by_cases h1 : i < l.length
  · rw [List.getElem?_append_left h1, List.getElem?_eq_getElem h1]; rfl
  · rw [List.getElem?_append_right (by omega), List.getElem?_replicate, if_pos (by omega), List.getElem?_eq_none (by omega)]; rfl
theorem isA_set {l : List Bool} (h : l.length < 60) (v : Bool) : (isA l).setIfInBounds l.length (.bool v) = isA (l ++ [v]) := by
  unfold isA
  rw [List.setIfInBounds_toArray]
  congr 1
  have e : 60 - l.length = (60 - (l ++ [v]).length) + 1 := by simp; omega
  rw [e, List.replicate_succ, List.map_append, List.map_append, List.map_append, List.map_cons, List.set_append_right _ _ (by simp)]
  simp

theorem frozen_row {w : World} {B : Nat} {cs : Array Value} {t : TypeId} (h : w.heap[B]? = some (.cells cs t (0, 0))) (i : Nat) : w.frozen? ⟨B, i, none⟩ = false := by simp [World.frozen?, h]

set_option maxRecDepth 100000 in
set_option maxHeartbeats 4000000 in
theorem holds_c (x : Xpr) (hx : XprOk x) (hf : XprFew x) (s : BitVec 16) (a : Option Addr) (n c : Nat) (w : World) (h : XM w a n c x.nodes) :
    Calls Tryd.prog 73 #[.agg #[.slice a n c, .int .i64 x.root], .int .u16 (U s)] w fun e w' => e = .returned (.bool (holdX x s)) ∧ Below w.heap.size w w' := by
  obtain ⟨r, hr⟩ := Int.eq_ofNat_of_zero_le hx.root.1
  have hrn : r < n := by have h1 := hx.root.2; have h2 := h.len; omega
  have hle := h.le
  have hm := h.max
  have hn60 : n ≤ 60 := by have h1 := hx.most; have h2 := h.len; omega
  unfold maxLen at hm
  have hwr : wrap64 ((r : Int) + 1) = (r : Int) + 1 := by unfold wrap64; omega
  have HV := Lib.hid (holdX_root (s := s) hr (by have h2 := h.len; omega))
  rw [hr]
  have HX := Lib.hid h
  have HO := Lib.hid hx
  have HF := Lib.hid hf
  have HN := Lib.hid h.len
  clear h hx hf hr
  obtain ⟨b, o, rfl, _⟩ := HX.out.at' (by omega)
  go_enter Tryd.func73, Tryd.ntmps73
  go_wp2_with fail
  generalize hWS : (w.alloc _).alloc _ = WS
  have hS : WS.heap.size = w.heap.size + 2 := by rw [← hWS]; simp
  have hbS : Below w.heap.size w WS := by rw [← hWS]; exact ((Below.refl _ w).alloc (Nat.le_refl _) _).alloc (by simp) _
  have g1 : WS.heap[w.heap.size + 1]? = some (.cells (isA []) 131 (0, 0)) := by
    rw [← hWS]
    have := heap_alloc_new (w.alloc (Obj.cells #[Value.slice (some { block := b, off := o }) n c, Value.int IntKind.i64 r] 24)) (.cells (isA []) 131)
    rw [World.size_alloc] at this; exact this
  have g0 : WS.heap[w.heap.size]? = some (.cells #[Value.slice (some { block := b, off := o }) n c, Value.int IntKind.i64 r] 24 (0, 0)) := by
    rw [← hWS]; exact heap_alloc_at (heap_alloc_new _ _) _
  have HS := Lib.hid hS
  have HBS := Lib.hid hbS
  have G0 := Lib.hid g0
  have G1 := Lib.hid g1
  clear hWS hS hbS g0 g1
  go_loopw [18] (fun i wr => ∃ k : Nat, k ≤ r + 1 ∧ i = .int .i64 k ∧ wr.heap[w.heap.size + 1]? = some (.cells (isA (holdTo x.nodes s k)) 131 (0, 0)) ∧ wr.heap[w.heap.size]? = some (.cells #[Value.slice (some { block := b, off := o }) n c, Value.int IntKind.i64 r] 24 (0, 0)) ∧ w.heap.size + 2 ≤ wr.heap.size ∧ Below w.heap.size w wr) (fun i _ => r + 1 - (intOf i).toNat)
  case atStart => exact ⟨0, Nat.zero_le _, rfl, G1.out, G0.out, by rw [HS.out]; exact Nat.le_refl _, HBS.out⟩
  case round =>
    obtain ⟨k, hk, rfl, e1, e0, hsz, hb⟩ := hrel
    by_cases hlt : k < r + 1
    · obtain ⟨nd, hnd⟩ : ∃ nd, x.nodes[k]? = some nd := ⟨_, List.getElem?_eq_getElem (by have := HN.out; omega)⟩
      obtain ⟨b', o', ha, hat⟩ := (HX.out.below hb).at' (by omega)
      cases ha
      have hM := hat k nd hnd
      obtain ⟨a3, n3, c3, m3, r3⟩ := hM.ws
      obtain ⟨a4, n4, c4, m4, r4⟩ := hM.ks
      have m0 := hM.c0
      have m1 := hM.c1
      have m2 := hM.c2
      have HOK := Lib.hid (HO.out.node k nd hnd)
      have hfew := HF.out k nd hnd
      have HST : Hid (holdTo x.nodes s (k + 1) = holdTo x.nodes s k ++ [valN nd (holdTo x.nodes s k) s]) := Lib.hid (by
        rw [holdTo]
        rw [show x.nodes.getD k nod0 = nd by rw [List.getD_eq_getElem?_getD, hnd]; rfl])
      have HL := Lib.hid (holdTo_len x.nodes s k)
      obtain ⟨I, hI⟩ : ∃ I, holdTo x.nodes s k = I := ⟨_, rfl⟩
      rw [hI] at e1 HST HL
      obtain ⟨kind, server, need, ws, ks⟩ := nd
      simp only at m0 m1 m2 hfew r3 r4
      have R3 := Lib.hid r3
      have R4 := Lib.hid r4
      have HB := Lib.hid hb
      clear hM r3 r4 hat hnd hI hb
      have hkd : decide ((k : Int) < (r : Int) + 1) = true := decide_eq_true (by omega)
      by_cases hkind : kind = 1
      · subst hkind
        obtain ⟨sv, rfl⟩ := Int.eq_ofNat_of_zero_le HOK.out.server.1
        have hvn : valN ⟨1, sv, need, ws, ks⟩ I s = hasB s sv := rfl
        rw [hvn] at HST
        have ea := heap_alloc_at e1 (Obj.cells #[.int .i64 1, .int .i64 sv, .int .i64 need, .slice a3 n3 c3, .slice a4 n4 c4] 64)
        have z0 := frozen_row ea k
        have z1 := cell_of_row _ _ k _ _ _ ea |>.trans (isA_at (by have := HL.out; omega) (by omega))
        have EA := Lib.hid ea
        clear hvn ea
        go_wp2_with fail
        clear z0 z1
        go_roundw
        case rel =>
          have hkl := HL.out
          have ha : Below w.heap.size w (wr.alloc (Obj.cells #[.int .i64 1, .int .i64 sv, .int .i64 need, .slice a3 n3 c3, .slice a4 n4 c4] 64)) := HB.out.alloc (by omega) _
          refine ⟨k + 1, by omega, by go_num, ?_, ?_, ?_, ?_⟩
          · have hsv := HOK.out.server.2
            simp only at hsv
            rw [heap_set_at EA.out, HST.out, ← hkl, isA_set (by omega), show min sv 16 = sv by omega]
          · exact heap_set_other (by omega) _ _ (heap_alloc_at e0 _)
          · simp [World.setCell]; omega
          · exact ha.setCell (p := ⟨w.heap.size + 1, k, none⟩) (by show w.heap.size ≤ w.heap.size + 1; omega) _
        case measure => simp [intOf]; omega
      · have hk2 : (kind == 1) = false := by simpa using hkind
        have hvn : valN ⟨kind, server, need, ws, ks⟩ I s = decide (need ≤ gotTo ⟨kind, server, need, ws, ks⟩ I ks.length) := by unfold valN; rw [if_neg hkind]
        rw [hvn] at HST
        have ea := heap_alloc_at e1 (Obj.cells #[.int .i64 kind, .int .i64 server, .int .i64 need, .slice a3 n3 c3, .slice a4 n4 c4] 64)
        have ea0 := heap_alloc_at e0 (Obj.cells #[.int .i64 kind, .int .i64 server, .int .i64 need, .slice a3 n3 c3, .slice a4 n4 c4] 64)
        have en := heap_alloc_new wr (Obj.cells #[.int .i64 kind, .int .i64 server, .int .i64 need, .slice a3 n3 c3, .slice a4 n4 c4] 64)
        have hbn : Below wr.heap.size wr (wr.alloc (Obj.cells #[.int .i64 kind, .int .i64 server, .int .i64 need, .slice a3 n3 c3, .slice a4 n4 c4] 64)) := (Below.refl _ wr).alloc (Nat.le_refl _) _
        have hlk : ks.length = n4 := by have := R4.out.len; simp at this; omega
        have hle4 := R4.out.le
        have hm4 := R4.out.max
        unfold maxLen at hm4
        go_wp2_with fail
        generalize hWA : wr.alloc _ = WA
        rw [hWA] at ea ea0 en hbn
        have EA := Lib.hid ea
        have EA0 := Lib.hid ea0
        have EN := Lib.hid en
        have HBN := Lib.hid hbn
        have HSA : Hid (w.heap.size + 2 ≤ WA.heap.size ∧ wr.heap.size < WA.heap.size) := Lib.hid (by rw [← hWA]; simp; omega)
        clear hWA ea ea0 en hbn e0 e1 m0 m1 m2 m3 m4 hvn
        obtain ⟨W0, hW0⟩ : ∃ W0, W0 = wr := ⟨_, rfl⟩
        subst hW0
        go_loopw [8, 37] (fun v i wq => ∃ j : Nat, j ≤ n4 ∧ i = .int .i64 j ∧ v = .int .i64 (gotTo ⟨kind, server, need, ws, ks⟩ I j) ∧ Below WA.heap.size WA wq) (fun _ i _ => n4 - (intOf i).toNat)
        case atStart => exact ⟨0, Nat.zero_le _, rfl, rfl, Below.refl _ _⟩
        case round =>
          obtain ⟨j, hj, rfl, rfl, hbq⟩ := hrel
          by_cases hltj : j < n4
          · obtain ⟨z, hz⟩ : ∃ z, ks[j]? = some z := ⟨_, List.getElem?_eq_getElem (by omega)⟩
            have hzr := HOK.out.kids z (List.mem_of_getElem? hz)
            obtain ⟨kd, rfl⟩ := Int.eq_ofNat_of_zero_le hzr.1
            have hkd2 : kd < k := by omega
            obtain ⟨b4, o4, ha4, hcell4⟩ := (R4.out.below (Below.next HBN.out hbq)).at' (by omega)
            have q4 := hcell4 j (.int .i64 kd) (by rw [List.getElem?_map, hz]; rfl)
            have eq1 := heap_below hbq EA.out
            have q1 := cell_of_row _ _ kd _ _ _ eq1 |>.trans (isA_at (by have := HL.out; omega) (by omega))
            have hgs : gotTo ⟨kind, server, need, ws, ks⟩ I (j + 1) = gotTo ⟨kind, server, need, ws, ks⟩ I j + (if I.getD kd false = true then wgtN ⟨kind, server, need, ws, ks⟩ j else 0) := by
              rw [gotTo]
              show _ + (if I.getD ((ks.getD j 0).toNat) false = true then _ else _) = _
              rw [show ks.getD j 0 = (kd : Int) by rw [List.getD_eq_getElem?_getD, hz]; rfl, Int.toNat_natCast]
            have hgb := got_bd HOK.out I j
            have hwb := wgt_pos HOK.out j
            subst ha4
            cases hi : I.getD kd false
            · rw [hi] at q1 hgs
              rw [if_neg (by decide), Int.add_zero] at hgs
              have HGS := Lib.hid hgs
              clear hcell4 hz hgs hi hgb hwb hzr eq1
              go_wp2_with fail
              go_roundw
              case rel => exact ⟨j + 1, by omega, by go_num, by rw [HGS.out], hbq⟩
              case measure => simp [intOf]; omega
            · rw [hi] at q1 hgs
              rw [if_pos rfl] at hgs
              have HW : Hid (∀ y, Below wr.heap.size wr y → Calls Tryd.prog 89 #[.agg #[.int .i64 kind, .int .i64 server, .int .i64 need, .slice a3 n3 c3, .slice (some ⟨b4, o4, none⟩) n4 c4], .int .i64 j] y fun e w' => e = .returned (.int .i64 (wgtN ⟨kind, server, need, ws, ks⟩ j)) ∧ Below y.heap.size y w') :=
                Lib.hid (fun y hy => wgt_c ⟨kind, server, need, ws, ks⟩ j a3 n3 c3 (some ⟨b4, o4, none⟩) n4 c4 y (R3.out.below (Below.next HBN.out (Below.next hbq hy))) (by
                  rcases HOK.out.arity with h | h
                  · exact .inl h
                  · right; rw [h]; show j < ks.length; omega))
              obtain ⟨S, hS⟩ : ∃ S, gotTo ⟨kind, server, need, ws, ks⟩ I j = S := ⟨_, rfl⟩
              obtain ⟨G, hG⟩ : ∃ G, wgtN ⟨kind, server, need, ws, ks⟩ j = G := ⟨_, rfl⟩
              rw [hS] at hgs hgb ⊢
              rw [hG] at hgs hwb HW
              have hwr2 : wrap64 (S + G) = S + G := by unfold wrap64; omega
              have eqn := heap_below hbq EN.out
              have p0 := cell_of_row _ _ 0 _ _ _ eqn
              have p1 := cell_of_row _ _ 1 _ _ _ eqn
              have p2 := cell_of_row _ _ 2 _ _ _ eqn
              have p3 := cell_of_row _ _ 3 _ _ _ eqn
              have p4 := cell_of_row _ _ 4 _ _ _ eqn
              have HGS := Lib.hid hgs
              clear hcell4 hz hgs hi hgb hwb hzr eq1 eqn hS hG
              go_wp2_with fail
              refine (HW.out _ (Below.refl _ _)).mono ?_
              rintro e w5 ⟨rfl, hb5⟩
              have hb6 := Below.next hbq hb5
              go_wp2_with fail
              go_roundw
              case rel => exact ⟨j + 1, by omega, by go_num, by rw [HGS.out, hwr2], hb6⟩
              case measure => simp [intOf]; omega
          · obtain rfl : j = n4 := by omega
            rw [hlk] at HST
            obtain ⟨S, hS⟩ : ∃ S, gotTo ⟨kind, server, need, ws, ks⟩ I j = S := ⟨_, rfl⟩
            rw [hS] at HST ⊢
            have eqn := heap_below hbq EN.out
            have p2 := cell_of_row _ _ 2 _ _ _ eqn
            have eq1 := heap_below hbq EA.out
            have q1 := cell_of_row _ _ k _ _ _ eq1 |>.trans (isA_at (by have := HL.out; omega) (by omega))
            have z1 := frozen_row eq1 k
            have EQ1 := Lib.hid eq1
            have EQ0 := Lib.hid (heap_below hbq EA0.out)
            have HBF := Lib.hid (Below.next HB.out (Below.next HBN.out hbq))
            have HSQ := Lib.hid hbq.size
            clear eqn eq1 hS hbq
            go_wp2_with fail
            clear q1 z1
            go_roundw
            case rel =>
              have hkl := HL.out
              have hsq := HSQ.out
              have hsa := HSA.out
              refine ⟨k + 1, by omega, by go_num, ?_, ?_, ?_, ?_⟩
              · rw [heap_set_at EQ1.out, HST.out, ← hkl, isA_set (by omega)]
              · exact heap_set_other (by omega) _ _ EQ0.out
              · simp [World.setCell]; omega
              · exact HBF.out.setCell (p := ⟨w.heap.size + 1, k, none⟩) (by show w.heap.size ≤ w.heap.size + 1; omega) _
            case measure => simp [intOf]; omega
    · obtain rfl : k = r + 1 := by omega
      have hc := cell_of_row _ _ r _ _ _ e1 |>.trans (isA_at (by rw [holdTo_len]; omega) (by omega))
      rw [← HV.out] at hc
      have hc2 := cell_of_row _ _ 1 _ _ _ e0
      have hkd : decide (((r + 1 : Nat) : Int) < (r : Int) + 1) = false := decide_eq_false (by omega)
      go_wp2_with fail
      go_ret
      exact ⟨rfl, hb⟩

set_option maxRecDepth 100000 in
set_option maxHeartbeats 1000000 in
theorem eval_c (x : Xpr) (hx : xprE x = 0) (hf : XprFew x) (s : BitVec 16) (hs : s.toNat < 4096) (a : Option Addr) (n c : Nat) (w : World) (h : XM w a n c x.nodes) :
    Calls Tryd.prog 61 #[.agg #[.slice a n c, .int .i64 x.root], .int .u16 (U s)] w fun e w' => e = .returned (.tuple #[.bool (holdX x s), .int .i64 0]) ∧ Below w.heap.size w w' := by
  have H1 := Lib.hid (fun (v : World) (hb : Below w.heap.size w v) => xpr_c x a n c v (h.below hb))
  have H2 := Lib.hid (fun (v : World) (hb : Below w.heap.size w v) => holds_c x (xprE_ok hx) hf s a n c v (h.below hb))
  rw [hx] at H1
  have hd : decide (4096 ≤ U s) = false := decide_eq_false (by unfold U; omega)
  clear h hf hx
  obtain ⟨W2, hW2⟩ : ∃ W2, W2 = w.alloc (.cells #[.slice a n c, .int .i64 x.root] 24) := ⟨_, rfl⟩
  have hb2 : Below w.heap.size w W2 := by rw [hW2]; exact (Below.refl _ w).alloc (Nat.le_refl _) _
  have g0 : W2.heap[w.heap.size]? = some (.cells #[.slice a n c, .int .i64 x.root] 24 (0, 0)) := by rw [hW2]; exact heap_alloc_new _ _
  have HB2 := Lib.hid hb2
  have G0 := Lib.hid g0
  clear hb2 g0
  go_enter Tryd.func61, Tryd.ntmps61
  go_wp2_with fail
  rw [← hW2]
  refine (H1.out W2 HB2.out).mono ?_
  rintro e w1 ⟨rfl, hb1⟩
  have e1 := heap_below hb1 G0.out
  have q0 := cell_of_row _ _ 0 _ _ _ e1
  have q1 := cell_of_row _ _ 1 _ _ _ e1
  have E1 := Lib.hid e1
  clear e1
  go_wp2_with fail
  refine (H2.out w1 (Below.next HB2.out hb1)).mono ?_
  rintro e w5 ⟨rfl, hb5⟩
  go_wp2_with fail
  go_ret2
  exact ⟨rfl, Below.next HB2.out (Below.next hb1 hb5)⟩

set_option maxRecDepth 100000 in
set_option maxHeartbeats 1000000 in
theorem satisfied_c (x : Xpr) (hx : xprE x = 0) (hf : XprFew x) (s : BitVec 16) (hs : s.toNat < 4096) (a : Option Addr) (n c : Nat) (w : World) (h : XM w a n c x.nodes) :
    Calls Tryd.prog 39 #[.agg #[.slice a n c, .int .i64 x.root], .int .u16 (U s)] w fun e w' => e = .returned (.bool (holdX x s)) ∧ Below w.heap.size w w' := by
  have H2 := Lib.hid (fun (v : World) (hb : Below w.heap.size w v) => eval_c x hx hf s hs a n c v (h.below hb))
  clear h hf hx
  obtain ⟨W2, hW2⟩ : ∃ W2, W2 = w.alloc (.cells #[.slice a n c, .int .i64 x.root] 24) := ⟨_, rfl⟩
  have hb2 : Below w.heap.size w W2 := by rw [hW2]; exact (Below.refl _ w).alloc (Nat.le_refl _) _
  have HB2 := Lib.hid hb2
  clear hb2
  go_enter Tryd.func39, Tryd.ntmps39
  go_wp2_with fail
  rw [← hW2]
  refine (H2.out W2 HB2.out).mono ?_
  rintro e w5 ⟨rfl, hb5⟩
  go_wp2_with fail
  go_ret
  exact ⟨rfl, Below.next HB2.out hb5⟩

set_option maxRecDepth 100000 in
set_option maxHeartbeats 2000000 in
theorem support_x (x : Xpr) (hx : XprOk x) (a : Option Addr) (n c : Nat) (w : World) (h : XM w a n c x.nodes) :
    Calls Tryd.prog 36 #[.agg #[.slice a n c, .int .i64 x.root]] w fun e w' => e = .returned (.int .u16 (U (srvX x))) ∧ Below w.heap.size w w' := by
  obtain ⟨W2, hW2⟩ : ∃ W2, W2 = w.alloc (.cells #[.slice a n c, .int .i64 x.root] 24) := ⟨_, rfl⟩
  have hb2 : Below w.heap.size w W2 := by rw [hW2]; exact (Below.refl _ w).alloc (Nat.le_refl _) _
  have HX := Lib.hid (h.below hb2)
  have HO := Lib.hid hx
  have HN := Lib.hid h.len
  have hle := h.le
  have hm := h.max
  unfold maxLen at hm
  have HB2 := Lib.hid hb2
  have HE : Hid (srvTo x.nodes n = srvX x) := by show _ = _; unfold srvX; rw [HN.out]
  clear h hb2 hx
  go_enter Tryd.func36, Tryd.ntmps36
  go_wp2_with fail
  rw [← hW2]
  go_loopw [3, 9] (fun v i wr => ∃ k : Nat, k ≤ n ∧ i = .int .i64 k ∧ v = .int .u16 (U (srvTo x.nodes k)) ∧ Below W2.heap.size W2 wr) (fun _ i _ => n - (intOf i).toNat)
  case atStart => exact ⟨0, Nat.zero_le _, rfl, rfl, Below.refl _ _⟩
  case round =>
    obtain ⟨k, hk, rfl, rfl, hb⟩ := hrel
    by_cases hlt : k < n
    · obtain ⟨nd, hnd⟩ : ∃ nd, x.nodes[k]? = some nd := ⟨_, List.getElem?_eq_getElem (by have := HN.out; omega)⟩
      obtain ⟨b, o, ha, hat⟩ := (HX.out.below hb).at' (by omega)
      have hM := hat k nd hnd
      obtain ⟨a3, n3, c3, m3, r3⟩ := hM.ws
      obtain ⟨a4, n4, c4, m4, r4⟩ := hM.ks
      have m0 := hM.c0
      have m1 := hM.c1
      have m2 := hM.c2
      have hst := srvTo_succ hnd
      have HOK := Lib.hid (HO.out.node k nd hnd)
      obtain ⟨S, hS⟩ : ∃ S, srvTo x.nodes k = S := ⟨_, rfl⟩
      rw [hS] at hst ⊢
      subst ha
      have hba : Below W2.heap.size W2 (wr.alloc (Obj.cells #[.int .i64 nd.kind, .int .i64 nd.server, .int .i64 nd.need, .slice a3 n3 c3, .slice a4 n4 c4] 64)) := hb.alloc hb.size _
      obtain ⟨kind, server, need, ws, ks⟩ := nd
      simp only at m0 m1 m2 hst hba
      clear hM r3 r4 hat hnd hS
      by_cases hkind : kind = 1
      · subst hkind
        obtain ⟨sv, rfl⟩ := Int.eq_ofNat_of_zero_le HOK.out.server.1
        rw [if_pos rfl, Int.toNat_natCast] at hst
        have HST := Lib.hid hst
        have hsv := HOK.out.server.2
        simp only at hsv
        clear hst
        go_wp2_with fail
        go_roundw
        case rel => exact ⟨k + 1, by omega, by go_num, by rw [HST.out], hba⟩
        case measure => simp [intOf]; omega
      · have hk2 : (kind == 1) = false := by simpa using hkind
        rw [if_neg hkind] at hst
        have HST := Lib.hid hst
        clear hst hkind
        go_wp2_with fail
        go_roundw
        case rel => exact ⟨k + 1, by omega, by go_num, by rw [HST.out], hba⟩
        case measure => simp [intOf]; omega
    · obtain rfl : k = n := by omega
      rw [HE.out]
      go_wp2_with fail
      go_ret
      exact ⟨rfl, Below.next HB2.out hb⟩
end Go.Proofs.YtflpkkebampmfaaDoor
namespace Go.Proofs.YtflpkkebampmfaaDoor
open Go.RowKit Go.Shelf

theorem rowK_at {k : Nat} {w w' : World} {B n : Nat} {e : TypeId} {v : Value} {l : List Value} (h : w.ownsRow B e k v n l) (hb : ∀ g, v.ownBlock = some g → w'.heap[g]? = w.heap[g]?) : w'.ownsRow B e k v n l := by
  obtain ⟨h1, h2⟩ := h
  refine ⟨h1, ?_⟩
  rcases h2 with h2 | ⟨g, cap, cur, hv, hb', hg, r⟩
  · exact .inl h2
  · exact .inr ⟨g, cap, cur, hv, hb', by rw [hb g (by rw [hv]; rfl)]; exact hg, r⟩
/-- a prover in memory -/
structure PV (w : World) (B : Nat) (q0 q1 q2 q3 v : Value) (ns : List Cho) : Prop where
  blk : w.heap[B]? = some (.cells #[q0, q1, q2, q3, v] 69 (0, 0))
  row : w.ownsRow (B + 1) 39 3 v ns.length (ns.flatMap choC)
theorem PV.below {w w' : World} {B : Nat} {q0 q1 q2 q3 v : Value} {ns : List Cho} (h : PV w B q0 q1 q2 q3 v ns) (hb : Below w.heap.size w w') : PV w' B q0 q1 q2 q3 v ns := ⟨heap_below hb h.blk, rowK_below h.row hb⟩
theorem Tryd.infoCho : (Tryd.prog.info? 39).map (fun i => (i.zero, i.size, i.bytes)) = some (some (.agg #[.int .i64 0, .int .i64 0, .int .i64 0]), 3, 24) := by kernel_rfl

set_option maxRecDepth 100000 in
set_option maxHeartbeats 2000000 in
theorem add_p (c : Cho) (B : Nat) (q0 q1 q2 q3 v : Value) (ns : List Cho) (hn : ns.length ≤ 100000) (w0 w : World) (h0 : Below B w0 w) (hB : B ≤ w0.heap.size) (h : PV w B q0 q1 q2 q3 v ns) :
    Calls Tryd.prog 59 #[.pointer (some ⟨B, 0, none⟩), choA c] w fun e w' => e = .returned (.int .i64 ns.length) ∧ ∃ v', Below B w0 w' ∧ PV w' B q0 q1 q2 q3 v' (ns ++ [c]) := by
  obtain ⟨c0, c1, c2⟩ := c
  unfold choA
  obtain ⟨av, cv, rfl, hr⟩ := rdK_of_row h.row
  have hBw : B < w.heap.size := (Array.getElem?_eq_some_iff.1 h.blk).1
  have H := Lib.hid h
  have H0 := Lib.hid h0
  have HR := Lib.hid hr
  obtain ⟨i0, hi0, hz0, hz1, hz2⟩ := info_parts Tryd.infoCho
  obtain ⟨W1, hW1⟩ : ∃ W1, W1 = w.alloc (.cells #[.int .i64 c0, .int .i64 c1, .int .i64 c2] 39) := ⟨_, rfl⟩
  have hs1 : W1.heap.size = w.heap.size + 1 := by rw [hW1]; simp
  have hb1 : Below w.heap.size w W1 := by rw [hW1]; exact (Below.refl _ w).alloc (Nat.le_refl _) _
  have e1 := heap_below hb1 h.blk
  have hrow1 := rowK_below h.row hb1
  have ea : W1.heap[w.heap.size]? = some (.cells #[.int .i64 c0, .int .i64 c1, .int .i64 c2] 39 (0, 0)) := by rw [hW1]; exact heap_alloc_new _ _
  have p4 := cell_of_row _ _ 4 _ _ _ e1
  have z4 := frozen_row e1 4
  have a0 := cell_of_row _ _ 0 _ _ _ ea
  have a1 := cell_of_row _ _ 1 _ _ _ ea
  have a2 := cell_of_row _ _ 2 _ _ _ ea
  have p4b : (W1.alloc (Obj.cells #[.int .i64 c0, .int .i64 c1, .int .i64 c2] 39)).cell? ⟨B, 4, none⟩ = some (.slice av ns.length cv) := cell_of_row _ _ 4 _ _ _ (heap_alloc_at e1 _)
  have HROW1 := Lib.hid hrow1
  have HS1 := Lib.hid hs1
  have hBs : B + 1 ≤ W1.heap.size := by omega
  have E1 := Lib.hid e1
  have HB1 := Lib.hid hb1
  have KA : Hid (∀ x y : World, x.grownBy y (Value.slice av ns.length cv).ownBlock → x.heap[B]? = W1.heap[B]? → W1.heap.size ≤ x.heap.size → y.heap[B]? = some (.cells #[q0, q1, q2, q3, .slice av ns.length cv] 69 (0, 0))) := Lib.hid (fun x y hg hx hsx => by
    rw [hg.block B (by omega) (fun e => by have := (hrow1.lt B e.symm).1; omega), hx]
    exact e1)
  clear h h0 hr hrow1 e1 ea hb1 hs1
  go_enter Tryd.func59, Tryd.ntmps59
  go_wp2_with fail
  rw [← hW1]
  clear hW1
  go_region_law (first
    | (refine step_append_lies _ (by rfl) _ _ _ (by rfl) (B + 1) 39 i0 _ 3 24 Tryd.underlying31 hi0 hz0 hz1 hz2 rfl (by omega) (.slice av ns.length cv) ns.length _ (by rfl) ((HROW1.out.alloc _).drew) ⟨W1.heap.size, 0, none⟩ 1 1 [.int .i64 c0, .int .i64 c1, .int .i64 c2] (by rfl) (by rfl) (World.news_of_block (cs := #[.int .i64 c0, .int .i64 c1, .int .i64 c2]) (t := 39) (fr := (0, 0)) (heap_alloc_new W1 _)) (by simp [Value.oneCell']) (by omega) (by unfold maxLen; omega) (by omega) (by simp; omega) (W1.heap.size + 1) (by simp) ?_; intro gg cap wA hownA hgrow hat hlt; have hA := KA.out _ _ hgrow (Below.heap_alloc W1 _ B (by omega)) (by simp); have pA := cell_of_row _ _ 4 _ _ _ hA; have zA := frozen_row hA 4; have HA := Lib.hid hA; have HOA := Lib.hid hownA; have HGA := Lib.hid hgrow; clear hA hownA hgrow))
  all_goals
    go_wp2_with fail
    go_ret
    refine ⟨by first | rfl | (simp; done) | (congr 1; simp; omega), .slice (some ⟨gg, 0, none⟩) (ns.length + 1) cap, ?_, ?_, ?_⟩
    · have hb := H0.out.trans (HB1.out.mono (by omega))
      have hb2 := (below_drew (hb.alloc (by have := HS1.out; omega) (.cells #[.int .i64 c0, .int .i64 c1, .int .i64 c2] 39))).grown HGA.out (by simp; have := HS1.out; omega) (fun k hk => by have := (HROW1.out.lt k hk).1; omega)
      exact hb2.setCell (p := ⟨B, 4, none⟩) (Nat.le_refl _) _
    · rw [heap_set_at HA.out]; rfl
    · have hrow := HOA.out
      rw [show (ns ++ [(⟨c0, c1, c2⟩ : Cho)]).length = ns.length + 1 by simp, show (ns ++ [(⟨c0, c1, c2⟩ : Cho)]).flatMap choC = ns.flatMap choC ++ [.int .i64 c0, .int .i64 c1, .int .i64 c2] by rw [List.flatMap_append]; rfl]
      exact rowK_at hrow fun g hg => Below.heap_setCell _ _ _ _ (by have := (hrow.lt g hg).1; show g ≠ B; omega)
end Go.Proofs.YtflpkkebampmfaaDoor
namespace Go.Proofs.YtflpkkebampmfaaDoor

inductive CT where
  | fx : CT
  | fy : CT
  | nd : Nat → CT → CT → CT
def CT.sz : CT → Nat
  | .fx => 1
  | .fy => 1
  | .nd _ l r => l.sz + r.sz + 1
/-- the nodes of a tree, the first one having an index -/
def CT.bod : CT → Nat → List Cho
  | .fx, _ => [⟨-1, 0, 0⟩]
  | .fy, _ => [⟨-2, 0, 0⟩]
  | .nd i l r, k => l.bod k ++ r.bod (k + l.sz) ++ [⟨i, ((k + l.sz - 1 : Nat) : Int), ((k + l.sz + r.sz - 1 : Nat) : Int)⟩]
theorem CT.sz_pos (T : CT) : 1 ≤ T.sz := by cases T <;> simp [CT.sz]
theorem CT.bod_len (T : CT) : ∀ k, (T.bod k).length = T.sz := by
  induction T with
  | fx => intro k; rfl
  | fy => intro k; rfl
  | nd i l r h1 h2 => intro k; simp [CT.bod, CT.sz, h1, h2]; omega
def CT.top : CT → Cho → Prop
  | .fx, c => c = ⟨-1, 0, 0⟩
  | .fy, c => c = ⟨-2, 0, 0⟩
  | .nd i _ _, c => c.server = (i : Int)

/-- the search: members that are left, what was given to both sides -/
def proveL (x y : Xpr) : List Nat → BitVec 16 → BitVec 16 → Option CT
  | [], a, b => if holdX x (allV &&& ~~~b) = false then some .fx else if holdX y (allV &&& ~~~a) = false then some .fy else none
  | i :: l, a, b => if holdX x (allV &&& ~~~b) = false then some .fx else if holdX y (allV &&& ~~~a) = false then some .fy else
    match proveL x y l (a ||| bitS i) b with
    | none => none
    | some T => match proveL x y l a (b ||| bitS i) with
      | none => none
      | some U => some (.nd i T U)
def rightT (x y : Xpr) (b0 : BitVec 16) : CT → BitVec 16 → BitVec 16 → Bool
  | .fx, _, q => !holdX x (allV &&& ~~~q)
  | .fy, p, _ => !holdX y (allV &&& ~~~p)
  | .nd i l r, p, q => (bitS i &&& (b0 ||| p ||| q) == 0#16) && (rightT x y b0 l (p ||| bitS i) q && rightT x y b0 r p (q ||| bitS i))
def CT.low : CT → Prop
  | .fx => True
  | .fy => True
  | .nd i l r => i < 12 ∧ l.low ∧ r.low

theorem proveL_sz {x y : Xpr} : ∀ (l : List Nat) (a b : BitVec 16) (T : CT), proveL x y l a b = some T → T.sz + 1 ≤ 2 ^ (l.length + 1) := by
  intro l
  induction l with
  | nil =>
    intro a b T h
    unfold proveL at h
    split at h
    · cases h; decide
    · split at h
      · cases h; decide
      · cases h
  | cons i l ih =>
    intro a b T h
    have h2 : 2 ≤ 2 ^ (l.length + 1) := by
      have := Nat.one_le_two_pow (n := l.length)
      rw [Nat.pow_succ]; omega
    unfold proveL at h
    rw [List.length_cons, Nat.pow_succ]
    split at h
    · cases h; show 1 + 1 ≤ _; omega
    · split at h
      · cases h; show 1 + 1 ≤ _; omega
      · split at h
        · cases h
        · rename_i T1 h3
          split at h
          · cases h
          · rename_i U1 h4
            cases h
            have := ih _ _ _ h3
            have := ih _ _ _ h4
            show T1.sz + U1.sz + 1 + 1 ≤ _
            omega
theorem proveL_low {x y : Xpr} : ∀ (l : List Nat) (a b : BitVec 16) (T : CT), (∀ i ∈ l, i < 12) → proveL x y l a b = some T → T.low := by
  intro l
  induction l with
  | nil =>
    intro a b T _ h
    unfold proveL at h
    split at h
    · cases h; trivial
    · split at h
      · cases h; trivial
      · cases h
  | cons i l ih =>
    intro a b T hl h
    unfold proveL at h
    split at h
    · cases h; trivial
    · split at h
      · cases h; trivial
      · split at h
        · cases h
        · rename_i T1 h3
          split at h
          · cases h
          · rename_i U1 h4
            cases h
            exact ⟨hl i (List.mem_cons_self ..), ih _ _ _ (fun j hj => hl j (List.mem_cons_of_mem _ hj)) h3, ih _ _ _ (fun j hj => hl j (List.mem_cons_of_mem _ hj)) h4⟩
theorem bit_free {b0 a b : BitVec 16} {i : Nat} (hi : i < 16) (h0 : hasB b0 i = false) (h1 : hasB a i = false) (h2 : hasB b i = false) : (bitS i &&& (b0 ||| a ||| b) == 0#16) = true := by
  rw [beq_iff_eq]
  refine hasB_ext fun j hj => ?_
  rw [hasB_zero, hasB_and, hasB_bit _ _ hi]
  by_cases h : j = i
  · subst h; rw [hasB_or, hasB_or, h0, h1, h2]; simp
  · rw [decide_eq_false h]; rfl
theorem proveL_right {x y : Xpr} {b0 : BitVec 16} : ∀ (l : List Nat) (a b : BitVec 16) (T : CT), l.Nodup → (∀ i ∈ l, i < 12 ∧ hasB b0 i = false ∧ hasB a i = false ∧ hasB b i = false) → proveL x y l a b = some T → rightT x y b0 T a b = true := by
  intro l
  induction l with
  | nil =>
    intro a b T _ _ h
    unfold proveL at h
    split at h
    · rename_i h1; cases h; unfold rightT; rw [h1]; rfl
    · split at h
      · rename_i h1; cases h; unfold rightT; rw [h1]; rfl
      · cases h
  | cons i l ih =>
    intro a b T hnd hl h
    unfold proveL at h
    split at h
    · rename_i h1; cases h; unfold rightT; rw [h1]; rfl
    · split at h
      · rename_i h1; cases h; unfold rightT; rw [h1]; rfl
      · split at h
        · cases h
        · rename_i T1 h3
          split at h
          · cases h
          · rename_i U1 h4
            cases h
            obtain ⟨hi, hi0, hia, hib⟩ := hl i (List.mem_cons_self ..)
            have hnd1 := List.nodup_cons.1 hnd
            have hsub : ∀ j ∈ l, j ≠ i := fun j hj e => hnd1.1 (by rw [← e]; exact hj)
            have r1 := ih _ _ _ hnd1.2 (fun j hj => by
              obtain ⟨g1, g2, g3, g4⟩ := hl j (List.mem_cons_of_mem _ hj)
              exact ⟨g1, g2, by rw [hasB_or, g3, hasB_bit _ _ (by omega), decide_eq_false (hsub j hj)]; rfl, g4⟩) h3
            have r2 := ih _ _ _ hnd1.2 (fun j hj => by
              obtain ⟨g1, g2, g3, g4⟩ := hl j (List.mem_cons_of_mem _ hj)
              exact ⟨g1, g2, g3, by rw [hasB_or, g4, hasB_bit _ _ (by omega), decide_eq_false (hsub j hj)]; rfl⟩) h4
            show ((bitS i &&& (b0 ||| a ||| b) == 0#16) && (rightT x y b0 T1 (a ||| bitS i) b && rightT x y b0 U1 a (b ||| bitS i))) = true
            rw [bit_free (by omega) hi0 hia hib, r1, r2]; rfl
/-- where the search fails, everything can be given so that both sides are still satisfied -/
theorem proveL_none {x y : Xpr} (hx : XprOk x) (hy : XprOk y) : ∀ (l : List Nat) (a b : BitVec 16), (∀ i ∈ l, i < 16) → proveL x y l a b = none → ∃ A B : BitVec 16, holdX x (allV &&& ~~~B) = true ∧ holdX y (allV &&& ~~~A) = true ∧ (∀ i, hasB a i = true ∨ hasB b i = true ∨ i ∈ l → hasB A i = true ∨ hasB B i = true) := by
  intro l
  induction l with
  | nil =>
    intro a b _ h
    unfold proveL at h
    split at h
    · cases h
    · rename_i h1
      split at h
      · cases h
      · rename_i h2
        refine ⟨a, b, by simpa using h1, by simpa using h2, fun i hi => ?_⟩
        rcases hi with hi | hi | hi
        · exact .inl hi
        · exact .inr hi
        · cases hi
  | cons i l ih =>
    intro a b hl h
    have hi16 := hl i (List.mem_cons_self ..)
    have hl' : ∀ j ∈ l, j < 16 := fun j hj => hl j (List.mem_cons_of_mem _ hj)
    unfold proveL at h
    split at h
    · cases h
    · split at h
      · cases h
      · split at h
        · rename_i h3
          obtain ⟨A, B, q1, q2, q3⟩ := ih _ _ hl' h3
          refine ⟨A, B, q1, q2, fun j hj => q3 j ?_⟩
          rw [hasB_or, Bool.or_eq_true, hasB_bit _ _ hi16, decide_eq_true_eq]
          rcases hj with hj | hj | hj
          · exact .inl (.inl hj)
          · exact .inr (.inl hj)
          · rcases List.mem_cons.1 hj with rfl | hj
            · exact .inl (.inr rfl)
            · exact .inr (.inr hj)
        · split at h
          · rename_i h4
            obtain ⟨A, B, q1, q2, q3⟩ := ih _ _ hl' h4
            refine ⟨A, B, q1, q2, fun j hj => q3 j ?_⟩
            rw [hasB_or, Bool.or_eq_true, hasB_bit _ _ hi16, decide_eq_true_eq]
            rcases hj with hj | hj | hj
            · exact .inl hj
            · exact .inr (.inl (.inl hj))
            · rcases List.mem_cons.1 hj with rfl | hj
              · exact .inr (.inl (.inr rfl))
              · exact .inr (.inr hj)
          · cases h

/-! the nodes of a tree are well formed -/
theorem bod_last (T : CT) (k : Nat) : ∃ c, (T.bod k)[T.sz - 1]? = some c ∧ T.top c := by
  cases T with
  | fx => exact ⟨_, rfl, rfl⟩
  | fy => exact ⟨_, rfl, rfl⟩
  | nd i l r =>
    refine ⟨⟨i, ((k + l.sz - 1 : Nat) : Int), ((k + l.sz + r.sz - 1 : Nat) : Int)⟩, ?_, rfl⟩
    show (l.bod k ++ r.bod (k + l.sz) ++ _)[l.sz + r.sz + 1 - 1]? = _
    rw [List.getElem?_append_right (by simp [CT.bod_len])]
    simp [CT.bod_len]
theorem bod_nodes (T : CT) (hT : T.low) : ∀ (k j : Nat) (c : Cho), (T.bod k)[j]? = some c → nodC c (k + j) = true := by
  induction T with
  | fx => intro k j c h; match j, h with
    | 0, h => cases h; rfl
  | fy => intro k j c h; match j, h with
    | 0, h => cases h; rfl
  | nd i l r h1 h2 =>
    intro k j c h
    obtain ⟨hi, hl, hr⟩ := hT
    have hls := l.sz_pos
    have hrs := r.sz_pos
    unfold CT.bod at h
    by_cases q1 : j < l.sz
    · rw [List.append_assoc, List.getElem?_append_left (by rw [CT.bod_len]; exact q1)] at h
      exact h1 hl k j c h
    · by_cases q2 : j < l.sz + r.sz
      · rw [List.getElem?_append_left (by rw [List.length_append, CT.bod_len, CT.bod_len]; exact q2), List.getElem?_append_right (by rw [CT.bod_len]; omega), CT.bod_len] at h
        have := h2 hr (k + l.sz) (j - l.sz) c h
        rwa [show k + l.sz + (j - l.sz) = k + j by omega] at this
      · rw [List.getElem?_append_right (by rw [List.length_append, CT.bod_len, CT.bod_len]; omega), List.length_append, CT.bod_len, CT.bod_len] at h
        have hj : j = l.sz + r.sz := by
          have := (List.getElem?_eq_some_iff.1 h).1
          simp at this; omega
        rw [hj, Nat.sub_self] at h
        simp only [List.getElem?_cons_zero, Option.some.injEq] at h
        subst h
        have hlf : leafC ⟨i, ((k + l.sz - 1 : Nat) : Int), ((k + l.sz + r.sz - 1 : Nat) : Int)⟩ = false := by
          unfold leafC
          rw [Bool.or_eq_false_iff, decide_eq_false_iff_not, decide_eq_false_iff_not]
          show ¬ (i : Int) = -1 ∧ ¬ (i : Int) = -2
          omega
        unfold nodC
        rw [hlf, if_neg (by decide)]
        simp only [Bool.and_eq_true, decide_eq_true_eq]
        omega
theorem getD_set {ps : List Int} {i j : Nat} {v : Int} (hi : i < ps.length) : (ps.set i v).getD j 0 = if j = i then v else ps.getD j 0 := by
  rw [List.getD_eq_getElem?_getD, List.getElem?_set]
  by_cases h : i = j
  · subst h; rw [if_pos rfl, if_pos hi, if_pos rfl]; rfl
  · rw [if_neg h, if_neg (fun e => h e.symm), List.getD_eq_getElem?_getD]
theorem bod_pars (T : CT) (hT : T.low) : ∀ (k : Nat) (ps : List Int), k + T.sz ≤ ps.length → (∀ j, k ≤ j → j < k + T.sz → ps.getD j 0 = 0) →
    ((T.bod k).foldl parStep ps).length = ps.length ∧ ∀ j, ((T.bod k).foldl parStep ps).getD j 0 = if k ≤ j ∧ j + 1 < k + T.sz then 1 else ps.getD j 0 := by
  induction T with
  | fx =>
    intro k ps _ _
    refine ⟨rfl, fun j => ?_⟩
    rw [if_neg (by show ¬ (k ≤ j ∧ j + 1 < k + 1); omega)]; rfl
  | fy =>
    intro k ps _ _
    refine ⟨rfl, fun j => ?_⟩
    rw [if_neg (by show ¬ (k ≤ j ∧ j + 1 < k + 1); omega)]; rfl
  | nd i l r h1 h2 =>
    intro k ps hlen hz
    obtain ⟨hi, hl, hr⟩ := hT
    have hls := l.sz_pos
    have hrs := r.sz_pos
    have hsz : (CT.nd i l r).sz = l.sz + r.sz + 1 := rfl
    rw [hsz] at hlen hz ⊢
    obtain ⟨a1, a2⟩ := h1 hl k ps (by omega) (fun j q1 q2 => hz j q1 (by omega))
    obtain ⟨b1, b2⟩ := h2 hr (k + l.sz) _ (by rw [a1]; omega) (fun j q1 q2 => by rw [a2, if_neg (by omega)]; exact hz j (by omega) (by omega))
    unfold CT.bod
    rw [List.foldl_append, List.foldl_append, List.foldl_cons, List.foldl_nil]
    obtain ⟨qs, hqs⟩ : ∃ qs, List.foldl parStep (List.foldl parStep ps (l.bod k)) (r.bod (k + l.sz)) = qs := ⟨_, rfl⟩
    rw [hqs] at b1 b2 ⊢
    have hlf : leafC ⟨i, ((k + l.sz - 1 : Nat) : Int), ((k + l.sz + r.sz - 1 : Nat) : Int)⟩ = false := by
      unfold leafC
      rw [Bool.or_eq_false_iff, decide_eq_false_iff_not, decide_eq_false_iff_not]
      show ¬ (i : Int) = -1 ∧ ¬ (i : Int) = -2
      omega
    rw [parStep_len]
    refine ⟨by omega, fun j => ?_⟩
    unfold parStep
    rw [hlf, if_neg (by decide)]
    unfold bumpS
    simp only [Int.toNat_natCast]
    rw [getD_set (by rw [List.length_set]; omega), getD_set (by omega), getD_set (by omega)]
    have e1 : qs.getD (k + l.sz - 1) 0 = 0 := by rw [b2, if_neg (by omega), a2, if_neg (by omega)]; exact hz _ (by omega) (by omega)
    have e2 : qs.getD (k + l.sz + r.sz - 1) 0 = 0 := by rw [b2, if_neg (by omega), a2, if_neg (by omega)]; exact hz _ (by omega) (by omega)
    rw [e1, e2]
    by_cases q1 : j = k + l.sz + r.sz - 1
    · rw [if_pos q1, if_neg (by omega), if_pos (by omega)]; rfl
    · rw [if_neg q1]
      by_cases q2 : j = k + l.sz - 1
      · rw [if_pos q2, if_pos (by omega)]; rfl
      · rw [if_neg q2, b2]
        by_cases q3 : k + l.sz ≤ j ∧ j + 1 < k + l.sz + r.sz
        · rw [if_pos q3, if_pos (by omega)]
        · rw [if_neg q3, a2]
          by_cases q4 : k ≤ j ∧ j + 1 < k + l.sz
          · rw [if_pos q4, if_pos (by omega)]
          · rw [if_neg q4, if_neg (by omega)]
/-- the tree as a value -/
def CT.tre (T : CT) : Tre := ⟨T.bod 0, ((T.sz - 1 : Nat) : Int)⟩
theorem tre_form (T : CT) (hT : T.low) (hs : T.sz ≤ 8191) : formC T.tre = true := by
  have hp := T.sz_pos
  have hl : T.tre.nodes.length = T.sz := T.bod_len 0
  unfold formC sizeC
  rw [hl]
  simp only [Bool.and_eq_true, decide_eq_true_eq]
  refine ⟨⟨⟨⟨⟨by omega, hs⟩, by show (0 : Int) ≤ ((T.sz - 1 : Nat) : Int); omega⟩, by show ((T.sz - 1 : Nat) : Int) < _; omega⟩, ?_⟩, ?_⟩
  · unfold nodsC
    refine List.all_eq_true.2 fun i hi => ?_
    have hi2 := List.mem_range.1 hi
    have hc : T.tre.nodes[i]? = some (T.tre.nodes.getD i cho0) := by rw [List.getD_eq_getElem?_getD, List.getElem?_eq_getElem hi2]; rfl
    have := bod_nodes T hT 0 i _ hc
    rwa [Nat.zero_add] at this
  · unfold parsB
    refine List.all_eq_true.2 fun i hi => ?_
    have hi2 := List.mem_range.1 hi
    rw [hl] at hi2
    have hb := (bod_pars T hT 0 (List.replicate T.sz 0) (by simp) (fun j _ _ => by rw [List.getD_eq_getElem?_getD, List.getElem?_replicate]; split <;> rfl)).2 i
    have hpt : parTo T.tre.nodes T.tre.nodes.length = (T.bod 0).foldl parStep (List.replicate T.sz 0) := by
      unfold parTo
      rw [List.take_length, hl]; rfl
    unfold parB
    rw [hpt, hb]
    by_cases q : (i : Int) = T.tre.root
    · have q' : i = T.sz - 1 := by have : (i : Int) = ((T.sz - 1 : Nat) : Int) := q; omega
      rw [if_pos q, if_neg (by omega), List.getD_eq_getElem?_getD, List.getElem?_replicate]; split <;> rfl
    · have q' : i ≠ T.sz - 1 := fun e => q (by show (i : Int) = ((T.sz - 1 : Nat) : Int); omega)
      rw [if_neg q, if_pos (by omega)]; rfl
theorem tre_right {x y : Xpr} {b0 : BitVec 16} (T : CT) (hT : T.low) : ∀ (k f : Nat) (N : List Cho) (p q : BitVec 16), T.sz ≤ f → (∀ j c, (T.bod k)[j]? = some c → N[k + j]? = some c) → rightF x y b0 N f ((k + T.sz - 1 : Nat) : Int) p q = rightT x y b0 T p q := by
  induction T with
  | fx =>
    intro k f N p q hf hN
    obtain ⟨f, rfl⟩ : ∃ g, f = g + 1 := ⟨f - 1, by have : 1 ≤ f := hf; omega⟩
    have hc := hN 0 _ rfl
    have hg : N.getD (((k + CT.fx.sz - 1 : Nat) : Int)).toNat cho0 = ⟨-1, 0, 0⟩ := by
      rw [Int.toNat_natCast, List.getD_eq_getElem?_getD, show k + CT.fx.sz - 1 = k + 0 by show k + 1 - 1 = k + 0; omega, hc]; rfl
    unfold rightF
    rw [hg]
    rfl
  | fy =>
    intro k f N p q hf hN
    obtain ⟨f, rfl⟩ : ∃ g, f = g + 1 := ⟨f - 1, by have : 1 ≤ f := hf; omega⟩
    have hc := hN 0 _ rfl
    have hg : N.getD (((k + CT.fy.sz - 1 : Nat) : Int)).toNat cho0 = ⟨-2, 0, 0⟩ := by
      rw [Int.toNat_natCast, List.getD_eq_getElem?_getD, show k + CT.fy.sz - 1 = k + 0 by show k + 1 - 1 = k + 0; omega, hc]; rfl
    unfold rightF
    rw [hg]
    rfl
  | nd i l r h1 h2 =>
    intro k f N p q hf hN
    obtain ⟨hi, hl, hr⟩ := hT
    have hls := l.sz_pos
    have hrs := r.sz_pos
    have hsz : (CT.nd i l r).sz = l.sz + r.sz + 1 := rfl
    rw [hsz] at hf ⊢
    obtain ⟨f, rfl⟩ : ∃ g, f = g + 1 := ⟨f - 1, by omega⟩
    have hc : N[k + (l.sz + r.sz)]? = some ⟨i, ((k + l.sz - 1 : Nat) : Int), ((k + l.sz + r.sz - 1 : Nat) : Int)⟩ := by
      refine hN (l.sz + r.sz) _ ?_
      show (l.bod k ++ r.bod (k + l.sz) ++ _)[l.sz + r.sz]? = _
      rw [List.getElem?_append_right (by simp [CT.bod_len])]
      simp [CT.bod_len]
    have hNl : ∀ j c, (l.bod k)[j]? = some c → N[k + j]? = some c := fun j c h => hN j c (by
      show (l.bod k ++ r.bod (k + l.sz) ++ _)[j]? = _
      have := (List.getElem?_eq_some_iff.1 h).1
      rw [List.append_assoc, List.getElem?_append_left this]; exact h)
    have hNr : ∀ j c, (r.bod (k + l.sz))[j]? = some c → N[k + l.sz + j]? = some c := fun j c h => by
      have := hN (l.sz + j) c (by
        show (l.bod k ++ r.bod (k + l.sz) ++ _)[l.sz + j]? = _
        have hjl := (List.getElem?_eq_some_iff.1 h).1
        rw [List.getElem?_append_left (by rw [List.length_append, CT.bod_len]; omega), List.getElem?_append_right (by rw [CT.bod_len]; omega), CT.bod_len]
        rw [show l.sz + j - l.sz = j by omega]; exact h)
      rwa [← Nat.add_assoc] at this
    unfold rightF
    have hg : N.getD (((k + (l.sz + r.sz + 1) - 1 : Nat) : Int)).toNat cho0 = ⟨i, ((k + l.sz - 1 : Nat) : Int), ((k + l.sz + r.sz - 1 : Nat) : Int)⟩ := by
      rw [Int.toNat_natCast, List.getD_eq_getElem?_getD, show k + (l.sz + r.sz + 1) - 1 = k + (l.sz + r.sz) by omega, hc]; rfl
    rw [hg]
    simp only
    rw [if_neg (by omega), if_neg (by omega), Int.toNat_natCast, h1 hl k f N _ q (by omega) hNl]
    have := h2 hr (k + l.sz) f N p (q ||| bitS i) (by omega) hNr
    rw [this]
    show _ = ((bitS i &&& (b0 ||| p ||| q) == 0#16) && (rightT x y b0 l (p ||| bitS i) q && rightT x y b0 r p (q ||| bitS i)))
    cases hz : (bitS i &&& (b0 ||| p ||| q) == 0#16)
    · rfl
    · rfl
theorem tre_cert {x y : Xpr} {b0 : BitVec 16} (T : CT) (hT : T.low) (hs : T.sz ≤ 8191) (hr : rightT x y b0 T 0#16 0#16 = true) : certC x y b0 T.tre = true := by
  unfold certC
  rw [tre_form T hT hs]
  have := tre_right (x := x) (y := y) (b0 := b0) T hT 0 T.sz (T.bod 0) 0#16 0#16 (Nat.le_refl _) (fun j c h => by rwa [Nat.zero_add])
  rw [Nat.zero_add] at this
  show (true && rightF x y b0 (T.bod 0) (T.bod 0).length ((T.sz - 1 : Nat) : Int) 0#16 0#16) = true
  rw [T.bod_len, this, hr]; rfl
/-- what a search returns -/
def prvS (x y : Xpr) (l : List Nat) : Tre × Int := match proveL x y l 0#16 0#16 with
  | some T => (T.tre, 0)
  | none => (⟨[], 0⟩, 12)
/-- the search decides whether the families intersect -/
theorem prove_iff {x y : Xpr} (hx : XprOk x) (hy : XprOk y) {b0 : BitVec 16} {l : List Nat} (hnd : l.Nodup) (hl : ∀ i ∈ l, i < 12 ∧ hasB b0 i = false) (hll : l.length ≤ 12) (hall : ∀ i, i < 12 → hasB (srvX x) i = true ∨ hasB (srvX y) i = true → hasB b0 i = false → i ∈ l)
    {f g : List (BitVec 16)} (hf : ∀ s, accS f s = holdX x s) (hg : ∀ s, accS g s = holdX y s) (hfs : ∀ F ∈ f, ∀ i, hasB F i = true → hasB (srvX x) i = true) (hgs : ∀ G ∈ g, ∀ i, hasB G i = true → hasB (srvX y) i = true) :
    (famsB f g b0 = true → ∃ T, proveL x y l 0#16 0#16 = some T ∧ certC x y b0 T.tre = true) ∧ (famsB f g b0 = false → proveL x y l 0#16 0#16 = none) := by
  have key : ∀ T, proveL x y l 0#16 0#16 = some T → certC x y b0 T.tre = true := fun T h => by
    have h1 := proveL_sz l _ _ T h
    have h2 : 2 ^ (l.length + 1) ≤ 2 ^ 13 := Nat.pow_le_pow_right (by decide) (by omega)
    exact tre_cert T (proveL_low l _ _ T (fun i hi => (hl i hi).1) h) (by omega) (proveL_right l _ _ T hnd (fun i hi => ⟨(hl i hi).1, (hl i hi).2, hasB_zero i, hasB_zero i⟩) h)
  have hfh : ∀ F ∈ f, holdX x F = true ∧ ∀ i, hasB F i = true → i < 12 := fun F hF => by
    refine ⟨?_, fun i hi => srvX_12 hx (hfs F hF i hi)⟩
    rw [← hf]; exact List.any_eq_true.2 ⟨F, hF, (subB_iff F F).2 fun _ h => h⟩
  have hgh : ∀ G ∈ g, holdX y G = true ∧ ∀ i, hasB G i = true → i < 12 := fun G hG => by
    refine ⟨?_, fun i hi => srvX_12 hy (hgs G hG i hi)⟩
    rw [← hg]; exact List.any_eq_true.2 ⟨G, hG, (subB_iff G G).2 fun _ h => h⟩
  constructor
  · intro hfam
    cases hp : proveL x y l 0#16 0#16 with
    | some T => exact ⟨T, rfl, key T hp⟩
    | none =>
      exfalso
      obtain ⟨A, B, h1, h2, h3⟩ := proveL_none hx hy l _ _ (fun i hi => by have := (hl i hi).1; omega) hp
      rw [← hf] at h1
      rw [← hg] at h2
      obtain ⟨F, hF, hFs⟩ := List.any_eq_true.1 h1
      obtain ⟨G, hG, hGs⟩ := List.any_eq_true.1 h2
      have hv := List.all_eq_true.1 (List.all_eq_true.1 hfam F hF) G hG
      have : viol F G b0 = true := (viol_iff _ _ _).2 fun i hi hj => by
        have f1 := (subB_iff _ _).1 hFs i hi
        have g1 := (subB_iff _ _).1 hGs i hj
        rw [hasB_allnot, Bool.and_eq_true, decide_eq_true_eq, Bool.not_eq_true'] at f1 g1
        cases hb : hasB b0 i
        · exfalso
          have := hall i f1.1 (.inl (hfs F hF i hi)) hb
          rcases h3 i (.inr (.inr this)) with h | h
          · rw [g1.2] at h; cases h
          · rw [f1.2] at h; cases h
        · rfl
      rw [this] at hv; cases hv
  · intro hfam
    cases hp : proveL x y l 0#16 0#16 with
    | none => rfl
    | some T =>
      exfalso
      have := cert_sound hx hy (key T hp) hfh hgh
      rw [hfam] at this; cases this
end Go.Proofs.YtflpkkebampmfaaDoor
namespace Go.Proofs.YtflpkkebampmfaaDoor

/-- a step of the search: the best pair so far, and a further one -/
def srcStep (b : BitVec 16) (sz : BitVec 16 → Nat) (o : Option (BitVec 16 × BitVec 16)) (x y : BitVec 16) : Option (BitVec 16 × BitVec 16) :=
  if viol x y b = true then
    match o with
    | none => some (x, y)
    | some p => if sz (x ||| y) < sz (p.1 ||| p.2) then some (x, y) else some p
  else o
def srcRow (b : BitVec 16) (sz : BitVec 16 → Nat) (x : BitVec 16) (g : List (BitVec 16)) (o : Option (BitVec 16 × BitVec 16)) : Option (BitVec 16 × BitVec 16) := g.foldl (fun o y => srcStep b sz o x y) o
def srcFrom (b : BitVec 16) (sz : BitVec 16 → Nat) (f g : List (BitVec 16)) (o : Option (BitVec 16 × BitVec 16)) : Option (BitVec 16 × BitVec 16) := f.foldl (fun o x => srcRow b sz x g o) o
def srcS (b : BitVec 16) (sz : BitVec 16 → Nat) (f g : List (BitVec 16)) : Option (BitVec 16 × BitVec 16) := srcFrom b sz f g none

theorem srcRow_succ {b : BitVec 16} {sz : BitVec 16 → Nat} {x : BitVec 16} {g : List (BitVec 16)} {o : Option (BitVec 16 × BitVec 16)} {k : Nat} {y : BitVec 16} (h : g[k]? = some y) : srcRow b sz x (g.take (k + 1)) o = srcStep b sz (srcRow b sz x (g.take k) o) x y := by
  unfold srcRow; rw [List.take_add_one, h]; simp
theorem srcFrom_succ {b : BitVec 16} {sz : BitVec 16 → Nat} {f g : List (BitVec 16)} {o : Option (BitVec 16 × BitVec 16)} {k : Nat} {x : BitVec 16} (h : f[k]? = some x) : srcFrom b sz (f.take (k + 1)) g o = srcRow b sz x g (srcFrom b sz (f.take k) g o) := by
  unfold srcFrom; rw [List.take_add_one, h]; simp
theorem srcRow_split {b : BitVec 16} {sz : BitVec 16 → Nat} {x : BitVec 16} {g : List (BitVec 16)} {o : Option (BitVec 16 × BitVec 16)} (k : Nat) : srcRow b sz x g o = srcRow b sz x (g.drop k) (srcRow b sz x (g.take k) o) := by
  unfold srcRow; rw [← List.foldl_append, List.take_append_drop]
theorem srcFrom_split {b : BitVec 16} {sz : BitVec 16 → Nat} {f g : List (BitVec 16)} {o : Option (BitVec 16 × BitVec 16)} (k : Nat) : srcFrom b sz f g o = srcFrom b sz (f.drop k) g (srcFrom b sz (f.take k) g o) := by
  unfold srcFrom; rw [← List.foldl_append, List.take_append_drop]

/-! a found pair stays if sizes do not differ -/
theorem srcStep_zero (b : BitVec 16) (p : BitVec 16 × BitVec 16) (x y : BitVec 16) : srcStep b (fun _ => 0) (some p) x y = some p := by
  unfold srcStep; split
  · simp
  · rfl
theorem srcRow_zero (b : BitVec 16) (p : BitVec 16 × BitVec 16) (x : BitVec 16) : ∀ g, srcRow b (fun _ => 0) x g (some p) = some p := by
  intro g
  induction g with
  | nil => rfl
  | cons y g ih => unfold srcRow at ih ⊢; rw [List.foldl_cons, srcStep_zero, ih]
theorem srcFrom_zero (b : BitVec 16) (p : BitVec 16 × BitVec 16) (g : List (BitVec 16)) : ∀ f, srcFrom b (fun _ => 0) f g (some p) = some p := by
  intro f
  induction f with
  | nil => rfl
  | cons x f ih => unfold srcFrom at ih ⊢; rw [List.foldl_cons, srcRow_zero, ih]
/-- the first pair, found at a place of two walks -/
theorem src_hit {b : BitVec 16} {f g : List (BitVec 16)} {i j : Nat} {x y : BitVec 16} (hx : f[i]? = some x) (hy : g[j]? = some y) (h1 : srcFrom b (fun _ => 0) (f.take i) g none = none) (h2 : srcRow b (fun _ => 0) x (g.take j) none = none) (hv : viol x y b = true) :
    srcS b (fun _ => 0) f g = some (x, y) := by
  unfold srcS
  rw [srcFrom_split (i + 1), srcFrom_succ hx, h1, srcRow_split (j + 1), srcRow_succ hy, h2]
  have : srcStep b (fun _ => 0) none x y = some (x, y) := by unfold srcStep; rw [if_pos hv]
  rw [this, srcRow_zero, srcFrom_zero]
theorem srcStep_miss {b : BitVec 16} {sz : BitVec 16 → Nat} {o : Option (BitVec 16 × BitVec 16)} {x y : BitVec 16} (hv : viol x y b = false) : srcStep b sz o x y = o := by
  unfold srcStep; rw [if_neg (by rw [hv]; decide)]

/-! the least pair, from the first pair on -/
theorem srcRow_none {b : BitVec 16} {sz : BitVec 16 → Nat} {x : BitVec 16} : ∀ {g : List (BitVec 16)}, srcRow b sz x g none = none → ∀ o sz', srcRow b sz' x g o = o := by
  intro g
  induction g with
  | nil => intro _ o sz'; rfl
  | cons y g ih =>
    intro h o sz'
    unfold srcRow at h ih ⊢
    rw [List.foldl_cons] at h ⊢
    by_cases hv : viol x y b = true
    · exfalso
      have e : srcStep b sz none x y = some (x, y) := by unfold srcStep; rw [if_pos hv]
      rw [e] at h
      have keep : ∀ (l : List (BitVec 16)) (p : BitVec 16 × BitVec 16), l.foldl (fun o y => srcStep b sz o x y) (some p) ≠ none := by
        intro l
        induction l with
        | nil => intro p hp; cases hp
        | cons z l ih2 =>
          intro p
          rw [List.foldl_cons]
          have : ∃ q, srcStep b sz (some p) x z = some q := by
            unfold srcStep; split
            · dsimp only; split
              · exact ⟨_, rfl⟩
              · exact ⟨_, rfl⟩
            · exact ⟨_, rfl⟩
          obtain ⟨q, hq⟩ := this
          rw [hq]; exact ih2 q
      exact keep g _ h
    · have hv' : viol x y b = false := by simpa using hv
      rw [srcStep_miss hv'] at h ⊢
      exact ih h o sz'
theorem srcRow_some (b : BitVec 16) (sz : BitVec 16 → Nat) (x : BitVec 16) : ∀ (l : List (BitVec 16)) (p : BitVec 16 × BitVec 16), ∃ q, srcRow b sz x l (some p) = some q := by
  intro l
  induction l with
  | nil => intro p; exact ⟨p, rfl⟩
  | cons z l ih2 =>
    intro p
    unfold srcRow at ih2 ⊢
    rw [List.foldl_cons]
    have : ∃ q, srcStep b sz (some p) x z = some q := by
      unfold srcStep; split
      · dsimp only; split
        · exact ⟨_, rfl⟩
        · exact ⟨_, rfl⟩
      · exact ⟨_, rfl⟩
    obtain ⟨q, hq⟩ := this
    rw [hq]; exact ih2 q
theorem srcFrom_some (b : BitVec 16) (sz : BitVec 16 → Nat) (g : List (BitVec 16)) : ∀ (l : List (BitVec 16)) (p : BitVec 16 × BitVec 16), ∃ q, srcFrom b sz l g (some p) = some q := by
  intro l
  induction l with
  | nil => intro p; exact ⟨p, rfl⟩
  | cons z l ih2 =>
    intro p
    unfold srcFrom at ih2 ⊢
    rw [List.foldl_cons]
    obtain ⟨q, hq⟩ := srcRow_some b sz z g p
    rw [hq]; exact ih2 q
theorem srcFrom_none {b : BitVec 16} {sz : BitVec 16 → Nat} {g : List (BitVec 16)} : ∀ {f : List (BitVec 16)}, srcFrom b sz f g none = none → ∀ o sz', srcFrom b sz' f g o = o := by
  intro f
  induction f with
  | nil => intro _ o sz'; rfl
  | cons x f ih =>
    intro h o sz'
    have e : srcFrom b sz (x :: f) g none = srcFrom b sz f g (srcRow b sz x g none) := rfl
    rw [e] at h
    cases hr : srcRow b sz x g none with
    | some p =>
      rw [hr] at h
      obtain ⟨q, hq⟩ := srcFrom_some b sz g f p
      rw [hq] at h; cases h
    | none =>
      rw [hr] at h
      show srcFrom b sz' f g (srcRow b sz' x g o) = o
      rw [srcRow_none hr]
      exact ih h o sz'
/-- from the first pair on, the search comes to the same pair as from none on -/
theorem src_from_row {b : BitVec 16} {sz : BitVec 16 → Nat} {x : BitVec 16} : ∀ {g : List (BitVec 16)} {p : BitVec 16 × BitVec 16}, srcRow b (fun _ => 0) x g none = some p → srcRow b sz x g (some p) = srcRow b sz x g none := by
  intro g
  induction g with
  | nil => intro p h; cases h
  | cons y g ih =>
    intro p h
    by_cases hv : viol x y b = true
    · have e0 : srcRow b (fun _ => 0) x (y :: g) none = srcRow b (fun _ => 0) x g (srcStep b (fun _ => 0) none x y) := rfl
      have e1 : ∀ sz', srcStep b sz' none x y = some (x, y) := fun sz' => by unfold srcStep; rw [if_pos hv]
      rw [e0, e1, srcRow_zero] at h
      cases h
      show srcRow b sz x g (srcStep b sz (some (x, y)) x y) = srcRow b sz x g (srcStep b sz none x y)
      rw [e1]
      have : srcStep b sz (some (x, y)) x y = some (x, y) := by unfold srcStep; rw [if_pos hv]; simp
      rw [this]
    · have hv' : viol x y b = false := by simpa using hv
      have e0 : srcRow b (fun _ => 0) x (y :: g) none = srcRow b (fun _ => 0) x g (srcStep b (fun _ => 0) none x y) := rfl
      rw [e0, srcStep_miss hv'] at h
      show srcRow b sz x g (srcStep b sz (some p) x y) = srcRow b sz x g (srcStep b sz none x y)
      rw [srcStep_miss hv', srcStep_miss hv']
      exact ih h
theorem src_from {b : BitVec 16} {sz : BitVec 16 → Nat} {g : List (BitVec 16)} : ∀ {f : List (BitVec 16)} {p : BitVec 16 × BitVec 16}, srcFrom b (fun _ => 0) f g none = some p → srcFrom b sz f g (some p) = srcFrom b sz f g none := by
  intro f
  induction f with
  | nil => intro p h; cases h
  | cons x f ih =>
    intro p h
    have e : srcFrom b (fun _ => 0) (x :: f) g none = srcFrom b (fun _ => 0) f g (srcRow b (fun _ => 0) x g none) := rfl
    rw [e] at h
    show srcFrom b sz f g (srcRow b sz x g (some p)) = srcFrom b sz f g (srcRow b sz x g none)
    cases hr : srcRow b (fun _ => 0) x g none with
    | some q =>
      rw [hr, srcFrom_zero] at h
      cases h
      rw [src_from_row hr]
    | none =>
      rw [hr] at h
      rw [srcRow_none hr, srcRow_none hr]
      exact ih h
theorem srcS_none {b : BitVec 16} {f g : List (BitVec 16)} (h : srcS b (fun _ => 0) f g = none) (sz : BitVec 16 → Nat) : srcS b sz f g = none := srcFrom_none h _ _

/-- what Pair and Least answer -/
def pairS (b : BitVec 16) (sz : BitVec 16 → Nat) (f g : List (BitVec 16)) : BitVec 16 × BitVec 16 × Int :=
  if valS f ≠ 0 then (0#16, 0#16, valS f) else if valS g ≠ 0 then (0#16, 0#16, valS g) else
  match srcS b sz f g with
  | none => (0#16, 0#16, 13)
  | some p => (p.1, p.2, 0)

/-! two families intersect: symmetric -/
theorem viol_comm (x y b : BitVec 16) : viol x y b = viol y x b := by
  unfold viol; rw [BitVec.and_comm x y]
theorem famsB_comm (f g : List (BitVec 16)) (b : BitVec 16) : famsB g f b = famsB f g b := by
  unfold famsB
  rw [Bool.eq_iff_iff, List.all_eq_true, List.all_eq_true]
  constructor
  · intro h x hx
    exact List.all_eq_true.2 fun y hy => by rw [viol_comm]; exact List.all_eq_true.1 (h y hy) x hx
  · intro h x hx
    exact List.all_eq_true.2 fun y hy => by rw [viol_comm]; exact List.all_eq_true.1 (h y hy) x hx
theorem famsB_hit {f g : List (BitVec 16)} {b x y : BitVec 16} {i j : Nat} (hx : f[i]? = some x) (hy : g[j]? = some y) (h : viol x y b = true) : famsB f g b = false := by
  rw [Bool.eq_false_iff]
  intro hc
  have := List.all_eq_true.1 (List.all_eq_true.1 hc x (List.mem_of_getElem? hx)) y (List.mem_of_getElem? hy)
  rw [h] at this; cases this
theorem famsB_all {f g : List (BitVec 16)} {b : BitVec 16} (h : ∀ (i : Nat) x, f[i]? = some x → ∀ (j : Nat) y, g[j]? = some y → viol x y b = false) : famsB f g b = true := by
  refine List.all_eq_true.2 fun x hx => List.all_eq_true.2 fun y hy => ?_
  obtain ⟨i, hi⟩ := List.mem_iff_getElem?.1 hx
  obtain ⟨j, hj⟩ := List.mem_iff_getElem?.1 hy
  rw [h i x hi j y hj]; rfl
end Go.Proofs.YtflpkkebampmfaaDoor
namespace Go.Proofs.YtflpkkebampmfaaDoor
open Go.RowKit

/-- the entries of the members -/
def entries (x : BitVec 16) (to : List Int) : List Int := (memS x).map fun i => (to[i]?).getD (-1)
def renS (x : BitVec 16) (to : List Int) : BitVec 16 × Int := ofS 0#16 (entries x to)

theorem memS_lt {x : BitVec 16} {k i : Nat} (h : (memS x)[k]? = some i) : i < 16 := by
  have := List.mem_of_getElem? h
  simp [memS] at this
  exact this.1
theorem addS_neg (s : BitVec 16) : addS s (-1) = (0#16, 7) := by simp [addS]

end Go.Proofs.YtflpkkebampmfaaDoor
namespace Go.Proofs.YtflpkkebampmfaaDoor
open Go.RowKit

theorem ofS_append (p q : List Int) : ∀ s, ofS s (p ++ q) = if (ofS s p).2 = 0 then ofS (ofS s p).1 q else ofS s p := by
  induction p with
  | nil => intro s; simp [ofS]
  | cons i p ih =>
    intro s
    by_cases h0 : (addS s i).2 = 0
    · simp only [List.cons_append, ofS, if_pos h0]; exact ih _
    · simp only [List.cons_append, ofS, if_neg h0, if_false]

theorem ofS_stop {l : List Int} {k : Nat} (h : l[k]? = some (-1)) (s : BitVec 16) : ofS s (l.take (k + 1)) = ofS s l := by
  have e : l = l.take (k + 1) ++ l.drop (k + 1) := (List.take_append_drop _ _).symm
  have h2 : (ofS s (l.take (k + 1))).2 ≠ 0 := by
    rw [List.take_add_one, h, ofS_append]
    by_cases h0 : (ofS s (l.take k)).2 = 0
    · rw [if_pos h0]; simp [ofS, addS_neg]
    · rw [if_neg h0]; exact h0
  conv => rhs; rw [e, ofS_append, if_neg h2]

theorem entries_len (x : BitVec 16) (to : List Int) : (entries x to).length = cnt x := by simp [entries, cnt]
def intV' (i : Int) : Value := .int .i64 i

def setV (x : BitVec 16) : Value := .int .u16 (U x)
def pickB (x : BitVec 16) (k : Int) (n : Nat) : Bool := (BitVec.ofNat 16 n &&& ~~~x == 0#16) && ((cnt (BitVec.ofNat 16 n) : Int) == k)
def pickTo (x : BitVec 16) (k : Int) (N : Nat) : List (BitVec 16) := ((List.range N).filter (pickB x k)).map (BitVec.ofNat 16)
/-- the subsets of x with k members, in order -/
def chooseS (x : BitVec 16) (k : Int) : List (BitVec 16) := pickTo x k 65536
theorem pickTo_succ (x : BitVec 16) (k : Int) (N : Nat) : pickTo x k (N + 1) = if pickB x k N then pickTo x k N ++ [BitVec.ofNat 16 N] else pickTo x k N := by
  unfold pickTo; rw [List.range_succ, List.filter_append]; cases h : pickB x k N <;> simp [h]
theorem pickTo_le (x : BitVec 16) (k : Int) (N : Nat) : (pickTo x k N).length ≤ N := by
  unfold pickTo; rw [List.length_map]; exact Nat.le_trans (List.length_filter_le _ _) (by simp)
theorem U_ofNat (n : Nat) (h : n < 65536) : (n : Int) = U (BitVec.ofNat 16 n) := by simp [U]; omega
theorem Tryd.infoSet : (Tryd.prog.info? 26).map (fun i => (i.zero, i.size, i.bytes)) = some (some (.int .u16 0), 1, 2) := by kernel_rfl

end Go.Proofs.YtflpkkebampmfaaDoor
namespace Go.Proofs.YtflpkkebampmfaaDoor
open Go.RowKit

end Go.Proofs.YtflpkkebampmfaaDoor
