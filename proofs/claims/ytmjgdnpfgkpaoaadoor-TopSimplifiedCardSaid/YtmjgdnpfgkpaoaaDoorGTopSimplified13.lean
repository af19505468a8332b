/- Texts laid together. Layer 10, plain: what satisfies an expression with substituted servers. No program. expr.Simplify. expr.servers. set.choose under a range over a function: its contract over whatever loop body keeps what it must. set.choose: the walk. set.Subsets and set.Choose as iterators; slices.Collect of sets. expr.Family. -/
import Derived.Test.YtmjgdnpfgkpaoaaDoorGTopSimplified2
import Derived.Test.YtmjgdnpfgkpaoaaDoorGTopSimplified3
import Derived.Test.YtmjgdnpfgkpaoaaDoorGTopSimplified4
import Derived.Test.YtmjgdnpfgkpaoaaDoorGTopSimplified12
import Derived.RangeFuncNested
import Derived.RangeFuncBound
import Derived.RangeFuncCalls
import Derived.RangeFuncLeaves
import Derived.RangeFuncWrites
import Derived.Shelf.Abstract
import Derived.Shelf.RegionOpen
import Derived.OwnWalkIn
import Derived.TacticsInMore
import Derived.LoopNIn
import Derived.LoopIn
import Derived.RangeFuncBox
import Derived.Maps.AppendAt
import Derived.Sort.QuietIn
namespace Go.Proofs.YtmjgdnpfgkpaoaaDoor

theorem got_eq {g g' : Int → ET} {S t : BitVec 16} (ws : List Int) : ∀ (ks : List Int) (a : Nat), (∀ k ∈ ks, (g k).hold S = (g' k).hold t) → ETs.got (ks.map g) S ws a = ETs.got (ks.map g') t ws a
  | [], _, _ => rfl
  | k :: ks, a, h => by
    rw [List.map_cons, List.map_cons, ETs.got, ETs.got, h k (by simp), got_eq ws ks (a + 1) fun k' hk => h k' (List.mem_cons_of_mem _ hk)]
/-- a server's answer under a substitution -/
def subH (sub : Nat → Option ET) (S : BitVec 16) (sv : Nat) : Bool := match sub sv with | some U => U.hold S | none => hasB S sv
theorem sub_hold {x : Xpr} (hx : xprE x = 0) (sub : Nat → Option ET) (S t : BitVec 16) (h : ∀ sv, sv < 12 → subH sub S sv = hasB t sv) : ∀ (f i : Nat), i < f → (treF x.nodes sub f i).hold S = (treF x.nodes noSub f i).hold t := by
  intro f
  induction f with
  | zero => intro i hi; omega
  | succ f ih =>
    intro i hi
    rw [treF, treF]
    cases hn : x.nodes[i]? with
    | none =>
      rw [List.getD_eq_getElem?_getD, hn]
      rfl
    | some nd =>
      have ok := (xprE_ok hx).node i nd hn
      rw [List.getD_eq_getElem?_getD, hn]
      simp only [Option.getD_some]
      by_cases hk : nd.kind = 1
      · rw [if_pos hk, if_pos hk]
        have hs := ok.server
        have h2 := h nd.server.toNat (by omega)
        show ((sub nd.server.toNat).getD (.srv nd.server)).hold S = (ET.srv nd.server).hold t
        unfold subH at h2
        cases hq : sub nd.server.toNat with
        | none => rw [hq] at h2; exact h2
        | some U => rw [hq] at h2; exact h2
      · rw [if_neg hk, if_neg hk]
        show decide (nd.need ≤ ETs.got _ S nd.weights 0) = decide (nd.need ≤ ETs.got _ t nd.weights 0)
        rw [got_eq nd.weights nd.kids 0 fun k hkk => ih k.toNat (by have := ok.kids k hkk; omega)]
/-- .. and the tree is valid -/
theorem tre_ok_sub {x : Xpr} (h : XprOk x) (sub : Nat → Option ET) (hsub : ∀ s U, sub s = some U → U.ok) : ∀ (f i : Nat), i < f → i < x.nodes.length → (treF x.nodes sub f i).ok := by
  intro f
  induction f with
  | zero => intro i hi; omega
  | succ f ih =>
    intro i hi hl
    obtain ⟨nd, hnd⟩ : ∃ nd, x.nodes[i]? = some nd := ⟨_, List.getElem?_eq_getElem hl⟩
    have e : x.nodes.getD i nod0 = nd := by rw [List.getD_eq_getElem?_getD, hnd]; rfl
    have ok := h.node i nd hnd
    rw [treF, e]
    by_cases hk : nd.kind = 1
    · rw [if_pos hk]
      cases hq : sub nd.server.toNat with
      | none => show (ET.srv nd.server).ok; rw [ET.ok]; exact ok.server
      | some U => exact hsub _ U hq
    · rw [if_neg hk, ET.ok]
      refine ⟨ok.need, ok.weights, by rw [List.length_map]; exact ok.arity, (ETs.ok_iff _).2 fun t ht => ?_⟩
      obtain ⟨k, hkk, rfl⟩ := List.mem_map.1 ht
      have hr := ok.kids k hkk
      exact ih k.toNat (by omega) (by omega)
/-- the tree of the root, with substitutions (treY of the walks) -/
theorem treR_ok {x : Xpr} (h : XprOk x) (ys : List Xpr) (hys : ∀ y ∈ ys, XprOk y) : (treF x.nodes (fun s => (ys[s]?).map treX) (x.root.toNat + 1) x.root.toNat).ok := by
  have h1 := h.root
  refine tre_ok_sub h _ (fun s U hU => ?_) _ _ (Nat.lt_succ_self _) (by omega)
  obtain ⟨y, hy, rfl⟩ := Option.map_eq_some_iff.1 hU
  exact treX_ok (hys y (List.mem_of_getElem? hy))
/-- a tree's expression holds as the tree does -/
theorem xpr_hold {T : ET} (hT : T.ok) (hs : T.sz ≤ 60) (S : BitVec 16) : holdX T.xpr S = T.hold S := by
  rw [← treX_hold (xprE_ok (xpr_ok hT hs)) S, treX_xpr]
/-- the law of Substitute -/
theorem subst_law {x : Xpr} (hx : xprE x = 0) (ys : List Xpr) (hys : ∀ y ∈ ys, XprOk y) (S t : BitVec 16) (ht : ∀ sv, sv < 12 → hasB t sv = match ys[sv]? with | some y => holdX y S | none => hasB S sv) (hs : (treF x.nodes (fun s => (ys[s]?).map treX) (x.root.toNat + 1) x.root.toNat).sz ≤ 60) :
    holdX (treF x.nodes (fun s => (ys[s]?).map treX) (x.root.toNat + 1) x.root.toNat).xpr S = holdX x t := by
  have ok := xprE_ok hx
  rw [xpr_hold (treR_ok ok ys hys) hs, ← treX_hold ok t]
  refine sub_hold hx _ S t (fun sv hsv => ?_) _ _ (Nat.lt_succ_self _)
  rw [ht sv hsv]
  unfold subH
  simp only
  cases hq : ys[sv]? with
  | none => rfl
  | some y => exact treX_hold (hys y (List.mem_of_getElem? hq)) S
end Go.Proofs.YtmjgdnpfgkpaoaaDoor
namespace Go.Proofs.YtmjgdnpfgkpaoaaDoor
open Go.RowKit Go.Shelf

/-- what Simplify answers -/
def smpS (x : Xpr) : Xpr × Int := if (tidS x).2 ≠ 0 then (⟨[], 0⟩, (tidS x).2) else ((treX x).simp.xpr, 0)
theorem tidS_ok {x : Xpr} (h : (tidS x).2 = 0) : xprE x = 0 ∧ (treX x).sz ≤ 60 ∧ (tidS x).1 = (treX x).xpr := by
  unfold tidS at h ⊢
  by_cases h1 : xprE x ≠ 0
  · rw [if_pos h1] at h; exact absurd h h1
  · rw [if_neg h1] at h ⊢
    by_cases h2 : 60 < (treX x).sz
    · rw [if_pos h2] at h; cases h
    · rw [if_neg h2]
      exact ⟨by simpa using h1, by omega, rfl⟩

set_option maxRecDepth 100000 in
set_option maxHeartbeats 4000000 in
theorem simplify_c (x : Xpr) (a : Option Addr) (n c : Nat) (w : World) (h : XM w a n c x.nodes) :
    Calls Tryd.prog 6 #[.agg #[.slice a n c, .int .i64 x.root]] w fun e w' => RetX (smpS x).1 (smpS x).2 w e w' := by
  have HS := Lib.hid (fun (u : World) (hu : Below w.heap.size w u) => tidy_c x a n c u (h.below hu))
  clear h
  by_cases hE : (tidS x).2 = 0
  · obtain ⟨hx, hz, h1⟩ := tidS_ok hE
    have hR : smpS x = ((treX x).simp.xpr, 0) := by unfold smpS; rw [if_neg (by rw [hE]; simp)]
    rw [hR]
    have hok := treX_ok (xprE_ok hx)
    have hyx := treX_xpr (treX x)
    have hyE := xpr_ok hok hz
    have hzs := (simp_ok (treX x) hok (by omega)).2
    obtain ⟨T, hT⟩ : ∃ T, treX x = T := ⟨_, rfl⟩
    rw [hT] at h1 hz hok hyx hyE hzs ⊢
    rw [h1, hE] at HS
    have HYX := Lib.hid hyx
    have HYE := Lib.hid hyE
    have HOK := Lib.hid hok
    have hlen : (T.post 0).length = T.sz := T.post_len 0
    have hpos := T.sz_pos
    have hxr : T.xpr.root = ((T.sz - 1 : Nat) : Int) := rfl
    have hxn : T.xpr.nodes = T.post 0 := rfl
    have HXR := Lib.hid hxr
    have HXN := Lib.hid hxn
    have HLE := Lib.hid hlen
    clear hR h1 hE hx hT hok hyx hyE hxr hxn hlen
    go_enter Tryd.func6, Tryd.ntmps6
    go_wp2_with fail
    generalize hW2 : (w.alloc _).alloc _ = W2
    obtain ⟨gX, gR, hb2, hs2⟩ := box2 hW2
    have GR := Lib.hid gR
    have HB2 := Lib.hid hb2
    clear hW2 gX gR hb2
    with_reducible refine (HS.out W2 HB2.out).mono ?_
    rintro e w3 ⟨a', c', rfl, hxm, hb3⟩
    obtain ⟨N3, hN3⟩ : ∃ N3, T.xpr.nodes.length = N3 := ⟨_, rfl⟩
    obtain ⟨RT, hRT⟩ : ∃ RT, T.xpr.root = RT := ⟨_, rfl⟩
    have hxm2 := hxm.xm
    rw [hN3] at hxm2 ⊢
    rw [hRT]
    obtain ⟨w4, hw4⟩ : ∃ w4, w4 = (w3.alloc (.cells #[.slice a' N3 c', .int .i64 RT] 28)).alloc (.cells #[.slice none 0 0, .int .i64 0] 28) := ⟨_, rfl⟩
    obtain ⟨gY, gO, hb4, hs4⟩ := box2 hw4.symm
    have HB4 := Lib.hid (Below.next HB2.out (Below.next hb3 hb4))
    have hs3 := hb3.size
    have GY := Lib.hid gY
    have GO := Lib.hid gO
    have HS4 := Lib.hid hs4
    have GR4 := Lib.hid (heap_below (Below.next hb3 hb4) GR.out)
    have HX4 := Lib.hid (hxm2.below hb4)
    obtain ⟨y0, y1⟩ := (open2 gY).1
    have hTr : treF T.xpr.nodes noSub (T.sz - 1 + 1) (T.sz - 1) = T := by
      have := HYX.out
      unfold treX at this
      rw [HXR.out, Int.toNat_natCast] at this
      exact this
    have hPL := plant_c T.xpr HYE.out (T.sz - 1 + 1) (T.sz - 1) (by omega) (by rw [HXN.out, HLE.out]; omega) a' N3 c' w4 HX4.out (by rw [hTr]; omega)
    rw [hTr, ← HXR.out, hRT] at hPL
    have HPL := Lib.hid hPL
    rw [hw4] at y0 y1
    clear hxm hxm2 hb3 hb4 gY gO hTr hPL hs4 HS
    go_wp2_with fail
    rw [← hw4]
    clear y0 y1
    with_reducible refine HPL.out.mono ?_
    rintro e w5 ⟨lf, sv, nd, aw, nw, cw, ak, nk, ck, rfl, hT5, hb5⟩
    have hSI := simplified_c T.sz T (Nat.le_refl _) HOK.out (by omega) _ ⟨lf, sv, nd, .slice aw nw cw, .slice ak nk ck⟩ w5 hT5 (fun g hg => hg.elim (fun h => h.elim) (fun h => h.2))
    unfold trA at hSI
    have HSI := Lib.hid hSI
    have HB5 := Lib.hid (Below.next HB4.out hb5)
    have GO5 := Lib.hid (heap_below hb5 GO.out)
    have GR5 := Lib.hid (heap_below hb5 GR4.out)
    have hs5 := hb5.size
    have hs44 := HS4.out
    clear hSI hT5 hb5 HPL hw4
    go_wp2_with fail
    with_reducible refine HSI.out.mono ?_
    rintro e w6 ⟨lf6, sv6, nd6, aw6, nw6, cw6, ak6, nk6, ck6, rfl, hT6, hb6⟩
    have GO6 := Lib.hid (heap_below hb6 GO5.out)
    have GR6 := Lib.hid (heap_below hb6 GR5.out)
    have HB6 := Lib.hid (Below.next HB5.out hb6)
    have hs6 := hb6.size
    have hE6 : ∀ g, (((fun _ => False) g ∨ (w4.heap.size ≤ g ∧ g < w5.heap.size)) ∨ (w5.heap.size ≤ g ∧ g < w6.heap.size)) → w4.heap.size ≤ g ∧ g < w6.heap.size := by
      rintro g ((h | h) | h)
      · exact h.elim
      · exact ⟨h.1, by omega⟩
      · exact ⟨by omega, h.2⟩
    have hTE : TrS (fun g => w4.heap.size ≤ g ∧ g < w6.heap.size) w6 ⟨lf6, sv6, nd6, .slice aw6 nw6 cw6, .slice ak6 nk6 ck6⟩ T.simp := RS.mono hT6 hE6
    have hOw : w.heap.size ≤ w3.heap.size + 1 := by omega
    have hFE := fell_c w (w3.heap.size + 1) (w3.heap.size + 1) hOw (Nat.le_refl _) T.simp.sz T.simp (Nat.le_refl _) _ _ w6 (fun _ => False) (.slice none 0 0) [] hTE
      ⟨HB6.out, ⟨_, GO6.out⟩, XB.nil _ _ _ _ (fun _ h => h.elim), id, (fun e => by cases e), fun g hg => ⟨by omega, by omega, fun e => by cases e⟩⟩ (by show 0 + _ ≤ 1000; omega)
    unfold trA at hFE
    have HFE := Lib.hid hFE
    clear hTE hE6 hT6 hb6 HSI hFE
    go_wp2_with fail
    with_reducible refine HFE.out.mono ?_
    rintro e w9 ⟨rfl, v', S', k1, k2, k3, k4, k5⟩
    obtain ⟨a9, c9, rfl, _⟩ := k2.shape
    have gR9 := (k3.blk (w.heap.size + 1) (by omega) (by omega) (fun e => by cases e)).trans GR6.out
    have o0 := cell_of_row _ _ 0 _ _ _ k1
    have o1 := cell_of_row _ _ 1 _ _ _ k1
    have t0 := cell_of_row _ _ 0 _ _ _ gR9
    have t1 := cell_of_row _ _ 1 _ _ _ gR9
    have z0 := frozen_row gR9 0
    have z1 := frozen_row gR9 1
    have GR9 := Lib.hid gR9
    have HK2 := Lib.hid k2
    have HK5 := Lib.hid k5
    have HB9 := Lib.hid (HB6.out.trans (k3.bel.mono (by omega)))
    have hs9 := k3.bel.size
    rw [List.nil_append] at o0 o1
    clear k1 k2 k3 k4 k5 gR9 HFE
    go_wp2_with fail
    clear t0 t1 z0 z1 o0 o1
    generalize hWF : (w9.setCell _ _).setCell _ _ = WF
    obtain ⟨e1, hbf⟩ := fin_box GR9.out (by omega) HB9.out hWF
    have hkeep : ∀ g, g ≠ w.heap.size + 1 → WF.heap[g]? = w9.heap[g]? := fun g hg => by
      rw [← hWF, Below.heap_setCell _ ⟨w.heap.size + 1, 1, none⟩ _ g hg, Below.heap_setCell _ ⟨w.heap.size + 1, 0, none⟩ _ g hg]
    have hsF : WF.heap.size = w9.heap.size := by rw [← hWF]; simp
    have hS8 : ∀ g, S' g → w.heap.size + 2 ≤ g := fun g hg => by
      rcases HK5.out g hg with h | h | h
      · exact h.elim
      · omega
      · omega
    have hxb := HK2.out.move (w' := WF) (fun g hg => hkeep g (by have := hS8 g hg; omega)) (fun g hg => hkeep g (by have := (HK2.out.lt_own g hg).1; omega)) (by omega)
    obtain ⟨a2, c2, e2, hxmr⟩ := hxb.xmr (lo := w.heap.size) (fun g hg => by have := hS8 g hg; omega) (by omega)
    rw [List.nil_append] at hxmr e2
    cases e2
    have f0 := cell_of_row _ _ 0 _ _ _ e1
    have f1 := cell_of_row _ _ 1 _ _ _ e1
    have hlen : ((T.simp.post 0).length : Int) - 1 = T.simp.xpr.root := by
      have := T.simp.sz_pos
      rw [ET.post_len]
      show _ = ((T.simp.sz - 1 : Nat) : Int)
      omega
    have HXM := Lib.hid hxmr
    have HBF := Lib.hid hbf
    have HLEN := Lib.hid hlen
    clear hWF e1 hkeep hS8 hxb hxmr hbf hlen
    refine bodyPost_ret (v := .tuple #[.agg #[.slice a9 (T.simp.post 0).length c9, .int .i64 T.simp.xpr.root], .int .i64 0]) ?_ rfl ⟨a9, c9, rfl, HXM.out, HBF.out⟩
    rw [results_cell_tmp rfl]
    go_simp
    exact HLEN.out
  · have hR : smpS x = (⟨[], 0⟩, (tidS x).2) := by unfold smpS; rw [if_pos hE]
    rw [hR]
    obtain ⟨R, hRR⟩ : ∃ R, tidS x = R := ⟨_, rfl⟩
    rw [hRR] at HS hE ⊢
    obtain ⟨y, er⟩ := R
    simp only at HS hE ⊢
    have hne : (er != 0) = true := by simpa using hE
    clear hR hRR hE
    go_enter Tryd.func6, Tryd.ntmps6
    go_wp2_with fail
    generalize hW2 : (w.alloc _).alloc _ = W2
    obtain ⟨gX, gR, hb2, hs2⟩ := box2 hW2
    have GR := Lib.hid gR
    have HB2 := Lib.hid hb2
    clear hW2 gX gR hb2
    with_reducible refine (HS.out W2 HB2.out).mono ?_
    rintro e w3 ⟨a', c', rfl, hxm, hb3⟩
    obtain ⟨wE, hwE⟩ : ∃ wE, wE = w3.alloc (.cells #[.slice a' y.nodes.length c', .int .i64 y.root] 28) := ⟨_, rfl⟩
    have hbE : Below w3.heap.size w3 wE := by rw [hwE]; exact (Below.refl _ _).alloc (Nat.le_refl _) _
    have gR3 := heap_below (Below.next hb3 hbE) GR.out
    have t0 := cell_of_row _ _ 0 _ _ _ gR3
    have t1 := cell_of_row _ _ 1 _ _ _ gR3
    have z0 := frozen_row gR3 0
    have z1 := frozen_row gR3 1
    have GR3 := Lib.hid gR3
    have HB3 := Lib.hid (Below.next HB2.out (Below.next hb3 hbE))
    rw [hwE] at t0 t1 z0 z1
    clear gR3 hb3 hxm HS GR HB2 hbE
    go_wp2_with fail
    rw [← hwE]
    clear t0 t1 z0 z1 hwE
    generalize hWF : (wE.setCell _ _).setCell _ _ = WF
    obtain ⟨e1, hbf⟩ := fin_box GR3.out (by omega) HB3.out hWF
    have HBF := Lib.hid hbf
    have f0 := cell_of_row _ _ 0 _ _ _ e1
    have f1 := cell_of_row _ _ 1 _ _ _ e1
    clear hWF e1 hbf
    refine bodyPost_ret (v := .tuple #[.agg #[.slice none 0 0, .int .i64 0], .int .i64 er]) ?_ rfl (RetX.none_ rfl HBF.out)
    rw [results_cell_tmp rfl]
    go_simp
end Go.Proofs.YtmjgdnpfgkpaoaaDoor
namespace Go.Proofs.YtmjgdnpfgkpaoaaDoor
open Go.RowKit Go.Shelf

set_option maxRecDepth 100000 in
set_option maxHeartbeats 2000000 in
theorem servers_x (x : Xpr) (hx : XprOk x) (a : Option Addr) (n c : Nat) (w : World) (h : XM w a n c x.nodes) :
    Calls Tryd.prog 22 #[.agg #[.slice a n c, .int .i64 x.root]] w fun e w' => e = .returned (.int .u16 (U (srvX x))) ∧ Below w.heap.size w w' := by
  obtain ⟨W2, hW2⟩ : ∃ W2, W2 = w.alloc (.cells #[.slice a n c, .int .i64 x.root] 28) := ⟨_, rfl⟩
  have hb2 : Below w.heap.size w W2 := by rw [hW2]; exact (Below.refl _ w).alloc (Nat.le_refl _) _
  have HX := Lib.hid (h.below hb2)
  have HO := Lib.hid hx
  have HN := Lib.hid h.len
  have hle := h.le
  have hm := h.max
  unfold maxLen at hm
  have HB2 := Lib.hid hb2
  have HE : Hid (srvTo x.nodes n = srvX x) := by show _ = _; unfold srvX; rw [HN.out]
  clear h hb2 hx
  go_enter Tryd.func22, Tryd.ntmps22
  go_wp2_with fail
  rw [← hW2]
  go_loopw [3, 9] (fun v i wr => ∃ k : Nat, k ≤ n ∧ i = .int .i64 k ∧ v = .int .u16 (U (srvTo x.nodes k)) ∧ Below W2.heap.size W2 wr) (fun _ i _ => n - (intOf i).toNat)
  case atStart => exact ⟨0, Nat.zero_le _, rfl, rfl, Below.refl _ _⟩
  case round =>
    obtain ⟨k, hk, rfl, rfl, hb⟩ := hrel
    by_cases hlt : k < n
    · obtain ⟨nd, hnd⟩ : ∃ nd, x.nodes[k]? = some nd := ⟨_, List.getElem?_eq_getElem (by have := HN.out; omega)⟩
      obtain ⟨b, o, ha, hat⟩ := (HX.out.below hb).at' (by omega)
      have hM := hat k nd hnd
      obtain ⟨a3, n3, c3, m3, r3⟩ := hM.ws
      obtain ⟨a4, n4, c4, m4, r4⟩ := hM.ks
      have m0 := hM.c0
      have m1 := hM.c1
      have m2 := hM.c2
      have hst := srvTo_succ hnd
      have HOK := Lib.hid (HO.out.node k nd hnd)
      obtain ⟨S, hS⟩ : ∃ S, srvTo x.nodes k = S := ⟨_, rfl⟩
      rw [hS] at hst ⊢
      subst ha
      have hba : Below W2.heap.size W2 (wr.alloc (Obj.cells #[.int .i64 nd.kind, .int .i64 nd.server, .int .i64 nd.need, .slice a3 n3 c3, .slice a4 n4 c4] 58)) := hb.alloc hb.size _
      obtain ⟨kind, server, need, ws, ks⟩ := nd
      simp only at m0 m1 m2 hst hba
      clear hM r3 r4 hat hnd hS
      by_cases hkind : kind = 1
      · subst hkind
        obtain ⟨sv, rfl⟩ := Int.eq_ofNat_of_zero_le HOK.out.server.1
        rw [if_pos rfl, Int.toNat_natCast] at hst
        have HST := Lib.hid hst
        have hsv := HOK.out.server.2
        simp only at hsv
        clear hst
        go_wp2_with fail
        go_roundw
        case rel => exact ⟨k + 1, by omega, by go_num, by rw [HST.out], hba⟩
        case measure => simp [intOf]; omega
      · have hk2 : (kind == 1) = false := by simpa using hkind
        rw [if_neg hkind] at hst
        have HST := Lib.hid hst
        clear hst hkind
        go_wp2_with fail
        go_roundw
        case rel => exact ⟨k + 1, by omega, by go_num, by rw [HST.out], hba⟩
        case measure => simp [intOf]; omega
    · obtain rfl : k = n := by omega
      rw [HE.out]
      go_wp2_with fail
      go_ret
      exact ⟨rfl, Below.next HB2.out hb⟩
end Go.Proofs.YtmjgdnpfgkpaoaaDoor
namespace Go.Proofs.YtmjgdnpfgkpaoaaDoor
open Go.RowKit Go.Shelf
attribute [local go_sem] Oper.semAt_some

/-- What a round keeps: the blocks of cells that C protects (by their number and their type). -/
structure KeepC (C : Nat → TypeId → Prop) (W W' : World) : Prop where
  size : W.heap.size ≤ W'.heap.size
  keep : ∀ k cur t f, W.heap[k]? = some (.cells cur t f) → C k t → W'.heap[k]? = some (.cells cur t f)

theorem KeepC.refl (C : Nat → TypeId → Prop) (W : World) : KeepC C W W := ⟨Nat.le_refl _, fun _ _ _ _ h _ => h⟩
theorem KeepC.trans {C : Nat → TypeId → Prop} {A B D : World} (h : KeepC C A B) (g : KeepC C B D) : KeepC C A D :=
  ⟨Nat.le_trans h.size g.size, fun k cur t f hk hc => g.keep k cur t f (h.keep k cur t f hk hc) hc⟩
theorem KeepC.of_below (C : Nat → TypeId → Prop) {W W' : World} (hb : Below W.heap.size W W') : KeepC C W W' :=
  ⟨hb.size, fun k _cur _t _f hk _ => (hb.block k (Array.getElem?_eq_some_iff.1 hk).1).trans hk⟩
theorem KeepC.putObj (C : Nat → TypeId → Prop) (W : World) (l : Nat) (o o' : Obj) (h : W.heap[l]? = some o) (ho : o.isCells = false) : KeepC C W (W.putObj l o') := by
  have hlt := (Array.getElem?_eq_some_iff.1 h).1
  have hg := grownBy_putObj' W l o'
  refine ⟨hg.size, fun k cur t f hk _ => ?_⟩
  by_cases e : k = l
  · subst e; rw [h] at hk; cases hk; cases ho
  · exact (World.putObj_heap_other (by omega)).trans hk
theorem cells_of_cell {w : World} {b o : Nat} {v : Value} (h : w.cell? ⟨b, o, none⟩ = some v) : ∃ cur t f, w.heap[b]? = some (.cells cur t f) := by
  unfold World.cell? at h
  cases hb : w.heap[b]? with
  | none => simp [hb] at h
  | some ob =>
    cases ob with
    | cells cs t f => exact ⟨_, _, _, rfl⟩
    | _ => simp [hb] at h
theorem KeepC.cell {C : Nat → TypeId → Prop} {w W : World} (h : KeepC C w W) {b o : Nat} {v : Value} (hc : w.cell? ⟨b, o, none⟩ = some v) (hx : ∀ cur t f, w.heap[b]? = some (.cells cur t f) → C b t) : W.cell? ⟨b, o, none⟩ = some v := by
  obtain ⟨cur, t, f, hb⟩ := cells_of_cell hc
  have := h.keep b cur t f hb (hx _ _ _ hb)
  rw [World.cell?_of_block (a := ⟨b, o, none⟩) (w := w) (w' := W) (this.trans hb.symm)]
  exact hc
theorem HasTab.keepC {C : Nat → TypeId → Prop} {w W : World} (ht : HasTab w) (h : KeepC C w W) (hg : ∀ t, C 0 t) : HasTab W := fun i hi => h.cell (ht i hi) (fun _ t _ _ => hg t)

theorem Rd.keepC {C : Nat → TypeId → Prop} {w W : World} {a : Option Addr} {n c : Nat} {l : List Value} (h : Rd w a n c l) (hk : KeepC C w W) (hx : ∀ b o cur t f, a = some ⟨b, o, none⟩ → w.heap[b]? = some (.cells cur t f) → C b t) : Rd W a n c l := by
  refine ⟨h.len, h.le, h.max, h.nil, fun hn => ?_⟩
  obtain ⟨b, o, ha, hc⟩ := h.at' hn
  exact ⟨b, o, ha, fun i v hv => hk.cell (hc i v hv) (fun cur t f hb => hx b o cur t f ha hb)⟩
theorem Own.type {w w' : World} {e : TypeId} {v : Value} {l : List Value} (h : Own w w' e v l) {b o n c : Nat} (hv : v = .slice (some ⟨b, o, none⟩) n c) {cur : Array Value} {t : TypeId} {f : Nat × Nat} (hb : w'.heap[b]? = some (.cells cur t f)) : t = e := by
  rcases h.2 with ⟨h2, _⟩ | ⟨g, cap, cur', h2, _, hg, _⟩
  · rw [h2] at hv; cases hv
  · rw [h2] at hv; cases hv; rw [hg] at hb; cases hb; rfl

theorem room_of_none {F : Fence} (hd : F.depth = none) (k : Nat) : F.room k := fun d h => by rw [hd] at h; cases h
theorem YieldAt.any {m : Nat} (m' : Nat) {P : Program} {l : Nat} {args : Array Value} {W : World} {R : Ending → World → Prop} (h : YieldAt Fence.wide m P l args W R) : YieldAt Fence.wide m' P l args W R := by
  obtain ⟨fn, tmps, assign, body, hy, hR⟩ := h
  exact ⟨fn, tmps, assign, body, hy, hR.1, fun c cs _ => hR.2 c cs (room_of_none rfl _)⟩
theorem CallsIn.any {n : Nat} (n' : Nat) {P : Program} {f : FuncId} {args : Array Value} {w : World} {R : Ending → World → Prop} (h : CallsIn Fence.wide n P f args w R) : CallsIn Fence.wide n' P f args w R :=
  callsIn_wide.2 (callsIn_wide.1 h)

/-- no subsets with too few or too many members -/
theorem chooseS_out (x : BitVec 16) (k : Int) (h : k < 0 ∨ (cnt x : Int) < k) : chooseS x k = [] := by
  rw [chooseS_dep, List.map_eq_nil_iff]
  unfold numsTo
  rw [List.filter_eq_nil_iff]
  intro n hn
  have hlt := List.mem_range.1 hn
  rw [popR_32 x n hlt, beq_iff_eq]
  have := popR_le (cnt x) n
  omega

theorem dep_take {l : List Nat} {k i : Nat} (h : l[k]? = some i) (n : Nat) : dep (l.take (k + 1)) n = dep (l.take k) n ||| (if n.testBit k then bitS i else 0#16) := by
  have hk := (List.getElem?_eq_some_iff.1 h).1
  rw [List.take_add_one, h]
  show dep (l.take k ++ [i]) n = _
  rw [dep_snoc, List.length_take, show min k l.length = k by omega]

theorem V_pow (c : Nat) (h : c ≤ 16) : V (bitV c) = 2 ^ c := by
  have : 2 ^ c < 2 ^ 32 := Nat.pow_lt_pow_right (by decide) (by omega)
  unfold V bitV
  rw [BitVec.toNat_shiftLeft]
  simp only [BitVec.toNat_ofNat, Nat.shiftLeft_eq]
  rw [show 1 % 2 ^ 32 = 1 by decide, Nat.one_mul, Nat.mod_eq_of_lt this]
  simp
theorem V_first (k : Nat) (h : k ≤ 16) : (bitV k - 1#32).toNat = 2 ^ k - 1 := by
  have h1 := V_pow k h
  have h2 : (bitV k).toNat = 2 ^ k := by unfold V at h1; have : ((2 : Int) ^ k) = ((2 ^ k : Nat) : Int) := by simp
                                         omega
  have hp : 0 < 2 ^ k := Nat.two_pow_pos k
  rw [BitVec.toNat_sub, h2]
  have : 2 ^ k ≤ 2 ^ 16 := Nat.pow_le_pow_right (by decide) h
  simp; omega
@[go_sem] theorem bv32_quo (a b : BitVec 32) : IntKind.u32.wrap ((V a).tdiv (V b)) = V (a / b) := by
  have h : (V a).tdiv (V b) = V (a / b) := by
    unfold V; rw [BitVec.toNat_udiv, Int.tdiv_eq_ediv_of_nonneg (by omega)]; simp
  rw [h, V_wrap]
@[go_sem] theorem bv32_quo' (a b : BitVec 32) : (V a).tdiv (V b) = V (a / b) := by
  unfold V; rw [BitVec.toNat_udiv, Int.tdiv_eq_ediv_of_nonneg (by omega)]; simp
@[go_sem] theorem bv32_quo'' (a b : BitVec 32) : (V a) / (V b) = V (a / b) := by
  unfold V; rw [BitVec.toNat_udiv]; simp
end Go.Proofs.YtmjgdnpfgkpaoaaDoor
namespace Go.Proofs.YtmjgdnpfgkpaoaaDoor
open Go.RowKit Go.Shelf
attribute [local go_sem] Oper.semAt_some

@[go_sem] theorem bv32_shr2 (x : BitVec 32) : (V x) / 4 = V (shrV x 2) := by have := bv32_shr x 2; simpa using this

@[go_sem] theorem V_mod (x : BitVec 32) : V x % 4294967296 = V x := by have := V_bd x; omega
@[go_sem] theorem U_mod (x : BitVec 16) : U x % 65536 = U x := by have := U_bd x; omega

theorem grown_of_below {W W' : World} (h : Below W.heap.size W W') : W.grownBy W' none := ⟨h.os, h.tape, h.output, h.size, fun k hk _ => h.block k hk⟩
theorem abides_below {β : Type} {B : Nat} {J : β → World → Prop} (h : AbidesFrom B J) {s : β} {W W' : World} (hs : J s W) (hb : Below W.heap.size W W') : J s W' :=
  h s W W' none hs (grown_of_below hb) (fun r e => by cases e)

theorem numsTo_lt (k : Int) (n N : Nat) (h : n < N) (hk : (popR 32 n : Int) = k) : (numsTo k n).length < (numsTo k N).length := by
  obtain ⟨d, rfl⟩ : ∃ d, N = n + (1 + d) := ⟨N - n - 1, by omega⟩
  unfold numsTo
  rw [List.range_add, List.filter_append, List.range_add, List.map_append, List.filter_append, List.length_append, List.length_append]
  have e1 : List.filter (fun n => (popR 32 n : Int) == k) (List.map (fun x => n + x) (List.range 1)) = [n] := by simp [List.range_succ, hk]
  rw [e1]
  simp; omega
theorem numsTo_zero (k : Int) (c : Nat) (hk : (popR 32 0 : Int) = k) (hc : c ≤ 16) : numsTo k (2 ^ c) = [0] := by
  have hp : 0 < 2 ^ c := Nat.two_pow_pos c
  have h1 : numsTo k (0 + 1) = [0] := by unfold numsTo; simp [List.range_succ, hk]
  rw [numsTo_cut k (0 + 1) (2 ^ c) (by omega), h1]
  intro m h1 h2
  rw [popR_zero] at hk
  have hm : m < 2 ^ 32 := Nat.lt_of_lt_of_le h2 (Nat.pow_le_pow_right (by decide) (by omega))
  have := popR_pos 32 m hm (by omega)
  omega

set_option maxRecDepth 100000 in
set_option maxHeartbeats 4000000 in
theorem choose_in (l N B : Nat) (C : Nat → TypeId → Prop) (hCi : ∀ k, C k 3) (x : BitVec 16) (J Jx : List (BitVec 16) → World → Prop) (hJ : AbidesFrom B J)
    (hY : ∀ m pre y W, J pre W → pre.length < N → YieldAt Fence.wide m Tryd.prog l #[.int .u16 (U y)] W fun e W' =>
      (e = .returned (.bool true) ∧ J (pre ++ [y]) W' ∧ KeepC C W W') ∨ (e = .returned (.bool false) ∧ Jx (pre ++ [y]) W'))
    (n : Nat) (k : Int) (pre : List (BitVec 16)) (W : World) (ht : HasTab W) (h0 : J pre W) (hN : pre.length + (chooseS x k).length ≤ N) :
    CallsIn Fence.wide n Tryd.prog 50 #[.int .u16 (U x), .int .i64 k, .func (.yield l) #[] #[]] W fun e W' =>
      (e = .returned (.bool true) ∧ J (pre ++ chooseS x k) W' ∧ KeepC C W W') ∨ (e = .returned (.bool false) ∧ ∃ q, q <+: chooseS x k ∧ Jx (pre ++ q) W') := by
  have hcl := cnt_le x
  by_cases hk : 0 ≤ k ∧ k ≤ cnt x
  · obtain ⟨kk, rfl⟩ := Int.eq_ofNat_of_zero_le hk.1
    have hkc : kk ≤ cnt x := by omega
    have hf1 := numsTo_first kk (by omega)
    have hvf := V_first kk (by omega)
    have hpc := Nat.pow_le_pow_right (show 0 < 2 by decide) hkc
    have hp2 := Nat.two_pow_pos kk
    have hc16 : 2 ^ cnt x ≤ 2 ^ 16 := Nat.pow_le_pow_right (by decide) hcl
    have hvc := V_pow (cnt x) hcl
    have hcs := chooseS_dep x kk
    have hd1 : decide ((kk : Int) < 0) = false := by simp
    have hd2 : decide (cnt x < kk) = false := by simp; omega
    have HF := Lib.hid hf1; have HV := Lib.hid hvf; have HPC := Lib.hid hpc; have HP2 := Lib.hid hp2; have HC := Lib.hid hc16; have HVC := Lib.hid hvc; have HCS := Lib.hid hcs
    have HN := Lib.hid hN
    clear hf1 hvf hpc hp2 hc16 hvc hcs hk hN
    have HY := Lib.hid hY
    have HJ := Lib.hid hJ
    have HX := Lib.hid hCi
    clear hY hJ hCi
    refine callsIn_of_wp Tryd.func50 rfl trivial ?_ rfl
    simp only [Tryd.ntmps50, List.size_toArray, List.length_cons, List.length_nil, Nat.reduceAdd, Nat.reduceSub, Array.replicate_succ, Array.replicate_zero, List.push_toArray, List.append_toArray, List.nil_append, List.cons_append]
    have HT := Lib.hid ht
    clear ht
    gi_wp2_with fail
    refine ⟨trivial, fun h => (by cases h), ?_⟩
    refine (callsIn_wide.2 (members_c x _ _ rfl HT.out)).mono ?_
    rintro e W1 ⟨v, rfl, hown, hb⟩
    obtain ⟨la, lc, rfl, hr⟩ := hown.rdn (cnt x) (by simp [cnt])
    have h1 : J pre W1 := abides_below HJ.out h0 hb
    have hkx : KeepC C W W1 := KeepC.of_below C hb
    have hsafe : Hid (∀ b o cur t f, la = some ⟨b, o, none⟩ → W1.heap[b]? = some (.cells cur t f) → C b t) := by
      intro b o cur t f e hbk
      subst e
      rw [hown.type rfl hbk]
      exact HX.out b
    have hrl := hr.le
    have hrm := hr.max
    unfold maxLen at hrm
    clear hown hb h0
    gi_wp2_with fail
    gi_loopw [8] (fun nv wr => ∃ nn : BitVec 32, nv = .int .u32 (V nn) ∧ Hid ((popR 32 nn.toNat : Int) = kk) ∧ J (pre ++ (numsTo kk nn.toNat).map (dep (memS x))) wr ∧ KeepC C W1 wr ∧ Hid (2 ^ cnt x ≤ nn.toNat → numsTo kk nn.toNat = numsTo kk (2 ^ cnt x))) (fun nv _ => 2 ^ cnt x - (intOf nv).toNat)
    case atStart =>
      refine ⟨bitV kk - 1#32, rfl, ?_, ?_, KeepC.refl _ _, ?_⟩
      · rw [HV.out]; exact HF.out.1
      · rw [HV.out, HF.out.2]; simpa using h1
      · intro h; rw [HV.out] at h; have := HPC.out; have := HP2.out; omega
    case round =>
      obtain ⟨nn, rfl, hpop, hj, hkw, hcut⟩ := hrel
      by_cases hlt0 : nn.toNat < 2 ^ cnt x
      · have hdt : decide (V nn < V (bitV (cnt x))) = true := by
          rw [decide_eq_true_eq, HVC.out]; unfold V
          have : ((2 : Int) ^ cnt x) = ((2 ^ cnt x : Nat) : Int) := by simp
          omega
        have hlt := Lib.hid hlt0
        clear hlt0
        have hrw := hr.keepC hkw hsafe.out
        have hlen : Hid ((pre ++ (numsTo kk nn.toNat).map (dep (memS x))).length < N) := by
          have h2 := numsTo_lt kk nn.toNat (2 ^ cnt x) hlt.out hpop.out
          have h3 := HN.out
          rw [HCS.out, List.length_map] at h3
          show _ < N
          rw [List.length_append, List.length_map]
          omega
        gi_wp2_with fail
        gi_loop [9, 34] (fun out i => ∃ j : Nat, j ≤ cnt x ∧ i = .int .i64 j ∧ out = .int .u16 (U (dep ((memS x).take j) nn.toNat))) (fun _ i => cnt x - (intOf i).toNat)
        case atStart => exact ⟨0, Nat.zero_le _, rfl, rfl⟩
        case round =>
          obtain ⟨j, hjc, rfl, rfl⟩ := hrel
          by_cases hjl : j < cnt x
          · obtain ⟨m, hm⟩ : ∃ m, (memS x)[j]? = some m := ⟨_, List.getElem?_eq_getElem (show j < (memS x).length from hjl)⟩
            have hm16 := memS_lt hm
            have hd := Lib.hid (dep_take hm nn.toNat)
            obtain ⟨b, o, rfl, hcell⟩ := hrw.at' (by omega)
            have hc := hcell j (intV m) (by simp [hm])
            unfold intV at hc
            clear hcell hm hrw hr
            cases hb : hasV nn j
            · have hb' : nn.toNat.testBit j = false := hb
              have HB := Lib.hid hb'
              clear hb'
              gi_wp2_with fail
              go_round
              case rel => exact ⟨j + 1, by omega, by go_num, by rw [hd.out, HB.out]; simp⟩
              case measure => simp [intOf]; omega
            · have hb' : nn.toNat.testBit j = true := hb
              have HB := Lib.hid hb'
              clear hb'
              gi_wp2_with fail
              go_round
              case rel => exact ⟨j + 1, by omega, by go_num, by rw [hd.out, HB.out]; simp⟩
              case measure => simp [intOf]; omega
          · have hjE : Hid (List.take j (memS x) = memS x) := by
              show List.take j (memS x) = memS x
              rw [List.take_of_length_le]; unfold cnt at hjl; omega
            rw [hjE.out]
            clear hrw
            obtain ⟨fn, tmps, assign, body, hy, hR⟩ := HY.out n (pre ++ (numsTo kk nn.toNat).map (dep (memS x))) (dep (memS x) nn.toNat) wr hj hlen.out
            have hR' : RoundIn Fence.wide (n - 1) Tryd.prog l fn tmps assign body wr _ := ⟨hR.1, fun c cs _ => hR.2 c cs (room_of_none rfl _)⟩
            clear hR
            by_cases hz : nn = 0#32
            · subst hz
              change (Instr.yield l #[.int .u16 (U (dep (memS x) 0))]).run Tryd.prog wr = _ at hy
              have hE : Hid (chooseS x kk = (numsTo kk 0).map (dep (memS x)) ++ [dep (memS x) 0]) := by
                show chooseS x kk = _
                rw [HCS.out, numsTo_zero kk (cnt x) hpop.out hcl]
                rfl
              gi_wp2_with fail
              refine ⟨fun h => (by cases h), ?_⟩
              refine hR'.mono ?_
              clear hR' hy
              rintro e W3 (⟨rfl, hj3, hk3⟩ | ⟨rfl, hj3⟩)
              · gi_wp2_with fail
                go_ret
                refine .inl ⟨rfl, ?_, hkx.trans (hkw.trans hk3)⟩
                rw [hE.out, ← List.append_assoc]; exact hj3
              · gi_wp2_with fail
                go_ret
                refine .inr ⟨rfl, _, (by rw [hE.out]; exact List.prefix_refl _), ?_⟩
                rw [← List.append_assoc]; exact hj3
            · have hz1 : (nn == 0#32) = false := by simpa using hz
              have hn16 : nn.toNat < 2 ^ 16 := Nat.lt_of_lt_of_le hlt.out HC.out
              obtain ⟨i, jj, A, hrf⟩ := run_form nn.toNat (fun e => hz (BitVec.eq_of_toNat_eq (by simpa using e)))
              obtain ⟨hlow, hi16, _⟩ := next_nat nn hn16 i jj A hrf
              have hl0 : (nn &&& -nn == 0#32) = false := by
                rw [hlow]
                have h5 : 2 ^ i < 2 ^ 16 := Nat.pow_lt_pow_right (by decide) hi16
                have h6 := Nat.two_pow_pos i
                rw [beq_eq_false_iff_ne]
                intro e
                have := congrArg BitVec.toNat e
                simp only [BitVec.toNat_ofNat] at this
                omega
              have hl1 : ¬ V (nn &&& -nn) = 0 := by
                intro e
                rw [← V_zero] at e
                have := V_inj e
                rw [this] at hl0
                exact absurd hl0 (by decide)
              have hnx := numsTo_next kk nn hz hn16 hpop.out
              have hsp := next_spec nn hz hn16
              have HNX := Lib.hid hnx
              have HSP := Lib.hid hsp
              have hpre : Hid ((numsTo kk nn.toNat).map (dep (memS x)) ++ [dep (memS x) nn.toNat] <+: chooseS x kk) := by
                show _ <+: _
                rw [HCS.out]
                obtain ⟨d, hd⟩ : ∃ d, 2 ^ cnt x = nn.toNat + 1 + d := ⟨2 ^ cnt x - nn.toNat - 1, by have := hlt.out; omega⟩
                refine ⟨((List.range' (nn.toNat + 1) d).filter (fun n => (popR 32 n : Int) == kk)).map (dep (memS x)), ?_⟩
                unfold numsTo
                rw [hd, List.range_eq_range' (n := nn.toNat + 1 + d), ← List.range'_append_1, Nat.zero_add, List.filter_append, List.map_append]
                congr 1
                rw [← List.range_eq_range', List.range_succ, List.filter_append, List.map_append]
                congr 1
                simp [hpop.out]
              clear hz hrf hlow hnx hsp
              gi_wp2_with fail
              refine ⟨fun h => (by cases h), ?_⟩
              refine hR'.mono ?_
              clear hR' hy
              rintro e W3 (⟨rfl, hj3, hk3⟩ | ⟨rfl, hj3⟩)
              · gi_wp2_with fail
                go_roundw
                case rel =>
                  refine ⟨nextV nn, rfl, HNX.out.2.1, ?_, hkw.trans hk3, ?_⟩
                  · rw [HNX.out.2.2, List.map_append, ← List.append_assoc]; exact hj3
                  · intro hge
                    refine numsTo_cut _ _ _ hge fun m h1 h2 => ?_
                    have h3 := HSP.out.2.2 m (Nat.lt_of_lt_of_le hlt.out h1) h2
                    have h4 := hpop.out
                    omega
                case measure =>
                  have h1 := HNX.out.1
                  have h2 := hlt.out
                  show 2 ^ cnt x - (V (nextV nn)).toNat < 2 ^ cnt x - (V nn).toNat
                  unfold V
                  rw [Int.toNat_natCast, Int.toNat_natCast]
                  omega
              · gi_wp2_with fail
                go_ret
                refine .inr ⟨rfl, _, hpre.out, ?_⟩
                rw [← List.append_assoc]; exact hj3
      · have hdt : decide (V nn < V (bitV (cnt x))) = false := by
          rw [decide_eq_false_iff_not, HVC.out]; unfold V
          have : ((2 : Int) ^ cnt x) = ((2 ^ cnt x : Nat) : Int) := by simp
          omega
        have hE : Hid (numsTo kk nn.toNat = numsTo kk (2 ^ cnt x)) := hcut.out (by omega)
        clear hlt0
        gi_wp2_with fail
        go_ret
        refine .inl ⟨rfl, ?_, hkx.trans hkw⟩
        rw [HCS.out, ← hE.out]; exact hj
  · have hE : Hid (chooseS x k = []) := chooseS_out x k (by omega)
    have HT := Lib.hid ht
    have HJ := Lib.hid hJ
    clear ht hCi hJ hY hN
    refine callsIn_of_wp Tryd.func50 rfl trivial ?_ rfl
    simp only [Tryd.ntmps50, List.size_toArray, List.length_cons, List.length_nil, Nat.reduceAdd, Nat.reduceSub, Array.replicate_succ, Array.replicate_zero, List.push_toArray, List.append_toArray, List.nil_append, List.cons_append]
    gi_wp2_with fail
    refine ⟨trivial, fun h => (by cases h), ?_⟩
    refine (callsIn_wide.2 (members_c x _ _ rfl HT.out)).mono ?_
    rintro e W1 ⟨v, rfl, hown, hb⟩
    obtain ⟨la, lc, rfl, hr⟩ := hown.rdn (cnt x) (by simp [cnt])
    have h1 : J pre W1 := abides_below HJ.out h0 hb
    have hkx : KeepC C W W1 := KeepC.of_below C hb
    clear hown hr h0
    by_cases hk0 : k < 0
    · gi_wp2_with fail
      go_ret
      exact .inl ⟨rfl, by rw [hE.out, List.append_nil]; exact h1, hkx⟩
    · have hk1 : (cnt x : Int) < k := by omega
      gi_wp2_with fail
      go_ret
      exact .inl ⟨rfl, by rw [hE.out, List.append_nil]; exact h1, hkx⟩
end Go.Proofs.YtmjgdnpfgkpaoaaDoor
namespace Go.Proofs.YtmjgdnpfgkpaoaaDoor
open Go.RowKit Go.Shelf
attribute [local go_sem] Oper.semAt_some

theorem subsTo_prefix (x : BitVec 16) (k : Nat) (h : k ≤ cnt x) (q : List (BitVec 16)) (hq : q <+: chooseS x k) : subsTo x k ++ q <+: subsS x := by
  obtain ⟨d, hd⟩ : ∃ d, cnt x + 1 = (k + 1) + d := ⟨cnt x - k, by omega⟩
  obtain ⟨r, hr⟩ := hq
  unfold subsS
  rw [hd]
  refine ⟨r ++ ((List.range d).map (fun i => k + 1 + i)).flatMap (fun (k : Nat) => chooseS x (k : Int)), ?_⟩
  have e : subsTo x (k + 1 + d) = subsTo x (k + 1) ++ ((List.range d).map (fun i => k + 1 + i)).flatMap (fun (k : Nat) => chooseS x (k : Int)) := by
    unfold subsTo; rw [List.range_add, List.flatMap_append]
  rw [e, subsTo_succ, ← hr]
  simp [List.append_assoc]

set_option maxRecDepth 100000 in
set_option maxHeartbeats 2000000 in
theorem subsets1_stops (n Bs : Nat) (C : Nat → TypeId → Prop) (hCi : ∀ k, C k 3) (hCg : ∀ t, C 0 t) (hCs : ∀ t, C Bs t) (x : BitVec 16) (w : World) (ht : HasTab w)
    (hs : w.cell? ⟨Bs, 0, none⟩ = some (.int .u16 (U x))) :
    SeqStopsK Fence.wide n Tryd.prog 48 #[.pointer (some ⟨Bs, 0, none⟩)] (fun y : BitVec 16 => #[Value.int .u16 (U y)]) (KeepC C) (fun ys => ys = subsS x) (fun pre => pre <+: subsS x) (subsS x).length w := by
  intro l J Jx W hW hJ hJx hY h0
  have hs' : W.cell? ⟨Bs, 0, none⟩ = some (.int .u16 (U x)) := (hW.cell (p := ⟨Bs, 0, none⟩) (cell_lt hs)).trans hs
  have hc := fun k => choose_in l (subsS x).length W.heap.size C hCi x J Jx hJ (fun m pre y W hj hl => YieldAt.any m (hY pre y W hj hl)) (n - 1) k
  have HC := Lib.hid hc
  have HT := Lib.hid (ht.below hW)
  have HJ := Lib.hid hJ
  have HCS := Lib.hid hCs
  have HCG := Lib.hid hCg
  have HS := Lib.hid hs'
  have hcl := cnt_le x
  clear hc hY hJ hJx hW hCi hCg hCs hs ht hs'
  refine callsIn_of_wp Tryd.func48 rfl trivial ?_ rfl
  simp only [Tryd.ntmps48, List.size_toArray, List.length_cons, List.length_nil, Nat.reduceAdd, Nat.reduceSub, Array.replicate_succ, Array.replicate_zero, List.push_toArray, List.append_toArray, List.nil_append, List.cons_append]
  gi_wp2_with fail
  gi_loopw [3] (fun i wr => ∃ k : Nat, k ≤ cnt x + 1 ∧ i = .int .i64 k ∧ J (subsTo x k) wr ∧ KeepC C W wr) (fun i _ => cnt x + 1 - (intOf i).toNat)
  case atStart => exact ⟨0, Nat.zero_le _, rfl, h0, KeepC.refl _ _⟩
  case round =>
    obtain ⟨k, hk, rfl, hj, hkw⟩ := hrel
    have hsw : wr.cell? ⟨Bs, 0, none⟩ = some (.int .u16 (U x)) := hkw.cell HS.out (fun _ t _ _ => HCS.out t)
    gi_wp2_with fail
    refine ⟨trivial, fun h => (by cases h), ?_⟩
    refine (callsIn_wide.2 (count_c x _ _ rfl)).mono ?_
    rintro e W1 ⟨rfl, q, rfl⟩
    have hb1 : Below wr.heap.size wr (wr.drewN q) := below_drewN (Below.refl _ _)
    have hj1 := abides_below HJ.out hj hb1
    have hk1 := hkw.trans (KeepC.of_below C hb1)
    clear hj hkw
    by_cases hlt : k ≤ cnt x
    · have HT1 := Lib.hid (HT.out.keepC hk1 HCG.out)
      have hlen : (subsTo x k).length + (chooseS x k).length ≤ (subsS x).length := by
        obtain ⟨r, hr⟩ := subsTo_prefix x k hlt _ (List.prefix_refl _)
        rw [← hr]; simp
      have hpr := fun q hq => subsTo_prefix x k hlt q hq
      have HP := Lib.hid hpr
      have hss := Lib.hid (subsTo_succ x k)
      clear hpr
      gi_wp2_with fail
      refine ⟨trivial, fun h => (by cases h), ?_⟩
      refine (HC.out k _ _ HT1.out hj1 hlen).mono ?_
      clear hlen hj1
      rintro e W2 (⟨rfl, hj2, hk2⟩ | ⟨rfl, q, hq, hx⟩)
      · gi_wp2_with fail
        go_roundw
        case rel => exact ⟨k + 1, by omega, by go_num, by rw [hss.out]; exact hj2, hk1.trans hk2⟩
        case measure => simp [intOf]; omega
      · gi_wp2_with fail
        go_end0
        exact ⟨⟨_, rfl⟩, .inr ⟨_, HP.out q hq, hx⟩⟩
    · have hE : Hid (subsTo x k = subsS x) := by
        have : k = cnt x + 1 := by omega
        show subsTo x k = subsTo x (cnt x + 1)
        rw [this]
      gi_wp2_with fail
      refine ⟨trivial, ?_⟩
      gi_wp2_with fail
      go_end0
      exact ⟨⟨_, rfl⟩, .inl ⟨_, rfl, by rw [← hE.out]; exact hj1⟩⟩

/-- what a loop that collects sets protects: all that lay when it began, and all that is neither a slice's box nor a row of sets -/
def CCol (base : Nat) (k : Nat) (t : TypeId) : Prop := k < base ∨ (t ≠ 33 ∧ t ≠ 52)

theorem keepC_append {base B : Nat} {W w1 : World} {v v' : Value} {k : Nat} {xs : List Value} {tmp : Obj} (hBb : base ≤ B)
    (hv : Boxed W B 33 v) (hrow : W.ownsRow base 52 1 v k xs)
    (hgrow : (W.alloc tmp).grownBy w1 v.ownBlock) (hv1 : Boxed w1 B 33 v) : KeepC (CCol base) W (w1.setCell ⟨B, 0, none⟩ v') := by
  have h1 := hgrow.size
  simp only [World.size_alloc] at h1
  refine ⟨by have := (grownBy_setCell' w1 B v').size; omega, fun j cur t f hj hc => ?_⟩
  have hlt := (Array.getElem?_eq_some_iff.1 hj).1
  have hjB : j ≠ B := by
    intro e; subst e
    have := (show W.heap[j]? = _ from hv).symm.trans hj
    simp only [Option.some.injEq, Obj.cells.injEq] at this
    rcases hc with hc | hc
    · omega
    · exact hc.1 this.2.1.symm
  have hjv : some j ≠ v.ownBlock := by
    intro e
    have h2 := hrow.lt j e.symm
    rcases hc with hc | hc
    · omega
    · rcases hrow.2 with ⟨rfl, _⟩ | ⟨g, cap, cur', rfl, _, hg, _⟩
      · simp [Value.ownBlock] at e
      · obtain rfl : j = g := by simpa [Value.ownBlock] using e
        rw [hg] at hj; cases hj; exact hc.2 rfl
  rw [Below.heap_setCell _ _ _ _ hjB, hgrow.block j (by simp; omega) hjv, Below.heap_alloc _ _ _ hlt]
  exact hj

theorem kT_b {C : Nat → TypeId → Prop} {w : World} (W : World) (l : Nat) (o o' : Obj) (_ : w.heap.size ≤ l) (h : W.heap[l]? = some o) (ho : o.isCells = false) (_ : o.isWalk = false) : KeepC C W (W.putObj l o') := KeepC.putObj C W l o o' h ho

set_option maxHeartbeats 400000 in
theorem subsets_c (x : BitVec 16) (s : Int) (w : World) (hs : s = U x) :
    Calls Tryd.prog 21 #[.int .u16 s] w fun e w' => e = .returned (.func (.func 48) #[] #[.pointer (some ⟨w.heap.size, 0, none⟩)]) ∧ w' = w.alloc (.cells #[.int .u16 (U x)] 52) := by
  subst hs
  go_enter Tryd.func21, Tryd.ntmps21
  go_wp2
  go_ret
  exact ⟨rfl, rfl⟩

end Go.Proofs.YtmjgdnpfgkpaoaaDoor
namespace Go.Proofs.YtmjgdnpfgkpaoaaDoor
open Go.RowKit Go.Shelf
attribute [local go_sem] Oper.semAt_some
theorem wide_fnx (f : FuncId) : Fence.wide.fn f = True := rfl
attribute [local simp] wide_fnx

def markE (D : Nat) : Deferred := { target := .collected D, args := #[] }
theorem rangeFunc_x {α : Type} {F : Fence} {n : Nat} {P : Program} {g : Operand} {ps : Array Tmp} {assign body : Code} {Q : Exit → Act → World → Prop} {a : Act} {w : World}
    (hro : F.round = none) (h1 : 1 ≤ n) {gf : Nat} {lb : Array Value} (hg : a.eval g = .func (.func gf) #[] lb) (hFg : F.fn gf) (eg : ∀ args w, (callFunc gf args).run P w = .ok (.enter gf args) w)
    {encs : α → Array Value} {Kp : World → World → Prop} {S Sp : List α → Prop} {N : Nat} {w0 : World} (hseq : SeqStopsK F (n - 1) P gf lb encs Kp S Sp N w0)
    (hKt : ∀ {A B C : World}, Kp A B → Kp B C → Kp A C) (hKb : ∀ (W : World) (l : Nat) (o o' : Obj), w.heap.size ≤ l → W.heap[l]? = some o → o.isCells = false → o.isWalk = false → Kp W (W.putObj l o')) (hb0 : Below w0.heap.size w0 w) (hps : ∀ x, (encs x).size = ps.size)
    (I : List α → World → Prop) (Ix : Code → List α → World → Prop) (hI : OwnFrom w.heap.size I) (hIx : ∀ c, OwnFrom w.heap.size (Ix c)) (h0 : I [] w)
    (hdone : ∀ (D : Nat) (xs : List α) (W : World), w.heap.size ≤ D → S xs → I xs W → W.heap[D]? = some (.deferred (some [])) → Q .normal { a with defers := { target := .collected D, args := #[] } :: a.defers } W)
    (hstop : ∀ (D : Nat) (c : Code) (pre : List α) (W : World), w.heap.size ≤ D → Sp pre → Ix c pre W → W.heap[D]? = some (.deferred (some [])) → c.wpIn F n P Q { a with defers := { target := .collected D, args := #[] } :: a.defers } W)
    (hA : ∃ a₁ : α → Act, (∀ (l : Nat) (x : α) (W : World) (K : Act → World → Prop), K (a₁ x) W →
      assign.wpIn (F.inRound l) (n - 1 - 1) P (Exit.then K (fun _ _ _ => False)) { tmps := (ps.zip (encs x)).foldl (fun t (p, v) => t.setIfInBounds p v) a.tmps, defers := [] } W) ∧
      ∀ (l : Nat) (pre : List α) (x : α) (W : World), I pre W → pre.length < N → body.wpIn (F.inRound l) (n - 1 - 1) P (ownPostG w.heap.size Kp I Ix (pre ++ [x]) W) (a₁ x) W) :
    (Code.rangeFunc g ps assign body).wpIn F n P Q a w := by
  obtain ⟨a₁, h2, h3⟩ := hA
  exact wpIn_rangeFunc_ownG hro h1 hg hFg eg hseq (fun h k => hKt h k) hKb hb0 hps I Ix hI hIx h0 a₁ h2 h3 hdone hstop

theorem results_cell_cell {fn : Func} {p q : Tmp} {ty ty' : TypeId} (h : fn.results = #[.cell p ty, .cell q ty']) (tmps : Array Value) (P : Program) (w : World) :
    (results fn tmps).run P w =
      ((asAddr (tmps.getD p undef)).run P w).andThen fun a w₁ => ((loadVar ty a).run P w₁).andThen fun v w₂ => ((asAddr (tmps.getD q undef)).run P w₂).andThen fun a' w₃ => ((loadVar ty' a').run P w₃).andThen fun v' w₄ => .ok (.tuple #[v, v']) w₄ := by
  simp only [results, h]
  simp [Sem.run_bind, Result.andThen]
/-- all that lay when a loop began is kept, but for one box -/
def CBox (base Bo : Nat) (k : Nat) (t : TypeId) : Prop := (k < base ∧ k ≠ Bo) ∨ (t ≠ 33 ∧ t ≠ 52)
theorem keepC_box {base B : Nat} {W w1 : World} {v v' : Value} {k : Nat} {xs : List Value} {tmp : Obj}
    (hv : Boxed W B 33 v) (hrow : W.ownsRow base 52 1 v k xs)
    (hgrow : (W.alloc tmp).grownBy w1 v.ownBlock) : KeepC (CBox base B) W (w1.setCell ⟨B, 0, none⟩ v') := by
  have h1 := hgrow.size
  simp only [World.size_alloc] at h1
  refine ⟨by have := (grownBy_setCell' w1 B v').size; omega, fun j cur t f hj hc => ?_⟩
  have hlt := (Array.getElem?_eq_some_iff.1 hj).1
  have hjB : j ≠ B := by
    intro e; subst e
    have := (show W.heap[j]? = _ from hv).symm.trans hj
    simp only [Option.some.injEq, Obj.cells.injEq] at this
    rcases hc with hc | hc
    · exact hc.2 rfl
    · exact hc.1 this.2.1.symm
  have hjv : some j ≠ v.ownBlock := by
    intro e
    have h2 := hrow.lt j e.symm
    rcases hc with hc | hc
    · omega
    · rcases hrow.2 with ⟨rfl, _⟩ | ⟨g, cap, cur', rfl, _, hg, _⟩
      · simp [Value.ownBlock] at e
      · obtain rfl : j = g := by simpa [Value.ownBlock] using e
        rw [hg] at hj; cases hj; exact hc.2 rfl
  rw [Below.heap_setCell _ _ _ _ hjB, hgrow.block j (by simp; omega) hjv, Below.heap_alloc _ _ _ hlt]
  exact hj
def FillsX (B0 Ba : Nat) (W : World) (l : List (BitVec 16)) : Prop := ∃ v, Boxed W Ba 33 v ∧ W.ownsRow B0 52 1 v l.length (l.map setV) ∧ True
theorem fillsx_own (B0 Ba B : Nat) : OwnFrom B (fun (l : List (BitVec 16)) W => FillsX B0 Ba W l) :=
  Own.from (holdsRow_own B0 Ba 33 52 1 (fun l : List (BitVec 16) => l.length) (fun l => l.map setV) (fun _ _ => True)) B
def BelX (B : Nat) (W : World) (s : Nat) (Wr : World) : Prop := Below B W Wr ∧ s ≤ Wr.heap.size
theorem belx_own {B0 B s : Nat} {W : World} (hn : B0 ≤ W.heap.size) (hB : B0 ≤ B) : OwnFrom B (fun (_ : List (BitVec 16)) Wr => BelX B0 W s Wr) :=
  OwnFrom.and (ownFrom_below hn hB) (fun _ _ _ _ h hg _ => Nat.le_trans h hg.size)
theorem blkx_own {D B : Nat} {ob : Obj} (h : D < B) : OwnFrom B (fun (_ : List (BitVec 16)) W => W.heap[D]? = some ob) := fun _ W W' row hm hg hr =>
  (hg.block D (Array.getElem?_eq_some_iff.1 hm).1 (fun e => by have := (hr D e.symm).1; omega)).trans hm
theorem purex_own {p : List (BitVec 16) → Prop} (B : Nat) : OwnFrom B (fun l (_ : World) => p l) := fun _ _ _ _ h _ _ => h
theorem keepsFrom_below {B : Nat} {W W' : World} (h : Below W.heap.size W W') : KeepsFrom B W W' := ⟨h.size, fun k _o _ hk _ => (h.block k (Array.getElem?_eq_some_iff.1 hk).1).trans hk⟩

/-- what has been found behind some subsets -/
def famP (x : Xpr) (pre : List (BitVec 16)) : List (BitVec 16) := pre.foldl (famStep x) []
theorem famP_snoc (x : Xpr) (pre : List (BitVec 16)) (s : BitVec 16) : famP x (pre ++ [s]) = famStep x (famP x pre) s := by unfold famP; rw [List.foldl_append]; rfl
theorem famP_all (x : Xpr) : famP x (subsS (srvX x)) = famS x := rfl
theorem famP_grow (x : Xpr) : ∀ (l o : List (BitVec 16)), o.length ≤ (l.foldl (famStep x) o).length
  | [], o => Nat.le_refl _
  | s :: l, o => by
    rw [List.foldl_cons]
    refine Nat.le_trans ?_ (famP_grow x l _)
    unfold famStep
    split
    · exact Nat.le_refl _
    · split <;> simp
theorem famP_prefix (x : Xpr) {pre l : List (BitVec 16)} (h : pre <+: l) : (famP x pre).length ≤ (famP x l).length := by
  obtain ⟨r, rfl⟩ := h
  unfold famP
  rw [List.foldl_append]
  exact famP_grow x r _
def FamR (x : Xpr) (w : World) (e : Ending) (w' : World) : Prop :=
  ∃ a' c', e = .returned (.tuple #[.slice a' (famE x).1.length c', .int .i64 (famE x).2]) ∧ Rd w' a' (famE x).1.length c' ((famE x).1.map setV) ∧ Below w.heap.size w w'

set_option maxRecDepth 100000 in
set_option maxHeartbeats 8000000 in
theorem family_in (x : Xpr) (hx : xprE x = 0) (hf : XprFew x) (a : Option Addr) (n c : Nat) (w : World) (ht : HasTab w) (h : XM w a n c x.nodes) :
    CallsIn Fence.wide 5 Tryd.prog 7 #[.agg #[.slice a n c, .int .i64 x.root]] w fun e w' => FamR x w e w' := by
  obtain ⟨i0, hi0, hz0, hz1, hz2⟩ := info_parts Tryd.infoSet
  have HT := Lib.hid ht
  have H1 := Lib.hid (fun (u : World) (hb : Below w.heap.size w u) => xpr_c x a n c u (h.below hb))
  rw [hx] at H1
  have hok := xprE_ok hx
  have H2 := Lib.hid (fun (u : World) (hb : Below w.heap.size w u) => servers_x x hok a n c u (h.below hb))
  have H4 := Lib.hid (fun (s : BitVec 16) (u : World) (hb : Below w.heap.size w u) => holds_c x hok hf s a n c u (h.below hb))
  have HE : Hid (famE x = if 400 < (famS x).length then ([], 3) else (famS x, 0)) := Lib.hid (by unfold famE; rw [if_neg (by rw [hx]; simp)])
  have HN3 : Hid (True) := Lib.hid trivial
  clear ht h hx hok
  refine callsIn_of_wp_marks Tryd.func7 rfl trivial ?_ rfl
  simp only [Tryd.ntmps7, List.size_toArray, List.length_cons, List.length_nil, Nat.reduceAdd, Nat.reduceSub, Array.replicate_succ, Array.replicate_zero, List.push_toArray, List.append_toArray, List.nil_append, List.cons_append]
  gi_wp2_with fail
  generalize hW3 : ((w.alloc _).alloc _).alloc _ = w3
  obtain ⟨gX, gR, gE, hb3, hs3⟩ := box3 hW3
  have GX := Lib.hid gX
  have GR := Lib.hid gR
  have GE := Lib.hid gE
  have HB3 := Lib.hid hb3
  clear hW3 gX gR gE hb3
  refine (callsIn_wide.2 (H1.out w3 HB3.out)).mono ?_
  rintro e w4 ⟨rfl, hb4⟩
  obtain ⟨wB, hwB⟩ : ∃ wB, wB = w4.alloc (.cells #[.slice none 0 0] 33) := ⟨_, rfl⟩
  have hbB : Below w4.heap.size w4 wB := by rw [hwB]; exact (Below.refl _ _).alloc (Nat.le_refl _) _
  have gB : wB.heap[w4.heap.size]? = some (.cells #[.slice none 0 0] 33 (0, 0)) := by rw [hwB]; exact heap_alloc_new _ _
  have hsB : wB.heap.size = w4.heap.size + 1 := by rw [hwB]; simp
  have GXB := Lib.hid (heap_below (Below.next hb4 hbB) GX.out)
  have GRB := Lib.hid (heap_below (Below.next hb4 hbB) GR.out)
  have GEB := Lib.hid (heap_below (Below.next hb4 hbB) GE.out)
  have HBB := Lib.hid (Below.next HB3.out (Below.next hb4 hbB))
  have GB := Lib.hid gB
  have hs4 := hb4.size
  have HH2 := Lib.hid (H2.out wB HBB.out)
  obtain ⟨⟨x0, x1⟩, _⟩ := open2 GXB.out
  rw [hwB] at x0 x1
  clear hb4 hbB gB GX GR GE
  gi_wp2_with fail
  rw [← hwB]
  clear x0 x1 hwB
  refine (callsIn_wide.2 HH2.out).mono ?_
  rintro e w5 ⟨rfl, hb5⟩
  have HB5 := Lib.hid hb5
  have hs5 := hb5.size
  clear hb5
  gi_wp2_with fail
  refine (callsIn_wide.2 (subsets_c (srvX x) _ _ rfl)).mono ?_
  rintro e w6 ⟨rfl, hw6⟩
  have hb6 : Below w5.heap.size w5 w6 := by rw [hw6]; exact (Below.refl _ _).alloc (Nat.le_refl _) _
  have gS6 : w6.cell? ⟨w5.heap.size, 0, none⟩ = some (.int .u16 (U (srvX x))) := by rw [hw6]; exact cell_new _ _ _ 0 _ rfl
  have hs6 : w6.heap.size = w5.heap.size + 1 := by rw [hw6]; simp
  have HB6 := Lib.hid (Below.next HBB.out (Below.next HB5.out hb6))
  have G6 := Lib.hid (heap_below (Below.next HB5.out hb6) GB.out)
  have GX6 := Lib.hid (heap_below (Below.next HB5.out hb6) GXB.out)
  have GR6 := Lib.hid (heap_below (Below.next HB5.out hb6) GRB.out)
  have GE6 := Lib.hid (heap_below (Below.next HB5.out hb6) GEB.out)
  obtain ⟨Bo, hBo⟩ : ∃ Bo, w4.heap.size = Bo := ⟨_, rfl⟩
  rw [hBo] at G6 hs4 hsB ⊢
  have hBw : w.heap.size + 3 ≤ Bo := by omega
  have hB6 : Bo + 1 ≤ w6.heap.size := by omega
  have hBs : w5.heap.size < w6.heap.size := by omega
  have hBne : w5.heap.size ≠ Bo := by omega
  have HSQ := Lib.hid (fun m => subsets1_stops m w5.heap.size (CBox w6.heap.size Bo) (fun k => .inr ⟨by decide, by decide⟩) (fun t => .inl ⟨Nat.lt_of_lt_of_le (cell_lt (HT.out 0 (by decide))) HB6.out.size, by have := cell_lt (HT.out 0 (by decide)); omega⟩) (fun t => .inl ⟨hBs, hBne⟩) (srvX x) w6 (HT.out.below HB6.out) gS6)
  clear hb6 gS6 hw6 HB5 HBB GB GXB GRB GEB hs5 hs6 hsB hs4 hs3 hBo
  gi_wp2_with fail
  refine rangeFunc_x rfl (by decide) rfl trivial (enters_of Tryd.func48 (by kernel_rfl) rfl) (HSQ.out _) KeepC.trans kT_b (Below.refl _ _) (fun _ => rfl)
      (fun pre Wr => FillsX w6.heap.size Bo Wr (famP x pre) ∧ (famP x pre).length ≤ 400 ∧ BelX Bo w6 w6.heap.size Wr)
      (fun c ys Wr => c = .ret ∧ 400 < (famP x ys).length ∧ BelX w.heap.size w6 w6.heap.size Wr ∧ Wr.heap[w.heap.size + 1]? = some (.cells #[.slice none 0 0] 33 (0, 0)) ∧ Wr.heap[w.heap.size + 1 + 1]? = some (.cells #[.int .i64 3] 30 (0, 0)))
      ?hI ?hIx ?h0 ?done ?stop ?A
  case hI => exact OwnFrom.and (fun pre W W' row h hg hr => fillsx_own _ _ _ (famP x pre) W W' row h hg hr) (OwnFrom.and (purex_own (p := fun pre => (famP x pre).length ≤ 400) _) (belx_own (by omega) (by omega)))
  case hIx =>
    intro c
    exact OwnFrom.and (purex_own (p := fun _ => c = .ret) _) (OwnFrom.and (purex_own (p := fun ys => 400 < (famP x ys).length) _) (OwnFrom.and (belx_own (by omega) (by omega)) (OwnFrom.and (blkx_own (by omega)) (blkx_own (by omega)))))
  case h0 => exact ⟨⟨_, G6.out, World.ownsRow_nil _ _ _ _, trivial⟩, Nat.zero_le _, Below.refl _ _, Nat.le_refl _⟩
  case done =>
    rintro D ys W hD rfl ⟨⟨v, hv, hrow, _⟩, hlen, hB⟩ hK
    rw [famP_all] at hrow hlen
    have HR : Hid (famE x = (famS x, 0)) := Lib.hid (by rw [HE.out, if_neg (by omega)])
    obtain ⟨nn, hnn⟩ : ∃ nn, (famS x).length = nn := ⟨_, rfl⟩
    rw [hnn] at hrow
    obtain ⟨av, cv, rfl, hrd⟩ := rd_of_row hrow
    have hc := hv.cell
    have gR := (hB.1.block (w.heap.size + 1) (by omega)).trans GR6.out
    have gE := (hB.1.block (w.heap.size + 1 + 1) (by omega)).trans GE6.out
    have r0 := cell_of_row _ _ 0 _ _ _ gR
    have r1 := cell_of_row _ _ 0 _ _ _ gE
    have z0 := frozen_row gR 0
    have z1 := frozen_row gE 0
    have HGR := Lib.hid gR
    have HGE := Lib.hid gE
    have HB := Lib.hid hB
    have HV := Lib.hid hv
    have HROW := Lib.hid hrow
    clear hv hrow hB gR gE hrd
    gi_wp2_with fail
    clear r0 r1 z0 z1 hc
    generalize hWA : W.setCell _ _ = WA
    have gRA : WA.heap[w.heap.size + 1]? = some (.cells #[.slice av nn cv] 33 (0, 0)) := by rw [← hWA, heap_set_at HGR.out]; rfl
    have gEA : WA.heap[w.heap.size + 1 + 1]? = some (.cells #[.int .i64 0] 30 (0, 0)) := by rw [← hWA]; exact heap_set_other (by omega) _ _ HGE.out
    have hoA : ∀ g, g ≠ w.heap.size + 1 → WA.heap[g]? = W.heap[g]? := fun g hg => by rw [← hWA]; exact Below.heap_setCell _ ⟨w.heap.size + 1, 0, none⟩ _ g hg
    have hsA : WA.heap.size = W.heap.size := by rw [← hWA]; simp
    have hbA : Below w.heap.size W WA := by rw [← hWA]; exact (Below.refl _ _).setCell (p := ⟨w.heap.size + 1, 0, none⟩) (by show w.heap.size ≤ w.heap.size + 1; omega) _
    generalize hWZ : WA.setCell _ _ = WZ
    have gRZ : WZ.heap[w.heap.size + 1]? = some (.cells #[.slice av nn cv] 33 (0, 0)) := by rw [← hWZ]; exact heap_set_other (by omega) _ _ gRA
    have gEZ : WZ.heap[w.heap.size + 1 + 1]? = some (.cells #[.int .i64 0] 30 (0, 0)) := by rw [← hWZ, heap_set_at gEA]; rfl
    have hoZ : ∀ g, g ≠ w.heap.size + 1 → g ≠ w.heap.size + 1 + 1 → WZ.heap[g]? = W.heap[g]? := fun g h1 h2 => by rw [← hWZ]; exact (Below.heap_setCell _ ⟨w.heap.size + 1 + 1, 0, none⟩ _ g h2).trans (hoA g h1)
    have hsZ : WZ.heap.size = W.heap.size := by rw [← hWZ]; simpa using hsA
    have hbZ : Below w.heap.size W WZ := by rw [← hWZ]; exact hbA.setCell (p := ⟨w.heap.size + 1 + 1, 0, none⟩) (by show w.heap.size ≤ w.heap.size + 1 + 1; omega) _
    have hKZ : WZ.heap[D]? = some (.deferred (some [])) := (hoZ D (by omega) (by omega)).trans hK
    have hlt := HROW.out.lt
    have hBs := HB.out.2
    refine ⟨by simp, .inl ⟨_, _, rfl, run_takeDeferred hKZ, ?_⟩⟩
    have gR2 : (WZ.putObj D (.deferred none)).heap[w.heap.size + 1]? = some (.cells #[.slice av nn cv] 33 (0, 0)) := (World.putObj_heap_other (by omega)).trans gRZ
    have gE2 : (WZ.putObj D (.deferred none)).heap[w.heap.size + 1 + 1]? = some (.cells #[.int .i64 0] 30 (0, 0)) := (World.putObj_heap_other (by omega)).trans gEZ
    have f0 := cell_of_row _ _ 0 _ _ _ gR2
    have f1 := cell_of_row _ _ 0 _ _ _ gE2
    have hrow2 : WZ.ownsRow w6.heap.size 52 1 (.slice av nn cv) nn ((famS x).map setV) := rowK_at HROW.out fun g hg => hoZ g (by have := hlt g hg; omega) (by have := hlt g hg; omega)
    have hrow3 := ownsRow_putObj hrow2 (.deferred none) hKZ rfl
    have hbF : Below w.heap.size w (WZ.putObj D (.deferred none)) := (HB6.out.trans ((HB.out.1.mono (by omega)).trans hbZ)).grown (grownBy_putObj' WZ D _) (by omega) (fun k hk => by injection hk with hk; omega)
    obtain ⟨_, _, e9, hrd⟩ := rd_of_row hrow3
    cases e9
    have HRD := Lib.hid hrd
    have HBF := Lib.hid hbF
    clear gR2 gE2 hrow2 hrow3 hbF hrd
    refine ⟨.tuple #[.slice av nn cv, .int .i64 0], ?_, ⟨av, cv, ?_, ?_, HBF.out⟩⟩
    · rw [results_cell_cell rfl]
      go_simp
    · rw [HR.out]; show _ = Ending.returned (.tuple #[.slice av (famS x).length cv, .int .i64 0]); rw [hnn]
    · rw [HR.out]; show Rd _ av (famS x).length cv ((famS x).map setV); rw [hnn]; exact HRD.out
  case stop =>
    rintro D c ys W hD hp ⟨rfl, hl, hB, hr2, hr3⟩ hK
    have hgt : 400 < (famS x).length := Nat.lt_of_lt_of_le hl (famP_prefix x hp)
    have HR : Hid (famE x = ([], 3)) := Lib.hid (by rw [HE.out, if_pos hgt])
    have r0 := cell_of_row _ _ 0 _ _ _ hr2
    have r1 := cell_of_row _ _ 0 _ _ _ hr3
    have hDr := hB.2
    gi_wp2_with fail
    refine ⟨by simp, .inl ⟨_, _, rfl, run_takeDeferred hK, ?_⟩⟩
    have gR2 : (W.putObj D (.deferred none)).heap[w.heap.size + 1]? = some (.cells #[.slice none 0 0] 33 (0, 0)) := (World.putObj_heap_other (by omega)).trans hr2
    have gE2 : (W.putObj D (.deferred none)).heap[w.heap.size + 1 + 1]? = some (.cells #[.int .i64 3] 30 (0, 0)) := (World.putObj_heap_other (by omega)).trans hr3
    have f0 := cell_of_row _ _ 0 _ _ _ gR2
    have f1 := cell_of_row _ _ 0 _ _ _ gE2
    have hbF : Below w.heap.size w (W.putObj D (.deferred none)) := (HB6.out.trans hB.1).grown (grownBy_putObj' W D _) (by have := HB6.out.size; omega) (fun k hk => by injection hk with hk; omega)
    have HBF := Lib.hid hbF
    clear gR2 gE2 hbF r0 r1
    refine ⟨.tuple #[.slice none 0 0, .int .i64 3], ?_, ⟨none, 0, ?_, ?_, HBF.out⟩⟩
    · rw [results_cell_cell rfl]
      go_simp
    · rw [HR.out]; rfl
    · rw [HR.out]; exact Rd.none_ _
  case A =>
    refine ⟨fun y => { tmps := #[.agg #[.slice a n c, .int .i64 x.root], .pointer (some ⟨w.heap.size, 0, none⟩), .pointer (some ⟨w.heap.size + 1, 0, none⟩), .pointer (some ⟨w.heap.size + 1 + 1, 0, none⟩), .int .i64 0, .pointer (some ⟨Bo, 0, none⟩), .int .u16 (U y), .agg #[.slice a n c, .int .i64 x.root], .int .i64 0, .int .i64 0, .bool false, undef, .agg #[.slice a n c, .int .i64 x.root], .int .u16 (U (srvX x)), .func (.func 48) #[] #[.pointer (some ⟨w5.heap.size, 0, none⟩)], .int .u16 (U y), undef, undef, undef, undef, undef, undef, undef, undef, undef, undef, undef, undef, undef, undef, undef, undef, undef], defers := [] }, ?_, ?_⟩
    · intro l y Wr K hK
      gi_wp2_with fail
      exact hK
    · rintro l pre y Wr ⟨⟨v, hv, hrow, _⟩, hlen, hB⟩ hlt
      have hbw : Below w.heap.size w Wr := HB6.out.trans (hB.1.mono (by omega))
      have gX := (hB.1.block w.heap.size (by omega)).trans GX6.out
      obtain ⟨⟨x0, x1⟩, _⟩ := open2 gX
      have HB := Lib.hid hB
      have HBW := Lib.hid hbw
      have HFS := Lib.hid (famP_snoc x pre y)
      obtain ⟨O, hO⟩ : ∃ O, famP x pre = O := ⟨_, rfl⟩
      rw [hO] at hrow hlen HFS
      obtain ⟨nn, hnn⟩ : ∃ nn, O.length = nn := ⟨_, rfl⟩
      rw [hnn] at hrow hlen
      have HV := Lib.hid hv
      have HROW := Lib.hid hrow
      have HH := Lib.hid (H4.out y Wr hbw)
      have HNN := Lib.hid hnn
      clear hv hrow hB hbw gX hO hlt hnn
      gi_wp2_with fail
      refine (CallsIn.inRound l (callsIn_wide.2 HH.out)).mono ?_
      rintro e W1 ⟨rfl, hb1⟩
      have hv1 : Boxed W1 Bo 33 v := heap_below hb1 HV.out
      have hrow1 := row_below HROW.out hb1
      have HB1 : Hid (BelX Bo w6 w6.heap.size W1) := Lib.hid ⟨HB.out.1.trans (hb1.mono (by have := HB.out.2; omega)), Nat.le_trans HB.out.2 hb1.size⟩
      have hKF : KeepsFrom w6.heap.size Wr W1 := keepsFrom_below hb1
      have hKC : KeepC (CBox w6.heap.size Bo) Wr W1 := KeepC.of_below _ hb1
      have HKF := Lib.hid hKF
      have HKC := Lib.hid hKC
      have HBW1 := Lib.hid (Below.next HBW.out hb1)
      clear HH hb1 hKF hKC x0 x1
      cases hh : holdX x y
      · have HF2 : Hid (famP x (pre ++ [y]) = O) := Lib.hid (by rw [HFS.out]; unfold famStep; rw [hh]; simp)
        clear hh
        have HV1 := Lib.hid hv1
        have HR1 := Lib.hid hrow1
        clear hv1 hrow1
        gi_wp2_with fail
        exact ⟨HKF.out, HKC.out, by rw [HF2.out]; exact ⟨v, HV1.out, by rw [HNN.out]; exact HR1.out, trivial⟩, by rw [HF2.out, HNN.out]; exact hlen, HB1.out⟩
      · obtain ⟨av, cv, rfl, hrd⟩ := rd_of_row hrow1
        have HA := Lib.hid (accepts_c O y av nn cv W1 hrd)
        have hc := hv1.cell
        have HV1 := Lib.hid hv1
        have HR1 := Lib.hid hrow1
        clear hv1 hrow1 hrd
        gi_wp2_with fail
        refine (CallsIn.inRound l (callsIn_wide.2 HA.out)).mono ?_
        rintro e W2 ⟨rfl, hb2⟩
        have hv2 : Boxed W2 Bo 33 (.slice av nn cv) := heap_below hb2 HV1.out
        have hrow2 := row_below HR1.out hb2
        have HB2 : Hid (BelX Bo w6 w6.heap.size W2) := Lib.hid ⟨HB1.out.1.trans (hb2.mono (by have := HB1.out.2; omega)), Nat.le_trans HB1.out.2 hb2.size⟩
        have HKF2 := Lib.hid (HKF.out.trans (keepsFrom_below (B := w6.heap.size) hb2))
        have HKC2 := Lib.hid (HKC.out.trans (KeepC.of_below (CBox w6.heap.size Bo) hb2))
        have HBW2 := Lib.hid (Below.next HBW1.out hb2)
        clear hb2 HA hc HKF HKC HV1 HR1
        cases hacc : accS O y
        · have HF2 : Hid (famP x (pre ++ [y]) = O ++ [y]) := Lib.hid (by rw [HFS.out]; unfold famStep; rw [hacc, hh]; simp)
          clear hacc hh
          have hc := hv2.cell
          by_cases h400 : nn = 400
          · have h4 : ((nn : Int) == 400) = true := by rw [h400]; rfl
            have gR := (HB2.out.1.block (w.heap.size + 1) (by omega)).trans GR6.out
            have gE := (HB2.out.1.block (w.heap.size + 1 + 1) (by omega)).trans GE6.out
            have r0 := cell_of_row _ _ 0 _ _ _ gR
            have r1 := cell_of_row _ _ 0 _ _ _ gE
            have z0 := frozen_row gR 0
            have z1 := frozen_row gE 0
            have HGR := Lib.hid gR
            have HGE := Lib.hid gE
            clear gR gE hv2 hrow2
            gi_wp2_with fail
            generalize hWA : W2.setCell _ _ = WA
            have gRA : WA.heap[w.heap.size + 1]? = some (.cells #[.slice none 0 0] 33 (0, 0)) := by rw [← hWA, heap_set_at HGR.out]; rfl
            have gEA : WA.heap[w.heap.size + 1 + 1]? = some (.cells #[.int .i64 0] 30 (0, 0)) := by rw [← hWA]; exact heap_set_other (by omega) _ _ HGE.out
            have hkA := grownBy_setCell' W2 (w.heap.size + 1) (.slice none 0 0)
            have hkZ := grownBy_setCell' WA (w.heap.size + 1 + 1) (.int .i64 3)
            rw [hWA] at hkA
            have hB2 := HB2.out
            refine ⟨HKF2.out.trans ((KeepsFrom.of_grownBy hkA (fun j hj => by injection hj with hj; omega)).trans (KeepsFrom.of_grownBy hkZ (fun j hj => by injection hj with hj; omega))), rfl, by rw [HF2.out, List.length_append, HNN.out, h400, List.length_singleton]; omega, ⟨?_, ?_⟩, ?_, ?_⟩
            · have hbA : Below w.heap.size W2 WA := by rw [← hWA]; exact (Below.refl _ _).setCell (p := ⟨w.heap.size + 1, 0, none⟩) (by show w.heap.size ≤ w.heap.size + 1; omega) _
              exact (hB2.1.mono (by omega)).trans (hbA.setCell (p := ⟨w.heap.size + 1 + 1, 0, none⟩) (by show w.heap.size ≤ w.heap.size + 1 + 1; omega) _)
            · rw [← hWA]; simpa using hB2.2
            · exact heap_set_other (by omega) _ _ gRA
            · rw [heap_set_at gEA]; rfl
          · have h4 : ((nn : Int) == 400) = false := by rw [beq_eq_false_iff_ne]; omega
            have hHB2 := HB2.out.2
            gi_wp2_with (gi_at_builtin; refine wpListIn_append_own _ rfl _ _ 33 rfl w6.heap.size 52 i0 (.int .u16 0) 1 2 Tryd.underlying33 hi0 hz0 hz1 hz2 rfl (by decide) _ _ _ rfl (hrow2.alloc _) ⟨W2.heap.size, 0, none⟩ 1 1 [.int .u16 (U y)] rfl rfl (cell_one_new _ _ _) (by simp [Value.oneCell']) (by unfold maxLen; omega) (by omega) (by simp; omega) ?_; intro v' w1 hown' hgrow _; obtain ⟨g', cap', rfl⟩ := ownsRow_succ hown'; obtain ⟨hv1, hv2', hr2, hk2, hb2⟩ := hv2.appended (by decide) (rowK_mono hrow2 (show Bo ≤ w6.heap.size by omega)) (by omega) (Nat.le_refl Bo) (rowK_mono hown' (show Bo ≤ w6.heap.size by omega)) hgrow; have hkk := keepC_box (v' := .slice (some ⟨g', 0, none⟩) (nn + 1) cap') hv2 hrow2 hgrow; have hr3 := hown'.kept (grownBy_setCell' w1 Bo (.slice (some ⟨g', 0, none⟩) (nn + 1) cap')) (.inr (hv1.not_row (by decide) hown').symm); have hc1 := hv1.cell; have hf1 := hv1.frozen)
            refine ⟨HKF2.out.trans (hk2.from _), HKC2.out.trans hkk, ?_, ?_, HB2.out.1.trans hb2, Nat.le_trans HB2.out.2 hb2.size⟩
            · rw [HF2.out]
              refine ⟨_, hv2', ?_, trivial⟩
              rw [List.length_append, HNN.out, List.map_append]
              exact hr3
            · rw [HF2.out, List.length_append, HNN.out, List.length_singleton]; omega
        · have HF2 : Hid (famP x (pre ++ [y]) = O) := Lib.hid (by rw [HFS.out]; unfold famStep; rw [hacc, if_pos rfl])
          clear hacc hh
          have HV2 := Lib.hid hv2
          have HR2 := Lib.hid hrow2
          clear hv2 hrow2
          gi_wp2_with fail
          exact ⟨HKF2.out, HKC2.out, by rw [HF2.out]; exact ⟨_, HV2.out, by rw [HNN.out]; exact HR2.out, trivial⟩, by rw [HF2.out, HNN.out]; exact hlen, HB2.out⟩
theorem family_x (x : Xpr) (hx : xprE x = 0) (hf : XprFew x) (a : Option Addr) (n c : Nat) (w : World) (ht : HasTab w) (h : XM w a n c x.nodes) :
    Calls Tryd.prog 7 #[.agg #[.slice a n c, .int .i64 x.root]] w fun e w' => FamR x w e w' := callsIn_wide.1 (family_in x hx hf a n c w ht h)
end Go.Proofs.YtmjgdnpfgkpaoaaDoor
