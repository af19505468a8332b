/- Texts laid together. expr.Of. Contracts of Go's library over this seat's dump: laid by the kit's shelf tools (plain mode), cut down to those that are used. show: the text of a node into a builder. expr.Format. -/
import Derived.Test.YtcojmmhclklpoaaGreatDoorGC2
import Derived.Test.YtcojmmhclklpoaaGreatDoorGC8
import Derived.Test.YtcojmmhclklpoaaGreatDoorProg
import Derived.Shelf.Strings.Builder1
import Derived.Shelf.Small.Wraps
import Derived.Shelf.Strings.BuilderF
import Derived.Shelf.Strings.BuilderK
import Derived.Shelf.Strconv.Atoi
import Derived.Shelf.Strconv.Itoa0
import Derived.Shelf.Strconv.Itoa1
import Derived.Shelf.LaysM
import Derived.Shelf.Strconv.Itoa2
import Derived.Shelf.Strconv.Itoa3
import Derived.Shelf.Strconv.AtoiErrFast
import Derived.Shelf.Strconv.ParseIntEmpty
import Derived.Shelf.Strconv.AtoiFail
import Derived.Shelf.Strconv.Clone
import Derived.Shelf.Strconv.SyntaxError
import Derived.Shelf.LaysC
import Derived.Shelf.Strconv.ToError
import Derived.Shelf.Strconv.Lower
import Derived.Shelf.Strconv.ParseUint10
import Derived.Shelf.Strconv.ParseUint10Empty
import Derived.Shelf.Strconv.ParseUint10Any
import Derived.Shelf.Strconv.ParseInt10
import Derived.Shelf.Strconv.AtoiLong
import Derived.Shelf.Strconv.AtoiInnerAll
import Derived.Shelf.Strconv.RangeError
import Derived.Shelf.Strconv.ToErrorRange
import Derived.Shelf.Strconv.AtoiAll
import Derived.Shelf.Strings.Prefix
import Derived.Shelf.Strings.BuilderCap
import Derived.Shelf.Slices.Turned
import Derived.Lib.ItoaMem
import Derived.Lib.AppendIntMem
namespace Go.Proofs.YtcojmmhclklpoaaGreatDoor
open Go.RowKit Go.Shelf

/-- .. of a threshold over a row of indices -/
theorem nodS_thr {S : Nat → Prop} {w : World} {B n : Nat} {kv : Value} {ks : List Int} (need : Int) (hk : w.ownsRow B 3 1 kv n (ks.map (Value.int .i64))) (sk : ∀ g, kv.ownBlock = some g → S g) : NodS S w ⟨2, 0, need, .slice none 0 0, kv⟩ ⟨2, 0, need, [], ks⟩ :=
  nodS_of (B := B) (m := 0) (n := n) rfl rfl rfl (World.ownsRow_nil _ _ _ _) hk (fun g e => by cases e) sk

/-- an expression copied from its box to where it is handed back -/
theorem retx_fin {S : Nat → Prop} {B R : Nat} {w wY WF : World} {a : Option Addr} {n c : Nat} {t : TypeId} {nodes : List Nod} {root : Int} {p q : Value} (hxb : XB S B wY (.slice a n c) t nodes) (hn : nodes.length = n) (hR : w.heap.size ≤ R) (hS : ∀ g, S g → R < g) (hB : R < B) (hb : Below w.heap.size w wY)
    (gR : wY.heap[R]? = some (.cells #[p, q] 32 (0, 0))) (hW : (wY.setCell ⟨R, 0, none⟩ (.slice a n c)).setCell ⟨R, 1, none⟩ (.int .i64 root) = WF) :
    WF.heap[R]? = some (.cells #[.slice a n c, .int .i64 root] 32 (0, 0)) ∧ XMR w.heap.size WF.heap.size WF a n c nodes ∧ Below w.heap.size w WF := by
  obtain ⟨e1, e2, e3, e4⟩ := fin2w gR hW
  have hx := hxb.move (w' := WF) (fun g hg => e2 g (by have := hS g hg; omega)) (fun g hg => e2 g (by have := (hxb.lt_own g hg).1; omega)) (by omega)
  obtain ⟨a2, c2, e, hxm⟩ := hx.xmr (lo := w.heap.size) (fun g hg => by have := hS g hg; omega) (by omega)
  rw [hn] at hxm e
  cases e
  exact ⟨e1, hxm, hb.trans (e4 _ hR)⟩

set_option maxRecDepth 100000 in
set_option maxHeartbeats 16000000 in
theorem xof_c (f : List (BitVec 16)) (a : Option Addr) (n c : Nat) (w : World) (ht : HasTab w) (h : Rd w a n c (f.map setV2)) :
    Calls Tryz.prog 24 #[.slice a n c] w fun e w' => RetX (ofE f).1 (ofE f).2 w e w' := by
  have H1 := Lib.hid (fun (u : World) (hb : Below w.heap.size w u) => valid_c f a n c u (h.below hb))
  by_cases hE : valS f = 0
  · obtain ⟨hl4, _, _⟩ := valS_ok hE
    have hRR : ofE f = if 60 < (ofX f).nodes.length then (⟨[], 0⟩, 3) else (ofX f, 0) := by unfold ofE; rw [if_neg (by rw [hE]; simp)]
    have HRR := Lib.hid hRR
    have hfn : f.length = n := by have := h.len; simp at this; omega
    rw [hE] at H1
    have HH := Lib.hid h
    have HT := Lib.hid ht
    have HV := Lib.hid hE
    have H2 := Lib.hid (fun (u : World) (hb : Below w.heap.size w u) => support_c f a n c u (h.below hb))
    have HM := Lib.hid (fun (s : BitVec 16) (u : World) (hb : Below w.heap.size w u) => members_c s (U s) u rfl (ht.below hb))
    have hm12 := memO_len hE
    have HM12 := Lib.hid (mem12 hE)
    have HMM := Lib.hid (fun (s : BitVec 16) (hs : s ∈ f) (m : Nat) (hm : m ∈ memS s) => memO_mem hE hs hm)
    have HK12 := Lib.hid (fun (s : BitVec 16) (hs : s ∈ f) => kids12 hE hs)
    have HFN := Lib.hid hfn
    have hn4 : n ≤ 400 := by omega
    obtain ⟨mem, hmem⟩ : ∃ mem, memO f = mem := ⟨_, rfl⟩
    have hms : memS (supS f) = mem := hmem
    have hnd := memO_nodup f
    rw [hmem] at hm12 HM12 HMM hnd
    obtain ⟨nm, hnm⟩ : ∃ nm, mem.length = nm := ⟨_, rfl⟩
    rw [hnm] at hm12
    have HNM := Lib.hid hnm
    have HND := Lib.hid hnd
    have HMS := Lib.hid hms
    have HME := Lib.hid hmem
    clear hRR h ht hE hl4 hfn hnm hnd hms hmem
    go_enter Tryz.func24, Tryz.ntmps24
    go_wp2_with fail
    generalize hW1 : w.alloc _ = w1
    have hb1 : Below w.heap.size w w1 := by rw [← hW1]; exact (Below.refl _ _).alloc (Nat.le_refl _) _
    have gR1 : w1.heap[w.heap.size]? = some (.cells #[.slice none 0 0, .int .i64 0] 32 (0, 0)) := by rw [← hW1]; exact heap_alloc_new _ _
    have hs1 : w1.heap.size = w.heap.size + 1 := by rw [← hW1]; simp
    clear hW1
    with_reducible refine (H1.out w1 hb1).mono ?_
    rintro e w4 ⟨rfl, hb4⟩
    have hs4 := hb4.size
    obtain ⟨X, hX⟩ : ∃ X, w4.heap.size = X := ⟨_, rfl⟩
    obtain ⟨w5, hw5⟩ : ∃ w5, w5 = (w4.alloc (.cells #[.slice none 0 0, .int .i64 0] 32)).alloc (.cells (plA mem 0) 87) := ⟨_, rfl⟩
    obtain ⟨gX, gP, hb5, hs5⟩ := box2 hw5.symm
    rw [hX] at gX gP hs5 hs4
    have hb05 := Below.next hb1 (Below.next hb4 hb5)
    have hX1 : w.heap.size + 1 ≤ X := by omega
    have GR5 := Lib.hid (heap_below (Below.next hb4 hb5) gR1)
    have GX5 := Lib.hid gX
    have GP5 := Lib.hid gP
    have HB05 := Lib.hid hb05
    have HH2 := Lib.hid (H2.out w5 hb05)
    have hw5' : w5 = (w4.alloc (.cells #[.slice none 0 0, .int .i64 0] 32)).alloc (.cells #[.int .i64 0, .int .i64 0, .int .i64 0, .int .i64 0, .int .i64 0, .int .i64 0, .int .i64 0, .int .i64 0, .int .i64 0, .int .i64 0, .int .i64 0, .int .i64 0] 87) := by rw [hw5, plA_zero]; rfl
    clear hb1 gR1 hs1 hb4 hb5 gX gP hb05 hs4 H1 H2 hw5
    go_wp2_with fail
    rw [← hw5']
    clear hw5' hX
    with_reducible refine HH2.out.mono ?_
    rintro e w5' ⟨rfl, hweq⟩
    subst hweq
    have HHM := Lib.hid (HM.out (supS f) w5' HB05.out)
    rw [HMS.out] at HHM
    clear HH2
    go_wp2_with fail
    with_reducible refine HHM.out.mono ?_
    rintro e w6 ⟨mv, rfl, hown, hb6⟩
    have hown' : w6.ownsRow w5'.heap.size 3 1 mv nm (mem.map intV) := by
      have h9 := hown
      unfold Own at h9
      rw [List.length_map, HNM.out] at h9
      exact h9
    obtain ⟨am, cm, rfl, hrd⟩ := rd_of_row hown'
    have HOM := Lib.hid hown'
    have HB06 := Lib.hid (Below.next HB05.out hb6)
    have GR6 := Lib.hid (heap_below hb6 GR5.out)
    have GX6 := Lib.hid (heap_below hb6 GX5.out)
    have GP6 := Lib.hid (heap_below hb6 GP5.out)
    have hs6 := hb6.size
    have hX6 : X + 2 ≤ w6.heap.size := by omega
    have HS5 := Lib.hid hs5
    clear hown hown' hrd hb6 GR5 GX5 GP5 HHM HB05 hs6 hs5
    go_wp2_with fail
    go_loopw [25] (fun q wr => ∃ k v, k ≤ nm ∧ q = .int .i64 ((k : Nat) : Int) ∧ wr.heap[X]? = some (.cells #[v, .int .i64 0] 32 (0, 0)) ∧ wr.heap[X + 1]? = some (.cells (plA mem k) 87 (0, 0)) ∧ XB (fun _ => False) w6.heap.size wr v 71 (srvN (mem.take k)) ∧ (∀ g, g < w6.heap.size → g ≠ X → g ≠ X + 1 → wr.heap[g]? = w6.heap[g]?) ∧ Below w.heap.size w wr ∧ w6.heap.size ≤ wr.heap.size) (fun q _ => nm - (intOf q).toNat)
    case atStart => exact ⟨0, _, Nat.zero_le _, rfl, GX6.out, GP6.out, XB.nil _ _ _ _ (fun _ h => h.elim), fun _ _ _ _ => rfl, HB06.out, Nat.le_refl _⟩
    case round =>
      obtain ⟨k, v, hk, rfl, hXb, hPb, hxb, hbk, hbw, hsz⟩ := hrel
      by_cases hlt : k < nm
      · obtain ⟨m, hm⟩ : ∃ m, mem[k]? = some m := ⟨_, List.getElem?_eq_getElem (by have := HNM.out; omega)⟩
        have hm12' : m < 12 := HM12.out m (List.mem_of_getElem? hm)
        have HPS := Lib.hid (plA_step HND.out hm hm12')
        have HSS := Lib.hid (srvN_succ hm)
        obtain ⟨_, _, e9, hrd⟩ := rd_of_row (rowK_at HOM.out fun g hg => hbk g (HOM.out.lt g hg).2 (by have := HOM.out.lt g hg; have := HS5.out; omega) (by have := HOM.out.lt g hg; have := HS5.out; omega))
        cases e9
        obtain ⟨b, o, ha, hcell⟩ := hrd.at' (by omega)
        have hc : wr.cell? ⟨b, o + k, none⟩ = some (.int .i64 m) := hcell k (intV m) (by rw [List.getElem?_map, hm]; rfl)
        obtain ⟨V, hV1, hV2, hV3⟩ := hxb.row
        have hkl : (srvN (mem.take k)).length = k := by rw [srvN_len, List.length_take]; have := HNM.out; omega
        rw [hkl] at hV1 hV2
        obtain ⟨av, cv, rfl, _⟩ := rdK_of_row hV2
        have hpc := cell_of_row _ _ m _ _ _ hPb |>.trans (plA_at mem k m hm12')
        have hpf := frozen_row hPb m
        have hXc := cell_of_row _ _ 0 _ _ _ hXb
        have HXB := Lib.hid hxb
        have HXb := Lib.hid hXb
        have HPb := Lib.hid hPb
        have HBK := Lib.hid hbk
        have HBW := Lib.hid hbw
        have HV1 := Lib.hid hV1
        have HV2 := Lib.hid hV2
        have HV3 := Lib.hid hV3
        have HKL := Lib.hid hkl
        subst ha
        clear hrd hcell hxb hXb hPb hbk hbw hV1 hV2 hV3 hkl hm
        go_upto_region 10 with fail
        generalize hWp : wr.setCell _ _ = wp
        have hkp : ∀ g, g ≠ X + 1 → wp.heap[g]? = wr.heap[g]? := fun g hg => by rw [← hWp]; exact Below.heap_setCell _ ⟨X + 1, m, none⟩ _ g hg
        have gPp : wp.heap[X + 1]? = some (.cells (plA mem (k + 1)) 87 (0, 0)) := by rw [← hWp, heap_set_at HPb.out, HPS.out]
        have gXp : wp.heap[X]? = some (.cells #[.slice av k cv, .int .i64 0] 32 (0, 0)) := (hkp X (by omega)).trans HXb.out
        have hsp : wp.heap.size = wr.heap.size := by rw [← hWp]; simp
        have hbp : Below w.heap.size wr wp := by rw [← hWp]; exact (Below.refl _ _).setCell (p := ⟨X + 1, m, none⟩) (by show w.heap.size ≤ X + 1; omega) _
        have hrlt := HV2.out.lt
        have hrowp : wp.ownsRow w6.heap.size 71 5 (.slice av k cv) k (V.flatMap nodVC) := rowK_at HV2.out fun g hg => hkp g (by have := hrlt g hg; omega)
        have hxbp := HXB.out.move (w' := wp) (fun g hg => hg.elim) (fun g hg => hkp g (by have := hrlt g hg; omega)) (by omega)
        have HROWP := Lib.hid hrowp
        have HXBP := Lib.hid hxbp
        have GPP := Lib.hid gPp
        have GXP := Lib.hid gXp
        have HKP := Lib.hid hkp
        have HBP := Lib.hid hbp
        have hxc := cell_of_row _ _ 0 _ _ _ gXp
        have hsp1 : w6.heap.size ≤ wp.heap.size := by omega
        have HSP := Lib.hid hsp
        clear hWp hkp gPp gXp hbp hrowp hxbp hpc hpf hXc hc HV2 hsp
        go_wp2_with (at_builtin; go_must (refine wpList_appK2 5 _ _ 30 72 (.agg #[.int .i64 0, .int .i64 0, .int .i64 0, .slice none 0 0, .slice none 0 0]) (nodVC ⟨1, (m : Int), 0, .slice none 0 0, .slice none 0 0⟩) _ Tryz.underlying30 Tryz.infoNod rfl (by decide) HROWP.out (Below.refl w6.heap.size wp) (by omega) rfl rfl rfl rfl rfl (by intro u hu; unfold nodVC at hu; simp at hu; rcases hu with rfl | rfl | rfl | rfl | rfl <;> rfl) (by unfold maxLen; omega) (by omega) ?_))
        intro v7 w7 hown7 hb7 hg7 hs7 hv7
        have hV3 := fun (i : Nat) p nd hp hn => (HV3.out i p nd hp hn).move (w' := wp) (fun g hg => hg.elim)
        have hxb7 := HXBP.out.app (SW := fun _ => False) (p := ⟨1, (m : Int), 0, .slice none 0 0, .slice none 0 0⟩) (nd := ⟨1, (m : Int), 0, [], []⟩) (by rw [HV1.out, HKL.out]) hV3 (Below.refl _ _) hg7 (by rw [HKL.out]; exact hown7) hv7 (nodS_srv _ _ _ _) (fun g hg => hg.elim)
        rw [← HSS.out] at hxb7
        have hxb8 := hxb7.mono (S' := fun _ => False) (fun g hg => hg.elim id id) (fun g hg => hg.elim) (fun g e hg => hg.elim)
        obtain ⟨a7, c7, rfl, _⟩ := rdK_of_row hown7
        have hblk : ∀ g, g < w6.heap.size → w7.heap[g]? = wp.heap[g]? := fun g hg => hg7.block g (by omega) (fun e => by have := hrlt g e.symm; omega)
        have hsp := HSP.out
        have gX7 := (hblk X (by omega)).trans GXP.out
        have gP7 := (hblk (X + 1) (by omega)).trans GPP.out
        have hx7 := cell_of_row _ _ 0 _ _ _ gX7
        have fx7 := frozen_row gX7 0
        have HXB8 := Lib.hid hxb8
        have GX7 := Lib.hid gX7
        have GP7 := Lib.hid gP7
        have HBLK := Lib.hid hblk
        have HB7 := Lib.hid (HBW.out.trans (HBP.out.trans (hb7.mono (by have := HB06.out.size; omega))))
        clear hxb7 hxb8 hV3 hown7 hb7 hg7 hv7 gX7 gP7 hblk hxc
        go_wp2_with fail
        go_roundw
        case rel =>
          refine ⟨k + 1, .slice a7 (k + 1) c7, by omega, by go_num, by rw [heap_set_at GX7.out]; rfl, heap_set_other (by omega) _ _ GP7.out, HXB8.out.move (fun g hg => hg.elim) (fun g hg => ?_) (by simp), fun g h1 h2 h3 => ?_, ?_, by simp; omega⟩
          · exact Below.heap_setCell _ _ _ _ (by have := (HXB8.out.lt_own g hg).1; show g ≠ X; omega)
          · rw [Below.heap_setCell _ ⟨X, 0, none⟩ _ g h2, HBLK.out g h1, HKP.out g h3]
            exact HBK.out g h1 h2 h3
          · exact HB7.out.setCell (p := ⟨X, 0, none⟩) (by show w.heap.size ≤ X; omega) _
        case measure => simp [intOf] <;> omega
      · obtain rfl : k = nm := by omega
        rw [List.take_of_length_le (by have := HNM.out; omega)] at hxb
        have h0 : (ofT f 0).1 = srvN mem := by rw [ofT_zero, HME.out]
        rw [← h0] at hxb
        have HXB0 := Lib.hid hxb
        have HX0 := Lib.hid hXb
        have HP0 := Lib.hid hPb
        have HBK0 := Lib.hid hbk
        have HBW0 := Lib.hid hbw
        have HFT := Lib.hid (fun j hj => ofT_len f j hj)
        clear h0 hxb hXb hPb hbk hbw
        go_wp2_with fail
        go_loopw [9, 43] (fun a9 q wr => ∃ j v S, j ≤ n ∧ q = .int .i64 ((j : Nat) : Int) ∧ wr.heap[X]? = some (.cells #[v, .int .i64 0] 32 (0, 0)) ∧ wr.heap[X + 1]? = some (.cells (plA mem k) 87 (0, 0)) ∧ XB S w6.heap.size wr v 71 (ofT f j).1 ∧ wr.ownsRow w6.heap.size 3 1 a9 j ((ofT f j).2.map (Value.int .i64)) ∧ (∀ g, S g → w6.heap.size ≤ g) ∧ (∀ g, a9.ownBlock = some g → ¬ S g ∧ v.ownBlock ≠ some g) ∧ (∀ g, g < w6.heap.size → g ≠ X → g ≠ X + 1 → wr.heap[g]? = w6.heap[g]?) ∧ Below w.heap.size w wr ∧ w6.heap.size ≤ wr.heap.size) (fun _ q _ => n - (intOf q).toNat)
        case atStart => exact ⟨0, v, fun _ => False, Nat.zero_le _, rfl, HX0.out, HP0.out, HXB0.out, World.ownsRow_nil _ _ _ _, fun _ h => h.elim, (fun _ h => by cases h), HBK0.out, HBW0.out, hsz⟩
        case round =>
          clear HXB0 HX0 HP0 HBK0 HBW0 hsz
          obtain ⟨j, v, S, hj, rfl, hXb, hPb, hxb, hrow9, hS, hd9, hbk, hbw, hsz⟩ := hrel
          by_cases hlt : j < n
          · obtain ⟨s, hs⟩ : ∃ s, f[j]? = some s := ⟨_, List.getElem?_eq_getElem (by have := HFN.out; omega)⟩
            have hsm := List.mem_of_getElem? hs
            have HKS := Lib.hid (HK12.out s hsm)
            have HST := Lib.hid (ofT_succ hs)
            obtain ⟨b, o, ha, hcell⟩ := (HH.out.below hbw).at' (by omega)
            have hc : wr.cell? ⟨b, o + j, none⟩ = some (.int .u16 (U s)) := hcell j (setV2 s) (by rw [List.getElem?_map, hs]; rfl)
            have HMJ := Lib.hid (HM.out s wr hbw)
            have HMMS := Lib.hid (HMM.out s hsm)
            obtain ⟨nk, hnk⟩ : ∃ nk, (memS s).length = nk := ⟨_, rfl⟩
            have hnk12 : nk ≤ 12 := by rw [← hnk]; exact HKS.out
            have HNK := Lib.hid hnk
            have HXb := Lib.hid hXb
            have HPb := Lib.hid hPb
            have HXB := Lib.hid hxb
            have HR9 := Lib.hid hrow9
            have HSS := Lib.hid hS
            have HD9 := Lib.hid hd9
            have HBK := Lib.hid hbk
            have HBW := Lib.hid hbw
            subst ha
            clear hXb hPb hxb hrow9 hS hd9 hbk hbw hs hsm hcell hnk
            go_wp2_with fail
            with_reducible refine HMJ.out.mono ?_
            rintro e w7 ⟨kv, rfl, hown7, hb7⟩
            have hown7' : w7.ownsRow wr.heap.size 3 1 kv nk ((memS s).map intV) := by
              have h9 := hown7
              unfold Own at h9
              rw [List.length_map, HNK.out] at h9
              exact h9
            obtain ⟨a7, c7, rfl, hrd7⟩ := rd_of_row hown7'
            have HRD7 := Lib.hid hrd7
            have HB7 := Lib.hid hb7
            have GP7 := Lib.hid (heap_below hb7 HPb.out)
            have hs7 := hb7.size
            clear hown7 hown7' hrd7 hb7 HMJ hc
            go_wp2_with fail
            go_loopw [12, 50] (fun a12 q wq => ∃ i, i ≤ nk ∧ q = .int .i64 ((i : Nat) : Int) ∧ wq.ownsRow w7.heap.size 3 1 a12 i (((kidsO mem s).take i).map (Value.int .i64)) ∧ Below w7.heap.size w7 wq) (fun _ q _ => nk - (intOf q).toNat)
            case atStart => exact ⟨0, Nat.zero_le _, rfl, World.ownsRow_nil _ _ _ _, Below.refl _ _⟩
            case round =>
              obtain ⟨i, hi, rfl, hrow12, hbq⟩ := hrel
              by_cases hlti : i < nk
              · obtain ⟨m, hm⟩ : ∃ m, (memS s)[i]? = some m := ⟨_, List.getElem?_eq_getElem (by have := HNK.out; omega)⟩
                have hmm := HMMS.out m (List.mem_of_getElem? hm)
                have hm12' : m < 12 := HM12.out m hmm
                have HTK : Hid ((kidsO mem s).take (i + 1) = (kidsO mem s).take i ++ [((mem.idxOf m : Nat) : Int)]) := Lib.hid (by
                  rw [List.take_add_one]
                  unfold kidsO
                  rw [List.getElem?_map, hm]; rfl)
                obtain ⟨b3, o3, ha3, hcell3⟩ := (HRD7.out.below hbq).at' (by omega)
                have hc3 : wr.cell? ⟨b3, o3 + i, none⟩ = some (.int .i64 m) := hcell3 i (intV m) (by rw [List.getElem?_map, hm]; rfl)
                have gPq := heap_below hbq GP7.out
                have hpc : wr.cell? ⟨X + 1, m, none⟩ = some (.int .i64 ((mem.idxOf m : Nat) : Int)) := by
                  rw [cell_of_row _ _ m _ _ _ gPq, plA_at mem k m hm12', List.take_of_length_le (by have := HNM.out; omega), if_pos hmm]
                obtain ⟨a12, c12, rfl, _⟩ := rd_of_row hrow12
                have HR12 := Lib.hid hrow12
                have HBQ := Lib.hid hbq
                have hsq := hbq.size
                obtain ⟨IX, hIX⟩ : ∃ IX : Nat, mem.idxOf m = IX := ⟨_, rfl⟩
                rw [hIX] at hpc HTK
                subst ha3
                clear hm hmm hcell3 gPq hrow12 hbq hIX
                go_wp2_with (at_builtin; go_must (refine wpList_appK2 1 _ _ 69 8 (.int .i64 0) [.int .i64 (IX : Int)] _ Tryz.underlying69 Tryz.infoInt rfl (by decide) HR12.out (Below.refl w7.heap.size wr) (by omega) rfl rfl rfl rfl rfl (by intro u hu; simp at hu; subst hu; rfl) (by unfold maxLen; omega) (by omega) ?_))
                intro v8 w8 hown8 hb8 hg8 hs8 hv8
                have hown8' : w8.ownsRow w7.heap.size 3 1 v8 (i + 1) (((kidsO mem s).take (i + 1)).map (Value.int .i64)) := by
                  rw [HTK.out, List.map_append, List.map_take]; exact hown8
                have HO8 := Lib.hid hown8'
                have HB8 := Lib.hid (HBQ.out.trans hb8)
                clear hown8 hown8' hb8 hg8 hs8 hv8 hc3 hpc
                go_wp2_with fail
                go_roundw
                case rel => exact ⟨i + 1, by omega, by go_num, HO8.out, HB8.out⟩
                case measure => simp [intOf] <;> omega
              · obtain rfl : i = nk := by omega
                rw [List.take_of_length_le (by rw [kidsO_len, HNK.out]; omega)] at hrow12
                obtain ⟨a12, c12, rfl, hrd12⟩ := rd_of_row hrow12
                have hklen : (kidsO mem s).length = i := by rw [kidsO_len, HNK.out]
                have hr12lt := hrow12.lt
                have hsq := hbq.size
                have h9lt := HR9.out.lt
                have hr9q := rowK_below HR9.out (Below.next HB7.out hbq)
                obtain ⟨a9, c9, rfl, _⟩ := rd_of_row hr9q
                have hxbq := HXB.out.below (Below.next HB7.out hbq)
                have gXq := heap_below (Below.next HB7.out hbq) HXb.out
                have gPq := heap_below (Below.next HB7.out hbq) HPb.out
                have hbwq := Below.next HBW.out (Below.next HB7.out hbq)
                have hbkq : ∀ g, g < w6.heap.size → g ≠ X → g ≠ X + 1 → wr.heap[g]? = w6.heap[g]? := fun g h1 h2 h3 => ((Below.next HB7.out hbq).block g (by omega)).trans (HBK.out g h1 h2 h3)
                have hvlt := hxbq.lt_own
                have hvlt0 := HXB.out.lt_own
                have hSlt0 := HXB.out.lt
                obtain ⟨KS, hKS⟩ : ∃ KS, kidsO mem s = KS := ⟨_, rfl⟩
                have hST : ofT f (j + 1) = if KS.length = 1 then ((ofT f j).1, (ofT f j).2 ++ KS) else ((ofT f j).1 ++ [⟨2, 0, (KS.length : Int), [], KS⟩], (ofT f j).2 ++ [((ofT f j).1.length : Int)]) := by
                  rw [HST.out, HME.out]; unfold stepO; rw [hKS]
                rw [hKS] at hrow12 hrd12 hklen
                have hft := HFT.out j (by have := HFN.out; omega)
                rw [HME.out, HNM.out] at hft
                obtain ⟨NT, hNT⟩ : ∃ NT, ofT f j = NT := ⟨_, rfl⟩
                rw [hNT] at hST hft hxbq hr9q
                obtain ⟨NL, hNL⟩ : ∃ NL, NT.1.length = NL := ⟨_, rfl⟩
                rw [hNL] at hft
                have HR12 := Lib.hid hrow12
                have HRD12 := Lib.hid hrd12
                have HR9Q := Lib.hid hr9q
                have HXBQ := Lib.hid hxbq
                have HXQ := Lib.hid gXq
                have HPQ := Lib.hid gPq
                have HBWQ := Lib.hid hbwq
                have HBKQ := Lib.hid hbkq
                have HSTE := Lib.hid hST
                have HKLEN := Lib.hid hklen
                have HNLL := Lib.hid hNL
                have HD9' := HD9.out
                have hSS := HSS.out
                have hft1 := hft.1
                clear hrow12 hrd12 hr9q hxbq gXq gPq hbwq hbkq hST hklen hNL hft HXb HPb HXB HR9 HBK HBW HST hKS hNT HRD7 HB7 GP7 hbq
                by_cases h1 : i = 1
                · have HST1 : Hid (ofT f (j + 1) = (NT.1, NT.2 ++ KS)) := Lib.hid (by rw [HSTE.out, if_pos (by rw [HKLEN.out, h1])])
                  obtain ⟨z, hz⟩ : ∃ z, KS = [z] := by
                    have h2 := HKLEN.out
                    rw [h1] at h2
                    exact List.length_eq_one_iff.1 h2
                  obtain ⟨b3, o3, ha3, hcell3⟩ := HRD12.out.at' (by omega)
                  have hc3 : wr.cell? ⟨b3, o3, none⟩ = some (.int .i64 z) := by
                    have := hcell3 0 (.int .i64 z) (by rw [hz]; rfl)
                    rwa [Nat.add_zero] at this
                  have hi1 : ((i : Int) == 1) = true := by rw [h1]; rfl
                  have HZ := Lib.hid hz
                  have hib : (0 : Nat) < i := by omega
                  subst ha3
                  clear hz hcell3 h1
                  go_wp2_with (at_builtin; go_must (refine wpList_appK2 1 _ _ 69 8 (.int .i64 0) [.int .i64 z] _ Tryz.underlying69 Tryz.infoInt rfl (by decide) HR9Q.out (Below.refl w6.heap.size wr) (by omega) rfl rfl rfl rfl rfl (by intro u hu; simp at hu; subst hu; rfl) (by unfold maxLen; omega) (by omega) ?_))
                  intro v8 w8 hown8 hb8 hg8 hs8 hv8
                  have hblk : ∀ g, g < wr.heap.size → (Value.slice a9 j c9).ownBlock ≠ some g → w8.heap[g]? = wr.heap[g]? := fun g g1 g2 => hg8.block g g1 (fun e => g2 e.symm)
                  have hxb8 := HXBQ.out.move (w' := w8) (fun g hg => hblk g (HXBQ.out.lt g hg) (fun e => (HD9' g e).1 hg)) (fun g hg => hblk g (HXBQ.out.lt_own g hg).2 (fun e => (HD9' g e).2 hg)) hg8.size
                  have gX8 := (hblk X (by omega) (fun e => by have := h9lt X e; omega)).trans HXQ.out
                  have gP8 := (hblk (X + 1) (by omega) (fun e => by have := h9lt (X + 1) e; omega)).trans HPQ.out
                  have hown8' : w8.ownsRow w6.heap.size 3 1 v8 (j + 1) ((NT.2 ++ KS).map (Value.int .i64)) := by rw [HZ.out, List.map_append]; exact hown8
                  have hbk8 : ∀ g, g < w6.heap.size → g ≠ X → g ≠ X + 1 → w8.heap[g]? = w6.heap[g]? := fun g g1 g2 g3 => (hblk g (by omega) (fun e => by have := h9lt g e; omega)).trans (HBKQ.out g g1 g2 g3)
                  have HXB8 := Lib.hid hxb8
                  have HX8 := Lib.hid gX8
                  have HP8 := Lib.hid gP8
                  have HO8 := Lib.hid hown8'
                  have HBK8 := Lib.hid hbk8
                  have HV8 := Lib.hid hv8
                  have HBW8 := Lib.hid (HBWQ.out.trans (hb8.mono (by have := HB06.out.size; omega)))
                  clear hblk hxb8 gX8 gP8 hown8' hbk8 hv8 hown8 hb8 hg8 hc3
                  go_wp2_with fail
                  go_roundw
                  case rel =>
                    refine ⟨j + 1, v, S, by omega, by go_num, HX8.out, HP8.out, by rw [HST1.out]; exact HXB8.out, by rw [HST1.out]; exact HO8.out, hSS, fun g hg => ?_, HBK8.out, HBW8.out, by omega⟩
                    rcases HV8.out g hg with e | e
                    · exact HD9' g e
                    · exact ⟨fun hS => by have := hSlt0 g hS; omega, fun e2 => by have := hvlt0 g e2; omega⟩
                  case measure => simp [intOf] <;> omega
                · have HST1 : Hid (ofT f (j + 1) = (NT.1 ++ [⟨2, 0, (i : Int), [], KS⟩], NT.2 ++ [(NL : Int)])) := Lib.hid (by rw [HSTE.out, if_neg (by rw [HKLEN.out]; exact h1), HKLEN.out, HNLL.out])
                  have hi1 : ((i : Int) == 1) = false := by rw [beq_eq_false_iff_ne]; omega
                  obtain ⟨V, hV1, hV2, hV3⟩ := HXBQ.out.row
                  rw [HNLL.out] at hV1 hV2
                  obtain ⟨av, cv, rfl, _⟩ := rdK_of_row hV2
                  have HV1 := Lib.hid hV1
                  have HV2 := Lib.hid hV2
                  have HV3 := Lib.hid hV3
                  have hx0 := cell_of_row _ _ 0 _ _ _ HXQ.out
                  clear hV1 hV2 hV3 h1
                  go_wp2_with (at_builtin; go_must (refine wpList_appK2 1 _ _ 69 8 (.int .i64 0) [.int .i64 (NL : Int)] _ Tryz.underlying69 Tryz.infoInt rfl (by decide) HR9Q.out (Below.refl w6.heap.size wr) (by omega) rfl rfl rfl rfl rfl (by intro u hu; simp at hu; subst hu; rfl) (by unfold maxLen; omega) (by omega) ?_))
                  intro v8 w8 hown8 hb8 hg8 hs8 hv8
                  have hblk : ∀ g, g < wr.heap.size → (Value.slice a9 j c9).ownBlock ≠ some g → w8.heap[g]? = wr.heap[g]? := fun g g1 g2 => hg8.block g g1 (fun e => g2 e.symm)
                  have hxb8 := HXBQ.out.move (w' := w8) (fun g hg => hblk g (HXBQ.out.lt g hg) (fun e => (HD9' g e).1 hg)) (fun g hg => hblk g (HXBQ.out.lt_own g hg).2 (fun e => (HD9' g e).2 hg)) hg8.size
                  have gX8 := (hblk X (by omega) (fun e => by have := h9lt X e; omega)).trans HXQ.out
                  have gP8 := (hblk (X + 1) (by omega) (fun e => by have := h9lt (X + 1) e; omega)).trans HPQ.out
                  have hown8' : w8.ownsRow w6.heap.size 3 1 v8 (j + 1) ((NT.2 ++ [(NL : Int)]).map (Value.int .i64)) := by rw [List.map_append]; exact hown8
                  have hbk8 : ∀ g, g < w6.heap.size → g ≠ X → g ≠ X + 1 → w8.heap[g]? = w6.heap[g]? := fun g g1 g2 g3 => (hblk g (by omega) (fun e => by have := h9lt g e; omega)).trans (HBKQ.out g g1 g2 g3)
                  have hrow8 : w8.ownsRow w6.heap.size 71 5 (.slice av NL cv) NL (V.flatMap nodVC) := rowK_at HV2.out fun g hg => hblk g (HV2.out.lt g hg).2 (fun e => (HD9' g e).2 hg)
                  have hk12 : w8.ownsRow w7.heap.size 3 1 (.slice a12 i c12) i (KS.map (Value.int .i64)) := rowK_at HR12.out fun g hg => hblk g (hr12lt g hg).2 (fun e => by have := h9lt g e; have := hr12lt g hg; omega)
                  have hV38 := fun (i : Nat) p nd hp hn => (HV3.out i p nd hp hn).move (w' := w8) (fun g hg => hblk g (HXBQ.out.lt g hg) (fun e => (HD9' g e).1 hg))
                  obtain ⟨a8, c8, rfl, _⟩ := rd_of_row hown8'
                  have h8lt : ∀ g, (Value.slice a8 (j + 1) c8).ownBlock = some g → (Value.slice a9 j c9).ownBlock = some g ∨ wr.heap.size ≤ g := hv8
                  have HXB8 := Lib.hid hxb8
                  have HX8 := Lib.hid gX8
                  have HP8 := Lib.hid gP8
                  have HO8 := Lib.hid hown8'
                  have HBK8 := Lib.hid hbk8
                  have HR8 := Lib.hid hrow8
                  have HK8 := Lib.hid hk12
                  have HV38 := Lib.hid hV38
                  have HBW8 := Lib.hid (HBWQ.out.trans (hb8.mono (by have := HB06.out.size; omega)))
                  have hx8 := cell_of_row _ _ 0 _ _ _ gX8
                  have HVLT := Lib.hid HV2.out.lt
                  clear hblk hxb8 gX8 gP8 hown8' hbk8 hrow8 hk12 hV38 hv8 hown8 hb8 hg8 hx0 HV2 HV3
                  go_wp2_with (at_builtin; go_must (refine wpList_appK2 5 _ _ 30 72 (.agg #[.int .i64 0, .int .i64 0, .int .i64 0, .slice none 0 0, .slice none 0 0]) (nodVC ⟨2, 0, (i : Int), .slice none 0 0, .slice a12 i c12⟩) _ Tryz.underlying30 Tryz.infoNod rfl (by decide) HR8.out (Below.refl w6.heap.size w8) (by omega) rfl rfl rfl rfl rfl (by intro u hu; unfold nodVC at hu; simp at hu; rcases hu with rfl | rfl | rfl | rfl | rfl <;> rfl) (by unfold maxLen; omega) (by omega) ?_))
                  intro v10 w10 hown10 hb10 hg10 hs10 hv10
                  have hxb10 := HXB8.out.app (SW := fun g => (Value.slice a12 i c12).ownBlock = some g) (p := ⟨2, 0, (i : Int), .slice none 0 0, .slice a12 i c12⟩) (nd := ⟨2, 0, (i : Int), [], KS⟩) (by rw [HV1.out, HNLL.out]) HV38.out (Below.refl _ _) hg10 (by rw [HNLL.out]; exact hown10) hv10 (nodS_thr _ HK8.out (fun g hg => hg)) (fun g hg => ⟨(HK8.out.lt g hg).2, fun e => by have := hvlt0 g e; have := hr12lt g hg; omega⟩)
                  have hblk : ∀ g, g < w8.heap.size → (Value.slice av NL cv).ownBlock ≠ some g → w10.heap[g]? = w8.heap[g]? := fun g g1 g2 => hg10.block g g1 (fun e => g2 e.symm)
                  have hvl := hvlt0
                  have gX10 := (hblk X (by omega) (fun e => by have := hvl X e; omega)).trans HX8.out
                  have gP10 := (hblk (X + 1) (by omega) (fun e => by have := hvl (X + 1) e; omega)).trans HP8.out
                  have hr10 : w10.ownsRow w6.heap.size 3 1 (.slice a8 (j + 1) c8) (j + 1) ((NT.2 ++ [(NL : Int)]).map (Value.int .i64)) := rowK_at HO8.out fun g hg => hblk g (HO8.out.lt g hg).2 (fun e => by
                    rcases h8lt g hg with e2 | e2
                    · exact (HD9' g e2).2 e
                    · have := hvl g e; omega)
                  obtain ⟨a10, c10, rfl, _⟩ := rdK_of_row hown10
                  have hx10 := cell_of_row _ _ 0 _ _ _ gX10
                  have fx10 := frozen_row gX10 0
                  have HXB10 := Lib.hid hxb10
                  have HX10 := Lib.hid gX10
                  have HP10 := Lib.hid gP10
                  have HR10 := Lib.hid hr10
                  have HV10 := Lib.hid hv10
                  have HBLK := Lib.hid hblk
                  have HBW10 := Lib.hid (HBW8.out.trans (hb10.mono (by have := HB06.out.size; omega)))
                  have h10lt := hr10.lt
                  clear hxb10 gX10 gP10 hr10 hblk hown10 hb10 hg10 hx8 hv10
                  go_wp2_with fail
                  go_roundw
                  case rel =>
                    refine ⟨j + 1, _, (fun g => S g ∨ (Value.slice a12 i c12).ownBlock = some g), by omega, by go_num, by rw [heap_set_at HX10.out]; rfl, heap_set_other (by omega) _ _ HP10.out, ?_, ?_, fun g hg => ?_, fun g hg => ?_, fun g g1 g2 g3 => ?_, ?_, by simp; omega⟩
                    · rw [HST1.out]
                      exact HXB10.out.move (fun g hg => Below.heap_setCell _ _ _ _ (by
                        show g ≠ X
                        rcases hg with hg | hg
                        · have := hSS g hg; omega
                        · have := hr12lt g hg; omega)) (fun g hg => Below.heap_setCell _ _ _ _ (by have := (HXB10.out.lt_own g hg).1; show g ≠ X; omega)) (by simp)
                    · rw [HST1.out]
                      exact rowK_at HR10.out fun g hg => Below.heap_setCell _ _ _ _ (by have := h10lt g hg; show g ≠ X; omega)
                    · rcases hg with hg | hg
                      · exact hSS g hg
                      · have := hr12lt g hg; omega
                    · refine ⟨?_, fun e => ?_⟩
                      · rintro (h2 | h2)
                        · rcases h8lt g hg with e2 | e2
                          · exact (HD9' g e2).1 h2
                          · have := hSlt0 g h2; omega
                        · rcases h8lt g hg with e2 | e2
                          · have := h9lt g e2; have := hr12lt g h2; omega
                          · have := hr12lt g h2; omega
                      · rcases HV10.out g e with e3 | e3
                        · rcases h8lt g hg with e2 | e2
                          · exact (HD9' g e2).2 e3
                          · have := hvl g e3; omega
                        · have := (HO8.out.lt g hg).2; omega
                    · rw [Below.heap_setCell _ ⟨X, 0, none⟩ _ g g2, HBLK.out g (by omega) (fun e => by have := hvl g e; omega)]
                      exact HBK8.out g g1 g2 g3
                    · exact HBW10.out.setCell (p := ⟨X, 0, none⟩) (by show w.heap.size ≤ X; omega) _
                  case measure => simp [intOf] <;> omega
          · obtain rfl : j = n := by omega
            have hft := HFT.out j (by have := HFN.out; omega)
            rw [HME.out, HNM.out] at hft
            have hOX : ofX f = if (ofT f j).2.length = 1 then ⟨(ofT f j).1, (ofT f j).2.getD 0 0⟩ else ⟨(ofT f j).1 ++ [⟨2, 0, 1, [], (ofT f j).2⟩], ((ofT f j).1.length : Int)⟩ := by unfold ofX; rw [HFN.out]
            obtain ⟨NT, hNT⟩ : ∃ NT, ofT f j = NT := ⟨_, rfl⟩
            rw [hNT] at hft hxb hrow9 hOX
            obtain ⟨NL, hNL⟩ : ∃ NL, NT.1.length = NL := ⟨_, rfl⟩
            rw [hNL] at hft hOX
            obtain ⟨hft1, hft2⟩ := hft
            rw [hft2] at hOX
            obtain ⟨V, hV1, hV2, hV3⟩ := hxb.row
            rw [hNL] at hV1 hV2
            obtain ⟨av, cv, rfl, _⟩ := rdK_of_row hV2
            obtain ⟨a9, c9, rfl, hrd9⟩ := rd_of_row hrow9
            have gR := (hbk w.heap.size (by omega) (by omega) (by omega)).trans GR6.out
            have HXB := Lib.hid hxb
            have HR9 := Lib.hid hrow9
            have HRD9 := Lib.hid hrd9
            have HV1 := Lib.hid hV1
            have HV2 := Lib.hid hV2
            have HV3 := Lib.hid hV3
            have HXb := Lib.hid hXb
            have HGR := Lib.hid gR
            have HBW := Lib.hid hbw
            have HOX := Lib.hid hOX
            have HNLL := Lib.hid hNL
            have h9lt := hrow9.lt
            have hvlt := hxb.lt_own
            have x0 := cell_of_row _ _ 0 _ _ _ hXb
            have x1 := cell_of_row _ _ 1 _ _ _ hXb
            have y0 := frozen_row hXb 0
            have y1 := frozen_row hXb 1
            clear hxb hrow9 hrd9 hV1 hV2 hV3 hXb gR hbk hbw hOX hNL hNT hft2 hPb
            by_cases h1 : j = 1
            · have HOX1 : Hid (ofX f = ⟨NT.1, NT.2.getD 0 0⟩) := Lib.hid (by rw [HOX.out, if_pos h1])
              obtain ⟨b3, o3, ha3, hcell3⟩ := HRD9.out.at' (by omega)
              obtain ⟨z, hz⟩ : ∃ z, NT.2[0]? = some z := by
                have h2 := HRD9.out.len
                rw [List.length_map] at h2
                exact ⟨_, List.getElem?_eq_getElem (by omega)⟩
              have hc3 : wr.cell? ⟨b3, o3, none⟩ = some (.int .i64 z) := by
                have := hcell3 0 (.int .i64 z) (by rw [List.getElem?_map, hz]; rfl)
                rwa [Nat.add_zero] at this
              have hg0 : NT.2.getD 0 0 = z := by rw [List.getD_eq_getElem?_getD, hz]; rfl
              rw [hg0] at HOX1
              have hi1 : ((j : Int) == 1) = true := by rw [h1]; rfl
              have hib : (0 : Nat) < j := by omega
              subst ha3
              clear hz hcell3 h1 hg0
              go_upto_region 31 with fail
              generalize hWp : wr.setCell _ _ = wp
              have hkp : ∀ g, g ≠ X → wp.heap[g]? = wr.heap[g]? := fun g hg => by rw [← hWp]; exact Below.heap_setCell _ ⟨X, 1, none⟩ _ g hg
              have gXp : wp.heap[X]? = some (.cells #[.slice av NL cv, .int .i64 z] 32 (0, 0)) := by rw [← hWp, heap_set_at HXb.out]; rfl
              have hsp : wr.heap.size ≤ wp.heap.size := by rw [← hWp]; simp
              have HBp := Lib.hid (HBW.out.trans (show Below w.heap.size wr wp by rw [← hWp]; exact (Below.refl _ _).setCell (p := ⟨X, 1, none⟩) (by show w.heap.size ≤ X; omega) _))
              have gRp := (hkp w.heap.size (by omega)).trans HGR.out
              have HXBp := Lib.hid (HXB.out.move (w' := wp) (fun g hg => hkp g (by have := hS g hg; omega)) (fun g hg => hkp g (by have := hvlt g hg; omega)) hsp)
              have HGRp := Lib.hid gRp
              clear x0 x1 y0 y1 hc3
              have x0 := cell_of_row _ _ 0 _ _ _ gXp
              have x1 := cell_of_row _ _ 1 _ _ _ gXp
              have r0 := cell_of_row _ _ 0 _ _ _ gRp
              have r1 := cell_of_row _ _ 1 _ _ _ gRp
              have z0 := frozen_row gRp 0
              have z1 := frozen_row gRp 1
              clear hWp hkp gXp hsp gRp
              by_cases h60 : 60 < NL
              · have hR : ofE f = (⟨[], 0⟩, 3) := by rw [HRR.out, if_pos (by rw [HOX1.out]; show 60 < NT.1.length; rw [HNLL.out]; exact h60)]
                have HR := Lib.hid hR
                have hd : decide ((60 : Int) < ((NL : Nat) : Int)) = true := decide_eq_true (by omega)
                clear hR h60
                go_wp2_with fail
                clear r0 r1 z0 z1 x0 x1
                generalize hWF : (wp.setCell _ _).setCell _ _ = WF
                obtain ⟨e1, hbf⟩ := fin_box HGRp.out (by omega) HBp.out hWF
                have HBF := Lib.hid hbf
                have f0 := cell_of_row _ _ 0 _ _ _ e1
                have f1 := cell_of_row _ _ 1 _ _ _ e1
                clear hWF e1 hbf
                refine bodyPost_ret (v := .tuple #[.agg #[.slice none 0 0, .int .i64 0], .int .i64 3]) ?_ rfl (by rw [HR.out]; exact RetX.none_ rfl HBF.out)
                rw [results_cell_tmp rfl]
                go_simp
              · have hR : ofE f = (ofX f, 0) := by rw [HRR.out, if_neg (by rw [HOX1.out]; show ¬ 60 < NT.1.length; rw [HNLL.out]; exact h60)]
                have HR := Lib.hid hR
                have hd : decide ((60 : Int) < ((NL : Nat) : Int)) = false := decide_eq_false (by omega)
                clear hR h60
                go_wp2_with fail
                clear r0 r1 z0 z1 x0 x1
                generalize hWF : (wp.setCell _ _).setCell _ _ = WF
                obtain ⟨e1, hxm, hbf⟩ := retx_fin (w := w) (root := z) HXBp.out (by show NT.1.length = NL; exact HNLL.out) (Nat.le_refl _) (fun g hg => by have := hS g hg; omega) (by omega) HBp.out HGRp.out hWF
                have HXM := Lib.hid hxm
                have HBF := Lib.hid hbf
                have f0 := cell_of_row _ _ 0 _ _ _ e1
                have f1 := cell_of_row _ _ 1 _ _ _ e1
                clear hWF e1 hxm hbf
                refine bodyPost_ret (v := .tuple #[.agg #[.slice av (NL) cv, .int .i64 z], .int .i64 0]) ?_ rfl (by
                  rw [HR.out, HOX1.out]
                  refine ⟨av, cv, ?_, ?_, HBF.out⟩
                  · have e : (NT.1).length = NL := by show NT.1.length = NL; exact HNLL.out
                    show _ = Ending.returned (.tuple #[.agg #[.slice av (NT.1).length cv, .int .i64 z], .int .i64 0])
                    rw [e]
                  · have e : (NT.1).length = NL := by show NT.1.length = NL; exact HNLL.out
                    show XMR _ _ _ av (NT.1).length cv (NT.1)
                    rw [e]; exact HXM.out)
                rw [results_cell_tmp rfl]
                go_simp
            · have HOX1 : Hid (ofX f = ⟨NT.1 ++ [⟨2, 0, 1, [], NT.2⟩], (NL : Int)⟩) := Lib.hid (by rw [HOX.out, if_neg h1])
              have hi1 : ((j : Int) == 1) = false := by rw [beq_eq_false_iff_ne]; omega
              clear h1
              go_upto_region 30 with fail
              generalize hWp : wr.setCell _ _ = wp
              have hkp : ∀ g, g ≠ X → wp.heap[g]? = wr.heap[g]? := fun g hg => by rw [← hWp]; exact Below.heap_setCell _ ⟨X, 1, none⟩ _ g hg
              have gXp : wp.heap[X]? = some (.cells #[.slice av NL cv, .int .i64 (NL : Int)] 32 (0, 0)) := by rw [← hWp, heap_set_at HXb.out]; rfl
              have hsp : wr.heap.size ≤ wp.heap.size := by rw [← hWp]; simp
              have HBp := Lib.hid (HBW.out.trans (show Below w.heap.size wr wp by rw [← hWp]; exact (Below.refl _ _).setCell (p := ⟨X, 1, none⟩) (by show w.heap.size ≤ X; omega) _))
              have gRp := (hkp w.heap.size (by omega)).trans HGR.out
              have hvl0 := hvlt
              have HXBp := Lib.hid (HXB.out.move (w' := wp) (fun g hg => hkp g (by have := hS g hg; omega)) (fun g hg => hkp g (by have := hvlt g hg; omega)) hsp)
              have HROWp := Lib.hid (rowK_at HV2.out fun g hg => hkp g (by have := hvlt g hg; omega))
              have HR9p := Lib.hid (rowK_at HR9.out fun g hg => hkp g (by have := h9lt g hg; omega))
              have hV3p := Lib.hid (fun (i : Nat) p nd hp hn => (HV3.out i p nd hp hn).move (w' := wp) (fun g hg => hkp g (by have := hS g hg; omega)))
              have HGRp := Lib.hid gRp
              have HGXp := Lib.hid gXp
              clear x0 x1 y0 y1
              have x0 := cell_of_row _ _ 0 _ _ _ gXp
              have hwb : w6.heap.size ≤ wp.heap.size := by omega
              have HSPL := Lib.hid hsp
              clear hWp hkp gXp hsp gRp HV2 HV3
              go_wp2_with (at_builtin; go_must (refine wpList_appK2 5 _ _ 30 72 (.agg #[.int .i64 0, .int .i64 0, .int .i64 0, .slice none 0 0, .slice none 0 0]) (nodVC ⟨2, 0, 1, .slice none 0 0, .slice a9 j c9⟩) _ Tryz.underlying30 Tryz.infoNod rfl (by decide) HROWp.out (Below.refl w6.heap.size wp) hwb rfl rfl rfl rfl rfl (by intro u hu; unfold nodVC at hu; simp at hu; rcases hu with rfl | rfl | rfl | rfl | rfl <;> rfl) (by unfold maxLen; omega) (by omega) ?_))
              intro v10 w10 hown10 hb10 hg10 hs10 hv10
              have hxb10 := HXBp.out.app (SW := fun g => (Value.slice a9 j c9).ownBlock = some g) (p := ⟨2, 0, 1, .slice none 0 0, .slice a9 j c9⟩) (nd := ⟨2, 0, 1, [], NT.2⟩) (by rw [HV1.out, HNLL.out]) hV3p.out (Below.refl _ _) hg10 (by rw [HNLL.out]; exact hown10) hv10 (nodS_thr _ HR9p.out (fun g hg => hg)) (fun g hg => ⟨(HR9p.out.lt g hg).2, (hd9 g hg).2⟩)
              have hblk : ∀ g, g < wp.heap.size → (Value.slice av NL cv).ownBlock ≠ some g → w10.heap[g]? = wp.heap[g]? := fun g g1 g2 => hg10.block g g1 (fun e => g2 e.symm)
              have gX10 := (hblk X (by omega) (fun e => by have := hvlt X e; omega)).trans HGXp.out
              have gR10 := (hblk w.heap.size (by omega) (fun e => by have := hvlt w.heap.size e; omega)).trans HGRp.out
              obtain ⟨a10, c10, rfl, _⟩ := rdK_of_row hown10
              have HX10 := Lib.hid gX10
              have HGR10 := Lib.hid gR10
              have HXB10 := Lib.hid hxb10
              have HBW10 := Lib.hid (HBp.out.trans (hb10.mono (by have := HB06.out.size; omega)))
              clear x0 hxb10 hblk hown10 hb10 hg10 hv10
              have x0 := cell_of_row _ _ 0 _ _ _ gX10
              have y0 := frozen_row gX10 0
              clear gX10 gR10
              go_upto_region 31 with fail
              generalize hWq : w10.setCell _ _ = wq
              have hkq : ∀ g, g ≠ X → wq.heap[g]? = w10.heap[g]? := fun g hg => by rw [← hWq]; exact Below.heap_setCell _ ⟨X, 0, none⟩ _ g hg
              have gXq : wq.heap[X]? = some (.cells #[.slice a10 (NL + 1) c10, .int .i64 (NL : Int)] 32 (0, 0)) := by rw [← hWq, heap_set_at HX10.out]; rfl
              have hsq : w10.heap.size ≤ wq.heap.size := by rw [← hWq]; simp
              have HBq := Lib.hid (HBW10.out.trans (show Below w.heap.size w10 wq by rw [← hWq]; exact (Below.refl _ _).setCell (p := ⟨X, 0, none⟩) (by show w.heap.size ≤ X; omega) _))
              have gRq := (hkq w.heap.size (by omega)).trans HGR10.out
              have hS9 : ∀ g, (S g ∨ (Value.slice a9 j c9).ownBlock = some g) → w6.heap.size ≤ g := fun g hg => by
                rcases hg with hg | hg
                · exact hS g hg
                · exact (h9lt g hg).1
              have HXBq := Lib.hid (HXB10.out.move (w' := wq) (fun g hg => hkq g (by have := hS9 g hg; omega)) (fun g hg => hkq g (by have := (HXB10.out.lt_own g hg).1; omega)) hsq)
              have HGRq := Lib.hid gRq
              have HNL1 : Hid ((NT.1 ++ [(⟨2, 0, 1, [], NT.2⟩ : Nod)]).length = NL + 1) := Lib.hid (by rw [List.length_append, HNLL.out]; rfl)
              clear x0 y0
              have x0 := cell_of_row _ _ 0 _ _ _ gXq
              have x1 := cell_of_row _ _ 1 _ _ _ gXq
              have r0 := cell_of_row _ _ 0 _ _ _ gRq
              have r1 := cell_of_row _ _ 1 _ _ _ gRq
              have z0 := frozen_row gRq 0
              have z1 := frozen_row gRq 1
              clear hWq hkq gXq hsq gRq
              by_cases h60 : 60 < NL + 1
              · have hR : ofE f = (⟨[], 0⟩, 3) := by rw [HRR.out, if_pos (by rw [HOX1.out]; show 60 < (NT.1 ++ [(⟨2, 0, 1, [], NT.2⟩ : Nod)]).length; rw [HNL1.out]; exact h60)]
                have HR := Lib.hid hR
                have hd : decide ((60 : Int) < (NL : Int) + 1) = true := decide_eq_true (by omega)
                clear hR h60
                go_wp2_with fail
                clear r0 r1 z0 z1 x0 x1
                generalize hWF : (wq.setCell _ _).setCell _ _ = WF
                obtain ⟨e1, hbf⟩ := fin_box HGRq.out (by omega) HBq.out hWF
                have HBF := Lib.hid hbf
                have f0 := cell_of_row _ _ 0 _ _ _ e1
                have f1 := cell_of_row _ _ 1 _ _ _ e1
                clear hWF e1 hbf
                refine bodyPost_ret (v := .tuple #[.agg #[.slice none 0 0, .int .i64 0], .int .i64 3]) ?_ rfl (by rw [HR.out]; exact RetX.none_ rfl HBF.out)
                rw [results_cell_tmp rfl]
                go_simp
              · have hR : ofE f = (ofX f, 0) := by rw [HRR.out, if_neg (by rw [HOX1.out]; show ¬ 60 < (NT.1 ++ [(⟨2, 0, 1, [], NT.2⟩ : Nod)]).length; rw [HNL1.out]; exact h60)]
                have HR := Lib.hid hR
                have hd : decide ((60 : Int) < (NL : Int) + 1) = false := decide_eq_false (by omega)
                clear hR h60
                go_wp2_with fail
                clear r0 r1 z0 z1 x0 x1
                generalize hWF : (wq.setCell _ _).setCell _ _ = WF
                obtain ⟨e1, hxm, hbf⟩ := retx_fin (w := w) (root := (NL : Int)) HXBq.out (by exact HNL1.out) (Nat.le_refl _) (fun g hg => by have := hS9 g hg; omega) (by omega) HBq.out HGRq.out hWF
                have HXM := Lib.hid hxm
                have HBF := Lib.hid hbf
                have f0 := cell_of_row _ _ 0 _ _ _ e1
                have f1 := cell_of_row _ _ 1 _ _ _ e1
                clear hWF e1 hxm hbf
                refine bodyPost_ret (v := .tuple #[.agg #[.slice a10 (NL + 1) c10, .int .i64 (NL : Int)], .int .i64 0]) ?_ rfl (by
                  rw [HR.out, HOX1.out]
                  refine ⟨a10, c10, ?_, ?_, HBF.out⟩
                  · have e : ((NT.1 ++ [(⟨2, 0, 1, [], NT.2⟩ : Nod)])).length = NL + 1 := by exact HNL1.out
                    show _ = Ending.returned (.tuple #[.agg #[.slice a10 ((NT.1 ++ [(⟨2, 0, 1, [], NT.2⟩ : Nod)])).length c10, .int .i64 (NL : Int)], .int .i64 0])
                    rw [e]
                  · have e : ((NT.1 ++ [(⟨2, 0, 1, [], NT.2⟩ : Nod)])).length = NL + 1 := by exact HNL1.out
                    show XMR _ _ _ a10 ((NT.1 ++ [(⟨2, 0, 1, [], NT.2⟩ : Nod)])).length c10 ((NT.1 ++ [(⟨2, 0, 1, [], NT.2⟩ : Nod)]))
                    rw [e]; exact HXM.out)
                rw [results_cell_tmp rfl]
                go_simp
  · have hRR : ofE f = (⟨[], 0⟩, valS f) := by unfold ofE; rw [if_pos hE]
    rw [hRR]
    obtain ⟨E, hEE⟩ : ∃ E, valS f = E := ⟨_, rfl⟩
    rw [hEE] at H1 hE ⊢
    have hne : (E != 0) = true := by simpa using hE
    clear hRR hEE hE h ht
    go_enter Tryz.func24, Tryz.ntmps24
    go_wp2_with fail
    generalize hW1 : w.alloc _ = w1
    have hb1 : Below w.heap.size w w1 := by rw [← hW1]; exact (Below.refl _ _).alloc (Nat.le_refl _) _
    have gR1 : w1.heap[w.heap.size]? = some (.cells #[.slice none 0 0, .int .i64 0] 32 (0, 0)) := by rw [← hW1]; exact heap_alloc_new _ _
    clear hW1
    with_reducible refine (H1.out w1 hb1).mono ?_
    rintro e w4 ⟨rfl, hb4⟩
    have gR4 := heap_below hb4 gR1
    have HB4 := Lib.hid (Below.next hb1 hb4)
    have HG4 := Lib.hid gR4
    have r0 := cell_of_row _ _ 0 _ _ _ gR4
    have r1 := cell_of_row _ _ 1 _ _ _ gR4
    have z0 := frozen_row gR4 0
    have z1 := frozen_row gR4 1
    clear hb1 gR1 hb4 gR4
    go_wp2_with fail
    clear r0 r1 z0 z1
    generalize hWF : (w4.setCell _ _).setCell _ _ = WF
    obtain ⟨e1, hbf⟩ := fin_box HG4.out (Nat.le_refl _) HB4.out hWF
    have HBF := Lib.hid hbf
    have f0 := cell_of_row _ _ 0 _ _ _ e1
    have f1 := cell_of_row _ _ 1 _ _ _ e1
    clear hWF e1 hbf
    refine bodyPost_ret (v := .tuple #[.agg #[.slice none 0 0, .int .i64 0], .int .i64 E]) ?_ rfl (RetX.none_ rfl HBF.out)
    rw [results_cell_tmp rfl]
    go_simp
end Go.Proofs.YtcojmmhclklpoaaGreatDoor
namespace Go.Proofs
open Go.Shelf

def Tryz.lays169_ren : Go.Shelf.Ren := ⟨fun | 169 => 68 | n => n, fun | 70 => 90 | 9 => 9 | 0 => 0 | 72 => 92 | 37 => 66 | 127 => 130 | 3 => 3 | 5 => 5 | n => n, fun | n => n⟩

theorem Tryz.lays169 : Go.Proofs.Lays.n169 Tryz.prog Tryz.lays169_ren := {
  mixed := by kernel_rfl
  f169 := Tryz.func68.trans (congrArg some (by kernel_rfl))
  t0 := Tryz.underlying0
  a0 := Tryz.isAgg0
  z0 := Tryz.sizeOf0
  v0 := Tryz.zeroValue0
  t3 := Tryz.underlying3
  a3 := Tryz.isAgg3
  z3 := Tryz.sizeOf3
  v3 := Tryz.zeroValue3
  t9 := Tryz.underlying9
  a9 := Tryz.isAgg9
  z9 := Tryz.sizeOf9
  v9 := Tryz.zeroValue9
  t37 := Tryz.underlying66
  a37 := Tryz.isAgg66
  z37 := Tryz.sizeOf66
  v37 := Tryz.zeroValue66
  t70 := Tryz.underlying90
  a70 := Tryz.isAgg90
  z70 := Tryz.sizeOf90
  v70 := Tryz.zeroValue90
  t72 := Tryz.underlying92
  a72 := Tryz.isAgg92
  z72 := Tryz.sizeOf92
  v72 := Tryz.zeroValue92
  t127 := Tryz.underlying130
  a127 := Tryz.isAgg130
  z127 := Tryz.sizeOf130
  v127 := Tryz.zeroValue130 }

theorem Tryz.Builder_Extra_169 : Builder.Extra Tryz.prog Tryz.lays169_ren := {
  sizeBuilder := by kernel_rfl
  liesBuilder := by kernel_rfl
  t5 := Tryz.underlying5
  a5 := Tryz.isAgg5
  z5 := Tryz.sizeOf5
  v5 := Tryz.zeroValue5
  infoByte := by kernel_rfl
  cellsByte := by kernel_rfl
  sizeByte := by kernel_rfl
  neB5 := by decide }

def Tryz.lays103_ren : Go.Shelf.Ren := ⟨fun | 103 => 121 | 210 => 130 | 206 => 137 | n => n, fun | 9 => 9 | 4 => 4 | 24 => 147 | 3 => 3 | n => n, fun | n => n⟩

theorem Tryz.lays103 : Go.Proofs.Lays.n103 Tryz.prog Tryz.lays103_ren := {
  mixed := by kernel_rfl
  f103 := Tryz.func121.trans (congrArg some (by kernel_rfl))
  f206 := Tryz.func137.trans (congrArg some (by kernel_rfl))
  f210 := Tryz.func130.trans (congrArg some (by kernel_rfl))
  t3 := Tryz.underlying3
  a3 := Tryz.isAgg3
  z3 := Tryz.sizeOf3
  v3 := Tryz.zeroValue3
  t4 := Tryz.underlying4
  a4 := Tryz.isAgg4
  z4 := Tryz.sizeOf4
  v4 := Tryz.zeroValue4
  t9 := Tryz.underlying9
  a9 := Tryz.isAgg9
  z9 := Tryz.sizeOf9
  v9 := Tryz.zeroValue9
  t24 := Tryz.underlying147
  a24 := Tryz.isAgg147
  z24 := Tryz.sizeOf147
  v24 := Tryz.zeroValue147 }

open Go.RowKit in
theorem Tryz.strings_CutPrefix (s p : ByteArray) (w : World) :
    Calls Tryz.prog 121 #[.string s, .string p] w fun e w' => e = .returned (.tuple #[.string ⟨(Lib.trimPrefix s.data.toList p.data.toList).toArray⟩, .bool (Lib.hasPrefix s.data.toList p.data.toList)]) ∧ w' = w := Any.strings_CutPrefix Tryz.lays103 s p w

open Go.RowKit in
theorem Tryz.Builder_String_any_k (B b : Nat) (l : List UInt8) (w : World) (h : Lib.IsBuilderF 92 5 B b (Lib.byteCells l) w) (hBw : B ≤ w.heap.size) :
    Calls Tryz.prog 68 #[.pointer (some ⟨b, 0, none⟩)] w fun e w' => e = .returned (.string ⟨l.toArray⟩) ∧ (Lib.IsBuilderF 92 5 B b (Lib.byteCells l) w' ∧ Below B w w' ∧ Lib.OthersKept 5 (some b) w w') := Any.Builder_String_any_k Tryz.lays169 Tryz.Builder_Extra_169 B b l w h hBw

def Tryz.laysM171_ren : Go.Shelf.Ren := ⟨fun | 171 => 94 | 243 => 120 | 246 => 129 | 283 => 133 | 284 => 134 | 285 => 135 | 286 => 136 | 129 => 144 | 317 => 143 | 318 => 145 | 319 => 146 | 320 => 147 | 337 => 151 | 338 => 152 | n => n, fun | 3 => 3 | 9 => 9 | 2 => 2 | 4 => 4 | 171 => 155 | 0 => 0 | 53 => 156 | 37 => 66 | 5 => 5 | 173 => 159 | 212 => 169 | 51 => 141 | 20 => 20 | 213 => 170 | 46 => 142 | 232 => 146 | 233 => 183 | n => n, fun | 17 => 1 | 18 => 0 | 19 => 4 | n => n⟩

theorem Tryz.laysM171 : Go.Proofs.LaysM.n171 Tryz.prog Tryz.laysM171_ren := {
  mixed := by kernel_rfl
  f129 := Tryz.func144.trans (congrArg some (by kernel_rfl))
  f171 := Tryz.func94.trans (congrArg some (by kernel_rfl))
  f243 := Tryz.func120.trans (congrArg some (by kernel_rfl))
  f246 := Tryz.func129.trans (congrArg some (by kernel_rfl))
  f283 := Tryz.func133.trans (congrArg some (by kernel_rfl))
  f284 := Tryz.func134.trans (congrArg some (by kernel_rfl))
  f285 := Tryz.func135.trans (congrArg some (by kernel_rfl))
  f286 := Tryz.func136.trans (congrArg some (by kernel_rfl))
  f317 := Tryz.func143.trans (congrArg some (by kernel_rfl))
  f318 := Tryz.func145.trans (congrArg some (by kernel_rfl))
  f319 := Tryz.func146.trans (congrArg some (by kernel_rfl))
  f320 := Tryz.func147.trans (congrArg some (by kernel_rfl))
  f337 := Tryz.func151.trans (congrArg some (by kernel_rfl))
  f338 := Tryz.func152.trans (congrArg some (by kernel_rfl))
  t0 := Tryz.underlying0
  a0 := Tryz.isAgg0
  z0 := Tryz.sizeOf0
  v0 := Tryz.zeroValue0
  t2 := Tryz.underlying2
  a2 := Tryz.isAgg2
  z2 := Tryz.sizeOf2
  v2 := Tryz.zeroValue2
  t3 := Tryz.underlying3
  a3 := Tryz.isAgg3
  z3 := Tryz.sizeOf3
  v3 := Tryz.zeroValue3
  t4 := Tryz.underlying4
  a4 := Tryz.isAgg4
  z4 := Tryz.sizeOf4
  v4 := Tryz.zeroValue4
  t5 := Tryz.underlying5
  a5 := Tryz.isAgg5
  z5 := Tryz.sizeOf5
  v5 := Tryz.zeroValue5
  t9 := Tryz.underlying9
  a9 := Tryz.isAgg9
  z9 := Tryz.sizeOf9
  v9 := Tryz.zeroValue9
  t20 := Tryz.underlying20
  a20 := Tryz.isAgg20
  z20 := Tryz.sizeOf20
  v20 := Tryz.zeroValue20
  t37 := Tryz.underlying66
  a37 := Tryz.isAgg66
  z37 := Tryz.sizeOf66
  v37 := Tryz.zeroValue66
  t46 := Tryz.underlying142
  a46 := Tryz.isAgg142
  z46 := Tryz.sizeOf142
  v46 := Tryz.zeroValue142
  t51 := Tryz.underlying141
  a51 := Tryz.isAgg141
  z51 := Tryz.sizeOf141
  v51 := Tryz.zeroValue141
  t53 := Tryz.underlying156
  a53 := Tryz.isAgg156
  z53 := Tryz.sizeOf156
  v53 := Tryz.zeroValue156
  t171 := Tryz.underlying155
  a171 := Tryz.isAgg155
  z171 := Tryz.sizeOf155
  v171 := Tryz.zeroValue155
  t173 := Tryz.underlying159
  a173 := Tryz.isAgg159
  z173 := Tryz.sizeOf159
  v173 := Tryz.zeroValue159
  t212 := Tryz.underlying169
  a212 := Tryz.isAgg169
  z212 := Tryz.sizeOf169
  v212 := Tryz.zeroValue169
  t213 := Tryz.underlying170
  a213 := Tryz.isAgg170
  z213 := Tryz.sizeOf170
  t232 := Tryz.underlying146
  a232 := Tryz.isAgg146
  z232 := Tryz.sizeOf146
  v232 := Tryz.zeroValue146
  t233 := Tryz.underlying183
  a233 := Tryz.isAgg183
  z233 := Tryz.sizeOf183
  v233 := Tryz.zeroValue183
  g17 := by kernel_rfl
  g18 := by kernel_rfl
  g19 := by kernel_rfl
  i0 := by kernel_rfl
  i2 := by kernel_rfl
  i3 := by kernel_rfl
  i4 := by kernel_rfl
  i5 := by kernel_rfl
  i9 := by kernel_rfl
  i20 := by kernel_rfl
  i37 := by kernel_rfl
  i46 := by kernel_rfl
  i51 := by kernel_rfl
  i53 := by kernel_rfl
  i171 := by kernel_rfl
  i173 := by kernel_rfl
  i212 := by kernel_rfl
  i232 := by kernel_rfl
  i233 := by kernel_rfl
  m17 := by kernel_rfl
  m18 := by kernel_rfl
  m19 := by kernel_rfl }

open Go.RowKit Go.Sort Go.Lib in
theorem Tryz.strconv_Itoa (n : Int) (h0 : -9223372036854775808 ≤ n) (h1 : n ≤ 9223372036854775807) (w : World) (htab : Lib.TabIs Tryz.prog w "internal/strconv.uint64pow10" .u64 Lib.pow10Tab) :
    Calls Tryz.prog 94 #[.int .i64 n] w fun e w' => e = .returned (.string ⟨(Lib.itoa n).toArray⟩) ∧ ∃ k os, w' = grow (w.drewN k) os := Any.strconv_Itoa Tryz.laysM171 n h0 h1 w htab

def Tryz.laysC172_ren : Go.Shelf.Ren := ⟨fun | 172 => 122 | 244 => 131 | 245 => 132 | 247 => 138 | 279 => 139 | 280 => 140 | 281 => 141 | 282 => 142 | 287 => 148 | 316 => 149 | 171 => 94 | 205 => 150 | 321 => 153 | 322 => 154 | 243 => 120 | 246 => 129 | 283 => 133 | 284 => 134 | 285 => 135 | 286 => 136 | 129 => 144 | 317 => 143 | 318 => 145 | 319 => 146 | 320 => 147 | 337 => 151 | 338 => 152 | n => n, fun | 9 => 9 | 3 => 3 | 75 => 126 | 76 => 127 | 4 => 4 | 5 => 5 | 167 => 162 | 37 => 66 | 0 => 0 | 85 => 163 | 2 => 2 | 168 => 165 | 53 => 156 | 175 => 172 | 46 => 142 | 210 => 176 | 127 => 130 | 145 => 182 | 143 => 180 | 21 => 21 | 171 => 155 | 173 => 159 | 212 => 169 | 51 => 141 | 20 => 20 | 213 => 170 | 232 => 146 | 233 => 183 | 80 => 94 | n => n, fun | 15 => 2 | 16 => 3 | 17 => 1 | 18 => 0 | 19 => 4 | n => n⟩

theorem Tryz.laysC172 : Go.Proofs.LaysC.n172 Tryz.prog Tryz.laysC172_ren := {
  mixed := by kernel_rfl
  f129 := Tryz.func144.trans (congrArg some (by kernel_rfl))
  f171 := Tryz.func94.trans (congrArg some (by kernel_rfl))
  f172 := Tryz.func122.trans (congrArg some (by kernel_rfl))
  f205 := Tryz.func150.trans (congrArg some (by kernel_rfl))
  f243 := Tryz.func120.trans (congrArg some (by kernel_rfl))
  f244 := Tryz.func131.trans (congrArg some (by kernel_rfl))
  f245 := Tryz.func132.trans (congrArg some (by kernel_rfl))
  f246 := Tryz.func129.trans (congrArg some (by kernel_rfl))
  f247 := Tryz.func138.trans (congrArg some (by kernel_rfl))
  f279 := Tryz.func139.trans (congrArg some (by kernel_rfl))
  f280 := Tryz.func140.trans (congrArg some (by kernel_rfl))
  f281 := Tryz.func141.trans (congrArg some (by kernel_rfl))
  f282 := Tryz.func142.trans (congrArg some (by kernel_rfl))
  f283 := Tryz.func133.trans (congrArg some (by kernel_rfl))
  f284 := Tryz.func134.trans (congrArg some (by kernel_rfl))
  f285 := Tryz.func135.trans (congrArg some (by kernel_rfl))
  f286 := Tryz.func136.trans (congrArg some (by kernel_rfl))
  f287 := Tryz.func148.trans (congrArg some (by kernel_rfl))
  f316 := Tryz.func149.trans (congrArg some (by kernel_rfl))
  f317 := Tryz.func143.trans (congrArg some (by kernel_rfl))
  f318 := Tryz.func145.trans (congrArg some (by kernel_rfl))
  f319 := Tryz.func146.trans (congrArg some (by kernel_rfl))
  f320 := Tryz.func147.trans (congrArg some (by kernel_rfl))
  f321 := Tryz.func153.trans (congrArg some (by kernel_rfl))
  f322 := Tryz.func154.trans (congrArg some (by kernel_rfl))
  f337 := Tryz.func151.trans (congrArg some (by kernel_rfl))
  f338 := Tryz.func152.trans (congrArg some (by kernel_rfl))
  t0 := Tryz.underlying0
  a0 := Tryz.isAgg0
  z0 := Tryz.sizeOf0
  v0 := Tryz.zeroValue0
  t2 := Tryz.underlying2
  a2 := Tryz.isAgg2
  z2 := Tryz.sizeOf2
  v2 := Tryz.zeroValue2
  t3 := Tryz.underlying3
  a3 := Tryz.isAgg3
  z3 := Tryz.sizeOf3
  v3 := Tryz.zeroValue3
  t4 := Tryz.underlying4
  a4 := Tryz.isAgg4
  z4 := Tryz.sizeOf4
  v4 := Tryz.zeroValue4
  t5 := Tryz.underlying5
  a5 := Tryz.isAgg5
  z5 := Tryz.sizeOf5
  v5 := Tryz.zeroValue5
  t9 := Tryz.underlying9
  a9 := Tryz.isAgg9
  z9 := Tryz.sizeOf9
  v9 := Tryz.zeroValue9
  t20 := Tryz.underlying20
  a20 := Tryz.isAgg20
  z20 := Tryz.sizeOf20
  v20 := Tryz.zeroValue20
  t21 := Tryz.underlying21
  a21 := Tryz.isAgg21
  z21 := Tryz.sizeOf21
  v21 := Tryz.zeroValue21
  t37 := Tryz.underlying66
  a37 := Tryz.isAgg66
  z37 := Tryz.sizeOf66
  v37 := Tryz.zeroValue66
  t46 := Tryz.underlying142
  a46 := Tryz.isAgg142
  z46 := Tryz.sizeOf142
  v46 := Tryz.zeroValue142
  t51 := Tryz.underlying141
  a51 := Tryz.isAgg141
  z51 := Tryz.sizeOf141
  v51 := Tryz.zeroValue141
  t53 := Tryz.underlying156
  a53 := Tryz.isAgg156
  z53 := Tryz.sizeOf156
  v53 := Tryz.zeroValue156
  t75 := Tryz.underlying126
  a75 := Tryz.isAgg126
  z75 := Tryz.sizeOf126
  v75 := Tryz.zeroValue126
  t76 := Tryz.underlying127
  a76 := Tryz.isAgg127
  z76 := Tryz.sizeOf127
  v76 := Tryz.zeroValue127
  t85 := Tryz.underlying163
  a85 := Tryz.isAgg163
  z85 := Tryz.sizeOf163
  v85 := Tryz.zeroValue163
  t127 := Tryz.underlying130
  a127 := Tryz.isAgg130
  z127 := Tryz.sizeOf130
  v127 := Tryz.zeroValue130
  t143 := Tryz.underlying180
  a143 := Tryz.isAgg180
  z143 := Tryz.sizeOf180
  v143 := Tryz.zeroValue180
  t145 := Tryz.underlying182
  a145 := Tryz.isAgg182
  z145 := Tryz.sizeOf182
  v145 := Tryz.zeroValue182
  t167 := Tryz.underlying162
  a167 := Tryz.isAgg162
  z167 := Tryz.sizeOf162
  v167 := Tryz.zeroValue162
  t168 := Tryz.underlying165
  a168 := Tryz.isAgg165
  z168 := Tryz.sizeOf165
  v168 := Tryz.zeroValue165
  t171 := Tryz.underlying155
  a171 := Tryz.isAgg155
  z171 := Tryz.sizeOf155
  v171 := Tryz.zeroValue155
  t173 := Tryz.underlying159
  a173 := Tryz.isAgg159
  z173 := Tryz.sizeOf159
  v173 := Tryz.zeroValue159
  t175 := Tryz.underlying172
  a175 := Tryz.isAgg172
  z175 := Tryz.sizeOf172
  v175 := Tryz.zeroValue172
  t210 := Tryz.underlying176
  a210 := Tryz.isAgg176
  z210 := Tryz.sizeOf176
  v210 := Tryz.zeroValue176
  t212 := Tryz.underlying169
  a212 := Tryz.isAgg169
  z212 := Tryz.sizeOf169
  v212 := Tryz.zeroValue169
  t213 := Tryz.underlying170
  a213 := Tryz.isAgg170
  z213 := Tryz.sizeOf170
  t232 := Tryz.underlying146
  a232 := Tryz.isAgg146
  z232 := Tryz.sizeOf146
  v232 := Tryz.zeroValue146
  t233 := Tryz.underlying183
  a233 := Tryz.isAgg183
  z233 := Tryz.sizeOf183
  v233 := Tryz.zeroValue183
  g15 := by kernel_rfl
  g16 := by kernel_rfl
  g17 := by kernel_rfl
  g18 := by kernel_rfl
  g19 := by kernel_rfl
  t80 := Tryz.underlying94
  a80 := Tryz.isAgg94
  z80 := Tryz.sizeOf94
  v80 := Tryz.zeroValue94
  i0 := by kernel_rfl
  i2 := by kernel_rfl
  i3 := by kernel_rfl
  i4 := by kernel_rfl
  i5 := by kernel_rfl
  i9 := by kernel_rfl
  i20 := by kernel_rfl
  i21 := by kernel_rfl
  i37 := by kernel_rfl
  i46 := by kernel_rfl
  i51 := by kernel_rfl
  i53 := by kernel_rfl
  i75 := by kernel_rfl
  i76 := by kernel_rfl
  i80 := by kernel_rfl
  i85 := by kernel_rfl
  i127 := by kernel_rfl
  i143 := by kernel_rfl
  i145 := by kernel_rfl
  i167 := by kernel_rfl
  i168 := by kernel_rfl
  i171 := by kernel_rfl
  i173 := by kernel_rfl
  i175 := by kernel_rfl
  i210 := by kernel_rfl
  i212 := by kernel_rfl
  i232 := by kernel_rfl
  i233 := by kernel_rfl
  m15 := by kernel_rfl
  m16 := by kernel_rfl
  m17 := by kernel_rfl
  m18 := by kernel_rfl
  m19 := by kernel_rfl
  c0 := by kernel_rfl
  c2 := by kernel_rfl
  c3 := by kernel_rfl
  c4 := by kernel_rfl
  c5 := by kernel_rfl
  c9 := by kernel_rfl
  c20 := by kernel_rfl
  c21 := by kernel_rfl
  c37 := by kernel_rfl
  c46 := by kernel_rfl
  c51 := by kernel_rfl
  c53 := by kernel_rfl
  c75 := by kernel_rfl
  c76 := by kernel_rfl
  c80 := by kernel_rfl
  c85 := by kernel_rfl
  c127 := by kernel_rfl
  c143 := by kernel_rfl
  c145 := by kernel_rfl
  c167 := by kernel_rfl
  c168 := by kernel_rfl
  c171 := by kernel_rfl
  c173 := by kernel_rfl
  c175 := by kernel_rfl
  c210 := by kernel_rfl
  c212 := by kernel_rfl
  c213 := by kernel_rfl
  c232 := by kernel_rfl
  c233 := by kernel_rfl }

open Go.RowKit in
theorem Tryz.strconv_Atoi_ok (s : ByteArray) (hmax : s.size ≤ 9223372036854775806) (v : Int) (h : Lib.atoiAll s.data.toList = .ok v) (w : World) :
    Calls Tryz.prog 122 #[.string s] w fun e w' => e = .returned (.tuple #[.int .i64 v, .nilIface]) ∧ (w' = w ∨ ∃ t, w' = Lib.bytesWorld w 5 t) := Any.strconv_Atoi_ok Tryz.laysC172 s hmax v h w

open Go.RowKit in
theorem Tryz.strconv_Atoi_syntax (s : ByteArray) (hlim : s.size ≤ 281474976710656) (h : Lib.atoiAll s.data.toList = Lib.atoiAll []) (ev : Value) (w : World) (hv : w.cell? ⟨2, 0, none⟩ = some ev) (hev : ev = .nilIface ∨ ∃ te pe, ev = .iface te pe) :
    Calls Tryz.prog 122 #[.string s] w fun e w' => ∃ N, e = .returned (.tuple #[.int .i64 (0), .iface 165 (.pointer (some ⟨N, 0, none⟩))]) ∧ w.heap.size ≤ N ∧ w'.heap[N]? = some (.cells #[.string ⟨#[65, 116, 111, 105]⟩, .string s, ev] 176 (0, 0)) ∧ Below w.heap.size w w' := Any.strconv_Atoi_syntax Tryz.laysC172 s hlim h ev w hv hev

open Go.RowKit in
theorem Tryz.strconv_Atoi_range (s : ByteArray) (hlim : s.size ≤ 281474976710656) (h : Lib.atoiAll s.data.toList = .range) (ev : Value) (w : World) (hv : w.cell? ⟨3, 0, none⟩ = some ev) (hev : ev = .nilIface ∨ ∃ te pe, ev = .iface te pe) :
    Calls Tryz.prog 122 #[.string s] w fun e w' => ∃ N, e = .returned (.tuple #[.int .i64 (Lib.atoiSat s.data.toList), .iface 165 (.pointer (some ⟨N, 0, none⟩))]) ∧ w.heap.size ≤ N ∧ w'.heap[N]? = some (.cells #[.string ⟨#[65, 116, 111, 105]⟩, .string s, ev] 176 (0, 0)) ∧ Below w.heap.size w w' := Any.strconv_Atoi_range Tryz.laysC172 s hlim h ev w hv hev

end Go.Proofs
namespace Go.Proofs.YtcojmmhclklpoaaGreatDoor
open Go.RowKit Go.Shelf

theorem strCells_mkB (l : Byts) : Lib.strCells (mkB l) = Lib.byteCells l := rfl
theorem byteCells_app (l m : Byts) : Lib.byteCells (l ++ m) = Lib.byteCells l ++ Lib.byteCells m := by unfold Lib.byteCells; rw [List.map_append]
theorem mkB_app (l m : Byts) : mkB l ++ mkB m = mkB (l ++ m) := by
  apply ByteArray.ext
  rw [ByteArray.data_append]
  unfold mkB
  simp
/-- the table of the powers of ten -/
def HasPow (w : World) : Prop := Lib.TabIs Tryz.prog w "internal/strconv.uint64pow10" .u64 Lib.pow10Tab
theorem gPow : ∃ g, Tryz.prog.globalNamed "internal/strconv.uint64pow10" = some g := ⟨1, by kernel_rfl⟩
theorem HasPow.lt {w : World} (h : HasPow w) : ∃ g, Tryz.prog.globalNamed "internal/strconv.uint64pow10" = some g ∧ g < w.heap.size := by
  obtain ⟨g, hg⟩ := gPow
  refine ⟨g, hg, ?_⟩
  unfold HasPow Lib.TabIs World.var? at h
  rw [hg] at h
  simp only [Option.bind_some] at h
  rcases Nat.lt_or_ge g w.heap.size with h' | h'
  · exact h'
  · rw [Array.getElem?_eq_none h'] at h; cases h
theorem HasPow.belowB {w w' : World} {B : Nat} (h : HasPow w) (hs : w.heap.size ≤ B) (hb : Below B w w') : HasPow w' := by
  obtain ⟨g, hg, hlt⟩ := h.lt
  unfold HasPow Lib.TabIs World.var? at h ⊢
  rw [hg] at h ⊢
  simp only [Option.bind_some] at h ⊢
  rw [hb.block g (by omega)]
  exact h
theorem HasPow.below {w w' : World} (h : HasPow w) (hb : Below w.heap.size w w') : HasPow w' := h.belowB (Nat.le_refl _) hb
theorem itoa_c (n : Nat) (hn : n ≤ 1000000) (w : World) (h : HasPow w) :
    Calls Tryz.prog 94 #[.int .i64 n] w fun e w' => e = .returned (.string (mkB (Lib.decDigits n))) ∧ Below w.heap.size w w' := by
  refine (Tryz.strconv_Itoa (n : Int) (by omega) (by omega) w h).mono ?_
  rintro e w' ⟨rfl, k, os, rfl⟩
  exact ⟨by rw [Lib.itoa_nonneg]; rfl, Lib.below_grow _ w (Nat.le_refl _) k os⟩
theorem dec_len6 (n : Nat) (h : n ≤ 100000) : (Lib.decDigits n).length ≤ 6 := by
  rw [Lib.decDigits_eq, List.length_map, List.length_range]
  unfold Lib.nDigits
  split
  · omega
  · unfold Lib.nDigits
    split
    · omega
    · unfold Lib.nDigits
      split
      · omega
      · unfold Lib.nDigits
        split
        · omega
        · unfold Lib.nDigits
          split
          · omega
          · unfold Lib.nDigits
            split
            · omega
            · omega
theorem bat_below {B b : Nat} {p : Value} {bs : List Value} {W W' : World} (h : Lib.BuilderAtF bldT bytT B b p bs W) (hb : Below W.heap.size W W') : Lib.BuilderAtF bldT bytT B b p bs W' := by
  have hlt := h.lt
  obtain ⟨hB, v, hv, hown, hne⟩ := h
  exact ⟨hB, v, (hb.block b hlt).trans hv, hown.kept (row := none) ⟨hb.os, hb.tape, hb.output, hb.size, fun k hk _ => hb.block k hk⟩ (Classical.em _), hne⟩
/-- the world while writing -/
structure ShS (w0 : World) (B : Nat) (bs : Byts) (u : World) : Prop where
  bel : Below B w0 u
  bld : Lib.IsBuilderF bldT bytT B B (Lib.byteCells bs) u
theorem ShS.lt {w0 u : World} {B : Nat} {bs : Byts} (h : ShS w0 B bs u) : B < u.heap.size := by
  rcases h.bld with h | h
  · exact h.lt
  · exact h.lt
theorem ShS.below {w0 u u' : World} {B : Nat} {bs : Byts} (h : ShS w0 B bs u) (hb : Below u.heap.size u u') : ShS w0 B bs u' :=
  ⟨h.bel.trans (hb.mono (Nat.le_of_lt h.lt)), h.bld.elim (fun x => .inl (bat_below x hb)) (fun x => .inr (bat_below x hb))⟩
theorem kept_below {a w w' : World} {B : Nat} (h : Lib.OthersKept bytT (some B) a w) (hb : Below w.heap.size w w') : Lib.OthersKept bytT (some B) a w' := by
  intro k x hk hbk hx
  have h1 := h k x hk hbk hx
  rw [hb.block k (Array.getElem?_eq_some_iff.1 h1).1]
  exact h1
theorem write_h {w0 u : World} {B : Nat} {bs : Byts} (h : ShS w0 B bs u) (s : Byts) (hl : bs.length + s.length ≤ 10000000) :
    Calls Tryz.prog 93 #[.pointer (some ⟨B, 0, none⟩), .string (mkB s)] u fun e w' => e = .returned (.tuple #[.int .i64 s.length, .nilIface]) ∧ ShS w0 B (bs ++ s) w' ∧ Lib.OthersKept bytT (some B) u w' ∧ u.heap.size ≤ w'.heap.size := by
  refine (bwrite_k B B (Lib.byteCells bs) (mkB s) u h.bld (by rw [Lib.byteCells_length, mkB_size]; omega) (Nat.le_of_lt h.lt)).mono ?_
  rintro e w' ⟨rfl, h1, h2, h3⟩
  rw [strCells_mkB, ← byteCells_app] at h1
  exact ⟨by rw [mkB_size], ⟨h.bel.trans h2, .inr h1⟩, h3, h2.size⟩
theorem txt_snoc (ws : List Int) (t : ET) : ∀ (l : List ET) (a : Nat), ETs.txt (l ++ [t]) ws a = ETs.txt l ws a ++ ((if a + l.length = 0 then [] else [44, 32]) ++ (t.txt ++ (if ws = [] then [] else 42 :: Lib.decDigits (ws.getD (a + l.length) 0).toNat)))
  | [], a => by simp [ETs.txt]
  | s :: l, a => by
    rw [List.cons_append, ETs.txt, txt_snoc ws t l (a + 1), ETs.txt, List.length_cons, show a + 1 + l.length = a + (l.length + 1) by omega]
    simp only [List.append_assoc]
theorem txt_le (ws : List Int) (m : List ET) : ∀ (l : List ET) (a : Nat), (ETs.txt l ws a).length ≤ (ETs.txt (l ++ m) ws a).length
  | [], a => by simp [ETs.txt]
  | s :: l, a => by
    have := txt_le ws m l (a + 1)
    rw [List.cons_append, ETs.txt, ETs.txt]
    simp only [List.length_append]
    omega
theorem txt_take (ws : List Int) (l : List ET) (k : Nat) : (ETs.txt (l.take k) ws 0).length ≤ (ETs.txt l ws 0).length := by
  have := txt_le ws (l.drop k) (l.take k) 0
  rwa [List.take_append_drop] at this
theorem kept_at {u v : World} {B k : Nat} {cs : Array Value} {t : TypeId} (hk : Lib.OthersKept bytT (some B) u v) (h : u.heap[k]? = some (.cells cs t (0, 0))) (hB : k ≠ B) (ht : t ≠ bytT) : v.heap[k]? = some (.cells cs t (0, 0)) := by
  refine hk k _ h (fun e => by injection e with e; exact hB e) (fun c fz e => ?_)
  injection e with _ e2 _
  exact ht e2
def ShC (x : Xpr) (w0 : World) (B : Nat) (f : Nat) : Prop :=
  ∀ (a : Option Addr) (n c : Nat), XM w0 a n c x.nodes → ∀ (i : Nat), i < f → i < x.nodes.length → ∀ (bs : Byts) (u : World), ShS w0 B bs u → bs.length + (treF x.nodes noSub f i).txt.length ≤ 1000000 →
    Calls Tryz.prog 67 #[.pointer (some ⟨B, 0, none⟩), .agg #[.slice a n c, .int .i64 x.root], .int .i64 i] u fun e w' => e = .returned (.tuple #[]) ∧ ShS w0 B (bs ++ (treF x.nodes noSub f i).txt) w' ∧ Lib.OthersKept bytT (some B) u w' ∧ u.heap.size ≤ w'.heap.size

set_option maxRecDepth 100000 in
set_option maxHeartbeats 16000000 in
theorem show_step (x : Xpr) (hx : xprE x = 0) (w0 : World) (B : Nat) (hw0 : w0.heap.size = B) (hpow : HasPow w0) (f : Nat) (ih : ShC x w0 B f) : ShC x w0 B (f + 1) := by
  intro a n c h i hif hil bs u hs hl
  obtain ⟨nd, hnd⟩ : ∃ nd, x.nodes[i]? = some nd := ⟨_, List.getElem?_eq_getElem hil⟩
  have xok := xprE_ok hx
  have ok := xok.node i nd hnd
  have hthr := xprE_thr0 hx i nd hnd
  have hln := h.len
  have hb0 : Below w0.heap.size w0 u := by rw [hw0]; exact hs.bel
  obtain ⟨b, o, ha, hat⟩ := h.at' (by omega)
  have hM := hat i nd hnd
  obtain ⟨aw, nw, cw, m3, rw3⟩ := hM.ws
  obtain ⟨ak, nk, ck, m4, rk4⟩ := hM.ks
  have m00 := cell_keep hb0 hM.c0
  have m01 := cell_keep hb0 hM.c1
  have m02 := cell_keep hb0 hM.c2
  have m03 := cell_keep hb0 m3
  have m04 := cell_keep hb0 m4
  have hbl : b < u.heap.size := cell_lt m00
  have m0 : ∀ ob, (u.alloc ob).cell? ⟨b, o + i * 5, none⟩ = some (.int .i64 nd.kind) := fun ob => (World.cell?_alloc_lt _ _ _ hbl).trans m00
  have m1 : ∀ ob, (u.alloc ob).cell? ⟨b, o + i * 5 + 1, none⟩ = some (.int .i64 nd.server) := fun ob => (World.cell?_alloc_lt _ _ _ hbl).trans m01
  have m2 : ∀ ob, (u.alloc ob).cell? ⟨b, o + i * 5 + 2, none⟩ = some (.int .i64 nd.need) := fun ob => (World.cell?_alloc_lt _ _ _ hbl).trans m02
  have m3 : ∀ ob, (u.alloc ob).cell? ⟨b, o + i * 5 + 3, none⟩ = some (.slice aw nw cw) := fun ob => (World.cell?_alloc_lt _ _ _ hbl).trans m03
  have m4 : ∀ ob, (u.alloc ob).cell? ⟨b, o + i * 5 + 4, none⟩ = some (.slice ak nk ck) := fun ob => (World.cell?_alloc_lt _ _ _ hbl).trans m04
  have HH := Lib.hid h
  have HPOW := Lib.hid (fun (bs : Byts) (v : World) (hv : ShS w0 B bs v) => hpow.belowB (Nat.le_of_eq hw0) hv.bel)
  have HS := Lib.hid hs
  have hwl := rw3.len
  have hkl := rk4.len
  rw [List.length_map] at hwl hkl
  have hin : i < n := by omega
  have hbi : decide ((i : Int) < (n : Int)) = true := decide_eq_true (by omega)
  subst ha
  clear m00 m01 m02 m03 m04
  obtain ⟨kind, server, need, ws, ks⟩ := nd
  simp only at m0 m1 m2 rw3 rk4 hwl hkl hthr
  have hBu := hs.lt
  obtain ⟨U2, hU2⟩ : ∃ U2, U2 = (u.alloc (.cells #[.slice (some ⟨b, o, none⟩) n c, .int .i64 x.root] 32)).alloc (.cells #[.int .i64 kind, .int .i64 server, .int .i64 need, .slice aw nw cw, .slice ak nk ck] 71) := ⟨_, rfl⟩
  obtain ⟨gX, gN, hb2, hs2⟩ := box2 hU2.symm
  have HS2 := Lib.hid (hs.below hb2)
  have HB2 := Lib.hid hb2
  have GX := Lib.hid gX
  have GN := Lib.hid gN
  obtain ⟨n0, n1, n2, n3, n4⟩ := open5 gN
  have HK2 : Hid (Lib.OthersKept bytT (some B) u U2) := Lib.hid (kept_below (Lib.OthersKept.refl _ _ u) hb2)
  have hUs : u.heap.size + 2 ≤ U2.heap.size := by omega
  by_cases hk1 : kind = 1
  · subst hk1
    have hT : treF x.nodes noSub (f + 1) i = .srv server := by
      have e : x.nodes.getD i nod0 = ⟨1, server, need, ws, ks⟩ := by rw [List.getD_eq_getElem?_getD, hnd]; rfl
      rw [treF, e, if_pos rfl]; rfl
    rw [hT, ET.txt] at hl ⊢
    have hsr := ok.server
    simp only at hsr
    obtain ⟨sn, rfl⟩ := Int.eq_ofNat_of_zero_le hsr.1
    rw [Int.toNat_natCast] at hl ⊢
    have HIT := Lib.hid (itoa_c sn (by omega) U2 (HPOW.out _ _ HS2.out))
    have hDl := dec_len6 sn (by omega)
    obtain ⟨D, hD⟩ : ∃ D, Lib.decDigits sn = D := ⟨_, rfl⟩
    rw [hD] at hl hDl HIT ⊢
    have hDs : ({ data := D.toArray } : ByteArray).size ≤ 6 := by have := mkB_size D; unfold mkB at this; omega
    have HL := Lib.hid hl
    unfold mkB at HIT
    rw [hU2] at n0 n1
    clear hT hD hM hat hnd rw3 rk4 hwl hkl ok xok hthr h hs hl hb2 gX gN hs2 n2 n3 n4 ih
    go_enter Tryz.func67, Tryz.ntmps67
    go_wp2_with fail
    rw [← hU2]
    with_reducible refine HIT.out.mono ?_
    rintro e U3 ⟨rfl, hb3⟩
    have HS3 := Lib.hid (HS2.out.below hb3)
    have HK3 := Lib.hid (kept_below HK2.out hb3)
    have hs3 := hb3.size
    have HW := Lib.hid (write_h HS3.out ([115] ++ D) (by have := HL.out; simp at this ⊢; omega))
    rw [← mkB_app, show mkB [115] = ⟨#[115]⟩ from rfl, show mkB D = ⟨D.toArray⟩ from rfl] at HW
    clear hb3 n0 n1 HIT
    go_wp2_with fail
    with_reducible refine HW.out.mono ?_
    rintro e w4 ⟨rfl, h1, h2, h3⟩
    have H1 := Lib.hid h1
    have H2 := Lib.hid (HK3.out.trans h2)
    clear h1 h2
    go_wp2_with fail
    refine bodyPost_ret (results_none rfl _ _ _) rfl ?_
    exact ⟨rfl, H1.out, H2.out, by omega⟩
  · have hk2 : (kind == 1) = false := by simpa using hk1
    obtain rfl : server = 0 := hthr hk1
    have hT : treF x.nodes noSub (f + 1) i = .thr need ws (kidT x.nodes noSub f ks) := by
      have e : x.nodes.getD i nod0 = ⟨kind, 0, need, ws, ks⟩ := by rw [List.getD_eq_getElem?_getD, hnd]; rfl
      rw [treF, e, if_neg hk1]; rfl
    rw [hT, ET.txt] at hl ⊢
    have hneed := ok.need
    simp only at hneed
    obtain ⟨nd, rfl⟩ := Int.eq_ofNat_of_zero_le hneed.1
    rw [Int.toNat_natCast] at hl ⊢
    have HWW := Lib.hid ok.weights
    have HKR := Lib.hid ok.kids
    have HAR := Lib.hid ok.arity
    have HIT := Lib.hid (itoa_c nd (by omega) U2 (HPOW.out _ _ HS2.out))
    have hDl := dec_len6 nd (by omega)
    obtain ⟨D, hD⟩ : ∃ D, Lib.decDigits nd = D := ⟨_, rfl⟩
    obtain ⟨KT, hKT⟩ : ∃ KT, kidT x.nodes noSub f ks = KT := ⟨_, rfl⟩
    rw [hD] at hl hDl HIT ⊢
    rw [hKT] at hl ⊢
    have hKl : KT.length = nk := by rw [← hKT, kidT_len]; exact hkl.symm
    have HKT := Lib.hid hKT
    have HKL := Lib.hid hKl
    have hDs : ({ data := D.toArray } : ByteArray).size ≤ 6 := by have := mkB_size D; unfold mkB at this; omega
    have HL : Hid (bs.length + (D.length + 1 + (ETs.txt KT ws 0).length + 1) ≤ 1000000) := Lib.hid (by
      simp only [List.length_append, List.length_cons, List.length_nil] at hl; omega)
    have HWL := Lib.hid hwl
    have HKS := Lib.hid hkl
    have HLN := Lib.hid hln
    have HIH := Lib.hid (ih (some ⟨b, o, none⟩) n c h)
    have HRW := Lib.hid rw3
    have HRK := Lib.hid rk4
    have hnkm : nk ≤ 9223372036854775807 := by have h1 := rk4.le; have h2 := rk4.max; unfold maxLen at h2; omega
    unfold mkB at HIT
    rw [hU2] at n0 n2
    clear hT hD hKT hM hat hnd rw3 rk4 hwl hkl ok xok hthr h hs hl hb2 gX gN hs2 n1 n3 n4 ih hKl hln
    go_enter Tryz.func67, Tryz.ntmps67
    go_wp2_with fail
    rw [← hU2]
    with_reducible refine HIT.out.mono ?_
    rintro e U3 ⟨rfl, hb3⟩
    have HS3 := Lib.hid (HS2.out.below hb3)
    have HK3 := Lib.hid (kept_below (Lib.OthersKept.refl bytT (some B) U2) hb3)
    have hs3 := hb3.size
    have HW := Lib.hid (write_h HS3.out (D ++ [40]) (by have := HL.out; simp; omega))
    rw [← mkB_app, show mkB [40] = ⟨#[40]⟩ from rfl, show mkB D = ⟨D.toArray⟩ from rfl] at HW
    clear hb3 n0 n2 HIT
    go_wp2_with fail
    with_reducible refine HW.out.mono ?_
    rintro e w4 ⟨rfl, h1, h2, h3⟩
    have H4 := Lib.hid h1
    have HK4 := Lib.hid (HK3.out.trans h2)
    have gN4 := kept_at HK4.out GN.out (by omega) (by decide)
    have n4 := (open5 gN4).2.2.2.2
    have hs4 : u.heap.size + 2 ≤ w4.heap.size := by omega
    clear h1 h2 HW gN4 hs3 h3
    go_wp2_with fail
    clear n4
    go_loopw [32] (fun q wr => ∃ k, k ≤ nk ∧ q = .int .i64 ((k : Nat) : Int) ∧ ShS w0 B (bs ++ (D ++ [40]) ++ ETs.txt (KT.take k) ws 0) wr ∧ Lib.OthersKept bytT (some B) U2 wr ∧ u.heap.size + 2 ≤ wr.heap.size) (fun q _ => nk - (intOf q).toNat)
    case atStart => exact ⟨0, Nat.zero_le _, rfl, by rw [List.take_zero, ETs.txt, List.append_nil]; exact H4.out, HK4.out, hs4⟩
    case round =>
      obtain ⟨k, hk, rfl, hS, hK, hsz⟩ := hrel
      by_cases hlt : k < nk
      · obtain ⟨z, hz⟩ : ∃ z, ks[k]? = some z := ⟨_, List.getElem?_eq_getElem (by have := HKS.out; omega)⟩
        have hzr := HKR.out z (List.mem_of_getElem? hz)
        obtain ⟨zn, hzn⟩ := Int.eq_ofNat_of_zero_le hzr.1
        subst hzn
        have hTT := kidT_take x.nodes noSub f ks k zn hz
        rw [HKT.out, Int.toNat_natCast] at hTT
        obtain ⟨TK, hTK⟩ : ∃ TK, treF x.nodes noSub f zn = TK := ⟨_, rfl⟩
        rw [hTK] at hTT
        have hlk : (KT.take k).length = k := by rw [List.length_take]; have := HKL.out; omega
        have htx : ETs.txt (KT.take (k + 1)) ws 0 = ETs.txt (KT.take k) ws 0 ++ ((if k = 0 then [] else [44, 32]) ++ (TK.txt ++ (if ws = [] then [] else 42 :: Lib.decDigits (ws.getD k 0).toNat))) := by
          rw [hTT, txt_snoc, hlk, Nat.zero_add]
        obtain ⟨PZ, hPZ⟩ : ∃ PZ : Byts, (if k = 0 then [] else [44, 32]) = PZ := ⟨_, rfl⟩
        have htk := txt_take ws KT (k + 1)
        rw [htx] at htk
        rw [hPZ] at htx htk
        have HTXT := Lib.hid htx
        have HLT : Hid ((bs ++ (D ++ [40]) ++ ETs.txt (KT.take k) ws 0).length + PZ.length + TK.txt.length ≤ 1000000) := Lib.hid (by
          have h1 := HL.out
          simp only [List.length_append, List.length_cons, List.length_nil] at htk ⊢
          omega)
        have HTK := Lib.hid hTK
        obtain ⟨bk, ok', hak, hck⟩ := HRK.out.at' (by omega)
        have hc := cell_keep (show Below w0.heap.size w0 wr by rw [hw0]; exact hS.bel) (hck k (.int .i64 zn) (by rw [List.getElem?_map, hz]; rfl))
        have HSS := Lib.hid hS
        have HKK := Lib.hid hK
        subst hak
        clear hTT hTK hlk htx htk hck hz hS hK
        by_cases hk0 : k = 0
        · have hPZ0 : PZ = [] := by rw [← hPZ, if_pos hk0]
          have H5 : Hid (ShS w0 B (bs ++ (D ++ [40]) ++ ETs.txt (KT.take k) ws 0 ++ PZ) wr) := Lib.hid (by rw [hPZ0, List.append_nil]; exact HSS.out)
          have HK5 := HKK
          have hd0 : decide (0 < k) = false := decide_eq_false (by omega)
          clear hPZ hPZ0 hk0
          obtain ⟨w5, hw5⟩ : ∃ w5, w5 = wr := ⟨_, rfl⟩
          subst hw5
          have gX5 := kept_at HK5.out GX.out (by omega) (by decide)
          obtain ⟨x0, x1⟩ := (open2 gX5).1
          have HCALL := Lib.hid (HIH.out zn (by omega) (by have := HLN.out; omega) _ w5 H5.out (by have := HLT.out; rw [HTK.out, List.length_append]; omega))
          rw [HTK.out] at HCALL
          clear gX5
          go_wp2_with fail
          with_reducible refine HCALL.out.mono ?_
          rintro e w6 ⟨rfl, h1, h2, h3⟩
          have H6 := Lib.hid h1
          have HK6 := Lib.hid (HK5.out.trans h2)
          have gN6 := kept_at HK6.out GN.out (by omega) (by decide)
          obtain ⟨_, _, _, n3, _⟩ := open5 gN6
          have hs6 : u.heap.size + 2 ≤ w6.heap.size := by omega
          clear h1 h2 h3 HCALL x0 x1 gN6
          by_cases hw0' : nw = 0
          · have hws : ws = [] := List.eq_nil_of_length_eq_zero (by have := HWL.out; omega)
            have HE9 : Hid (ETs.txt (KT.take (k + 1)) ws 0 = ETs.txt (KT.take k) ws 0 ++ (PZ ++ TK.txt)) := Lib.hid (by rw [HTXT.out, if_pos hws, List.append_nil])
            subst hw0'
            clear hws
            go_wp2_with fail
            go_roundw
            case rel => exact ⟨k + 1, by omega, by go_num, by rw [HE9.out, ← List.append_assoc, ← List.append_assoc]; exact H6.out, HK6.out, hs6⟩
            case measure => simp [intOf] <;> omega
          · have hne : ws ≠ [] := fun e => hw0' (by rw [HWL.out, e]; rfl)
            have hkw : k < nw := by
              rcases HAR.out with e | e
              · exact absurd e hne
              · have := HWL.out; have := HKS.out; omega
            obtain ⟨v, hv⟩ : ∃ v, ws[k]? = some v := ⟨_, List.getElem?_eq_getElem (by have := HWL.out; omega)⟩
            have hvr := HWW.out v (List.mem_of_getElem? hv)
            obtain ⟨vn, rfl⟩ := Int.eq_ofNat_of_zero_le (show 0 ≤ v by omega)
            have hgd : (ws.getD k 0).toNat = vn := by rw [List.getD_eq_getElem?_getD, hv]; rfl
            obtain ⟨bw, ow, haw, hcw⟩ := HRW.out.at' (by omega)
            have hc := cell_keep (show Below w0.heap.size w0 w6 by rw [hw0]; exact H6.out.bel) (hcw k (.int .i64 vn) (by rw [List.getElem?_map, hv]; rfl))
            have HIT := Lib.hid (itoa_c vn (by omega) w6 (HPOW.out _ _ H6.out))
            have hEl := dec_len6 vn (by omega)
            obtain ⟨E, hE⟩ : ∃ E, Lib.decDigits vn = E := ⟨_, rfl⟩
            have HE9 : Hid (ETs.txt (KT.take (k + 1)) ws 0 = ETs.txt (KT.take k) ws 0 ++ (PZ ++ (TK.txt ++ (42 :: E)))) := Lib.hid (by rw [HTXT.out, if_neg hne, hgd, hE])
            rw [hE] at HIT hEl
            have hEs : ({ data := E.toArray } : ByteArray).size ≤ 6 := by have := mkB_size E; unfold mkB at this; omega
            have hd1 : decide (0 < nw) = true := decide_eq_true (by omega)
            have HL9 := Lib.hid (show (bs ++ (D ++ [40]) ++ ETs.txt (KT.take k) ws 0 ++ PZ ++ TK.txt).length + 7 ≤ 2000000 by
              have h1 := HL.out
              have h2 := HLT.out
              rw [List.length_append, List.length_append]
              omega)
            unfold mkB at HIT
            subst haw
            clear hne hcw hgd hE hv
            go_wp2_with fail
            with_reducible refine HIT.out.mono ?_
            rintro e w7 ⟨rfl, hb7⟩
            have H7 := Lib.hid (H6.out.below hb7)
            have HK7 := Lib.hid (kept_below HK6.out hb7)
            have hs7 := hb7.size
            have h8 : (([42] : Byts) ++ E).length = E.length + 1 := by simp
            have HW := Lib.hid (write_h H7.out ([42] ++ E) (by rw [h8]; have := HL9.out; omega))
            rw [← mkB_app, show mkB [42] = ⟨#[42]⟩ from rfl, show mkB E = ⟨E.toArray⟩ from rfl] at HW
            clear hb7 hc n3 HIT
            go_wp2_with fail
            with_reducible refine HW.out.mono ?_
            rintro e w8 ⟨rfl, h1, h2, h3⟩
            have H8 := Lib.hid h1
            have HK8 := Lib.hid (HK7.out.trans h2)
            clear h1 h2 HW
            go_wp2_with fail
            go_roundw
            case rel => exact ⟨k + 1, by omega, by go_num, by rw [HE9.out]; have := H8.out; simpa only [List.append_assoc, List.singleton_append, List.cons_append, List.nil_append] using this, HK8.out, by omega⟩
            case measure => simp [intOf] <;> omega
        · have hPZ0 : PZ = [44, 32] := by rw [← hPZ, if_neg hk0]
          have hd0 : decide (0 < k) = true := decide_eq_true (by omega)
          have hd00 : 0 < k := by omega
          have HW := Lib.hid (write_h HSS.out [44, 32] (by have := HLT.out; simp only [List.length_cons, List.length_nil]; omega))
          rw [show mkB [44, 32] = ⟨#[44, 32]⟩ from rfl] at HW
          clear hPZ
          go_wp2_with fail
          with_reducible refine HW.out.mono ?_
          rintro e w5 ⟨rfl, h1, h2, h3⟩
          have H5 : Hid (ShS w0 B (bs ++ (D ++ [40]) ++ ETs.txt (KT.take k) ws 0 ++ PZ) w5) := Lib.hid (by rw [hPZ0]; exact h1)
          have HK5 := Lib.hid (HKK.out.trans h2)
          have hs5' : u.heap.size + 2 ≤ w5.heap.size := by omega
          clear h1 h2 HW hc hPZ0
          have gX5 := kept_at HK5.out GX.out (by omega) (by decide)
          obtain ⟨x0, x1⟩ := (open2 gX5).1
          have HCALL := Lib.hid (HIH.out zn (by omega) (by have := HLN.out; omega) _ w5 H5.out (by have := HLT.out; rw [HTK.out, List.length_append]; omega))
          rw [HTK.out] at HCALL
          clear gX5
          go_wp2_with fail
          with_reducible refine HCALL.out.mono ?_
          rintro e w6 ⟨rfl, h1, h2, h3⟩
          have H6 := Lib.hid h1
          have HK6 := Lib.hid (HK5.out.trans h2)
          have gN6 := kept_at HK6.out GN.out (by omega) (by decide)
          obtain ⟨_, _, _, n3, _⟩ := open5 gN6
          have hs6 : u.heap.size + 2 ≤ w6.heap.size := by omega
          clear h1 h2 h3 HCALL x0 x1 gN6
          by_cases hw0' : nw = 0
          · have hws : ws = [] := List.eq_nil_of_length_eq_zero (by have := HWL.out; omega)
            have HE9 : Hid (ETs.txt (KT.take (k + 1)) ws 0 = ETs.txt (KT.take k) ws 0 ++ (PZ ++ TK.txt)) := Lib.hid (by rw [HTXT.out, if_pos hws, List.append_nil])
            subst hw0'
            clear hws
            go_wp2_with fail
            go_roundw
            case rel => exact ⟨k + 1, by omega, by go_num, by rw [HE9.out, ← List.append_assoc, ← List.append_assoc]; exact H6.out, HK6.out, hs6⟩
            case measure => simp [intOf] <;> omega
          · have hne : ws ≠ [] := fun e => hw0' (by rw [HWL.out, e]; rfl)
            have hkw : k < nw := by
              rcases HAR.out with e | e
              · exact absurd e hne
              · have := HWL.out; have := HKS.out; omega
            obtain ⟨v, hv⟩ : ∃ v, ws[k]? = some v := ⟨_, List.getElem?_eq_getElem (by have := HWL.out; omega)⟩
            have hvr := HWW.out v (List.mem_of_getElem? hv)
            obtain ⟨vn, rfl⟩ := Int.eq_ofNat_of_zero_le (show 0 ≤ v by omega)
            have hgd : (ws.getD k 0).toNat = vn := by rw [List.getD_eq_getElem?_getD, hv]; rfl
            obtain ⟨bw, ow, haw, hcw⟩ := HRW.out.at' (by omega)
            have hc := cell_keep (show Below w0.heap.size w0 w6 by rw [hw0]; exact H6.out.bel) (hcw k (.int .i64 vn) (by rw [List.getElem?_map, hv]; rfl))
            have HIT := Lib.hid (itoa_c vn (by omega) w6 (HPOW.out _ _ H6.out))
            have hEl := dec_len6 vn (by omega)
            obtain ⟨E, hE⟩ : ∃ E, Lib.decDigits vn = E := ⟨_, rfl⟩
            have HE9 : Hid (ETs.txt (KT.take (k + 1)) ws 0 = ETs.txt (KT.take k) ws 0 ++ (PZ ++ (TK.txt ++ (42 :: E)))) := Lib.hid (by rw [HTXT.out, if_neg hne, hgd, hE])
            rw [hE] at HIT hEl
            have hEs : ({ data := E.toArray } : ByteArray).size ≤ 6 := by have := mkB_size E; unfold mkB at this; omega
            have hd1 : decide (0 < nw) = true := decide_eq_true (by omega)
            have HL9 := Lib.hid (show (bs ++ (D ++ [40]) ++ ETs.txt (KT.take k) ws 0 ++ PZ ++ TK.txt).length + 7 ≤ 2000000 by
              have h1 := HL.out
              have h2 := HLT.out
              rw [List.length_append, List.length_append]
              omega)
            unfold mkB at HIT
            subst haw
            clear hne hcw hgd hE hv
            go_wp2_with fail
            with_reducible refine HIT.out.mono ?_
            rintro e w7 ⟨rfl, hb7⟩
            have H7 := Lib.hid (H6.out.below hb7)
            have HK7 := Lib.hid (kept_below HK6.out hb7)
            have hs7 := hb7.size
            have h8 : (([42] : Byts) ++ E).length = E.length + 1 := by simp
            have HW := Lib.hid (write_h H7.out ([42] ++ E) (by rw [h8]; have := HL9.out; omega))
            rw [← mkB_app, show mkB [42] = ⟨#[42]⟩ from rfl, show mkB E = ⟨E.toArray⟩ from rfl] at HW
            clear hb7 hc n3 HIT
            go_wp2_with fail
            with_reducible refine HW.out.mono ?_
            rintro e w8 ⟨rfl, h1, h2, h3⟩
            have H8 := Lib.hid h1
            have HK8 := Lib.hid (HK7.out.trans h2)
            clear h1 h2 HW
            go_wp2_with fail
            go_roundw
            case rel => exact ⟨k + 1, by omega, by go_num, by rw [HE9.out]; have := H8.out; simpa only [List.append_assoc, List.singleton_append, List.cons_append, List.nil_append] using this, HK8.out, by omega⟩
            case measure => simp [intOf] <;> omega
      · obtain rfl : k = nk := by omega
        rw [List.take_of_length_le (by have := HKL.out; omega)] at hS
        have HW := Lib.hid (write_h hS [41] (by have := HL.out; simp only [List.length_append, List.length_cons, List.length_nil] at this ⊢; omega))
        rw [show mkB [41] = ⟨#[41]⟩ from rfl] at HW
        have HKK := Lib.hid hK
        clear hS hK
        go_wp2_with fail
        with_reducible refine HW.out.mono ?_
        rintro e w9 ⟨rfl, h1, h2, h3⟩
        have H9 := Lib.hid h1
        have HK9 := Lib.hid (HK2.out.trans (HKK.out.trans h2))
        clear h1 h2 HW
        go_wp2_with fail
        go_end0
        exact ⟨rfl, by have := H9.out; simpa only [List.append_assoc, List.singleton_append, List.cons_append, List.nil_append] using this, HK9.out, by omega⟩
theorem show_c (x : Xpr) (hx : xprE x = 0) (w0 : World) (B : Nat) (hw0 : w0.heap.size = B) (hpow : HasPow w0) : ∀ f, ShC x w0 B f
  | 0 => fun a n c _ i hi => by omega
  | f + 1 => show_step x hx w0 B hw0 hpow f (show_c x hx w0 B hw0 hpow f)
end Go.Proofs.YtcojmmhclklpoaaGreatDoor
namespace Go.Proofs.YtcojmmhclklpoaaGreatDoor
open Go.RowKit Go.Shelf

/-- what Format answers -/
def fmtX (x : Xpr) : Byts × Int := if (tidS x).2 ≠ 0 then ([], (tidS x).2) else ((treX x).txt, 0)
mutual
theorem txt_sz (t : ET) (h : t.ok) : t.txt.length + 9 ≤ 20 * t.sz := by
  cases t with
  | srv s =>
    rw [ET.ok] at h
    have := dec_len6 s.toNat (by omega)
    rw [ET.txt, ET.sz, List.length_cons]; omega
  | thr n ws ks =>
    rw [ET.ok] at h
    have h1 := dec_len6 n.toNat (by omega)
    have h2 := txts_sz ks ws 0 h.2.2.2 h.2.1
    rw [ET.txt, ET.sz]
    simp only [List.length_append, List.length_cons, List.length_nil]
    omega
theorem txts_sz (ts : List ET) (ws : List Int) (k : Nat) (h : ETs.ok ts) (hw : ∀ w ∈ ws, 1 ≤ w ∧ w ≤ 1000) : (ETs.txt ts ws k).length ≤ 20 * ETs.sz ts := by
  cases ts with
  | nil => simp [ETs.txt]
  | cons t ts =>
    rw [ETs.ok] at h
    have h1 := txt_sz t h.1
    have h2 := txts_sz ts ws (k + 1) h.2 hw
    have h3 : (ws.getD k 0).toNat ≤ 100000 := by
      rw [List.getD_eq_getElem?_getD]
      cases hk : ws[k]? with
      | none => simp
      | some v => have := hw v (List.mem_of_getElem? hk); show v.toNat ≤ _; omega
    have h4 := dec_len6 _ h3
    rw [ETs.txt, ETs.sz]
    split <;> split <;> simp only [List.length_append, List.length_cons, List.length_nil] <;> omega
end
theorem txt_60 {t : ET} (h : t.ok) (hz : t.sz ≤ 60) : t.txt.length ≤ 1800 := by
  have := txt_sz t h; omega

set_option maxRecDepth 100000 in
set_option maxHeartbeats 4000000 in
theorem formatx_c (x : Xpr) (a : Option Addr) (n c : Nat) (w : World) (hp : HasPow w) (h : XM w a n c x.nodes) :
    Calls Tryz.prog 29 #[.agg #[.slice a n c, .int .i64 x.root]] w fun e w' => e = .returned (.tuple #[.string (mkB (fmtX x).1), .int .i64 (fmtX x).2]) ∧ Below w.heap.size w w' := by
  have HS := Lib.hid (fun (u : World) (hu : Below w.heap.size w u) => tidy_c x a n c u (h.below hu))
  have HP := Lib.hid hp
  clear h hp
  by_cases hE : (tidS x).2 = 0
  · obtain ⟨hx, hz, h1⟩ := tidS_ok hE
    have hR : fmtX x = ((treX x).txt, 0) := by unfold fmtX; rw [if_neg (by rw [hE]; simp)]
    rw [hR]
    have hok := treX_ok (xprE_ok hx)
    have hyx := treX_xpr (treX x)
    have hyE := xpr_ok hok hz
    have htx := txt_60 hok hz
    obtain ⟨T, hT⟩ : ∃ T, treX x = T := ⟨_, rfl⟩
    rw [hT] at h1 hz hok hyx hyE htx ⊢
    rw [h1, hE] at HS
    have HYX := Lib.hid hyx
    have HYE := Lib.hid hyE
    have hlen : (T.post 0).length = T.sz := T.post_len 0
    have hpos := T.sz_pos
    have HXR := Lib.hid (show T.xpr.root = ((T.sz - 1 : Nat) : Int) from rfl)
    have HXN := Lib.hid (show T.xpr.nodes = T.post 0 from rfl)
    have HLE := Lib.hid hlen
    have HTX := Lib.hid htx
    clear hR h1 hE hx hT hok hyx hyE hlen htx
    go_enter Tryz.func29, Tryz.ntmps29
    go_wp2_with fail
    generalize hW1 : w.alloc _ = W1
    have hb1 : Below w.heap.size w W1 := by rw [← hW1]; exact (Below.refl _ _).alloc (Nat.le_refl _) _
    clear hW1
    with_reducible refine (HS.out W1 hb1).mono ?_
    rintro e w3 ⟨a', c', rfl, hxm, hb3⟩
    obtain ⟨N3, hN3⟩ : ∃ N3, T.xpr.nodes.length = N3 := ⟨_, rfl⟩
    obtain ⟨RT, hRT⟩ : ∃ RT, T.xpr.root = RT := ⟨_, rfl⟩
    have hxm2 := hxm.xm
    rw [hN3] at hxm2 ⊢
    rw [hRT]
    obtain ⟨w0, hw0⟩ : ∃ w0, w0 = w3.alloc (.cells #[.slice a' N3 c', .int .i64 RT] 32) := ⟨_, rfl⟩
    have hb0 : Below w3.heap.size w3 w0 := by rw [hw0]; exact (Below.refl _ _).alloc (Nat.le_refl _) _
    have hs0 : w0.heap.size = w3.heap.size + 1 := by rw [hw0]; simp
    obtain ⟨w4, hw4⟩ : ∃ w4, w4 = w0.alloc (.cells #[.pointer none, .slice none 0 0] bldT) := ⟨_, rfl⟩
    have hb4 : Below w0.heap.size w0 w4 := by rw [hw4]; exact (Below.refl _ _).alloc (Nat.le_refl _) _
    have gY : w4.heap[w3.heap.size]? = some (.cells #[.slice a' N3 c', .int .i64 RT] 32 (0, 0)) := heap_below hb4 (by rw [hw0]; exact heap_alloc_new _ _)
    obtain ⟨⟨y0, y1⟩, _⟩ := open2 gY
    have hB00 : Below w.heap.size w w0 := Below.next hb1 (Below.next hb3 hb0)
    have hsh : ShS w0 w0.heap.size [] w4 := ⟨hb4, .inl ⟨Nat.le_refl _, .slice none 0 0, by rw [hw4]; exact heap_alloc_new _ _, ⟨rfl, .inl ⟨rfl, rfl⟩⟩, by simp [Value.ownBlock]⟩⟩
    have hTr : treF T.xpr.nodes noSub (T.sz - 1 + 1) (T.sz - 1) = T := by
      have := HYX.out
      unfold treX at this
      rw [HXR.out, Int.toNat_natCast] at this
      exact this
    have hSH := show_c T.xpr HYE.out w0 w0.heap.size rfl (HP.out.below hB00) (T.sz - 1 + 1) a' N3 c' (hxm2.below hb0) (T.sz - 1) (by omega) (by rw [HXN.out, HLE.out]; omega) [] w4 hsh (by rw [hTr]; have := HTX.out; simp; omega)
    rw [hTr, ← HXR.out, hRT, hs0] at hSH
    have HSH := Lib.hid hSH
    have HB0 := Lib.hid hB00
    have hw4' : w4 = (w3.alloc (.cells #[.slice a' N3 c', .int .i64 RT] 32)).alloc (.cells #[.pointer none, .slice none 0 0] bldT) := by rw [hw4, hw0]
    have HW0 := Lib.hid hs0
    rw [hw4'] at y0 y1
    clear hxm hxm2 hb3 hb0 hb4 gY hTr hSH hB00 hsh hw4 hw0 hs0 HS hb1
    go_wp2_with fail
    rw [← hw4']
    clear y0 y1 hw4'
    with_reducible refine HSH.out.mono ?_
    rintro e w5 ⟨rfl, h1, h2, h3⟩
    rw [List.nil_append] at h1
    have HST := Lib.hid (Tryz.Builder_String_any_k (w3.heap.size + 1) (w3.heap.size + 1) T.txt w5 h1.bld (Nat.le_of_lt h1.lt))
    have hBw := HB0.out.size
    have HB5 := Lib.hid (HB0.out.trans (h1.bel.mono (by have := HW0.out; omega)))
    have hW0 := HW0.out
    clear h1 h2 h3 HSH
    go_wp2_with fail
    with_reducible refine HST.out.mono ?_
    rintro e w6 ⟨rfl, -, h2, -⟩
    have HB6 := Lib.hid (HB5.out.trans (h2.mono (by omega)))
    clear h2
    go_wp2_with fail
    go_ret2
    exact ⟨rfl, HB6.out⟩
  · have hR : fmtX x = ([], (tidS x).2) := by unfold fmtX; rw [if_pos hE]
    rw [hR]
    obtain ⟨R, hRR⟩ : ∃ R, tidS x = R := ⟨_, rfl⟩
    rw [hRR] at HS hE ⊢
    obtain ⟨y, er⟩ := R
    simp only at HS hE ⊢
    have hne : (er != 0) = true := by simpa using hE
    clear hR hRR hE
    go_enter Tryz.func29, Tryz.ntmps29
    go_wp2_with fail
    generalize hW1 : w.alloc _ = W1
    have hb1 : Below w.heap.size w W1 := by rw [← hW1]; exact (Below.refl _ _).alloc (Nat.le_refl _) _
    clear hW1
    with_reducible refine (HS.out W1 hb1).mono ?_
    rintro e w3 ⟨a', c', rfl, hxm, hb3⟩
    have HB3 := Lib.hid (Below.next hb1 (Below.next hb3 ((Below.refl _ _).alloc (Nat.le_refl _) (.cells #[.slice a' y.nodes.length c', .int .i64 y.root] 32))))
    clear hb3 hxm HS hb1
    go_wp2_with fail
    go_ret2
    exact ⟨rfl, HB3.out⟩
end Go.Proofs.YtcojmmhclklpoaaGreatDoor
