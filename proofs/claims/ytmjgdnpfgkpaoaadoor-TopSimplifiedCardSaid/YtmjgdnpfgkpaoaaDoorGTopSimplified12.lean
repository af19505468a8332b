/- Texts laid together. simplified: the simplified tree. fell: the nodes of a tree in postorder. -/
import Derived.Test.YtmjgdnpfgkpaoaaDoorGTopSimplified6
import Derived.Test.YtmjgdnpfgkpaoaaDoorGTopSimplified11
namespace Go.Proofs.YtmjgdnpfgkpaoaaDoor
open Go.RowKit Go.Shelf

def SiC (f : Nat) : Prop := ∀ (t : ET), t.sz ≤ f → t.ok → t.sz ≤ 1000 → ∀ (S : Nat → Prop) (p : TrV) (w : World), TrS S w p t → (∀ g, S g → g < w.heap.size) →
  Calls Tryd.prog 19 #[trA p] w fun e w' => RetT S t.simp w e w'
theorem eg_any : ∀ args w, (callFunc 44 args).run Tryd.prog w = .ok (.enter 44 args) w := enters_of Tryd.func44 (by kernel_rfl) rfl
theorem eg_all : ∀ args w, (callFunc 46 args).run Tryd.prog w = .ok (.enter 46 args) w := enters_of Tryd.func46 (by kernel_rfl) rfl
/-- the tree of a state, with what it reads by -/
theorem box2' {w W2 : World} {c0 c1 : Array Value} {t0 t1 : TypeId} (h : (w.alloc (.cells c0 t0)).alloc (.cells c1 t1) = W2) :
    W2.heap[w.heap.size]? = some (.cells c0 t0 (0, 0)) ∧ W2.heap[w.heap.size + 1]? = some (.cells c1 t1 (0, 0)) ∧ Below w.heap.size w W2 ∧ W2.heap.size = w.heap.size + 2 := by
  subst h
  have h1 := heap_alloc_new (w.alloc (.cells c0 t0)) (.cells c1 t1)
  rw [World.size_alloc] at h1
  exact ⟨heap_alloc_at (heap_alloc_new _ _) _, h1, ((Below.refl _ _).alloc (Nat.le_refl _) _).alloc (by simp) _, by simp⟩

theorem TrS.thr0 (S : Nat → Prop) (w : World) (n : Int) : TrS S w ⟨false, 0, n, .slice none 0 0, .slice none 0 0⟩ (.thr n [] []) :=
  TB.thr (S := fun _ => False) (SW := fun _ => False) (B := 0) n (GB.nil _ _ _ _ (fun _ h => h.elim)) (SlS.nil _ _) (fun _ h => h.elim) (fun _ h => h.elim) (fun _ h => by cases h)
theorem TrS.need {S : Nat → Prop} {w : World} {lf : Bool} {sv nd n : Int} {wv kv : Value} {ws : List Int} {ks : List ET} (h : TrS S w ⟨lf, sv, nd, wv, kv⟩ (.thr n ws ks)) (m : Int) : TrS S w ⟨lf, sv, m, wv, kv⟩ (.thr m ws ks) := by
  intro w2 ha
  cases h w2 ha with
  | thr n ws ks aw nw cw ak nk ck V hw hl hk hr => exact .thr m ws ks aw nw cw ak nk ck V hw hl hk hr
/-- a tree stored where it is handed back -/
theorem ret_fin {S SX : Nat → Prop} {w wY WF : World} {lf : Bool} {sv nd : Int} {aw : Option Addr} {nw cw : Nat} {ak : Option Addr} {nk ck : Nat} {t : ET} {v0 v1 v2 v3 v4 : Value} (h : TrS SX wY ⟨lf, sv, nd, .slice aw nw cw, .slice ak nk ck⟩ t) (hS : ∀ g, S g → g < w.heap.size)
    (hX : ∀ g, SX g → S g ∨ (w.heap.size + 2 ≤ g ∧ g < wY.heap.size)) (hb : Below w.heap.size w wY) (gR : wY.heap[w.heap.size + 1]? = some (.cells #[v0, v1, v2, v3, v4] 64 (0, 0)))
    (hW : ((((wY.setCell ⟨w.heap.size + 1, 0, none⟩ (.bool lf)).setCell ⟨w.heap.size + 1, 1, none⟩ (.int .i64 sv)).setCell ⟨w.heap.size + 1, 2, none⟩ (.int .i64 nd)).setCell ⟨w.heap.size + 1, 3, none⟩ (.slice aw nw cw)).setCell ⟨w.heap.size + 1, 4, none⟩ (.slice ak nk ck) = WF) :
    WF.heap[w.heap.size + 1]? = some (.cells #[.bool lf, .int .i64 sv, .int .i64 nd, .slice aw nw cw, .slice ak nk ck] 64 (0, 0)) ∧ RetT S t w (.returned (.agg #[.bool lf, .int .i64 sv, .int .i64 nd, .slice aw nw cw, .slice ak nk ck])) WF := by
  obtain ⟨e1, e2, e3, e4⟩ := fin5 gR hW
  refine ⟨e1, lf, sv, nd, aw, nw, cw, ak, nk, ck, rfl, (h.move fun g hg => e2 g ?_).mono fun g hg => ?_, hb.trans (e4 _ (by omega))⟩
  · rcases hX g hg with h1 | h1
    · have := hS g h1; omega
    · omega
  · exact (hX g hg).imp id (fun h1 => ⟨by omega, by omega⟩)

set_option maxRecDepth 100000 in
set_option maxHeartbeats 16000000 in
theorem simp_step (f : Nat) (ih : SiC f) : SiC (f + 1) := by
  intro t htf hok hz S p w h hS
  cases t with
  | srv s =>
    have := h.leaf
    subst this
    unfold trA
    rw [ET.simp]
    clear h ih
    go_enter Tryd.func19, Tryd.ntmps19
    go_wp2_with fail
    refine bodyPost_ret (v := .agg #[.bool true, .int .i64 s, .int .i64 0, .slice none 0 0, .slice none 0 0]) ?_ rfl ⟨true, s, 0, none, 0, 0, none, 0, 0, rfl, TrS.srv _ _ _, ((Below.refl _ _).alloc (Nat.le_refl _) _).alloc (by simp) _⟩
    have hR := heap_alloc_new (w.alloc (.cells #[.bool true, .int .i64 s, .int .i64 0, .slice none 0 0, .slice none 0 0] 64)) (.cells #[.bool true, .int .i64 s, .int .i64 0, .slice none 0 0, .slice none 0 0] 64)
    rw [World.size_alloc] at hR
    exact results_cell_row rfl _ _ _ _ _ _ _ rfl hR Tryd.underlying64 rfl (by kernel_rfl)
  | thr n ws ks =>
    obtain ⟨nw, aw, cw, ak, ck, hp⟩ := TrS.shape h
    obtain ⟨lf, sv, nd, wv, kv⟩ := p
    simp only [TrV.mk.injEq, true_and] at hp
    obtain ⟨rfl, rfl⟩ := hp
    obtain ⟨V, hV1, hnk2, hV2, hV3, hSW, hlf, hsv, hnd, _⟩ := TrS.kids h
    subst hlf hsv hnd
    rw [show (ET.thr nd ws ks).kidsOf.length = ks.length from rfl] at hV2 h ⊢
    have hzz : ETs.sz ks ≤ 1000 := by rw [ET.sz] at hz; omega
    have hzf : ETs.sz ks ≤ f := by rw [ET.sz] at htf; omega
    obtain ⟨nk, hnk⟩ : ∃ nk, ks.length = nk := ⟨_, rfl⟩
    rw [hnk] at hV1 hV2 h ⊢
    clear hnk2
    have hnk1 : nk ≤ 1000 := by have := ETs.sz_ge ks; omega
    have hokk := hok
    rw [ET.ok] at hokk
    have HST := Lib.hid (stT_ok hok hzz)
    have HSI := Lib.hid (stT_all nd ws ks (j := nk) (by omega))
    have HOK := Lib.hid hokk.2.2.2
    have HAR := Lib.hid hokk.2.2.1
    have HWS := Lib.hid hokk.2.1
    have hnd1 : nd ≤ 100000 := hokk.1.2
    have HT := Lib.hid h
    have HV1 := Lib.hid hV1
    have HV2 := Lib.hid hV2
    have HV3 := Lib.hid hV3
    have HNK := Lib.hid hnk
    have HS := Lib.hid hS
    have HZZ := Lib.hid hzz
    have HZF := Lib.hid hzf
    have HIH := Lib.hid ih
    rw [HSI.out]
    unfold trA
    clear h hV1 hV2 hV3 hSW hS hz hnk hok hokk hzz hzf ih htf
    go_enter Tryd.func19, Tryd.ntmps19
    go_wp2_with fail
    generalize hW2 : (w.alloc _).alloc _ = w2
    obtain ⟨gX, gR, hb2, hs2⟩ := box2' hW2
    have GX := Lib.hid gX
    have GR := Lib.hid gR
    have HB2 := Lib.hid hb2
    have hs2a : w.heap.size + 2 ≤ w2.heap.size := by omega
    clear hW2 gX gR hb2 hs2
    go_loopw [3, 4, 5, 6, 20] (fun a3 a4 a5 a6 q wr => ∃ j S', j ≤ nk ∧ q = .int .i64 ((j : Nat) : Int) ∧ a3 = .int .i64 (stT nd ws ks j).need ∧ a4 = .int .i64 (stT nd ws ks j).sum ∧ TB S' w2.heap.size wr a5 (stT nd ws ks j).ks ∧ wr.ownsRow w2.heap.size 3 1 a6 (stT nd ws ks j).ws.length ((stT nd ws ks j).ws.map (Value.int .i64)) ∧ (∀ g, S' g → S g ∨ w2.heap.size ≤ g) ∧ (∀ g, a6.ownBlock = some g → ¬ S' g ∧ a5.ownBlock ≠ some g) ∧ Below w2.heap.size w2 wr) (fun _ _ _ _ q _ => nk - (intOf q).toNat)
    case atStart =>
      refine ⟨0, fun _ => False, Nat.zero_le _, rfl, ?_, ?_, ?_, ?_, fun _ h => h.elim, (fun g h => by cases h), Below.refl _ _⟩
      · rw [stT_zero]
      · rw [stT_zero]
      · rw [stT_zero]; exact GB.nil _ _ _ _ (fun _ h => h.elim)
      · rw [stT_zero]; exact World.ownsRow_nil _ _ _ _
    case round =>
      obtain ⟨j, S', hj, rfl, rfl, rfl, hTB, hrw, hS', hdis, hbr⟩ := hrel
      have hst := HST.out j
      obtain ⟨hs1, hs2', hs3, hs4⟩ := st_small hst hnd1 HZZ.out
      have hsz := hbr.size
      by_cases hlt : j < nk
      · obtain ⟨kt, hkt⟩ : ∃ kt, ks[j]? = some kt := ⟨_, List.getElem?_eq_getElem (by have := HNK.out; omega)⟩
        obtain ⟨pk, hpk⟩ : ∃ pk, V[j]? = some pk := ⟨_, List.getElem?_eq_getElem (by have := HV1.out; omega)⟩
        have hbw : Below w.heap.size w wr := HB2.out.trans (hbr.mono (by omega))
        have hts : TrS S wr pk kt := RS.below (HV3.out j pk kt hpk hkt) hbw HS.out
        obtain ⟨b, o, ha, hcells⟩ := RdK.cells (HV2.out.below hbw) trVC_len (by omega)
        have hc := hcells j pk hpk
        have c0 := hc 0 (by omega)
        have c1 := hc 1 (by omega)
        have c2 := hc 2 (by omega)
        have c3 := hc 3 (by omega)
        have c4 := hc 4 (by omega)
        obtain ⟨nw5, aw5, cw5, ak5, ck5, hpk5⟩ := TrS.shape hts
        obtain ⟨lf5, sv5, nd5, wv5, kv5⟩ := pk
        simp only [TrV.mk.injEq, true_and] at hpk5
        obtain ⟨rfl, rfl⟩ := hpk5
        obtain ⟨nk5, hnk5⟩ : ∃ nk5, kt.kidsOf.length = nk5 := ⟨_, rfl⟩
        rw [hnk5] at hts c4
        simp only [trVC, Nat.add_zero, List.getElem?_cons_zero, List.getElem?_cons_succ] at c0 c1 c2 c3 c4
        have hktok : kt.ok := (ETs.ok_iff _).1 HOK.out kt (List.mem_of_getElem? hkt)
        have hktz := ETs.sz_mem ks kt (List.mem_of_getElem? hkt)
        have HSS := Lib.hid (stT_succ nd ws hkt)
        have hwg := wgtW_rng HWS.out (k := j) (HAR.out.imp id (fun e => by have := HNK.out; omega))
        obtain ⟨st, hst9⟩ : ∃ st, stT nd ws ks j = st := ⟨_, rfl⟩
        rw [hst9] at hTB hrw hs1 hs2' hs3 hs4 HSS hst ⊢
        have HTB := Lib.hid hTB
        have HRW := Lib.hid hrw
        have HS' := Lib.hid hS'
        have HDIS := Lib.hid hdis
        have HBR := Lib.hid hbr
        have HBW := Lib.hid hbw
        have HTS := Lib.hid hts
        have HSTO := Lib.hid hst
        have HCP := Lib.hid (fun (u : World) (hu : Below wr.heap.size wr u) => part_c _ nd ws ks j u ((HT.out.r.keep HBW.out).keep hu) (HAR.out.imp id (fun e => by have := HNK.out; omega)))
        have hSr : ∀ g, S g → g < wr.heap.size := fun g hg => by have := HS.out g hg; have := HBW.out.size; omega
        have HCS := Lib.hid (fun (u : World) (hu : Below wr.heap.size wr u) => HIH.out kt (by have := HZF.out; omega) hktok (by have := HZZ.out; omega) S _ u (RS.below hts hu hSr) (fun g hg => by have := hSr g hg; have := hu.size; omega))
        unfold trA at HCP HCS
        obtain ⟨WG, hWG⟩ : ∃ WG, wgtW ws j = WG := ⟨_, rfl⟩
        rw [hWG] at HCP hwg HSS
        obtain ⟨KS, hKS⟩ : ∃ KS, kt.simp = KS := ⟨_, rfl⟩
        rw [hKS] at HCS HSS
        have gx := heap_below hbr GX.out
        have HGX := Lib.hid gx
        subst ha
        clear hTB hrw hS' hdis hbr hbw hts hst hktok hktz hkt hpk hc hcells hWG hKS hst9 gx hnk5
        go_upto_region 9 with fail
        generalize hWk : wr.alloc _ = wk
        have hbk : Below wr.heap.size wr wk := by rw [← hWk]; exact (Below.refl _ _).alloc (Nat.le_refl _) _
        have gk : wk.heap[wr.heap.size]? = some (.cells #[.bool lf5, .int .i64 sv5, .int .i64 nd5, .slice aw5 nw5 cw5, .slice ak5 nk5 ck5] 64 (0, 0)) := by rw [← hWk]; exact heap_alloc_new _ _
        have hsk : wk.heap.size = wr.heap.size + 1 := by rw [← hWk]; simp
        have HBK := Lib.hid hbk
        have HGK := Lib.hid gk
        have HGX2 := Lib.hid (heap_below hbk HGX.out)
        have HSK := Lib.hid hsk
        clear hWk c0 c1 c2 c3 c4 hbk gk hsk
        go_cut [9, 10] (fun p9 a10 wx => ∃ B lf sv nn aw9 nw9 cw9 ak9 nk9 ck9, p9 = .pointer (some ⟨B, 0, none⟩) ∧ a10 = .int .i64 WG ∧ CF S wk wx B (.cells #[.bool lf, .int .i64 sv, .int .i64 nn, .slice aw9 nw9 cw9, .slice ak9 nk9 ck9] 64) (fun u => TrM u ⟨lf, sv, nn, .slice aw9 nw9 cw9, .slice ak9 nk9 ck9⟩ KS))
        case first =>
          have hSk : ∀ g, S g → g < wk.heap.size := fun g hg => by have := hSr g hg; have := HSK.out; omega
          rename_i k0 h0 j0 k1 h1 h2
          clear h0
          have HKS := Lib.hid (fun (u : World) (hu : Below wk.heap.size wk u) => And.intro (open5 (heap_below hu HGK.out)) (open5 (heap_below hu HGX2.out)))
          refine wp_region_noPanic ?_
          refine wp_region_takes (fun u => Below wk.heap.size wk u) [0, 2, 3] 5 (by kernel_rfl) (by kernel_rfl) (by kernel_rfl) (fun _ _ _ _ _ h => h) (below_drew (Below.refl _ _)) ?_
          repeat (refine wpTk_cons rfl (fun K hK => ?_); go_simp; apply Exists.intro; refine ⟨fun u hu => ?_, hK _ ?_⟩; (first | exact rfl | (obtain ⟨⟨k0, k1, k2, k3, k4⟩, x0, x1, x2, x3, x4⟩ := HKS.out u hu; go_simp; done) | (obtain ⟨⟨k0, k1, k2, k3, k4⟩, x0, x1, x2, x3, x4⟩ := HKS.out u hu; go_simp; exact rfl)); clear hK K)
          refine wpTk_nil ?_
          have HZ0 : Hid (CS S wk wk.drew none none) := Lib.hid (CS.start hSk)
          generalize wk.drew = z0 at HZ0 ⊢
          clear HKS
          refine held_ready (rs := [1, 5]) (by kernel_rfl) (by simp) ?_
          refine (AllReadyH.cons rfl (fun K hK => ?_) (AllReadyH.cons rfl (fun K hK => ?_) AllReadyH.nil))
          · go_simp
            with_reducible refine (HCS.out z0 (Below.next HBK.out HZ0.out.bel)).mono ?_
            rintro e z1 ⟨lf, sv, nn, aw9, nw9, cw9, ak9, nk9, ck9, rfl, hts7, hb7⟩
            have HZ1 : Hid (CS S wk z1 none (some fun u => TrM u ⟨lf, sv, nn, .slice aw9 nw9 cw9, .slice ak9 nk9 ck9⟩ KS)) := Lib.hid (HZ0.out.call hb7 fun w2 hw2 => hts7 w2 hw2)
            clear hts7 hb7
            go_simp
            refine hK.out _ _ HZ1.out.bel (fun hh => ?_)
            clear hh hK K; try simp only [Act.put, List.setIfInBounds_toArray, List.set_cons_zero, List.set_cons_succ]
            refine held_ready (rs := [4, 5]) (by kernel_rfl) (by simp) ?_
            refine (AllReadyH.cons rfl (fun K hK => ?_) (AllReadyH.cons rfl (fun K hK => ?_) AllReadyH.nil))
            · go_simp
              with_reducible refine (HCP.out z1 (Below.next HBK.out HZ1.out.bel)).mono ?_
              rintro e z2 ⟨rfl, hb7⟩
              have HZ2 := Lib.hid (HZ1.out.quiet hb7)
              clear hb7
              go_simp
              refine hK.out _ _ HZ2.out.bel (fun hh => ?_)
              clear hh hK K; try simp only [Act.put, List.setIfInBounds_toArray, List.set_cons_zero, List.set_cons_succ]
              refine held_ready (rs := [5]) (by kernel_rfl) (by simp) ?_
              refine (AllReadyH.cons rfl (fun K hK => ?_) AllReadyH.nil)
              · go_simp
                have HZ3 := Lib.hid (HZ2.out.alloc (.cells zTre 64))
                refine hK.out _ _ HZ3.out.bel (fun hh => ?_)
                clear hh hK K; try simp only [Act.put, List.setIfInBounds_toArray, List.set_cons_zero, List.set_cons_succ]
                generalize z2.heap.size = B3 at HZ3 ⊢
                generalize z2.alloc _ = z3 at HZ3 ⊢
                refine held_ready (rs := [6]) (by kernel_rfl) (by simp) ?_
                refine (AllReadyH.cons rfl (fun K hK => ?_) AllReadyH.nil)
                · skip
                  obtain ⟨gB, hBl⟩ := HZ3.out.b _ _ rfl
                  obtain ⟨c0, c1, c2, c3, c4⟩ := open5 gB
                  obtain ⟨f0, f1, f2, f3, f4⟩ := frz5 gB
                  go_simp
                  clear c0 c1 c2 c3 c4 f0 f1 f2 f3 f4
                  generalize hV : World.setCell (World.setCell (World.setCell (World.setCell (World.setCell z3 _ _) _ _) _ _) _ _) _ _ = V
                  obtain ⟨k1', k2', k3', k4'⟩ := fin5 gB hV
                  have hCF := HZ3.out.fin k1' k2' k4'
                  clear k1' k2' k3' k4' hV gB hBl
                  refine hK.out _ _ hCF.bel (fun hh => ?_)
                  clear hh hK K; try simp only [Act.put, List.setIfInBounds_toArray, List.set_cons_zero, List.set_cons_succ]
                  refine held_takes (f := 0) (by kernel_rfl) (fun _ _ _ _ _ h => h) hCF.bel [7] _ _ (by kernel_rfl) ?_
                  refine wpTk_cons rfl (fun K hK => ?_)
                  go_simp
                  apply Exists.intro
                  refine ⟨fun y hy => rfl, hK _ ?_⟩
                  clear hK K
                  refine wpTk_nil ?_
                  refine wpAnyH_done (by kernel_rfl) (NoPanic.normal ?_) _
                  refine h2 _ _ ?_
                  go_meet
                  exact ⟨B3, lf, sv, nn, aw9, nw9, cw9, ak9, nk9, ck9, rfl, rfl, hCF⟩
            · go_simp
              have HZ5 := Lib.hid (HZ1.out.alloc (.cells zTre 64))
              refine hK.out _ _ HZ5.out.bel (fun hh => ?_)
              clear hh hK K; try simp only [Act.put, List.setIfInBounds_toArray, List.set_cons_zero, List.set_cons_succ]
              generalize z1.heap.size = B5 at HZ5 ⊢
              generalize z1.alloc _ = z5 at HZ5 ⊢
              refine held_ready (rs := [4]) (by kernel_rfl) (by simp) ?_
              refine (AllReadyH.cons rfl (fun K hK => ?_) AllReadyH.nil)
              · go_simp
                with_reducible refine (HCP.out z5 (Below.next HBK.out HZ5.out.bel)).mono ?_
                rintro e z6 ⟨rfl, hb7⟩
                have HZ6 := Lib.hid (HZ5.out.quiet hb7)
                clear hb7
                go_simp
                refine hK.out _ _ HZ6.out.bel (fun hh => ?_)
                clear hh hK K; try simp only [Act.put, List.setIfInBounds_toArray, List.set_cons_zero, List.set_cons_succ]
                refine held_ready (rs := [6]) (by kernel_rfl) (by simp) ?_
                refine (AllReadyH.cons rfl (fun K hK => ?_) AllReadyH.nil)
                · skip
                  obtain ⟨gB, hBl⟩ := HZ6.out.b _ _ rfl
                  obtain ⟨c0, c1, c2, c3, c4⟩ := open5 gB
                  obtain ⟨f0, f1, f2, f3, f4⟩ := frz5 gB
                  go_simp
                  clear c0 c1 c2 c3 c4 f0 f1 f2 f3 f4
                  generalize hV : World.setCell (World.setCell (World.setCell (World.setCell (World.setCell z6 _ _) _ _) _ _) _ _) _ _ = V
                  obtain ⟨k1', k2', k3', k4'⟩ := fin5 gB hV
                  have hCF := HZ6.out.fin k1' k2' k4'
                  clear k1' k2' k3' k4' hV gB hBl
                  refine hK.out _ _ hCF.bel (fun hh => ?_)
                  clear hh hK K; try simp only [Act.put, List.setIfInBounds_toArray, List.set_cons_zero, List.set_cons_succ]
                  refine held_takes (f := 0) (by kernel_rfl) (fun _ _ _ _ _ h => h) hCF.bel [7] _ _ (by kernel_rfl) ?_
                  refine wpTk_cons rfl (fun K hK => ?_)
                  go_simp
                  apply Exists.intro
                  refine ⟨fun y hy => rfl, hK _ ?_⟩
                  clear hK K
                  refine wpTk_nil ?_
                  refine wpAnyH_done (by kernel_rfl) (NoPanic.normal ?_) _
                  refine h2 _ _ ?_
                  go_meet
                  exact ⟨B5, lf, sv, nn, aw9, nw9, cw9, ak9, nk9, ck9, rfl, rfl, hCF⟩
          · go_simp
            have HZ8 := Lib.hid (HZ0.out.alloc (.cells zTre 64))
            refine hK.out _ _ HZ8.out.bel (fun hh => ?_)
            clear hh hK K; try simp only [Act.put, List.setIfInBounds_toArray, List.set_cons_zero, List.set_cons_succ]
            generalize z0.heap.size = B8 at HZ8 ⊢
            generalize z0.alloc _ = z8 at HZ8 ⊢
            refine held_ready (rs := [1]) (by kernel_rfl) (by simp) ?_
            refine (AllReadyH.cons rfl (fun K hK => ?_) AllReadyH.nil)
            · go_simp
              with_reducible refine (HCS.out z8 (Below.next HBK.out HZ8.out.bel)).mono ?_
              rintro e z9 ⟨lf, sv, nn, aw9, nw9, cw9, ak9, nk9, ck9, rfl, hts7, hb7⟩
              have HZ9 : Hid (CS S wk z9 (some (B8, .cells zTre 64)) (some fun u => TrM u ⟨lf, sv, nn, .slice aw9 nw9 cw9, .slice ak9 nk9 ck9⟩ KS)) := Lib.hid (HZ8.out.call hb7 fun w2 hw2 => hts7 w2 hw2)
              clear hts7 hb7
              go_simp
              refine hK.out _ _ HZ9.out.bel (fun hh => ?_)
              clear hh hK K; try simp only [Act.put, List.setIfInBounds_toArray, List.set_cons_zero, List.set_cons_succ]
              refine held_ready (rs := [4]) (by kernel_rfl) (by simp) ?_
              refine (AllReadyH.cons rfl (fun K hK => ?_) AllReadyH.nil)
              · go_simp
                with_reducible refine (HCP.out z9 (Below.next HBK.out HZ9.out.bel)).mono ?_
                rintro e z10 ⟨rfl, hb7⟩
                have HZ10 := Lib.hid (HZ9.out.quiet hb7)
                clear hb7
                go_simp
                refine hK.out _ _ HZ10.out.bel (fun hh => ?_)
                clear hh hK K; try simp only [Act.put, List.setIfInBounds_toArray, List.set_cons_zero, List.set_cons_succ]
                refine held_ready (rs := [6]) (by kernel_rfl) (by simp) ?_
                refine (AllReadyH.cons rfl (fun K hK => ?_) AllReadyH.nil)
                · skip
                  obtain ⟨gB, hBl⟩ := HZ10.out.b _ _ rfl
                  obtain ⟨c0, c1, c2, c3, c4⟩ := open5 gB
                  obtain ⟨f0, f1, f2, f3, f4⟩ := frz5 gB
                  go_simp
                  clear c0 c1 c2 c3 c4 f0 f1 f2 f3 f4
                  generalize hV : World.setCell (World.setCell (World.setCell (World.setCell (World.setCell z10 _ _) _ _) _ _) _ _) _ _ = V
                  obtain ⟨k1', k2', k3', k4'⟩ := fin5 gB hV
                  have hCF := HZ10.out.fin k1' k2' k4'
                  clear k1' k2' k3' k4' hV gB hBl
                  refine hK.out _ _ hCF.bel (fun hh => ?_)
                  clear hh hK K; try simp only [Act.put, List.setIfInBounds_toArray, List.set_cons_zero, List.set_cons_succ]
                  refine held_takes (f := 0) (by kernel_rfl) (fun _ _ _ _ _ h => h) hCF.bel [7] _ _ (by kernel_rfl) ?_
                  refine wpTk_cons rfl (fun K hK => ?_)
                  go_simp
                  apply Exists.intro
                  refine ⟨fun y hy => rfl, hK _ ?_⟩
                  clear hK K
                  refine wpTk_nil ?_
                  refine wpAnyH_done (by kernel_rfl) (NoPanic.normal ?_) _
                  refine h2 _ _ ?_
                  go_meet
                  exact ⟨B8, lf, sv, nn, aw9, nw9, cw9, ak9, nk9, ck9, rfl, rfl, hCF⟩
        case rest =>
          obtain ⟨B, lf, sv, nn, aw9, nw9, cw9, ak9, nk9, ck9, rfl, rfl, hCF⟩ := hcut
          obtain ⟨S2, hS2B, hS2, hTS2⟩ := hCF.r
          obtain ⟨c0, c1, c2, c3, c4⟩ := open5 hCF.b
          have hskk := HSK.out
          have hBle := hCF.le
          have hBlt := heap_some_lt hCF.b
          have hcs := hCF.bel.size
          have HBC := Lib.hid (Below.next HBK.out hCF.bel)
          have HTS2 : Hid (TrS S2 wc ⟨lf, sv, nn, .slice aw9 nw9 cw9, .slice ak9 nk9 ck9⟩ KS) := Lib.hid hTS2
          have HS2 := Lib.hid hS2
          have HCC := Lib.hid (const_c _ KS wc HTS2.out.r)
          unfold trA at HCC
          have HGB := Lib.hid hCF.b
          clear hCF hTS2 hS2 HCS HCP
          go_wp2_with fail
          with_reducible refine HCC.out.mono ?_
          rintro e w5 ⟨rfl, hb5⟩
          have HB5 := Lib.hid (Below.next HBC.out hb5)
          have gB5 := heap_below hb5 HGB.out
          obtain ⟨d0, d1, d2, d3, d4⟩ := open5 gB5
          have HRW5 := Lib.hid (rowK_below HRW.out HB5.out)
          have HTB5 := Lib.hid (HTB.out.below HB5.out)
          have hs5 := hb5.size
          have HTS5 : Hid (TrS S2 w5 ⟨lf, sv, nn, .slice aw9 nw9 cw9, .slice ak9 nk9 ck9⟩ KS) := Lib.hid (RS.below HTS2.out hb5 (fun g hg => by
            rcases HS2.out g hg with h1 | h1
            · have := hSr g h1; omega
            · omega))
          have HS25 : Hid (∀ g, S2 g → g < w5.heap.size) := Lib.hid (fun g hg => by
            rcases HS2.out g hg with h1 | h1
            · have := hSr g h1; omega
            · omega)
          have HSN : Hid (∀ g, S2 g → S g ∨ wr.heap.size ≤ g) := Lib.hid (fun g hg => (HS2.out g hg).imp id (fun h1 => by omega))
          clear c0 c1 c2 c3 c4 HTS2 HGB HBC hb5 gB5 HCC
          by_cases hcon : KS.constB = true
          · rw [hcon]
            have HCON := Lib.hid hcon
            have hnn : nn = KS.needOf := by
              cases KS with
              | srv s => cases hcon
              | thr a b c => obtain ⟨_, _, _, _, _, _, _, _, e, _⟩ := TrS.kids HTS5.out; exact e
            by_cases hn0 : KS.needOf = 0
            · have HSTE : Hid (stT nd ws ks (j + 1) = ⟨max 0 (st.need - WG), st.ks, st.ws, st.sum⟩) := Lib.hid (by rw [HSS.out]; unfold stepS; rw [if_neg (by rw [HCON.out]; simp), if_pos hn0])
              rw [hn0] at hnn
              subst hnn
              have hw1 : wrap64 (st.need - WG) = st.need - WG := by unfold wrap64; omega
              clear hcon hn0
              go_wp2_with fail
              go_roundw
              case rel =>
                refine ⟨j + 1, S', by omega, by go_num, by rw [HSTE.out], by rw [HSTE.out], by rw [HSTE.out]; exact HTB5.out, by rw [HSTE.out]; exact HRW5.out, HS'.out, HDIS.out, HBR.out.trans (HB5.out.mono hsz)⟩
              case measure => simp [intOf] <;> omega
            · have HSTE : Hid (stT nd ws ks (j + 1) = st) := Lib.hid (by rw [HSS.out]; unfold stepS; rw [if_neg (by rw [HCON.out]; simp), if_neg hn0])
              have hnn0 : (nn == 0) = false := by rw [hnn]; simpa using hn0
              clear hcon hn0 hnn
              go_wp2_with fail
              go_roundw
              case rel =>
                refine ⟨j + 1, S', by omega, by go_num, by rw [HSTE.out], by rw [HSTE.out], by rw [HSTE.out]; exact HTB5.out, by rw [HSTE.out]; exact HRW5.out, HS'.out, HDIS.out, HBR.out.trans (HB5.out.mono hsz)⟩
              case measure => simp [intOf] <;> omega
          · have hcon2 : KS.constB = false := by simpa using hcon
            rw [hcon2]
            have HSTE : Hid (stT nd ws ks (j + 1) = ⟨st.need, st.ks ++ [KS], st.ws ++ [WG], st.sum + WG⟩) := Lib.hid (by rw [HSS.out]; unfold stepS; rw [if_pos hcon2])
            obtain ⟨V0, hW1, hW2, hW3⟩ := HTB5.out.row
            obtain ⟨L, hL⟩ : ∃ L, st.ks.length = L := ⟨_, rfl⟩
            rw [hL] at hW1 hW2 hs3 hs4
            rw [hs4] at HRW5
            obtain ⟨a0, c0', rfl, _⟩ := rdK_of_row hW2
            have HRR := Lib.hid HRW5.out
            obtain ⟨b0, d0', rfl, _⟩ := rd_of_row HRR.out
            have HL := Lib.hid hL
            have HW1 := Lib.hid hW1
            have HW2 := Lib.hid hW2
            have HW3 := Lib.hid hW3
            have hw1 : wrap64 (st.sum + WG) = st.sum + WG := by unfold wrap64; omega
            clear hcon hcon2 hW1 hW2 hW3 hL
            go_wp2_with (at_builtin; go_must (refine wpList_appK2 5 _ _ 62 72 (.agg #[.bool false, .int .i64 0, .int .i64 0, .slice none 0 0, .slice none 0 0]) (trVC ⟨lf, sv, nn, .slice aw9 nw9 cw9, .slice ak9 nk9 ck9⟩) _ Tryd.underlying62 Tryd.infoTre rfl (by decide) HW2.out (Below.refl w2.heap.size w5) (by omega) rfl rfl rfl rfl rfl HTS5.out.one (by unfold maxLen; omega) (by omega) ?_))
            intro v6 w6 hown hb6 hg6 hs6' hv6
            have hTB6 := GB.pushes (M := [KS]) (U := [⟨lf, sv, nn, .slice aw9 nw9 cw9, .slice ak9 nk9 ck9⟩]) (SW := S2) HTB5.out (by rw [HW1.out, HL.out]) HW3.out (Below.refl _ _) hg6 rfl (by rw [HL.out]; exact hown) hv6 (fun i p s hp hs => by
              cases i with
              | zero => simp at hp hs; subst hp hs; exact HTS5.out
              | succ i => simp at hp) (fun g hg => ⟨HS25.out g hg, fun e => by
                have h3 := HTB.out.lt_own g e
                rcases HSN.out g hg with h1 | h1
                · have := HS.out g h1; omega
                · omega⟩)
            have hrr := HRR.out.lt
            have hr6 : w6.ownsRow w2.heap.size 3 1 (.slice b0 L d0') L (st.ws.map (Value.int .i64)) := rowK_at HRR.out fun g hg => hg6.block g (hrr g hg).2 (fun e => (HDIS.out g hg).2 e.symm)
            have HTB6 := Lib.hid hTB6
            have HR6 := Lib.hid hr6
            have HG6 := Lib.hid hg6
            have HV6 := Lib.hid hv6
            have HB6 := Lib.hid hb6
            obtain ⟨a6, c6, rfl, _⟩ := rdK_of_row hown
            have hs6 := hg6.size
            have HOW6 := Lib.hid hown.lt
            clear hTB6 hr6 hg6 hv6 hb6 hown HW2 HW3 HW1 hs6'
            go_wp2_with (at_builtin; go_must (refine wpList_appK2 1 _ _ 56 8 (.int .i64 0) [.int .i64 WG] _ Tryd.underlying56 Tryd.infoInt rfl (by decide) HR6.out (Below.refl w2.heap.size w6) (by omega) rfl rfl rfl rfl rfl (by intro u hu; simp at hu; subst hu; rfl) (by unfold maxLen; omega) (by omega) ?_))
            intro v7 w7 hown7 hb7 hg7 hs7' hv7
            have hold : ∀ g, (Value.slice b0 L d0').ownBlock = some g → ¬ (S' g ∨ S2 g) ∧ (Value.slice a6 (L + 1) c6).ownBlock ≠ some g := fun g hg => by
              have h3 := hrr g hg
              refine ⟨?_, fun e => ?_⟩
              · rintro (h1 | h1)
                · exact (HDIS.out g hg).1 h1
                · have h4 := HRW.out.lt g hg
                  rcases HSN.out g h1 with h2 | h2
                  · have := HS.out g h2; omega
                  · omega
              · have h4 := HRW.out.lt g hg
                rcases HV6.out g e with h1 | h1
                · exact (HDIS.out g hg).2 h1
                · omega
            have hTB7 := HTB6.out.move (w' := w7) (fun g hg => hg7.block g (HTB6.out.lt g hg) (fun e => (hold g e.symm).1 hg)) (fun g hg => hg7.block g (HTB6.out.lt_own g hg).2 (fun e => (hold g e.symm).2 hg)) hg7.size
            have HTB7 := Lib.hid hTB7
            have HR7 := Lib.hid hown7
            have HB7 := Lib.hid (HBR.out.trans ((HB5.out.mono hsz).trans (HB6.out.trans hb7)))
            have HV7 := Lib.hid hv7
            have HHOLD := Lib.hid hold
            clear hTB7 hown7 hb7 hg7 hs7' hv7 hold
            go_wp2_with fail
            go_roundw
            case rel =>
              refine ⟨j + 1, _, by omega, by go_num, by rw [HSTE.out], by rw [HSTE.out], by rw [HSTE.out]; exact HTB7.out, ?_, fun g hg => ?_, fun g hg => ?_, HB7.out⟩
              · rw [HSTE.out]
                show w7.ownsRow w2.heap.size 3 1 v7 (st.ws ++ [WG]).length ((st.ws ++ [WG]).map (Value.int .i64))
                rw [List.length_append, hs4, List.map_append]
                exact HR7.out
              · rcases hg with hg | hg
                · exact HS'.out g hg
                · exact (HSN.out g hg).imp id (fun h => by omega)
              · rcases HV7.out g hg with h1 | h1
                · exact HHOLD.out g h1
                · refine ⟨?_, fun e => ?_⟩
                  · intro h2
                    have := HTB6.out.lt g h2; omega
                  · have := (HOW6.out g e).2; omega
            case measure => simp [intOf] <;> omega
      · obtain rfl : j = nk := by omega
        have hbw : Below w.heap.size w wr := HB2.out.trans (hbr.mono (by omega))
        obtain ⟨st, hst9⟩ : ∃ st, stT nd ws ks j = st := ⟨_, rfl⟩
        have HFS : Hid (finS (stT nd ws ks j) = finS st) := Lib.hid (by rw [hst9])
        rw [hst9] at hTB hrw hs1 hs2' hs3 hs4 hst ⊢
        have gR := heap_below hbr GR.out
        obtain ⟨r0, r1, r2, r3, r4⟩ := open5 gR
        obtain ⟨z0, z1, z2, z3, z4⟩ := frz5 gR
        have HGR := Lib.hid gR
        have HBW := Lib.hid hbw
        have HTB := Lib.hid hTB
        have HRW := Lib.hid hrw
        have HS' := Lib.hid hS'
        have HDIS := Lib.hid hdis
        have HBR := Lib.hid hbr
        have HSO := Lib.hid hst
        clear hst9 gR hbw hTB hrw hS' hdis hbr hst HST HSI HT HV1 HV2 HV3 HIH
        by_cases hn0 : st.need = 0
        · have HF : Hid (finS st = .thr 0 [] []) := Lib.hid (by unfold finS; rw [if_pos hn0])
          have hn1 : (st.need == 0) = true := by simpa using hn0
          clear hn0
          go_wp2_with fail
          clear r0 r1 r2 r3 r4 z0 z1 z2 z3 z4
          generalize hWF : ((((wr.setCell _ _).setCell _ _).setCell _ _).setCell _ _).setCell _ _ = WF
          obtain ⟨q1, q2⟩ := ret_fin (S := S) (w := w) (TrS.thr0 (fun _ => False) wr 0) HS.out (fun _ h => h.elim) (HBW.out) (HGR.out) hWF
          refine bodyPost_ret (v := .agg #[.bool false, .int .i64 0, .int .i64 0, .slice none 0 0, .slice none 0 0]) ?_ rfl (by rw [HFS.out, HF.out]; exact q2)
          exact results_cell_row rfl _ _ _ _ _ _ _ rfl q1 Tryd.underlying64 rfl (by kernel_rfl)
        · have hn1 : (st.need == 0) = false := by simpa using hn0
          by_cases hn2 : st.sum < st.need
          · have HF : Hid (finS st = .thr 1 [] []) := Lib.hid (by unfold finS; rw [if_neg hn0, if_pos hn2])
            clear hn0
            go_wp2_with fail
            clear r0 r1 r2 r3 r4 z0 z1 z2 z3 z4
            generalize hWF : ((((wr.setCell _ _).setCell _ _).setCell _ _).setCell _ _).setCell _ _ = WF
            obtain ⟨q1, q2⟩ := ret_fin (S := S) (w := w) (TrS.thr0 (fun _ => False) wr 1) HS.out (fun _ h => h.elim) (HBW.out) (HGR.out) hWF
            refine bodyPost_ret (v := .agg #[.bool false, .int .i64 0, .int .i64 1, .slice none 0 0, .slice none 0 0]) ?_ rfl (by rw [HFS.out, HF.out]; exact q2)
            exact results_cell_row rfl _ _ _ _ _ _ _ rfl q1 Tryd.underlying64 rfl (by kernel_rfl)
          · have hne : st.ws ≠ [] := fun e => by
              have h1 := HSO.out.toSOk.sum
              rw [e] at h1; simp [sumL] at h1; omega
            have hkne : st.ks ≠ [] := fun e => hne (List.eq_nil_of_length_eq_zero (by rw [hs4, e]; rfl))
            have HF : Hid (finS st = oneOf st.ks (mergA (lightT st.need st.sum st.ws st.ks))) := Lib.hid (by unfold finS; rw [if_neg hn0, if_neg hn2])
            obtain ⟨V0, hW1, hW2, hW3⟩ := HTB.out.row
            obtain ⟨L, hL⟩ : ∃ L, st.ks.length = L := ⟨_, rfl⟩
            have hrd := HRW.out
            rw [hs4] at hrd
            rw [hL] at hW1 hW2 hs3 hs4 hrd
            obtain ⟨a0, c0', e5, hRK⟩ := rdK_of_row hW2
            obtain ⟨b0, d0', e6, hRD⟩ := rd_of_row hrd
            subst e5 e6
            have HCL := Lib.hid (light_c st.need st.sum st.ws hne HSO.out.toSOk.wts ⟨by omega, by omega⟩ ⟨by omega, by omega⟩ b0 L d0' a0 L c0' wr hRD)
            obtain ⟨ws', hLT, hLW⟩ := light_v st.need st.sum st.ws st.ks (.slice b0 L d0')
            obtain ⟨LT, hLT9⟩ : ∃ LT, lightT st.need st.sum st.ws st.ks = LT := ⟨_, rfl⟩
            rw [hLT9] at hLT HF
            rw [hL] at hLT hLW
            have HLT := Lib.hid hLT
            have HLW := Lib.hid hLW
            have HL := Lib.hid hL
            have HW1 := Lib.hid hW1
            have HRK := Lib.hid hRK
            have HW3 := Lib.hid hW3
            have HKZ := Lib.hid (Nat.le_trans HSO.out.sz HZZ.out)
            have HSLW : Hid (SlS (fun g => (Value.slice b0 L d0').ownBlock = some g) wr (.slice b0 L d0') st.ws) := Lib.hid (SlS.of_row HRW.out)
            have hn3 : ¬ st.need = 0 := hn0
            clear hn0 hne hW1 hW2 hW3 hL hrd hRK hRD hLT hLW hLT9
            go_wp2_with fail
            with_reducible refine HCL.out.mono ?_
            rintro e w5 ⟨u, hu, ⟨ua, un, uc, hu2⟩, rfl, hb5⟩
            obtain ⟨u1, u2⟩ := u
            simp only at hu2
            subst hu2
            have HLT2 : Hid (LT = .thr u1 ws' st.ks) := Lib.hid (by rw [HLT.out, hu])
            have HWV : Hid (SlS (fun g => (Value.slice b0 L d0').ownBlock = some g) wr (.slice ua un uc) ws') := Lib.hid (by
              rcases HLW.out with ⟨h1, h2⟩ | ⟨h1, h2⟩
              · rw [hu] at h2
                simp only at h2
                rw [h1, h2]; exact SlS.nil _ _
              · rw [hu] at h2
                simp only at h2
                rw [h1, h2]; exact HSLW.out)
            have hSr : ∀ g, S g → g < w.heap.size := HS.out
            have hTO := TB.thr (S' := fun g => S g ∨ (w2.heap.size ≤ g ∧ g < wr.heap.size)) u1 HTB.out HWV.out (fun g hg => (HS'.out g hg).imp id (fun h => ⟨h, HTB.out.lt g hg⟩)) (fun g hg => .inr (HRW.out.lt g hg)) (fun g hg => .inr (HTB.out.lt_own g hg))
            rw [← HLT2.out] at hTO
            have hs5 := hb5.size
            obtain ⟨WT, hWT⟩ : ∃ WT, WT = w5.alloc (.cells #[.bool false, .int .i64 0, .int .i64 u1, .slice ua un uc, .slice a0 L c0'] 64) := ⟨_, rfl⟩
            have hbT : Below wr.heap.size wr WT := by rw [hWT]; exact Below.next hb5 ((Below.refl _ _).alloc (Nat.le_refl _) _)
            have gT : WT.heap[w5.heap.size]? = some (.cells #[.bool false, .int .i64 0, .int .i64 u1, .slice ua un uc, .slice a0 L c0'] 64 (0, 0)) := by rw [hWT]; exact heap_alloc_new _ _
            have hsT : WT.heap.size = w5.heap.size + 1 := by rw [hWT]; simp
            have hWTT := HGR.out
            have HTO : Hid (TrS (fun g => S g ∨ (w2.heap.size ≤ g ∧ g < wr.heap.size)) WT ⟨false, 0, u1, .slice ua un uc, .slice a0 L c0'⟩ LT) := Lib.hid (RS.below hTO hbT (fun g hg => by
              rcases hg with h1 | h1
              · have := hSr g h1; omega
              · omega))
            have HBT := Lib.hid hbT
            have HGT := Lib.hid gT
            have HST := Lib.hid hsT
            have HGRT := Lib.hid (heap_below hbT HGR.out)
            clear hu hb5 hTO hbT gT hsT hWTT HLT HLW HSLW HWV HCL r0 r1 r2 r3 r4 z0 z1 z2 z3 z4
            obtain ⟨z0, z1, z2, z3, z4⟩ := frz5 HGRT.out
            obtain ⟨r0, r1, r2, r3, r4⟩ := open5 HGRT.out
            obtain ⟨t0, t1, t2, t3, t4⟩ := open5 HGT.out
            rcases oneOf_cases st.ks (mergA LT) hkne with ⟨k0, hk0, ho⟩ | ⟨ho2, ho⟩
            · have hL1 : L = 1 := by rw [← HL.out, hk0]; rfl
              subst hL1
              have HHO : Hid (oneOf st.ks (mergA LT) = k0) := Lib.hid ho
              obtain ⟨p0, hp0⟩ : ∃ p0, V0[0]? = some p0 := ⟨_, List.getElem?_eq_getElem (by have := HW1.out; omega)⟩
              have hts0 : TrS S' wr p0 k0 := HW3.out 0 p0 k0 hp0 (by rw [hk0]; rfl)
              obtain ⟨nw5, aw5, cw5, ak5, ck5, hpk5⟩ := TrS.shape hts0
              obtain ⟨lf5, sv5, nd5, wv5, kv5⟩ := p0
              simp only [TrV.mk.injEq, true_and] at hpk5
              obtain ⟨rfl, rfl⟩ := hpk5
              obtain ⟨bb, oo, ha, hcells⟩ := RdK.cells (HRK.out.below HBT.out) trVC_len (by omega)
              have hc := hcells 0 _ hp0
              have c0 := hc 0 (by omega)
              have c1 := hc 1 (by omega)
              have c2 := hc 2 (by omega)
              have c3 := hc 3 (by omega)
              have c4 := hc 4 (by omega)
              simp only [trVC, Nat.zero_mul, Nat.add_zero, List.getElem?_cons_zero, List.getElem?_cons_succ] at c0 c1 c2 c3 c4
              have HT0 : Hid (TrS S' WT ⟨lf5, sv5, nd5, .slice aw5 nw5 cw5, .slice ak5 k0.kidsOf.length ck5⟩ k0) := Lib.hid (RS.below hts0 HBT.out HTB.out.lt)
              subst ha
              rw [hWT] at c0 c1 c2 c3 c4 r0 r1 r2 r3 r4 z0 z1 z2 z3 z4
              clear hcells hc hts0 hp0 ho hk0 t0 t1 t2 t3 t4
              go_wp2_with fail
              rw [← hWT]
              clear r0 r1 r2 r3 r4 z0 z1 z2 z3 z4 c0 c1 c2 c3 c4
              generalize hWF : ((((WT.setCell _ _).setCell _ _).setCell _ _).setCell _ _).setCell _ _ = WF
              obtain ⟨q1, q2⟩ := ret_fin (S := S) (w := w) (HT0.out) HS.out (fun g hg => (HS'.out g hg).imp id (fun h => ⟨by omega, by have := HTB.out.lt g hg; have := HST.out; omega⟩)) (HBW.out.trans (HBT.out.mono HBW.out.size)) (HGRT.out) hWF
              refine bodyPost_ret (v := .agg #[.bool lf5, .int .i64 sv5, .int .i64 nd5, .slice aw5 nw5 cw5, .slice ak5 k0.kidsOf.length ck5]) ?_ rfl (by rw [HFS.out, HF.out, HHO.out]; exact q2)
              exact results_cell_row rfl _ _ _ _ _ _ _ rfl q1 Tryd.underlying64 rfl (by kernel_rfl)
            · have hL2 : 2 ≤ L := by rw [← HL.out]; exact ho2
              have hL1 : ((L : Int) == 1) = false := by rw [beq_eq_false_iff_ne]; omega
              have HA1 := Lib.hid (anyOf_c ⟨false, 0, u1, .slice ua un uc, .slice a0 L c0'⟩ LT WT HTO.out.r)
              unfold trA at HA1
              rw [hWT] at r0 r1 r2 r3 r4 z0 z1 z2 z3 z4 t0 t1 t2 t3 t4
              clear HRK HW3 HW1
              have HHO : Hid (finS st = mergA LT) := Lib.hid (by rw [HF.out, ho])
              have hsT := HST.out
              have HZ5 := Lib.hid hs5
              clear ho ho2 HF
              go_wp2_with fail
              rw [← hWT]
              clear r0 r1 r2 r3 r4 z0 z1 z2 z3 z4 t0 t1 t2 t3 t4
              with_reducible refine HA1.out.mono ?_
              rintro e w6 ⟨rfl, hb6⟩
              have HB6 := Lib.hid (Below.next HBT.out hb6)
              have HGT6 := Lib.hid (heap_below hb6 HGT.out)
              have HGR6 := Lib.hid (heap_below hb6 HGRT.out)
              have hSOl : ∀ g, (fun g => S g ∨ (w2.heap.size ≤ g ∧ g < wr.heap.size)) g → g < WT.heap.size := fun g hg => by
                rcases hg with h1 | h1
                · have := hSr g h1; omega
                · omega
              have HTO6 : Hid (TrS (fun g => S g ∨ (w2.heap.size ≤ g ∧ g < wr.heap.size)) w6 ⟨false, 0, u1, .slice ua un uc, .slice a0 L c0'⟩ LT) := Lib.hid (RS.below HTO.out hb6 hSOl)
              have hs6 := hb6.size
              have HSOL : Hid (∀ g, (fun g => S g ∨ (w2.heap.size ≤ g ∧ g < wr.heap.size)) g → g < WT.heap.size) := Lib.hid hSOl
              obtain ⟨t0, t1, t2, t3, t4⟩ := open5 HGT6.out
              obtain ⟨z0, z1, z2, z3, z4⟩ := frz5 HGR6.out
              obtain ⟨r0, r1, r2, r3, r4⟩ := open5 HGR6.out
              clear hWT HA1 HTO HGT HGRT hb6 hSOl
              by_cases hany : LT.anyB = true
              · rw [hany]
                have HT6 := Lib.hid HTO6.out
                have HME : Hid (mergA LT = .thr u1 [] (mergT ET.anyB st.ks)) := Lib.hid (by unfold mergA; rw [if_pos hany, HLT2.out]; rfl)
                have HMC := Lib.hid (merged_c (fun g => S g ∨ (w2.heap.size ≤ g ∧ g < wr.heap.size)) ET.anyB 44 eg_any anyOf_c ⟨false, 0, u1, .slice ua un uc, .slice a0 L c0'⟩ u1 ws' st.ks w6 (by have := HTO6.out; rw [HLT2.out] at this; exact this) (fun g hg => by have := HSOL.out g hg; omega) HKZ.out)
                unfold trA at HMC
                clear hany
                go_wp2_with fail
                clear t0 t1 t2 t3 t4 r0 r1 r2 r3 r4 z0 z1 z2 z3 z4
                with_reducible refine HMC.out.mono ?_
                rintro e w7 ⟨lf, sv, nn, aw9, nw9, cw9, ak9, nk9, ck9, rfl, hT7, hb7⟩
                have HGR7 := Lib.hid (heap_below hb7 HGR6.out)
                obtain ⟨z0, z1, z2, z3, z4⟩ := frz5 HGR7.out
                obtain ⟨r0, r1, r2, r3, r4⟩ := open5 HGR7.out
                have HT7 : Hid (TrS (fun g => (fun g => S g ∨ (w2.heap.size ≤ g ∧ g < wr.heap.size)) g ∨ (w6.heap.size ≤ g ∧ g < w7.heap.size)) w7 ⟨lf, sv, nn, .slice aw9 nw9 cw9, .slice ak9 nk9 ck9⟩ (.thr u1 [] (mergT ET.anyB st.ks))) := Lib.hid hT7
                have HB7 := Lib.hid (Below.next HB6.out hb7)
                have hs7 := hb7.size
                clear hT7 hb7
                go_wp2_with fail
                clear r0 r1 r2 r3 r4 z0 z1 z2 z3 z4
                have hX9 : ∀ g, ((fun g => S g ∨ (w2.heap.size ≤ g ∧ g < wr.heap.size)) g ∨ (w6.heap.size ≤ g ∧ g < w7.heap.size)) → S g ∨ (w.heap.size + 2 ≤ g ∧ g < w7.heap.size) := by
                  rintro g ((h1 | h1) | h1)
                  · exact .inl h1
                  · exact .inr ⟨by omega, by omega⟩
                  · exact .inr ⟨by omega, by omega⟩
                generalize hWF : ((((w7.setCell _ _).setCell _ _).setCell _ _).setCell _ _).setCell _ _ = WF
                obtain ⟨q1, q2⟩ := ret_fin (S := S) (w := w) (HT7.out) HS.out hX9 (HBW.out.trans (HB7.out.mono HBW.out.size)) (HGR7.out) hWF
                refine bodyPost_ret (v := .agg #[.bool lf, .int .i64 sv, .int .i64 nn, .slice aw9 nw9 cw9, .slice ak9 nk9 ck9]) ?_ rfl (by rw [HFS.out, HHO.out, HME.out]; exact q2)
                exact results_cell_row rfl _ _ _ _ _ _ _ rfl q1 Tryd.underlying64 rfl (by kernel_rfl)
              · have hany2 : LT.anyB = false := by simpa using hany
                rw [hany2]
                have HA2 := Lib.hid (allOf_c ⟨false, 0, u1, .slice ua un uc, .slice a0 L c0'⟩ LT w6 HTO6.out.r)
                unfold trA at HA2
                have HANY := Lib.hid hany2
                clear hany hany2
                go_wp2_with fail
                clear t0 t1 t2 t3 t4 r0 r1 r2 r3 r4 z0 z1 z2 z3 z4
                with_reducible refine HA2.out.mono ?_
                rintro e w7 ⟨rfl, hb7⟩
                have HB7 := Lib.hid (Below.next HB6.out hb7)
                have HGT7 := Lib.hid (heap_below hb7 HGT6.out)
                have HGR7 := Lib.hid (heap_below hb7 HGR6.out)
                have HTO7 : Hid (TrS (fun g => S g ∨ (w2.heap.size ≤ g ∧ g < wr.heap.size)) w7 ⟨false, 0, u1, .slice ua un uc, .slice a0 L c0'⟩ LT) := Lib.hid (RS.below HTO6.out hb7 (fun g hg => by have := HSOL.out g hg; omega))
                have hs7 := hb7.size
                obtain ⟨t0, t1, t2, t3, t4⟩ := open5 HGT7.out
                obtain ⟨z0, z1, z2, z3, z4⟩ := frz5 HGR7.out
                obtain ⟨r0, r1, r2, r3, r4⟩ := open5 HGR7.out
                clear HA2 HTO6 HGT6 HGR6 hb7
                by_cases hall : LT.allB = true
                · rw [hall]
                  have HME : Hid (mergA LT = .thr (mergT ET.allB st.ks).length [] (mergT ET.allB st.ks)) := Lib.hid (by unfold mergA; rw [if_neg (by rw [HANY.out]; simp), if_pos hall, HLT2.out]; rfl)
                  have HMC := Lib.hid (merged_c (fun g => S g ∨ (w2.heap.size ≤ g ∧ g < wr.heap.size)) ET.allB 46 eg_all allOf_c ⟨false, 0, u1, .slice ua un uc, .slice a0 L c0'⟩ u1 ws' st.ks w7 (by have := HTO7.out; rw [HLT2.out] at this; exact this) (fun g hg => by have := HSOL.out g hg; omega) HKZ.out)
                  unfold trA at HMC
                  clear hall
                  go_wp2_with fail
                  clear t0 t1 t2 t3 t4 r0 r1 r2 r3 r4 z0 z1 z2 z3 z4
                  with_reducible refine HMC.out.mono ?_
                  rintro e w8 ⟨lf, sv, nn, aw9, nw9, cw9, ak9, nk9, ck9, rfl, hT8, hb8⟩
                  have HGR8 := Lib.hid (heap_below hb8 HGR7.out)
                  have HGT8 := Lib.hid (heap_below hb8 HGT7.out)
                  obtain ⟨y0, y1, y2, y3, y4⟩ := frz5 HGT8.out
                  obtain ⟨t0, t1, t2, t3, t4⟩ := open5 HGT8.out
                  have HT8 : Hid (TrS (fun g => (fun g => S g ∨ (w2.heap.size ≤ g ∧ g < wr.heap.size)) g ∨ (w7.heap.size ≤ g ∧ g < w8.heap.size)) w8 ⟨lf, sv, nn, .slice aw9 nw9 cw9, .slice ak9 nk9 ck9⟩ (.thr u1 [] (mergT ET.allB st.ks))) := Lib.hid hT8
                  have HB8 := Lib.hid (Below.next HB7.out hb8)
                  have hs8 := hb8.size
                  clear hT8 hb8
                  have HT8k := Lib.hid (TrS.kids HT8.out)
                  have HNK8 : Hid (nk9 = (mergT ET.allB st.ks).length) := by
                    obtain ⟨_, _, e, _⟩ := HT8k.out
                    exact Lib.hid e
                  have HTF := Lib.hid (TrS.need HT8.out (nk9 : Int))
                  go_upto_region 26 with fail
                  generalize hWA : ((((w8.setCell _ _).setCell _ _).setCell _ _).setCell _ _).setCell _ _ = wA
                  obtain ⟨a1', a2', a3', a4'⟩ := fin5 HGT8.out hWA
                  clear y0 y1 y2 y3 y4 t0 t1 t2 t3 t4
                  obtain ⟨y0, y1, y2, y3, y4⟩ := frz5 a1'
                  obtain ⟨t0, t1, t2, t3, t4⟩ := open5 a1'
                  obtain ⟨wB, hWB⟩ : ∃ wB, wB = wA.setCell ⟨w5.heap.size, 2, none⟩ (.int .i64 (nk9 : Int)) := ⟨_, rfl⟩
                  have gTB : wB.heap[w5.heap.size]? = some (.cells #[.bool lf, .int .i64 sv, .int .i64 (nk9 : Int), .slice aw9 nw9 cw9, .slice ak9 nk9 ck9] 64 (0, 0)) := by rw [hWB]; exact heap_set_at a1' 2 _
                  have hkB : ∀ g, g ≠ w5.heap.size → wB.heap[g]? = w8.heap[g]? := fun g hg => by rw [hWB, Below.heap_setCell _ ⟨w5.heap.size, 2, none⟩ _ g hg]; exact a2' g hg
                  have hbB : Below wr.heap.size wr wB := by rw [hWB]; exact (HB8.out.trans (a4' _ (by omega))).setCell (p := ⟨w5.heap.size, 2, none⟩) (by show wr.heap.size ≤ w5.heap.size; omega) _
                  have hsB : wB.heap.size = w8.heap.size := by rw [hWB]; simpa using a3'
                  have gRB := (hkB (w.heap.size + 1) (by omega)).trans HGR8.out
                  have HTB9 : Hid (TrS (fun g => (fun g => S g ∨ (w2.heap.size ≤ g ∧ g < wr.heap.size)) g ∨ (w7.heap.size ≤ g ∧ g < w8.heap.size)) wB ⟨lf, sv, (nk9 : Int), .slice aw9 nw9 cw9, .slice ak9 nk9 ck9⟩ (.thr (nk9 : Int) [] (mergT ET.allB st.ks))) := Lib.hid (RS.move HTF.out (fun g hg => hkB g (by
                    rcases hg with (h1 | h1) | h1
                    · have := hSr g h1; omega
                    · omega
                    · omega)))
                  have HGRB := Lib.hid gRB
                  have HBB := Lib.hid hbB
                  have HSB := Lib.hid hsB
                  have gRA := (a2' (w.heap.size + 1) (by omega)).trans HGR8.out
                  obtain ⟨b0', b1', b2', b3', b4'⟩ := open5 gTB
                  obtain ⟨r0, r1, r2, r3, r4⟩ := open5 gRB
                  obtain ⟨z0, z1, z2, z3, z4⟩ := frz5 gRB
                  rw [hWB] at b0' b1' b2' b3' b4' r0 r1 r2 r3 r4 z0 z1 z2 z3 z4
                  clear hWA a1' a2' a3' a4' gTB hkB hbB hsB gRB gRA
                  go_wp2_with fail
                  rw [← hWB]
                  clear r0 r1 r2 r3 r4 z0 z1 z2 z3 z4 b0' b1' b2' b3' b4' y0 y1 y2 y3 y4 t0 t1 t2 t3 t4
                  have hsB := HSB.out
                  have hX9 : ∀ g, ((fun g => S g ∨ (w2.heap.size ≤ g ∧ g < wr.heap.size)) g ∨ (w7.heap.size ≤ g ∧ g < w8.heap.size)) → S g ∨ (w.heap.size + 2 ≤ g ∧ g < wB.heap.size) := by
                    rintro g ((h1 | h1) | h1)
                    · exact .inl h1
                    · exact .inr ⟨by omega, by omega⟩
                    · exact .inr ⟨by omega, by omega⟩
                  generalize hWF : ((((wB.setCell _ _).setCell _ _).setCell _ _).setCell _ _).setCell _ _ = WF
                  obtain ⟨q1, q2⟩ := ret_fin (S := S) (w := w) (HTB9.out) HS.out hX9 (HBW.out.trans (HBB.out.mono HBW.out.size)) (HGRB.out) hWF
                  refine bodyPost_ret (v := .agg #[.bool lf, .int .i64 sv, .int .i64 (nk9 : Int), .slice aw9 nw9 cw9, .slice ak9 nk9 ck9]) ?_ rfl (by rw [HFS.out, HHO.out, HME.out, ← HNK8.out]; exact q2)
                  exact results_cell_row rfl _ _ _ _ _ _ _ rfl q1 Tryd.underlying64 rfl (by kernel_rfl)
                · have hall2 : LT.allB = false := by simpa using hall
                  rw [hall2]
                  have HME : Hid (mergA LT = LT) := Lib.hid (by unfold mergA; rw [if_neg (by rw [HANY.out]; simp), if_neg hall])
                  clear hall hall2
                  go_wp2_with fail
                  clear t0 t1 t2 t3 t4 r0 r1 r2 r3 r4 z0 z1 z2 z3 z4
                  have hX9 : ∀ g, (fun g => S g ∨ (w2.heap.size ≤ g ∧ g < wr.heap.size)) g → S g ∨ (w.heap.size + 2 ≤ g ∧ g < w7.heap.size) := by
                    rintro g (h1 | h1)
                    · exact .inl h1
                    · exact .inr ⟨by omega, by omega⟩
                  generalize hWF : ((((w7.setCell _ _).setCell _ _).setCell _ _).setCell _ _).setCell _ _ = WF
                  obtain ⟨q1, q2⟩ := ret_fin (S := S) (w := w) (HTO7.out) HS.out hX9 (HBW.out.trans (HB7.out.mono HBW.out.size)) (HGR7.out) hWF
                  refine bodyPost_ret (v := .agg #[.bool false, .int .i64 0, .int .i64 u1, .slice ua un uc, .slice a0 L c0']) ?_ rfl (by rw [HFS.out, HHO.out, HME.out]; exact q2)
                  exact results_cell_row rfl _ _ _ _ _ _ _ rfl q1 Tryd.underlying64 rfl (by kernel_rfl)
/-- **simplified.** -/
theorem simplified_c : ∀ f, SiC f
  | 0 => fun t ht => by have := t.sz_pos; omega
  | f + 1 => simp_step f (simplified_c f)
end Go.Proofs.YtmjgdnpfgkpaoaaDoor
namespace Go.Proofs.YtmjgdnpfgkpaoaaDoor
open Go.RowKit Go.Shelf

/-- the kids, the weights and the node of a tree -/
structure TrP (t : ET) (KT : List ET) (kind server need : Int) (ws : List Int) : Prop where
  post : ∀ b, t.post b = ETs.post KT b ++ [⟨kind, server, need, ws, ETs.idx KT b⟩]
  sz : t.sz = ETs.sz KT + 1
def FeC (w0 : World) (OB B : Nat) (f : Nat) : Prop :=
  ∀ (t : ET), t.sz ≤ f → ∀ (E : Nat → Prop) (p : TrV) (w : World) (S : Nat → Prop) (v : Value) (nodes : List Nod), TrS E w p t → WrI w0 OB B E S v nodes w → nodes.length + t.sz ≤ 1000 →
    Calls Tryd.prog 17 #[.pointer (some ⟨OB, 0, none⟩), trA p] w fun e w' => e = .returned (.tuple #[]) ∧ WrO OB B E S v nodes (t.post nodes.length) w w'

set_option maxRecDepth 100000 in
set_option maxHeartbeats 16000000 in
theorem fell_step (w0 : World) (OB B : Nat) (hB : w0.heap.size ≤ B) (hOB : B ≤ OB) (f : Nat) (ih : FeC w0 OB B f) : FeC w0 OB B (f + 1) := by
  intro t htf E p w S v nodes h hI hsz
  obtain ⟨nw, aw, cw, ak, ck, hp⟩ := TrS.shape h
  obtain ⟨KT, kind, server, need, ws, hTP, hKT, hSW, hkind, hlf, hsv, hnd⟩ : ∃ KT kind server need ws, TrP t KT kind server need ws ∧ t.kidsOf = KT ∧ SlS E w p.wv ws ∧ ((p.leaf = true ∧ kind = 1 ∧ p.wv = .slice none 0 0 ∧ need = 0) ∨ (p.leaf = false ∧ kind = 2 ∧ server = 0)) ∧ (p.leaf = true → server = p.server) ∧ (p.leaf = false → need = p.need) ∧ True := by
    cases t with
    | srv s =>
      have := h.leaf
      subst this
      exact ⟨[], 1, s, 0, [], ⟨fun b => by rw [ET.post]; rfl, by rw [ET.sz]; rfl⟩, rfl, SlS.nil _ _, .inl ⟨rfl, rfl, rfl, rfl⟩, fun _ => rfl, (fun e => by cases e), trivial⟩
    | thr n ws ks =>
      obtain ⟨lf, sv, nd, wv, kv⟩ := p
      simp only [TrV.mk.injEq, true_and] at hp
      obtain ⟨rfl, rfl⟩ := hp
      obtain ⟨V, _, _, _, _, hSW, hlf, hsv, hnd, _⟩ := TrS.kids h
      exact ⟨ks, 2, 0, n, ws, ⟨fun b => by rw [ET.post], by rw [ET.sz]⟩, rfl, hSW, .inr ⟨hlf, rfl, rfl⟩, (fun e => by simp only at e; rw [hlf] at e; cases e), fun _ => hnd.symm, trivial⟩
  obtain ⟨lf, sv, nd, wv, kv⟩ := p
  simp only [TrV.mk.injEq, true_and] at hp
  obtain ⟨rfl, rfl⟩ := hp
  simp only at hSW hkind hlf hsv
  rw [hKT] at h
  have hUB := TrS.blk h
  rw [hKT] at hUB
  obtain ⟨U, hU1, _, hU2, hU3⟩ := TrS.kids' h
  rw [hKT] at hU1 hU3
  obtain ⟨nk, hnk⟩ : ∃ nk, KT.length = nk := ⟨_, rfl⟩
  rw [hnk] at hU1 hU2 h hUB
  rw [hTP.sz] at hsz htf
  have hKz := ETs.sz_ge KT
  have hnk1 : nk ≤ 1000 := by omega
  have HPL := Lib.hid hTP
  have HKs := Lib.hid hnk
  have HU1 := Lib.hid hU1
  have HU2 := Lib.hid hU2
  have HU3 := Lib.hid hU3
  have HI := Lib.hid hI
  have HSZ := Lib.hid hsz
  have HZF := Lib.hid htf
  have HSLW := Lib.hid hSW
  have HIH := Lib.hid ih
  have HKTT := Lib.hid hKT
  have HEL := Lib.hid (fun g hg => (hI.ext g hg).1)
  have HUB := Lib.hid hUB
  unfold trA
  rw [hKT, hnk]
  clear h hU1 hU2 hU3 hI hsz htf hSW ih hTP hKz hnk hKT hUB
  rcases hkind with ⟨e1, rfl, e2, rfl⟩ | ⟨e1, rfl, rfl⟩
  · subst e1
    have hlf2 := hlf rfl
    subst hlf2
    clear hlf hsv
    rw [e2] at HSLW ⊢
    go_enter Tryd.func17, Tryd.ntmps17
    go_wp2_with fail
    generalize hW2 : (w.alloc _).alloc _ = W2
    obtain ⟨gX, gN, hb2, hs2⟩ := box2' hW2
    obtain ⟨r0, hL0⟩ := WrL.start (W2 := W2) (N := w.heap.size + 1) (s := w.heap.size + 2) (SW := E) HI.out hOB hb2 gN (fun _ _ _ _ => rfl) ⟨by omega, by omega⟩ (HSLW.out.move fun g hg => hb2.block g (HEL.out g hg)) (fun g hg => .inl hg) (fun g hg => by have := HEL.out g hg; have := hb2.size; omega)
    have HL0 := Lib.hid hL0
    have hs4 : w.heap.size + 2 ≤ W2.heap.size := by omega
    have HB2 := Lib.hid hb2
    clear hW2 gX gN hb2 hL0 hs2
    go_loopw [20] (fun q wr => ∃ k v' r kv S', k ≤ nk ∧ q = .int .i64 ((k : Nat) : Int) ∧ WrL w0 w W2 OB B (w.heap.size + 1) (w.heap.size + 2) E S E v nodes (.int .i64 1) (.int .i64 server) (.int .i64 0) (.slice none 0 0) ws v' r kv S' (ETs.post (KT.take k) nodes.length) (ETs.idx (KT.take k) nodes.length) wr ∧ w.heap.size + 2 ≤ wr.heap.size) (fun q _ => nk - (intOf q).toNat)
    case atStart => exact ⟨0, v, r0, _, S, Nat.zero_le _, rfl, HL0.out, hs4⟩
    case round =>
      obtain ⟨k, v', r, kv, S', hk, rfl, hL, hsr⟩ := hrel
      by_cases hlt : k < nk
      · obtain ⟨kt, hkt⟩ : ∃ kt, KT[k]? = some kt := ⟨_, List.getElem?_eq_getElem (by have := HKs.out; omega)⟩
        obtain ⟨pk, hpk⟩ : ∃ pk, U[k]? = some pk := ⟨_, List.getElem?_eq_getElem (by have := HU1.out; omega)⟩
        have hob := HI.out.ob_lt
        have hbkk := hL.kb.blk
        have hbw : Ag E w wr := fun g hg => hbkk g (HEL.out g hg) (HI.out.ext g hg).2.1 (HI.out.ext g hg).2.2
        have hts : TrS E wr pk kt := RS.move (HU3.out k pk kt hpk hkt) hbw
        obtain ⟨nw5, aw5, cw5, ak5, ck5, hpk5⟩ := TrS.shape hts
        obtain ⟨lf5, sv5, nd5, wv5, kv5⟩ := pk
        simp only [TrV.mk.injEq, true_and] at hpk5
        obtain ⟨rfl, rfl⟩ := hpk5
        obtain ⟨b, o, ha, hcells⟩ := RdK.cells HU2.out trVC_len (by omega)
        have hEb : E b := HUB.out b o ha (by omega)
        have hkp : ∀ i, wr.cell? ⟨b, i, none⟩ = w.cell? ⟨b, i, none⟩ := fun i => World.cell?_of_block (a := ⟨b, i, none⟩) (hbw b hEb)
        have hc := hcells k _ hpk
        have c0 := (hkp _).trans (hc 0 (by omega))
        have c1 := (hkp _).trans (hc 1 (by omega))
        have c2 := (hkp _).trans (hc 2 (by omega))
        have c3 := (hkp _).trans (hc 3 (by omega))
        have c4 := (hkp _).trans (hc 4 (by omega))
        simp only [trVC, Nat.add_zero, List.getElem?_cons_zero, List.getElem?_cons_succ] at c0 c1 c2 c3 c4
        have hT : KT.take (k + 1) = KT.take k ++ [kt] := by rw [List.take_add_one, hkt]; rfl
        have hstep := post_step (KT.take k) kt nodes.length
        rw [← hT] at hstep
        have hszk := sz_take KT (k + 1)
        rw [hT, ETs.sz_app] at hszk
        simp only [ETs.sz] at hszk
        have hlen : (nodes ++ ETs.post (KT.take k) nodes.length).length = nodes.length + ETs.sz (KT.take k) := by rw [List.length_append, ETs.post_len]
        have hI2 := hL.toI HI.out hB (by omega) hsr
        have hCall := fun (u : World) (hu : Below wr.heap.size wr u) => HIH.out kt (by have := HZF.out; omega) E _ u S' v' (nodes ++ ETs.post (KT.take k) nodes.length) (RS.move hts fun g hg => hu.block g (hI2.ext g hg).1) (hI2.below hu hI2.bel.size) (by have := HSZ.out; omega)
        rw [hlen] at hCall
        have HCALL := Lib.hid hCall
        unfold trA at HCALL
        have HSTEP := Lib.hid hstep
        have HL := Lib.hid hL
        have HBR := Lib.hid (Nat.le_trans HI.out.bel.size (Nat.le_trans (Nat.le_refl _) (Nat.le_refl _)))
        subst ha
        clear hCall hstep hL hT hszk hlen hcells hc hkp hEb hts hpk hbw hbkk hI2
        go_wp2_with fail
        generalize hWk : wr.alloc _ = wk
        have hbk : Below wr.heap.size wr wk := by rw [← hWk]; exact (Below.refl _ _).alloc (Nat.le_refl _) _
        have HBK := Lib.hid hbk
        clear hWk c0 c1 c2 c3 c4
        with_reducible refine (HCALL.out wk hbk).mono ?_
        rintro e w5 ⟨rfl, hO⟩
        obtain ⟨v5, S5, hL5, hs5⟩ := HL.out.call HI.out hsr (hO.pre (by have := HL.out.kb.bel.size; have := HI.out.ob_lt; omega) hbk)
        have hR : (((nodes ++ ETs.post (KT.take k) nodes.length ++ kt.post (nodes.length + ETs.sz (KT.take k))).length : Int) - 1) = ((nodes.length + ETs.sz (KT.take k) + kt.sz - 1 : Nat) : Int) := by
          have := kt.sz_pos
          rw [List.length_append, List.length_append, ETs.post_len, ET.post_len]; omega
        rw [hR] at hL5
        have hidl : (ETs.idx (KT.take k) nodes.length).length = k := by rw [ETs.idx_len, List.length_take]; have := HKs.out; omega
        obtain ⟨h51, h52, h53⟩ := HSTEP.out
        rw [← h51] at hL5
        generalize (nodes.length + ETs.sz (KT.take k) + kt.sz - 1 : Nat) = R at hL5 h52
        have hrk := hL5.rk
        rw [hidl] at hrk
        obtain ⟨ak2, ck2, rfl, _⟩ := rd_of_row hrk
        have HRK := Lib.hid hrk
        have HL5 := Lib.hid hL5
        have H52 := Lib.hid h52
        have HIDL := Lib.hid hidl
        have hOB5 := cell_of_row _ _ 1 _ _ _ hL5.box
        have HBK5 := Lib.hid hL5.nb
        have hNn : w.heap.size + 1 < w5.heap.size := (Array.getElem?_eq_some_iff.1 hL5.nb).1
        have p4 := cell_of_row _ _ 4 _ _ _ HBK5.out
        have z4 := frozen_row HBK5.out 4
        have p4b : (w5.alloc (Obj.cells #[.int .i64 (R : Int)] 3)).cell? ⟨w.heap.size + 1, 4, none⟩ = some (.slice ak2 k ck2) := cell_of_row _ _ 4 _ _ _ (heap_alloc_at HBK5.out _)
        have KA : Hid (∀ x y : World, x.grownBy y (Value.slice ak2 k ck2).ownBlock → x.heap[w.heap.size + 1]? = w5.heap[w.heap.size + 1]? → w5.heap.size ≤ x.heap.size → y.heap[w.heap.size + 1]? = some (.cells #[.int .i64 1, .int .i64 server, .int .i64 0, .slice none 0 0, .slice ak2 k ck2] 58 (0, 0))) := Lib.hid (fun x y hg hx hsx => by
            rw [hg.block _ (by omega) (fun e => by have := (HRK.out.lt _ e.symm).1; omega), hx]
            exact HBK5.out)
        obtain ⟨ii, hi0, hz0, hz1, hz2⟩ := info_parts Tryd.infoInt
        clear hL5 hR hidl h51 h52 h53 hrk HSTEP HCALL hO HL hbk
        go_wp2_with fail
        go_region_law (first
          | (refine step_append_lies _ (by rfl) _ _ _ (by rfl) (w.heap.size + 2) 3 ii _ 1 8 Tryd.underlying56 hi0 hz0 hz1 hz2 rfl (by omega) (.slice ak2 k ck2) k _ (by rfl) ((HRK.out.alloc _).drew) ⟨w5.heap.size, 0, none⟩ 1 1 [.int .i64 (R : Int)] (by rfl) (by rfl) (World.news_of_block (cs := #[.int .i64 (R : Int)]) (t := 3) (fr := (0, 0)) (heap_alloc_new w5 _)) (by simp [Value.oneCell']) (by omega) (by unfold maxLen; omega) (by omega) (by simp; omega) (w5.heap.size + 1) (by simp) ?_; intro gg cap wA hownA hgrow hat hlt; have hA := KA.out _ _ hgrow (Below.heap_alloc w5 _ _ (by omega)) (by simp); have pA := cell_of_row _ _ 4 _ _ _ hA; have zA := frozen_row hA 4; have HA := Lib.hid hA; have HOA := Lib.hid hownA; have HGA := Lib.hid hgrow; have HAT := Lib.hid hat; clear hA hownA hgrow hat p4 z4 p4b))
        all_goals
          have hK := HL5.out.kid HI.out hOB (by omega) (x := (w5.alloc _).drew) (below_drew ((Below.refl _ _).alloc (Nat.le_refl _) _)) HGA.out (by rw [HIDL.out]; exact HOA.out) (fun g hg => by
            have e2 : gg = g := by simpa [Value.ownBlock] using hg
            rcases HAT.out with h1 | h1
            · exact .inl (e2 ▸ h1)
            · exact .inr (by omega)) HGA.out.size
          have hsA : w.heap.size + 2 ≤ wA.heap.size := by
            have := HGA.out.size
            simp at this; omega
          rw [← H52.out] at hK
          have HK := Lib.hid hK
          clear hK HGA HOA HA pA zA HAT
          generalize hw6 : wA.setCell _ _ = w6 at HK ⊢
          have hs6 : w.heap.size + 2 ≤ w6.heap.size := by rw [← hw6]; simpa using hsA
          clear hw6
          go_wp2_with fail
          go_roundw
          case rel => exact ⟨k + 1, v5, .int .i64 (R : Int), .slice (some ⟨gg, 0, none⟩) (k + 1) cap, S5, by omega, by go_num, HK.out, hs6⟩
          case measure => simp [intOf] <;> omega
      · have hkn : k = nk := by omega
        subst hkn
        rw [List.take_of_length_le (by have := HKs.out; omega)] at hL
        have hidl : (ETs.idx KT nodes.length).length = k := by rw [ETs.idx_len, HKs.out]
        have hrk := hL.rk
        rw [hidl] at hrk
        obtain ⟨ak2, ck2, rfl, _⟩ := rd_of_row hrk
        obtain ⟨V, hV1, hV2, hV3⟩ := hL.xb.row
        have hlen : (nodes ++ ETs.post KT nodes.length).length = nodes.length + ETs.sz KT := by rw [List.length_append, ETs.post_len]
        have hn1 : (nodes ++ ETs.post KT nodes.length).length ≤ 1000 := by have := HSZ.out; omega
        obtain ⟨NN, hNN⟩ : ∃ NN, NN = (nodes ++ ETs.post KT nodes.length).length := ⟨_, rfl⟩
        rw [← hNN] at hV2 hn1
        obtain ⟨av, cv, rfl, _⟩ := rdK_of_row hV2
        have HN := Lib.hid hNN
        have HL := Lib.hid hL
        have HV1 := Lib.hid hV1
        have HV3 := Lib.hid hV3
        have HRV := Lib.hid hV2
        have hob := HI.out.ob_lt
        have hbb := hL.box
        have hOBw : OB < wr.heap.size := (Array.getElem?_eq_some_iff.1 hbb).1
        have q0 := cell_of_row _ _ 0 _ _ _ hbb
        have f0 := frozen_row hbb 0
        have f1 := frozen_row hbb 1
        have n0 := cell_of_row _ _ 0 _ _ _ hL.nb
        have n1 := cell_of_row _ _ 1 _ _ _ hL.nb
        have n2 := cell_of_row _ _ 2 _ _ _ hL.nb
        have n3 := cell_of_row _ _ 3 _ _ _ hL.nb
        have n4 := cell_of_row _ _ 4 _ _ _ hL.nb
        have q0b : (wr.alloc (Obj.cells #[.int .i64 1, .int .i64 server, .int .i64 0, .slice none 0 0, .slice ak2 k ck2] 58)).cell? ⟨OB, 0, none⟩ = some (.slice av NN cv) := cell_of_row _ _ 0 _ _ _ (heap_alloc_at hbb _)
        have HBB := Lib.hid hbb
        have hown : ∀ g, (Value.slice av NN cv).ownBlock = some g → B ≤ g ∧ g ≠ OB := fun g hg => ⟨(HRV.out.lt g hg).1, fun e => by
          subst e
          rcases HL.out.own _ hg with h6 | h6
          · exact HI.out.own h6
          · omega⟩
        have KA : Hid (∀ x y : World, x.grownBy y (Value.slice av NN cv).ownBlock → x.heap[OB]? = wr.heap[OB]? → wr.heap.size ≤ x.heap.size → y.heap[OB]? = some (.cells #[.slice av NN cv, r] 28 (0, 0))) := Lib.hid (fun x y hg hx hsx => by
          rw [hg.block _ (by omega) (fun e => (hown _ e.symm).2 rfl), hx]
          exact HBB.out)
        obtain ⟨i0, hi0, hz0, hz1, hz2⟩ := info_parts Tryd.infoNod
        have hNs : B ≤ wr.heap.size := by omega
        clear hL hidl hV1 hV2 hV3 hbb hlen hrk hown hNN
        go_wp2_with fail
        go_region_law (first
          | (refine step_append_lies _ (by rfl) _ _ _ (by rfl) B 58 i0 _ 5 72 Tryd.underlying26 hi0 hz0 hz1 hz2 rfl (by omega) (.slice av NN cv) NN _ (by rfl) ((HRV.out.alloc _).drew) ⟨wr.heap.size, 0, none⟩ 1 1 [.int .i64 1, .int .i64 server, .int .i64 0, .slice none 0 0, .slice ak2 k ck2] (by rfl) (by rfl) (World.news_of_block (cs := #[.int .i64 1, .int .i64 server, .int .i64 0, .slice none 0 0, .slice ak2 k ck2]) (t := 58) (fr := (0, 0)) (heap_alloc_new wr _)) (by simp [Value.oneCell']) (by omega) (by unfold maxLen; omega) (by omega) (by simp; omega) (wr.heap.size + 1) (by simp) ?_; intro gg cap wA hownA hgrow hat hlt; have hA := KA.out _ _ hgrow (Below.heap_alloc wr _ _ (by omega)) (by simp); have pA := cell_of_row _ _ 0 _ _ _ hA; have zA := frozen_row hA 0; have zA1 := frozen_row hA 1; have pA1 := cell_of_row _ _ 1 _ _ _ hA; have HA := Lib.hid hA; have HOA := Lib.hid hownA; have HGA := Lib.hid hgrow; have HAT := Lib.hid hat; clear hA hownA hgrow hat q0 q0b f0 f1))
        all_goals
          obtain ⟨a5, c5, hv5, _⟩ := rdK_of_row HOA.out
          cases hv5
          have hFin := fun q hq => WrL.fin HL.out HI.out hOB (by omega) HV1.out HV3.out (x := (wr.alloc _).drew) (u := .slice (some ⟨gg, 0, none⟩) (NN + 1) cap) (y := wA) (below_drew ((Below.refl _ _).alloc (Nat.le_refl _) _)) HGA.out (by rw [← HN.out]; exact HOA.out) (fun g hg => by
            have e2 : gg = g := by simpa [Value.ownBlock] using hg
            rcases HAT.out with h1 | h1
            · exact .inl (e2 ▸ h1)
            · exact .inr (by omega)) HGA.out.size (q := q) hq
          have HFIN := Lib.hid hFin
          clear hFin HOA HGA HAT HL HV1 HV3 HRV KA HBB
          go_wp2_with fail
          go_end0
          refine ⟨rfl, ?_⟩
          rw [HPL.out.post]
          exact HFIN.out _ (by congr 1; rw [← List.append_assoc, List.length_append, ← HN.out, List.length_singleton]; omega)
  · subst e1
    have hsv2 := hsv rfl
    subst hsv2
    clear hlf hsv
    go_enter Tryd.func17, Tryd.ntmps17
    go_wp2_with fail
    generalize hW2 : (w.alloc _).alloc _ = W2
    obtain ⟨gX, gN, hb2, hs2⟩ := box2' hW2
    obtain ⟨r0, hL0⟩ := WrL.start (W2 := W2) (N := w.heap.size + 1) (s := w.heap.size + 2) (SW := E) HI.out hOB hb2 gN (fun _ _ _ _ => rfl) ⟨by omega, by omega⟩ (HSLW.out.move fun g hg => hb2.block g (HEL.out g hg)) (fun g hg => .inl hg) (fun g hg => by have := HEL.out g hg; have := hb2.size; omega)
    have HL0 := Lib.hid hL0
    have hs4 : w.heap.size + 2 ≤ W2.heap.size := by omega
    have HB2 := Lib.hid hb2
    clear hW2 gX gN hb2 hL0 hs2
    go_loopw [20] (fun q wr => ∃ k v' r kv S', k ≤ nk ∧ q = .int .i64 ((k : Nat) : Int) ∧ WrL w0 w W2 OB B (w.heap.size + 1) (w.heap.size + 2) E S E v nodes (.int .i64 2) (.int .i64 0) (.int .i64 need) (.slice aw nw cw) ws v' r kv S' (ETs.post (KT.take k) nodes.length) (ETs.idx (KT.take k) nodes.length) wr ∧ w.heap.size + 2 ≤ wr.heap.size) (fun q _ => nk - (intOf q).toNat)
    case atStart => exact ⟨0, v, r0, _, S, Nat.zero_le _, rfl, HL0.out, hs4⟩
    case round =>
      obtain ⟨k, v', r, kv, S', hk, rfl, hL, hsr⟩ := hrel
      by_cases hlt : k < nk
      · obtain ⟨kt, hkt⟩ : ∃ kt, KT[k]? = some kt := ⟨_, List.getElem?_eq_getElem (by have := HKs.out; omega)⟩
        obtain ⟨pk, hpk⟩ : ∃ pk, U[k]? = some pk := ⟨_, List.getElem?_eq_getElem (by have := HU1.out; omega)⟩
        have hob := HI.out.ob_lt
        have hbkk := hL.kb.blk
        have hbw : Ag E w wr := fun g hg => hbkk g (HEL.out g hg) (HI.out.ext g hg).2.1 (HI.out.ext g hg).2.2
        have hts : TrS E wr pk kt := RS.move (HU3.out k pk kt hpk hkt) hbw
        obtain ⟨nw5, aw5, cw5, ak5, ck5, hpk5⟩ := TrS.shape hts
        obtain ⟨lf5, sv5, nd5, wv5, kv5⟩ := pk
        simp only [TrV.mk.injEq, true_and] at hpk5
        obtain ⟨rfl, rfl⟩ := hpk5
        obtain ⟨b, o, ha, hcells⟩ := RdK.cells HU2.out trVC_len (by omega)
        have hEb : E b := HUB.out b o ha (by omega)
        have hkp : ∀ i, wr.cell? ⟨b, i, none⟩ = w.cell? ⟨b, i, none⟩ := fun i => World.cell?_of_block (a := ⟨b, i, none⟩) (hbw b hEb)
        have hc := hcells k _ hpk
        have c0 := (hkp _).trans (hc 0 (by omega))
        have c1 := (hkp _).trans (hc 1 (by omega))
        have c2 := (hkp _).trans (hc 2 (by omega))
        have c3 := (hkp _).trans (hc 3 (by omega))
        have c4 := (hkp _).trans (hc 4 (by omega))
        simp only [trVC, Nat.add_zero, List.getElem?_cons_zero, List.getElem?_cons_succ] at c0 c1 c2 c3 c4
        have hT : KT.take (k + 1) = KT.take k ++ [kt] := by rw [List.take_add_one, hkt]; rfl
        have hstep := post_step (KT.take k) kt nodes.length
        rw [← hT] at hstep
        have hszk := sz_take KT (k + 1)
        rw [hT, ETs.sz_app] at hszk
        simp only [ETs.sz] at hszk
        have hlen : (nodes ++ ETs.post (KT.take k) nodes.length).length = nodes.length + ETs.sz (KT.take k) := by rw [List.length_append, ETs.post_len]
        have hI2 := hL.toI HI.out hB (by omega) hsr
        have hCall := fun (u : World) (hu : Below wr.heap.size wr u) => HIH.out kt (by have := HZF.out; omega) E _ u S' v' (nodes ++ ETs.post (KT.take k) nodes.length) (RS.move hts fun g hg => hu.block g (hI2.ext g hg).1) (hI2.below hu hI2.bel.size) (by have := HSZ.out; omega)
        rw [hlen] at hCall
        have HCALL := Lib.hid hCall
        unfold trA at HCALL
        have HSTEP := Lib.hid hstep
        have HL := Lib.hid hL
        have HBR := Lib.hid (Nat.le_trans HI.out.bel.size (Nat.le_trans (Nat.le_refl _) (Nat.le_refl _)))
        subst ha
        clear hCall hstep hL hT hszk hlen hcells hc hkp hEb hts hpk hbw hbkk hI2
        go_wp2_with fail
        generalize hWk : wr.alloc _ = wk
        have hbk : Below wr.heap.size wr wk := by rw [← hWk]; exact (Below.refl _ _).alloc (Nat.le_refl _) _
        have HBK := Lib.hid hbk
        clear hWk c0 c1 c2 c3 c4
        with_reducible refine (HCALL.out wk hbk).mono ?_
        rintro e w5 ⟨rfl, hO⟩
        obtain ⟨v5, S5, hL5, hs5⟩ := HL.out.call HI.out hsr (hO.pre (by have := HL.out.kb.bel.size; have := HI.out.ob_lt; omega) hbk)
        have hR : (((nodes ++ ETs.post (KT.take k) nodes.length ++ kt.post (nodes.length + ETs.sz (KT.take k))).length : Int) - 1) = ((nodes.length + ETs.sz (KT.take k) + kt.sz - 1 : Nat) : Int) := by
          have := kt.sz_pos
          rw [List.length_append, List.length_append, ETs.post_len, ET.post_len]; omega
        rw [hR] at hL5
        have hidl : (ETs.idx (KT.take k) nodes.length).length = k := by rw [ETs.idx_len, List.length_take]; have := HKs.out; omega
        obtain ⟨h51, h52, h53⟩ := HSTEP.out
        rw [← h51] at hL5
        generalize (nodes.length + ETs.sz (KT.take k) + kt.sz - 1 : Nat) = R at hL5 h52
        have hrk := hL5.rk
        rw [hidl] at hrk
        obtain ⟨ak2, ck2, rfl, _⟩ := rd_of_row hrk
        have HRK := Lib.hid hrk
        have HL5 := Lib.hid hL5
        have H52 := Lib.hid h52
        have HIDL := Lib.hid hidl
        have hOB5 := cell_of_row _ _ 1 _ _ _ hL5.box
        have HBK5 := Lib.hid hL5.nb
        have hNn : w.heap.size + 1 < w5.heap.size := (Array.getElem?_eq_some_iff.1 hL5.nb).1
        have p4 := cell_of_row _ _ 4 _ _ _ HBK5.out
        have z4 := frozen_row HBK5.out 4
        have p4b : (w5.alloc (Obj.cells #[.int .i64 (R : Int)] 3)).cell? ⟨w.heap.size + 1, 4, none⟩ = some (.slice ak2 k ck2) := cell_of_row _ _ 4 _ _ _ (heap_alloc_at HBK5.out _)
        have KA : Hid (∀ x y : World, x.grownBy y (Value.slice ak2 k ck2).ownBlock → x.heap[w.heap.size + 1]? = w5.heap[w.heap.size + 1]? → w5.heap.size ≤ x.heap.size → y.heap[w.heap.size + 1]? = some (.cells #[.int .i64 2, .int .i64 0, .int .i64 need, .slice aw nw cw, .slice ak2 k ck2] 58 (0, 0))) := Lib.hid (fun x y hg hx hsx => by
            rw [hg.block _ (by omega) (fun e => by have := (HRK.out.lt _ e.symm).1; omega), hx]
            exact HBK5.out)
        obtain ⟨ii, hi0, hz0, hz1, hz2⟩ := info_parts Tryd.infoInt
        clear hL5 hR hidl h51 h52 h53 hrk HSTEP HCALL hO HL hbk
        go_wp2_with fail
        go_region_law (first
          | (refine step_append_lies _ (by rfl) _ _ _ (by rfl) (w.heap.size + 2) 3 ii _ 1 8 Tryd.underlying56 hi0 hz0 hz1 hz2 rfl (by omega) (.slice ak2 k ck2) k _ (by rfl) ((HRK.out.alloc _).drew) ⟨w5.heap.size, 0, none⟩ 1 1 [.int .i64 (R : Int)] (by rfl) (by rfl) (World.news_of_block (cs := #[.int .i64 (R : Int)]) (t := 3) (fr := (0, 0)) (heap_alloc_new w5 _)) (by simp [Value.oneCell']) (by omega) (by unfold maxLen; omega) (by omega) (by simp; omega) (w5.heap.size + 1) (by simp) ?_; intro gg cap wA hownA hgrow hat hlt; have hA := KA.out _ _ hgrow (Below.heap_alloc w5 _ _ (by omega)) (by simp); have pA := cell_of_row _ _ 4 _ _ _ hA; have zA := frozen_row hA 4; have HA := Lib.hid hA; have HOA := Lib.hid hownA; have HGA := Lib.hid hgrow; have HAT := Lib.hid hat; clear hA hownA hgrow hat p4 z4 p4b))
        all_goals
          have hK := HL5.out.kid HI.out hOB (by omega) (x := (w5.alloc _).drew) (below_drew ((Below.refl _ _).alloc (Nat.le_refl _) _)) HGA.out (by rw [HIDL.out]; exact HOA.out) (fun g hg => by
            have e2 : gg = g := by simpa [Value.ownBlock] using hg
            rcases HAT.out with h1 | h1
            · exact .inl (e2 ▸ h1)
            · exact .inr (by omega)) HGA.out.size
          have hsA : w.heap.size + 2 ≤ wA.heap.size := by
            have := HGA.out.size
            simp at this; omega
          rw [← H52.out] at hK
          have HK := Lib.hid hK
          clear hK HGA HOA HA pA zA HAT
          generalize hw6 : wA.setCell _ _ = w6 at HK ⊢
          have hs6 : w.heap.size + 2 ≤ w6.heap.size := by rw [← hw6]; simpa using hsA
          clear hw6
          go_wp2_with fail
          go_roundw
          case rel => exact ⟨k + 1, v5, .int .i64 (R : Int), .slice (some ⟨gg, 0, none⟩) (k + 1) cap, S5, by omega, by go_num, HK.out, hs6⟩
          case measure => simp [intOf] <;> omega
      · have hkn : k = nk := by omega
        subst hkn
        rw [List.take_of_length_le (by have := HKs.out; omega)] at hL
        have hidl : (ETs.idx KT nodes.length).length = k := by rw [ETs.idx_len, HKs.out]
        have hrk := hL.rk
        rw [hidl] at hrk
        obtain ⟨ak2, ck2, rfl, _⟩ := rd_of_row hrk
        obtain ⟨V, hV1, hV2, hV3⟩ := hL.xb.row
        have hlen : (nodes ++ ETs.post KT nodes.length).length = nodes.length + ETs.sz KT := by rw [List.length_append, ETs.post_len]
        have hn1 : (nodes ++ ETs.post KT nodes.length).length ≤ 1000 := by have := HSZ.out; omega
        obtain ⟨NN, hNN⟩ : ∃ NN, NN = (nodes ++ ETs.post KT nodes.length).length := ⟨_, rfl⟩
        rw [← hNN] at hV2 hn1
        obtain ⟨av, cv, rfl, _⟩ := rdK_of_row hV2
        have HN := Lib.hid hNN
        have HL := Lib.hid hL
        have HV1 := Lib.hid hV1
        have HV3 := Lib.hid hV3
        have HRV := Lib.hid hV2
        have hob := HI.out.ob_lt
        have hbb := hL.box
        have hOBw : OB < wr.heap.size := (Array.getElem?_eq_some_iff.1 hbb).1
        have q0 := cell_of_row _ _ 0 _ _ _ hbb
        have f0 := frozen_row hbb 0
        have f1 := frozen_row hbb 1
        have n0 := cell_of_row _ _ 0 _ _ _ hL.nb
        have n1 := cell_of_row _ _ 1 _ _ _ hL.nb
        have n2 := cell_of_row _ _ 2 _ _ _ hL.nb
        have n3 := cell_of_row _ _ 3 _ _ _ hL.nb
        have n4 := cell_of_row _ _ 4 _ _ _ hL.nb
        have q0b : (wr.alloc (Obj.cells #[.int .i64 2, .int .i64 0, .int .i64 need, .slice aw nw cw, .slice ak2 k ck2] 58)).cell? ⟨OB, 0, none⟩ = some (.slice av NN cv) := cell_of_row _ _ 0 _ _ _ (heap_alloc_at hbb _)
        have HBB := Lib.hid hbb
        have hown : ∀ g, (Value.slice av NN cv).ownBlock = some g → B ≤ g ∧ g ≠ OB := fun g hg => ⟨(HRV.out.lt g hg).1, fun e => by
          subst e
          rcases HL.out.own _ hg with h6 | h6
          · exact HI.out.own h6
          · omega⟩
        have KA : Hid (∀ x y : World, x.grownBy y (Value.slice av NN cv).ownBlock → x.heap[OB]? = wr.heap[OB]? → wr.heap.size ≤ x.heap.size → y.heap[OB]? = some (.cells #[.slice av NN cv, r] 28 (0, 0))) := Lib.hid (fun x y hg hx hsx => by
          rw [hg.block _ (by omega) (fun e => (hown _ e.symm).2 rfl), hx]
          exact HBB.out)
        obtain ⟨i0, hi0, hz0, hz1, hz2⟩ := info_parts Tryd.infoNod
        have hNs : B ≤ wr.heap.size := by omega
        clear hL hidl hV1 hV2 hV3 hbb hlen hrk hown hNN
        go_wp2_with fail
        go_region_law (first
          | (refine step_append_lies _ (by rfl) _ _ _ (by rfl) B 58 i0 _ 5 72 Tryd.underlying26 hi0 hz0 hz1 hz2 rfl (by omega) (.slice av NN cv) NN _ (by rfl) ((HRV.out.alloc _).drew) ⟨wr.heap.size, 0, none⟩ 1 1 [.int .i64 2, .int .i64 0, .int .i64 need, .slice aw nw cw, .slice ak2 k ck2] (by rfl) (by rfl) (World.news_of_block (cs := #[.int .i64 2, .int .i64 0, .int .i64 need, .slice aw nw cw, .slice ak2 k ck2]) (t := 58) (fr := (0, 0)) (heap_alloc_new wr _)) (by simp [Value.oneCell']) (by omega) (by unfold maxLen; omega) (by omega) (by simp; omega) (wr.heap.size + 1) (by simp) ?_; intro gg cap wA hownA hgrow hat hlt; have hA := KA.out _ _ hgrow (Below.heap_alloc wr _ _ (by omega)) (by simp); have pA := cell_of_row _ _ 0 _ _ _ hA; have zA := frozen_row hA 0; have zA1 := frozen_row hA 1; have pA1 := cell_of_row _ _ 1 _ _ _ hA; have HA := Lib.hid hA; have HOA := Lib.hid hownA; have HGA := Lib.hid hgrow; have HAT := Lib.hid hat; clear hA hownA hgrow hat q0 q0b f0 f1))
        all_goals
          obtain ⟨a5, c5, hv5, _⟩ := rdK_of_row HOA.out
          cases hv5
          have hFin := fun q hq => WrL.fin HL.out HI.out hOB (by omega) HV1.out HV3.out (x := (wr.alloc _).drew) (u := .slice (some ⟨gg, 0, none⟩) (NN + 1) cap) (y := wA) (below_drew ((Below.refl _ _).alloc (Nat.le_refl _) _)) HGA.out (by rw [← HN.out]; exact HOA.out) (fun g hg => by
            have e2 : gg = g := by simpa [Value.ownBlock] using hg
            rcases HAT.out with h1 | h1
            · exact .inl (e2 ▸ h1)
            · exact .inr (by omega)) HGA.out.size (q := q) hq
          have HFIN := Lib.hid hFin
          clear hFin HOA HGA HAT HL HV1 HV3 HRV KA HBB
          go_wp2_with fail
          go_end0
          refine ⟨rfl, ?_⟩
          rw [HPL.out.post]
          exact HFIN.out _ (by congr 1; rw [← List.append_assoc, List.length_append, ← HN.out, List.length_singleton]; omega)
theorem fell_c (w0 : World) (OB B : Nat) (hB : w0.heap.size ≤ B) (hOB : B ≤ OB) : ∀ f, FeC w0 OB B f
  | 0 => fun t ht => by have := t.sz_pos; omega
  | f + 1 => fell_step w0 OB B hB hOB f (fell_c w0 OB B hB hOB f)
end Go.Proofs.YtmjgdnpfgkpaoaaDoor
