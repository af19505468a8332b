/- Texts laid together. ref10.simple: the simplified tree. The reference's Substitute, Tidy. ref10.Simplify. The sets of a family that is found are in order; what the same sets satisfy has the same family. Plain Lean, no program. A region that draws its order, inside a fence (in a round of a loop over a function, too): quiet operations in any order, and behind them, in one forced order, a tail. Over any program. expr.Equivalent. Rows of expressions under way; the law of Substitute, its sets. Plain lemmas, no program. Layer 10: the law Simplify, walked. -/
import Derived.Test.YtcojmmhclklpoaaGreatDoorGC1
import Derived.Test.YtcojmmhclklpoaaGreatDoorGC2
import Derived.Test.YtcojmmhclklpoaaGreatDoorGC4
import Derived.Test.YtcojmmhclklpoaaGreatDoorGC6
import Derived.Test.YtcojmmhclklpoaaGreatDoorGC7
import Derived.Test.YtcojmmhclklpoaaGreatDoorGC8
import Derived.Test.YtcojmmhclklpoaaGreatDoorGC10
import Derived.Test.YtcojmmhclklpoaaGreatDoorGExprSimplify1
import Derived.StillTail
import Derived.Sort.QuietThIn
import Derived.OwnWalkIn
import Derived.Sort.QuietTacIn
import Derived.Sort.CutIn
namespace Go.Proofs.YtcojmmhclklpoaaGreatDoor
open Go.RowKit Go.Shelf

def SrC (f : Nat) : Prop := ∀ (t : ET), t.sz ≤ f → t.ok → t.sz ≤ 1000 → ∀ (S : Nat → Prop) (p : RtV) (w : World), RtS S w p t → (∀ g, S g → g < w.heap.size) →
  Calls Tryz.prog 77 #[rtA p] w fun e w' => RetR S t.simp w e w'
theorem isB_any : isB false = ET.anyB := by funext t; rfl
theorem isB_all : isB true = ET.allB := by funext t; rfl
/-- the least of the first ones -/
theorem least_go {l : List Int} {i : Nat} {z : Int} (h : l[i]? = some z) : leastL (l.take (max (i + 1) 1)) = min (leastL (l.take (max i 1))) z := by
  by_cases h0 : i = 0
  · subst h0
    match l, h with
    | a :: l, h => simp at h; subst h; simp [leastL]
  · rw [Nat.max_eq_left (by omega), Nat.max_eq_left (by omega)]; exact least_step h (by omega)
theorem great_go {l : List Int} {i : Nat} {z : Int} (h : l[i]? = some z) : greatL (l.take (max (i + 1) 1)) = max (greatL (l.take (max i 1))) z := by
  by_cases h0 : i = 0
  · subst h0
    match l, h with
    | a :: l, h => simp at h; subst h; simp [greatL]
  · rw [Nat.max_eq_left (by omega), Nat.max_eq_left (by omega)]; exact great_step h (by omega)

set_option maxRecDepth 100000 in
set_option maxHeartbeats 32000000 in
theorem rsimp_step (f : Nat) (ih : SrC f) : SrC (f + 1) := by
  intro t htf hok hz S p w h hS
  cases t with
  | srv s =>
    obtain ⟨kd, sv, nd, wv, nv, kv, pv⟩ := p
    have hh := h.r
    cases hh with
    | srv s aw cw an nn cn hw =>
    unfold rtA
    rw [ET.simp]
    have HH := Lib.hid h
    have HS := Lib.hid hS
    clear h ih hw hS
    go_enter Tryz.func77, Tryz.ntmps77
    go_wp2_with fail
    generalize hW2 : (w.alloc _).alloc _ = w2
    obtain ⟨gX, gR, hb2, hs2⟩ := box2' hW2
    have hT2 : RtS S w2 ⟨1, s, 0, .slice aw 0 cw, .slice an nn cn, .slice none 0 0, .slice none 0 0⟩ (.srv s) := RS.below HH.out hb2 HS.out
    refine bodyPost_ret (v := .agg #[.int .i64 1, .int .i64 s, .int .i64 0, .slice aw 0 cw, .slice an nn cn, .slice none 0 0, .slice none 0 0]) ?_ rfl ⟨1, s, 0, aw, 0, cw, an, nn, cn, none, 0, 0, none, 0, 0, rfl, hT2.mono fun g hg => .inl hg, hb2⟩
    exact results_cell_row rfl _ _ _ _ _ _ _ rfl gR Tryz.underlying112 rfl (by kernel_rfl)
  | thr n ws ks =>
    obtain ⟨aw, nw, cw, an, nn, cn, ak, ck, ap, np, cp, hp⟩ := h.shape
    obtain ⟨kd, sv, nd, wv, nv, kv, pv⟩ := p
    simp only [RtV.mk.injEq, true_and] at hp
    obtain ⟨rfl, rfl, rfl, rfl, rfl⟩ := hp
    obtain ⟨V, hV1, hnk2, hV2, hV3, _, hSP, hkd, hsv, hnd⟩ := h.kids
    subst hkd hsv
    rw [show (ET.thr nd ws ks).kidsOf.length = ks.length from rfl] at hV2 h ⊢
    have hzz : ETs.sz ks ≤ 1000 := by rw [ET.sz] at hz; omega
    have hzf : ETs.sz ks ≤ f := by rw [ET.sz] at htf; omega
    obtain ⟨nk, hnk⟩ : ∃ nk, ks.length = nk := ⟨_, rfl⟩
    rw [hnk] at hV1 hV2 h hSP ⊢
    clear hnk2 hnd
    have hnk1 : nk ≤ 1000 := by have := ETs.sz_ge ks; omega
    have hokk := hok
    rw [ET.ok] at hokk
    have HST := Lib.hid (stT_ok hok hzz)
    have HSI := Lib.hid (stT_all nd ws ks (j := nk) (by omega))
    have HOK := Lib.hid hokk.2.2.2
    have har : ws = [] ∨ ws.length = nk := hokk.2.2.1.imp id (fun e => by omega)
    have HAR := Lib.hid har
    have HWS := Lib.hid hokk.2.1
    have hnd1 : nd ≤ 100000 := hokk.1.2
    obtain ⟨ap9, cp9, hpe, hpr⟩ := hSP w (Ag.refl _ _)
    have hpl : (prtT ws nk).length = nk := by
      unfold prtT; split
      · simp
      · rename_i e; exact har.resolve_left e
    rw [hpl] at hpe hpr
    obtain ⟨e1, e2, e3⟩ : ap = ap9 ∧ nk = np ∧ cp = cp9 := by injection hpe with e1 e2 e3; exact ⟨e1, e2.symm, e3⟩
    subst e1 e2 e3
    clear hpe
    have HPR := Lib.hid hpr
    have HPG := Lib.hid (fun k (hk : k < nk) => prtT_get (k := k) har hk)
    have HV1 := Lib.hid hV1
    have HV2 := Lib.hid hV2
    have HV3 := Lib.hid hV3
    have HNK := Lib.hid hnk
    have HS := Lib.hid hS
    have HZZ := Lib.hid hzz
    have HZF := Lib.hid hzf
    have HIH := Lib.hid ih
    rw [HSI.out]
    unfold rtA
    clear h hV1 hV2 hV3 hSP hS hz hnk hok hokk hzz hzf ih htf har hpr hpl
    go_enter Tryz.func77, Tryz.ntmps77
    go_wp2_with fail
    generalize hW2 : (w.alloc _).alloc _ = w2
    obtain ⟨gX, gR, hb2, hs2⟩ := box2' hW2
    have GX := Lib.hid gX
    have GR := Lib.hid gR
    have HB2 := Lib.hid hb2
    have hs2a : w.heap.size + 2 ≤ w2.heap.size := by omega
    clear hW2 gX gR hb2 hs2
    go_loopw [3, 4, 5, 6, 7] (fun a3 a4 a5 a6 q wr => ∃ j S', j ≤ nk ∧ q = .int .i64 ((j : Nat) : Int) ∧ a3 = .int .i64 (stT nd ws ks j).need ∧ a4 = .int .i64 (stT nd ws ks j).sum ∧ RB S' w2.heap.size wr a5 (stT nd ws ks j).ks ∧ wr.ownsRow w2.heap.size 3 1 a6 (stT nd ws ks j).ws.length ((stT nd ws ks j).ws.map (Value.int .i64)) ∧ (∀ g, S' g → S g ∨ w2.heap.size ≤ g) ∧ (∀ g, a6.ownBlock = some g → ¬ S' g ∧ a5.ownBlock ≠ some g) ∧ Below w2.heap.size w2 wr) (fun _ _ _ _ q _ => nk - (intOf q).toNat)
    case atStart =>
      refine ⟨0, fun _ => False, Nat.zero_le _, rfl, ?_, ?_, ?_, ?_, fun _ h => h.elim, (fun g h => by cases h), Below.refl _ _⟩
      · rw [stT_zero]
      · rw [stT_zero]
      · rw [stT_zero]; exact GB.nil _ _ _ _ (fun _ h => h.elim)
      · rw [stT_zero]; exact World.ownsRow_nil _ _ _ _
    case round =>
      obtain ⟨j, S', hj, rfl, rfl, rfl, hTB, hrw, hS', hdis, hbr⟩ := hrel
      have hst := HST.out j
      obtain ⟨hs1, hs2', hs3, hs4⟩ := st_small hst hnd1 HZZ.out
      have hsz := hbr.size
      by_cases hlt : j < nk
      · obtain ⟨kt, hkt⟩ : ∃ kt, ks[j]? = some kt := ⟨_, List.getElem?_eq_getElem (by have := HNK.out; omega)⟩
        obtain ⟨pk, hpk⟩ : ∃ pk, V[j]? = some pk := ⟨_, List.getElem?_eq_getElem (by have := HV1.out; omega)⟩
        have hbw : Below w.heap.size w wr := HB2.out.trans (hbr.mono (by omega))
        have hts : RtS S wr pk kt := RS.below (HV3.out j pk kt hpk hkt) hbw HS.out
        obtain ⟨b, o, ha, hcells⟩ := RdK.cells (HV2.out.below hbw) rtVC_len (by omega)
        have hc := hcells j pk hpk
        have c0 := hc 0 (by omega)
        have c1 := hc 1 (by omega)
        have c2 := hc 2 (by omega)
        have c3 := hc 3 (by omega)
        have c4 := hc 4 (by omega)
        have c5 := hc 5 (by omega)
        have c6 := hc 6 (by omega)
        obtain ⟨aw5, nw5, cw5, an5, nn5, cn5, ak5, nk5, ck5, ap5, np5, cp5, hpk5, -, -⟩ := hts.r.shape
        obtain ⟨kd5, sv5, nd5, wv5, nv5, kv5, pv5⟩ := pk
        simp only [RtV.mk.injEq, true_and] at hpk5
        obtain ⟨rfl, rfl, rfl, rfl⟩ := hpk5
        simp only [rtVC, Nat.add_zero, List.getElem?_cons_zero, List.getElem?_cons_succ] at c0 c1 c2 c3 c4 c5 c6
        have hktok : kt.ok := (ETs.ok_iff _).1 HOK.out kt (List.mem_of_getElem? hkt)
        have hktz := ETs.sz_mem ks kt (List.mem_of_getElem? hkt)
        have HSS := Lib.hid (stT_succ nd ws hkt)
        have hwg := wgtW_rng HWS.out (k := j) (HAR.out.imp id (fun e => by omega))
        obtain ⟨bp, op, hap, hpc⟩ := HPR.out.at' (by omega)
        have hpc0 := hpc j (.int .i64 (wgtW ws j)) (by rw [List.getElem?_map, HPG.out j hlt]; rfl)
        obtain ⟨st, hst9⟩ : ∃ st, stT nd ws ks j = st := ⟨_, rfl⟩
        rw [hst9] at hTB hrw hs1 hs2' hs3 hs4 HSS hst ⊢
        have HTB := Lib.hid hTB
        have HRW := Lib.hid hrw
        have HS' := Lib.hid hS'
        have HDIS := Lib.hid hdis
        have HBR := Lib.hid hbr
        have HSTO := Lib.hid hst
        have hSr : ∀ g, S g → g < w.heap.size := HS.out
        have hCS := HIH.out kt (by have := HZF.out; omega) hktok (by have := HZZ.out; omega) S _ wr hts (fun g hg => by have := hSr g hg; have := hbw.size; omega)
        unfold rtA at hCS
        obtain ⟨WG, hWG⟩ : ∃ WG, wgtW ws j = WG := ⟨_, rfl⟩
        rw [hWG] at hwg HSS hpc0
        obtain ⟨KS, hKS⟩ : ∃ KS, kt.simp = KS := ⟨_, rfl⟩
        rw [hKS] at hCS HSS
        unfold RetR at hCS
        have HCS := Lib.hid hCS
        have x5 := (open7 (heap_below hbr GX.out)).2.2.2.2.2.1
        have HKP := Lib.hid (fun (u : World) (hu : Below w2.heap.size w2 u) => And.intro (open7 (heap_below hu GX.out)).2.2.2.2.2.2 (cell_keep (HB2.out.trans (hu.mono (by omega))) hpc0))
        have hjn : (j : Int) < (nk : Int) := by omega
        subst ha hap
        clear hTB hrw hS' hdis hbr hbw hts hst hktok hktz hkt hpk hc hcells hWG hKS hst9 hpc hpc0 hCS
        go_wp2_with fail
        clear c0 c1 c2 c3 c4 c5 c6 x5
        with_reducible refine HCS.out.mono ?_
        rintro e w5 ⟨kd, sv, nn9, aw9, nw9, cw9, an9, nn8, cn9, ak9, nk9, ck9, ap9, np9, cp9, rfl, hT5, hb5⟩
        have hs5 := hb5.size
        have hnn : nn9 = KS.needOf := by
          obtain ⟨_, _, _, _, _, _, _, _, _, _, _, _, _, _, e9⟩ := hT5.r.shape
          exact e9
        have HT5 := Lib.hid hT5
        have HB5 := Lib.hid hb5
        have HNN := Lib.hid hnn
        clear hT5 hb5 hnn HCS
        go_wp2_with fail
        obtain ⟨wk, hwk⟩ : ∃ wk, wk = w5.alloc (.cells #[.int .i64 kd, .int .i64 sv, .int .i64 nn9, .slice aw9 nw9 cw9, .slice an9 nn8 cn9, .slice ak9 nk9 ck9, .slice ap9 np9 cp9] 112) := ⟨_, rfl⟩
        rw [← hwk]
        have gk : wk.heap[w5.heap.size]? = some (.cells #[.int .i64 kd, .int .i64 sv, .int .i64 nn9, .slice aw9 nw9 cw9, .slice an9 nn8 cn9, .slice ak9 nk9 ck9, .slice ap9 np9 cp9] 112 (0, 0)) := by rw [hwk]; exact heap_alloc_new _ _
        have hbk : Below w5.heap.size w5 wk := by rw [hwk]; exact (Below.refl _ _).alloc (Nat.le_refl _) _
        have hSSl : ∀ g, (S g ∨ (wr.heap.size ≤ g ∧ g < w5.heap.size)) → g < w5.heap.size := fun g hg => by
          rcases hg with hg | hg
          · have := hSr g hg; omega
          · exact hg.2
        have HTk : Hid (RtS (fun g => S g ∨ (wr.heap.size ≤ g ∧ g < w5.heap.size)) wk ⟨kd, sv, nn9, .slice aw9 nw9 cw9, .slice an9 nn8 cn9, .slice ak9 nk9 ck9, .slice ap9 np9 cp9⟩ KS) := Lib.hid (RS.below HT5.out hbk hSSl)
        have HCC := Lib.hid (rconst_c _ KS wk HTk.out.r)
        unfold rtA at HCC
        have HSL := Lib.hid hSSl
        have GK := Lib.hid gk
        have HBK := Lib.hid (Below.next HB5.out hbk)
        have hsk := hbk.size
        clear gk hbk hSSl HT5 HB5 hwk
        with_reducible refine HCC.out.mono ?_
        rintro e w6 ⟨rfl, hb6⟩
        have HB6 := Lib.hid (Below.next HBK.out hb6)
        have G6 := Lib.hid (heap_below hb6 GK.out)
        have hs6 := hb6.size
        have HT6 : Hid (RtS (fun g => S g ∨ (wr.heap.size ≤ g ∧ g < w5.heap.size)) w6 ⟨kd, sv, nn9, .slice aw9 nw9 cw9, .slice an9 nn8 cn9, .slice ak9 nk9 ck9, .slice ap9 np9 cp9⟩ KS) := Lib.hid (RS.below HTk.out hb6 (fun g hg => by have := HSL.out g hg; omega))
        have HRW6 := Lib.hid (rowK_below HRW.out HB6.out)
        have HTB6 := Lib.hid (HTB.out.below HB6.out)
        have HBW6 := Lib.hid (HBR.out.trans (HB6.out.mono hsz))
        obtain ⟨d0, d1, d2, d3, d4, d5, d6⟩ := open7 G6.out
        clear hb6 HCC HTk GK HBK
        by_cases hcon : KS.constB = true
        · rw [hcon]
          have HCON := Lib.hid hcon
          by_cases hn0 : KS.needOf = 0
          · have HSTE : Hid (stT nd ws ks (j + 1) = ⟨max 0 (st.need - WG), st.ks, st.ws, st.sum⟩) := Lib.hid (by rw [HSS.out]; unfold stepS; rw [if_neg (by rw [HCON.out]; simp), if_pos hn0])
            have hnn := HNN.out
            rw [hn0] at hnn
            subst hnn
            have hw1 : wrap64 (st.need - WG) = st.need - WG := by unfold wrap64; omega
            obtain ⟨x6, y6⟩ := HKP.out w6 HBW6.out
            clear hcon hn0
            go_wp2_with fail
            go_roundw
            case rel =>
              refine ⟨j + 1, S', by omega, by go_num, by rw [HSTE.out], by rw [HSTE.out], by rw [HSTE.out]; exact HTB6.out, by rw [HSTE.out]; exact HRW6.out, HS'.out, HDIS.out, HBW6.out⟩
            case measure => simp [intOf] <;> omega
          · have HSTE : Hid (stT nd ws ks (j + 1) = st) := Lib.hid (by rw [HSS.out]; unfold stepS; rw [if_neg (by rw [HCON.out]; simp), if_neg hn0])
            have hnn0 : (nn9 == 0) = false := by rw [HNN.out]; simpa using hn0
            clear hcon hn0
            go_wp2_with fail
            go_roundw
            case rel =>
              refine ⟨j + 1, S', by omega, by go_num, by rw [HSTE.out], by rw [HSTE.out], by rw [HSTE.out]; exact HTB6.out, by rw [HSTE.out]; exact HRW6.out, HS'.out, HDIS.out, HBW6.out⟩
            case measure => simp [intOf] <;> omega
        · have hcon2 : KS.constB = false := by simpa using hcon
          rw [hcon2]
          have HSTE : Hid (stT nd ws ks (j + 1) = ⟨st.need, st.ks ++ [KS], st.ws ++ [WG], st.sum + WG⟩) := Lib.hid (by rw [HSS.out]; unfold stepS; rw [if_pos hcon2])
          obtain ⟨V0, hW1, hW2, hW3⟩ := HTB6.out.row
          obtain ⟨L, hL⟩ : ∃ L, st.ks.length = L := ⟨_, rfl⟩
          rw [hL] at hW1 hW2 hs3 hs4
          rw [hs4] at HRW6
          obtain ⟨a0, c0', rfl, _⟩ := rdK_of_row hW2
          have HRR := Lib.hid HRW6.out
          obtain ⟨b0, d0', rfl, _⟩ := rd_of_row HRR.out
          have HL := Lib.hid hL
          have HW1 := Lib.hid hW1
          have HW2 := Lib.hid hW2
          have HW3 := Lib.hid hW3
          have hw1 : wrap64 (st.sum + WG) = st.sum + WG := by unfold wrap64; omega
          clear hcon hcon2 hW1 hW2 hW3 hL
          go_wp2_with (at_builtin; go_must (refine wpList_appK2 7 _ _ 110 120 (.agg #[.int .i64 0, .int .i64 0, .int .i64 0, .slice none 0 0, .slice none 0 0, .slice none 0 0, .slice none 0 0]) (rtVC ⟨kd, sv, nn9, .slice aw9 nw9 cw9, .slice an9 nn8 cn9, .slice ak9 nk9 ck9, .slice ap9 np9 cp9⟩) _ Tryz.underlying110 Tryz.infoRt rfl (by decide) HW2.out (Below.refl w2.heap.size w6) (by omega) rfl rfl rfl rfl rfl HT6.out.one (by unfold maxLen; omega) (by omega) ?_))
          intro v7 w7 hown hb7 hg7 hs7' hv7
          have hTB7 := GB.pushes (M := [KS]) (U := [⟨kd, sv, nn9, .slice aw9 nw9 cw9, .slice an9 nn8 cn9, .slice ak9 nk9 ck9, .slice ap9 np9 cp9⟩]) (SW := fun g => S g ∨ (wr.heap.size ≤ g ∧ g < w5.heap.size)) HTB6.out (by rw [HW1.out, HL.out]) HW3.out (Below.refl _ _) hg7 rfl (by rw [HL.out]; exact hown) hv7 (fun i p s hp hs => by
            cases i with
            | zero => simp at hp hs; subst hp hs; exact HT6.out
            | succ i => simp at hp) (fun g hg => ⟨by have := HSL.out g hg; omega, fun e => by
              have h3 := HTB.out.lt_own g e
              rcases hg with h1 | h1
              · have := HS.out g h1; omega
              · omega⟩)
          have hrr := HRR.out.lt
          have hr7 : w7.ownsRow w2.heap.size 3 1 (.slice b0 L d0') L (st.ws.map (Value.int .i64)) := rowK_at HRR.out fun g hg => hg7.block g (hrr g hg).2 (fun e => (HDIS.out g hg).2 e.symm)
          have HTB7 := Lib.hid hTB7
          have HR7 := Lib.hid hr7
          have HV7 := Lib.hid hv7
          have HBW7 := Lib.hid (HBW6.out.trans hb7)
          obtain ⟨a7, c7, rfl, _⟩ := rdK_of_row hown
          have hs7 := hg7.size
          have HOW7 := Lib.hid hown.lt
          obtain ⟨x6, y6⟩ := HKP.out w7 HBW7.out
          clear hTB7 hr7 hg7 hv7 hb7 hown HW2 HW3 HW1 hs7' d0 d1 d2 d3 d4 d5 d6
          go_wp2_with (at_builtin; go_must (refine wpList_appK2 1 _ _ 69 8 (.int .i64 0) [.int .i64 WG] _ Tryz.underlying69 Tryz.infoInt rfl (by decide) HR7.out (Below.refl w2.heap.size w7) (by omega) rfl rfl rfl rfl rfl (by intro u hu; simp at hu; subst hu; rfl) (by unfold maxLen; omega) (by omega) ?_))
          intro v8 w8 hown8 hb8 hg8 hs8' hv8
          have hold : ∀ g, (Value.slice b0 L d0').ownBlock = some g → ¬ (S' g ∨ (S g ∨ (wr.heap.size ≤ g ∧ g < w5.heap.size))) ∧ (Value.slice a7 (L + 1) c7).ownBlock ≠ some g := fun g hg => by
            have h3 := hrr g hg
            have h4 := HRW.out.lt g hg
            refine ⟨?_, fun e => ?_⟩
            · rintro (h1 | h1 | h1)
              · exact (HDIS.out g hg).1 h1
              · have := HS.out g h1; omega
              · omega
            · rcases HV7.out g e with h1 | h1
              · exact (HDIS.out g hg).2 h1
              · omega
          have hTB8 := HTB7.out.move (w' := w8) (fun g hg => hg8.block g (HTB7.out.lt g hg) (fun e => (hold g e.symm).1 hg)) (fun g hg => hg8.block g (HTB7.out.lt_own g hg).2 (fun e => (hold g e.symm).2 hg)) hg8.size
          have HTB8 := Lib.hid hTB8
          have HR8 := Lib.hid hown8
          have HBW8 := Lib.hid (HBW7.out.trans hb8)
          have HV8 := Lib.hid hv8
          have HHOLD := Lib.hid hold
          clear x6 y6
          obtain ⟨x6, y6⟩ := HKP.out w8 HBW8.out
          clear hTB8 hown8 hb8 hg8 hs8' hv8 hold
          go_wp2_with fail
          go_roundw
          case rel =>
            refine ⟨j + 1, _, by omega, by go_num, by rw [HSTE.out], by rw [HSTE.out], by rw [HSTE.out]; exact HTB8.out, ?_, fun g hg => ?_, fun g hg => ?_, HBW8.out⟩
            · rw [HSTE.out]
              show w8.ownsRow w2.heap.size 3 1 v8 (st.ws ++ [WG]).length ((st.ws ++ [WG]).map (Value.int .i64))
              rw [List.length_append, hs4, List.map_append]
              exact HR8.out
            · rcases hg with hg | hg | hg
              · exact HS'.out g hg
              · exact .inl hg
              · exact .inr (by omega)
            · rcases HV8.out g hg with h1 | h1
              · exact HHOLD.out g h1
              · refine ⟨?_, fun e => ?_⟩
                · intro h2
                  have := HTB7.out.lt g h2; omega
                · have := (HOW7.out g e).2; omega
          case measure => simp [intOf] <;> omega
      · obtain rfl : j = nk := by omega
        have hbw : Below w.heap.size w wr := HB2.out.trans (hbr.mono (by omega))
        obtain ⟨st, hst9⟩ : ∃ st, stT nd ws ks j = st := ⟨_, rfl⟩
        have HFS : Hid (finS (stT nd ws ks j) = finS st) := Lib.hid (by rw [hst9])
        rw [hst9] at hTB hrw hs1 hs2' hs3 hs4 hst ⊢
        have x5 := (open7 (heap_below hbr GX.out)).2.2.2.2.2.1
        have HGR := Lib.hid (heap_below hbr GR.out)
        have HBW := Lib.hid hbw
        have HTB := Lib.hid hTB
        have HRW := Lib.hid hrw
        have HS' := Lib.hid hS'
        have HDIS := Lib.hid hdis
        have HBR := Lib.hid hbr
        have HSO := Lib.hid hst
        clear hst9 hbw hTB hrw hS' hdis hbr hst HST HSI HV1 HV2 HV3 HIH HPR HPG
        by_cases hn0 : st.need = 0
        · have HF : Hid (finS st = .thr 0 [] []) := Lib.hid (by unfold finS; rw [if_pos hn0])
          have hn1 : (st.need == 0) = true := by simpa using hn0
          have HC := Lib.hid (thr_c 0 [] (fun _ => False) (fun _ => False) 0 (.slice none 0 0) wr (GB.nil _ _ _ _ (fun _ h => h.elim)) (fun _ h => h) (fun _ h => by cases h) (fun _ h => h.elim) (by simp))
          clear hn0
          go_wp2_with fail
          clear x5
          with_reducible refine HC.out.mono ?_
          rintro e w6 ⟨kd6, sv6, nd6, aw6, nw6, cw6, an6, nn6, cn6, ak6, nk6, ck6, ap6, np6, cp6, rfl, hT6, hb6⟩
          have hg6 := heap_below hb6 HGR.out
          have hs6 := hb6.size
          have HB6 := Lib.hid (Below.next HBW.out hb6)
          have HT6 := Lib.hid hT6
          have HG6 := Lib.hid hg6
          clear hb6 hT6 hg6
          obtain ⟨z0, z1, z2, z3, z4, z5, z6⟩ := frz7 HG6.out
          obtain ⟨r0, r1, r2, r3, r4, r5, r6⟩ := open7 HG6.out
          go_wp2_with fail
          clear z0 z1 z2 z3 z4 z5 z6 r0 r1 r2 r3 r4 r5 r6
          generalize hWF : ((((((w6.setCell _ _).setCell _ _).setCell _ _).setCell _ _).setCell _ _).setCell _ _).setCell _ _ = WF
          obtain ⟨q1, q2⟩ := rret_fin (S := S) (w := w) HT6.out (Nat.le_succ _) (fun g hg => by
            rcases hg with hg | hg
            · exact hg.elim
            · exact ⟨.inr ⟨by omega, by omega⟩, by omega⟩) HB6.out HG6.out hWF
          refine bodyPost_ret (v := .agg #[.int .i64 kd6, .int .i64 sv6, .int .i64 nd6, .slice aw6 nw6 cw6, .slice an6 nn6 cn6, .slice ak6 nk6 ck6, .slice ap6 np6 cp6]) ?_ rfl (by rw [HFS.out, HF.out]; exact q2)
          exact results_cell_row rfl _ _ _ _ _ _ _ rfl q1 Tryz.underlying112 rfl (by kernel_rfl)
        · have hn1 : (st.need == 0) = false := by simpa using hn0
          by_cases hn2 : st.sum < st.need
          · have HF : Hid (finS st = .thr 1 [] []) := Lib.hid (by unfold finS; rw [if_neg hn0, if_pos hn2])
            have HC := Lib.hid (thr_c 1 [] (fun _ => False) (fun _ => False) 0 (.slice none 0 0) wr (GB.nil _ _ _ _ (fun _ h => h.elim)) (fun _ h => h) (fun _ h => by cases h) (fun _ h => h.elim) (by simp))
            clear hn0
            go_wp2_with fail
            clear x5
            with_reducible refine HC.out.mono ?_
            rintro e w6 ⟨kd6, sv6, nd6, aw6, nw6, cw6, an6, nn6, cn6, ak6, nk6, ck6, ap6, np6, cp6, rfl, hT6, hb6⟩
            have hg6 := heap_below hb6 HGR.out
            have hs6 := hb6.size
            have HB6 := Lib.hid (Below.next HBW.out hb6)
            have HT6 := Lib.hid hT6
            have HG6 := Lib.hid hg6
            clear hb6 hT6 hg6
            obtain ⟨z0, z1, z2, z3, z4, z5, z6⟩ := frz7 HG6.out
            obtain ⟨r0, r1, r2, r3, r4, r5, r6⟩ := open7 HG6.out
            go_wp2_with fail
            clear z0 z1 z2 z3 z4 z5 z6 r0 r1 r2 r3 r4 r5 r6
            generalize hWF : ((((((w6.setCell _ _).setCell _ _).setCell _ _).setCell _ _).setCell _ _).setCell _ _).setCell _ _ = WF
            obtain ⟨q1, q2⟩ := rret_fin (S := S) (w := w) HT6.out (Nat.le_succ _) (fun g hg => by
              rcases hg with hg | hg
              · exact hg.elim
              · exact ⟨.inr ⟨by omega, by omega⟩, by omega⟩) HB6.out HG6.out hWF
            refine bodyPost_ret (v := .agg #[.int .i64 kd6, .int .i64 sv6, .int .i64 nd6, .slice aw6 nw6 cw6, .slice an6 nn6 cn6, .slice ak6 nk6 ck6, .slice ap6 np6 cp6]) ?_ rfl (by rw [HFS.out, HF.out]; exact q2)
            exact results_cell_row rfl _ _ _ _ _ _ _ rfl q1 Tryz.underlying112 rfl (by kernel_rfl)
          · have hne : st.ws ≠ [] := fun e => by
              have h1 := HSO.out.toSOk.sum
              rw [e] at h1; simp [sumL] at h1; omega
            have hkne : st.ks ≠ [] := fun e => hne (List.eq_nil_of_length_eq_zero (by rw [hs4, e]; rfl))
            have HF : Hid (finS st = oneOf st.ks (mergA (lightT st.need st.sum st.ws st.ks))) := Lib.hid (by unfold finS; rw [if_neg hn0, if_neg hn2])
            obtain ⟨V0, hW1, hW2, hW3⟩ := HTB.out.row
            obtain ⟨L, hL⟩ : ∃ L, st.ks.length = L := ⟨_, rfl⟩
            have hrd := HRW.out
            rw [hs4] at hrd
            rw [hL] at hW1 hW2 hs3 hs4 hrd
            obtain ⟨a0, c0', e5, hRK⟩ := rdK_of_row hW2
            obtain ⟨b0, d0', e6, hRD⟩ := rd_of_row hrd
            subst e5 e6
            have hLp : 0 < L := by rw [← hL]; exact List.length_pos_iff.2 hkne
            obtain ⟨bq, oq, hbq, hcq⟩ := hRD.at' hLp
            obtain ⟨P, hP⟩ : ∃ P, st.ws = P := ⟨_, rfl⟩
            obtain ⟨ND, hND⟩ : ∃ ND, st.need = ND := ⟨_, rfl⟩
            obtain ⟨SM, hSM⟩ : ∃ SM, st.sum = SM := ⟨_, rfl⟩
            obtain ⟨KK, hKK⟩ : ∃ KK, st.ks = KK := ⟨_, rfl⟩
            have HWT := Lib.hid HSO.out.toSOk.wts
            have HKZ := Lib.hid (Nat.le_trans HSO.out.sz HZZ.out)
            rw [hP] at hrd hcq HWT hne hs4 HF HRW
            rw [hND] at HF hs1 hn0 hn1 hn2 ⊢
            rw [hSM] at HF hs2' hn2 ⊢
            rw [hKK] at HF hkne hL hW3 HTB HKZ
            have HCQ := Lib.hid (fun i (hi : i < L) => show ∃ z, P[i]? = some z ∧ wr.cell? ⟨bq, oq + i, none⟩ = some (.int .i64 z) from by
              obtain ⟨z, hz⟩ : ∃ z, P[i]? = some z := ⟨_, List.getElem?_eq_getElem (by omega)⟩
              exact ⟨z, hz, hcq i (.int .i64 z) (by rw [List.getElem?_map, hz]; rfl)⟩)
            obtain ⟨z0, hz0, hc0⟩ := HCQ.out 0 hLp
            rw [Nat.add_zero] at hc0
            have hL0 : (0 : Int) < (L : Int) := by omega
            have HNE := Lib.hid hne
            have HKN := Lib.hid hkne
            have HL := Lib.hid hL
            have HW1 := Lib.hid hW1
            have HW3 := Lib.hid hW3
            have HRK := Lib.hid hRK
            have HRD := Lib.hid hRD
            have HP4 := Lib.hid hs4
            have hLst : z0 = leastL (P.take (max 0 1)) := by
              match P, hz0 with
              | a :: l, h => simp at h; subst h; simp [leastL]
            have hGst : z0 = greatL (P.take (max 0 1)) := by
              match P, hz0 with
              | a :: l, h => simp at h; subst h; simp [greatL]
            have HLG := Lib.hid (And.intro hLst hGst)
            have hn9 : (ND == 0) = false := hn1
            have hd9 : decide (SM < ND) = false := decide_eq_false hn2
            subst hbq
            clear hne hkne hW1 hW2 hW3 hL hrd hRK hRD hcq hP hND hSM hKK hn1 hLst hGst hz0 HSO
            obtain ⟨WQ, hWQ⟩ : ∃ WQ, WQ = wr := ⟨_, rfl⟩
            subst hWQ
            go_upto_region 20 with fail
            clear x5
            go_quiet (fail)
            go_wp2_with fail
            go_loopw [9, 10, 11] (fun l9 l10 q wx => ∃ i : Nat, i ≤ L ∧ q = .int .i64 ((i : Nat) : Int) ∧ l9 = .int .i64 (leastL (P.take (max i 1))) ∧ l10 = .int .i64 (greatL (P.take (max i 1))) ∧ Below WQ.heap.size WQ wx) (fun _ _ q _ => L - (intOf q).toNat)
            case atStart => exact ⟨0, Nat.zero_le _, rfl, by rw [← HLG.out.1], by rw [← HLG.out.2], below_drewN (Below.refl _ _)⟩
            case round =>
              obtain ⟨i, hi, rfl, rfl, rfl, hbx⟩ := hrel
              by_cases hlti : i < L
              · obtain ⟨z, hz, hc⟩ := HCQ.out i hlti
                have hc := cell_keep hbx hc
                have HLS := Lib.hid (least_go hz)
                have HGS := Lib.hid (great_go hz)
                generalize leastL (P.take (max i 1)) = M1 at HLS ⊢
                generalize greatL (P.take (max i 1)) = G1 at HGS ⊢
                have hiL : (i : Int) < (L : Int) := by omega
                have HBX := Lib.hid hbx
                clear hz hbx hc0
                go_wp2_with fail
                go_quiet (fail)
                go_wp2_with fail
                go_roundw
                case rel => exact ⟨i + 1, by omega, by go_num, by rw [HLS.out], by rw [HGS.out], below_drewN HBX.out⟩
                case measure => simp [intOf] <;> omega
              · obtain rfl : i = L := by omega
                have hPl := HP4.out
                have htk : P.take (max i 1) = P := List.take_of_length_le (by omega)
                rw [htk]
                obtain ⟨m1, m2⟩ := HWT.out _ (least_mem HNE.out)
                obtain ⟨g1, g2⟩ := HWT.out _ (great_mem HNE.out)
                have HVL : Hid (lightT ND SM P KK = if ND ≤ leastL P then .thr 1 [] KK else if SM - leastL P < ND then .thr KK.length [] KK else if leastL P = greatL P then .thr ((ND + leastL P - 1) / leastL P) [] KK else .thr ND P KK) := rfl
                generalize leastL P = M at m1 m2 HVL ⊢
                generalize greatL P = G at g1 g2 HVL ⊢
                have w1' : wrap64 (SM - M) = SM - M := by unfold wrap64; omega
                have w2' : wrap64 (ND + M) = ND + M := by unfold wrap64; omega
                have w3' : wrap64 (ND + M - 1) = ND + M - 1 := by unfold wrap64; omega
                obtain ⟨OO, hOO⟩ : ∃ OO, wr.heap.size = OO := ⟨_, rfl⟩
                have hsx := hbx.size
                have HBX := Lib.hid hbx
                have HSS0 : Hid (∀ g, S' g → S g ∨ (w2.heap.size ≤ g ∧ g < WQ.heap.size)) := Lib.hid (fun g hg => (HS'.out g hg).imp id (fun h => ⟨h, HTB.out.lt g hg⟩))
                have HSK0 : Hid (∀ g, (Value.slice a0 i c0').ownBlock = some g → S g ∨ (w2.heap.size ≤ g ∧ g < WQ.heap.size)) := Lib.hid (fun g hg => .inr (HTB.out.lt_own g hg))
                clear htk hbx hLp hL0 hc0
                have HOO := Lib.hid hOO
                by_cases d1 : ND ≤ M
                · skip
                  obtain ⟨W1, hW1⟩ : ∃ W1, W1 = wr.alloc (.cells zRt 112) := ⟨_, rfl⟩
                  have hb1 : Below wr.heap.size wr W1 := by rw [hW1]; exact (Below.refl _ _).alloc (Nat.le_refl _) _
                  have g1' : W1.heap[OO]? = some (.cells zRt 112 (0, 0)) := by rw [hW1, ← HOO.out]; exact heap_alloc_new _ _
                  have hsW : W1.heap.size = OO + 1 := by rw [hW1, World.size_alloc, HOO.out]
                  have GO1 := Lib.hid g1'
                  have HBW1 := Lib.hid (Below.next HBX.out hb1)
                  clear hb1 g1'
                  have HTC := Lib.hid (thr_c 1 KK S' (fun g => S g ∨ (w2.heap.size ≤ g ∧ g < WQ.heap.size)) w2.heap.size (.slice a0 i c0') W1 (HTB.out.below HBW1.out) HSS0.out HSK0.out (fun g hg => by
                    rcases hg with hg | hg
                    · have := HS.out g hg; omega
                    · omega) (by have := HL.out; omega))
                  have HLT2 : Hid (lightT ND SM P KK = .thr 1 [] KK) := Lib.hid (by rw [HVL.out, if_pos d1])
                  have d1b : decide (ND ≤ M) = true := decide_eq_true d1
                  go_wp2_with fail
                  rw [← hW1]
                  with_reducible refine HTC.out.mono ?_
                  rintro e w6 ⟨kd6, sv6, nd6, aw6, nw6, cw6, an6, nn6, cn6, ak6, nk6, ck6, ap6, np6, cp6, rfl, hT6, hb6⟩
                  obtain ⟨u1, hu1⟩ : ∃ u1 : Int, 1 = u1 := ⟨_, rfl⟩
                  obtain ⟨ws', hws'⟩ : ∃ ws' : List Int, [] = ws' := ⟨_, rfl⟩
                  rw [hu1, hws'] at HLT2
                  rw [hu1, hws'] at hT6
                  clear hu1 hws'
                  have hs6 := hb6.size
                  have g6 := heap_below hb6 GO1.out
                  have HT6 := Lib.hid hT6
                  have HB6 := Lib.hid (Below.next HBW1.out hb6)
                  obtain ⟨t0, t1, t2, t3, t4, t5, t6⟩ := open7 g6
                  obtain ⟨y0, y1, y2, y3, y4, y5, y6⟩ := frz7 g6
                  have G6 := Lib.hid g6
                  clear hT6 hb6 g6 HTC
                  go_upto_region 33 with fail
                  clear t0 t1 t2 t3 t4 t5 t6 y0 y1 y2 y3 y4 y5 y6
                  generalize hwc : ((((((w6.setCell _ _).setCell _ _).setCell _ _).setCell _ _).setCell _ _).setCell _ _).setCell _ _ = wc
                  obtain ⟨k1, k2, k3, k4⟩ := fin7 G6.out hwc
                  have GO := Lib.hid k1
                  obtain ⟨SO, hSO⟩ : ∃ SO : Nat → Prop, (fun g => (S g ∨ (w2.heap.size ≤ g ∧ g < WQ.heap.size)) ∨ (W1.heap.size ≤ g ∧ g < w6.heap.size)) = SO := ⟨_, rfl⟩
                  have hSX : ∀ g, SO g → (S g ∨ (w2.heap.size ≤ g ∧ g < wc.heap.size)) ∧ g ≠ OO := fun g hg => by
                    rw [← hSO] at hg
                    rcases hg with (hg | hg) | hg
                    · exact ⟨.inl hg, by have := HS.out g hg; omega⟩
                    · exact ⟨.inr ⟨by omega, by omega⟩, by omega⟩
                    · exact ⟨.inr ⟨by omega, by omega⟩, by omega⟩
                  obtain ⟨LT, hLT9⟩ : ∃ LT, lightT ND SM P KK = LT := ⟨_, rfl⟩
                  have hT6 := HT6.out
                  rw [hSO] at hT6
                  rw [← HLT2.out, hLT9] at hT6
                  rw [hLT9] at HLT2 HF
                  have HTO : Hid (RtS SO wc ⟨kd6, sv6, nd6, .slice aw6 nw6 cw6, .slice an6 nn6 cn6, .slice ak6 nk6 ck6, .slice ap6 np6 cp6⟩ LT) := Lib.hid (RS.move hT6 (fun g hg => k2 g (hSX g hg).2))
                  have HSX := Lib.hid hSX
                  have HSOL : Hid (∀ g, SO g → g < wc.heap.size) := Lib.hid (fun g hg => by
                    rcases (hSX g hg).1 with h | h
                    · have := HS.out g h; omega
                    · exact h.2)
                  have HBC : Hid (Below WQ.heap.size WQ wc) := Lib.hid (HB6.out.trans (k4 _ (by omega)))
                  clear hwc k1 k2 k4 hSO hSX hT6 hLT9 HT6 G6 HB6
                  rcases oneOf_cases KK (mergA LT) HKN.out with ⟨k0, hk0, ho⟩ | ⟨ho2, ho⟩
                  · have hL1 : i = 1 := by rw [← HL.out, hk0]; rfl
                    have HHO : Hid (oneOf KK (mergA LT) = k0) := Lib.hid ho
                    have hk00 : KK[0]? = some k0 := by rw [hk0]; rfl
                    obtain ⟨p0, hp0⟩ : ∃ p0, V0[0]? = some p0 := ⟨_, List.getElem?_eq_getElem (by have := HW1.out; omega)⟩
                    have hts0 : RtS S' WQ p0 k0 := HW3.out 0 p0 k0 hp0 hk00
                    obtain ⟨aw8, nw8, cw8, an8, nn8, cn8, ak8, nk8, ck8, ap8, np8, cp8, hpk8, -, -⟩ := hts0.r.shape
                    obtain ⟨kd8, sv8, nd8, wv8, nv8, kv8, pv8⟩ := p0
                    simp only [RtV.mk.injEq, true_and] at hpk8
                    obtain ⟨rfl, rfl, rfl, rfl⟩ := hpk8
                    obtain ⟨bb, oo, ha, hcells⟩ := RdK.cells (HRK.out.below HBC.out) rtVC_len (by omega)
                    have hc := hcells 0 _ hp0
                    have c0 := hc 0 (by omega)
                    have c1 := hc 1 (by omega)
                    have c2 := hc 2 (by omega)
                    have c3 := hc 3 (by omega)
                    have c4 := hc 4 (by omega)
                    have c5 := hc 5 (by omega)
                    have c6 := hc 6 (by omega)
                    simp only [rtVC, Nat.zero_mul, Nat.add_zero, List.getElem?_cons_zero, List.getElem?_cons_succ] at c0 c1 c2 c3 c4 c5 c6
                    have HT0 : Hid (RtS S' wc ⟨kd8, sv8, nd8, .slice aw8 nw8 cw8, .slice an8 nn8 cn8, .slice ak8 nk8 ck8, .slice ap8 np8 cp8⟩ k0) := Lib.hid (RS.below hts0 HBC.out HTB.out.lt)
                    have HTL := Lib.hid HTB.out.lt
                    have HGC := Lib.hid (heap_below HBC.out HGR.out)
                    have e1 : ((i : Int) == 1) = true := by rw [hL1]; rfl
                    have hip : 0 < i := by omega
                    have hip2 : (0 : Int) < (i : Int) := by omega
                    subst ha
                    clear hcells hc hts0 hp0 ho hk0 hk00 hL1
                    obtain ⟨z0, z1, z2, z3, z4, z5, z6⟩ := frz7 HGC.out
                    obtain ⟨r0, r1, r2, r3, r4, r5, r6⟩ := open7 HGC.out
                    go_wp2_with fail
                    clear z0 z1 z2 z3 z4 z5 z6 r0 r1 r2 r3 r4 r5 r6
                    generalize hWF : ((((((wc.setCell _ _).setCell _ _).setCell _ _).setCell _ _).setCell _ _).setCell _ _).setCell _ _ = WF
                    obtain ⟨q1, q2⟩ := rret_fin (S := S) (w := w) HT0.out (Nat.le_succ _) (fun g hg => by
                      have h1 := HTL.out g hg
                      rcases HS'.out g hg with h | h
                      · exact ⟨.inl h, by have := HS.out g h; omega⟩
                      · exact ⟨.inr ⟨by omega, by omega⟩, by omega⟩) (HBW.out.trans (HBC.out.mono HBW.out.size)) HGC.out hWF
                    refine bodyPost_ret (v := .agg #[.int .i64 kd8, .int .i64 sv8, .int .i64 nd8, .slice aw8 nw8 cw8, .slice an8 nn8 cn8, .slice ak8 nk8 ck8, .slice ap8 np8 cp8]) ?_ rfl (by rw [HFS.out, HF.out, HHO.out]; exact q2)
                    exact results_cell_row rfl _ _ _ _ _ _ _ rfl q1 Tryz.underlying112 rfl (by kernel_rfl)
                  · have e1 : ((i : Int) == 1) = false := by rw [beq_eq_false_iff_ne]; have := HL.out; omega
                    have HHO : Hid (finS st = mergA LT) := Lib.hid (by rw [HF.out, ho])
                    have HI1 := Lib.hid (is_c ⟨kd6, sv6, nd6, .slice aw6 nw6 cw6, .slice an6 nn6 cn6, .slice ak6 nk6 ck6, .slice ap6 np6 cp6⟩ LT false wc HTO.out.r)
                    unfold rtA at HI1
                    rw [show isB false LT = LT.anyB from rfl] at HI1
                    clear ho ho2 HF HRK HW3 HW1
                    obtain ⟨t0, t1, t2, t3, t4, t5, t6⟩ := open7 GO.out
                    go_wp2_with fail
                    clear t0 t1 t2 t3 t4 t5 t6
                    with_reducible refine HI1.out.mono ?_
                    rintro e w7 ⟨rfl, hb7⟩
                    have HB7 := Lib.hid (Below.next HBC.out hb7)
                    have GO7 := Lib.hid (heap_below hb7 GO.out)
                    have hs7 := hb7.size
                    have HTO7 : Hid (RtS SO w7 ⟨kd6, sv6, nd6, .slice aw6 nw6 cw6, .slice an6 nn6 cn6, .slice ak6 nk6 ck6, .slice ap6 np6 cp6⟩ LT) := Lib.hid (RS.below HTO.out hb7 HSOL.out)
                    clear hb7 HI1 GO HTO
                    by_cases hany : LT.anyB = true
                    · rw [hany]
                      have HME : Hid (mergA LT = .thr (if false = true then ((mergT (isB false) KK).length : Int) else 1) [] (mergT (isB false) KK)) := Lib.hid (by
                        unfold mergA
                        rw [if_pos hany, isB_any]
                        have h9 := hany
                        rw [HLT2.out] at h9 ⊢
                        have h8 : u1 = 1 := by
                          show u1 = 1
                          have h7 : ((!KK.isEmpty && ws'.isEmpty) && decide (u1 = 1)) = true := h9
                          simp at h7
                          exact h7.2
                        show ET.thr u1 [] _ = _
                        rw [h8]; rfl)
                      clear hany
                      have HFL := Lib.hid (flat_c SO ⟨kd6, sv6, nd6, .slice aw6 nw6 cw6, .slice an6 nn6 cn6, .slice ak6 nk6 ck6, .slice ap6 np6 cp6⟩ u1 ws' KK false w7 (by have h9 := HTO7.out; rw [HLT2.out] at h9; exact h9) (fun g hg => by have := HSOL.out g hg; omega) HKZ.out)
                      unfold rtA at HFL
                      obtain ⟨t0, t1, t2, t3, t4, t5, t6⟩ := open7 GO7.out
                      go_wp2_with fail
                      clear t0 t1 t2 t3 t4 t5 t6
                      with_reducible refine HFL.out.mono ?_
                      rintro e w8 ⟨kd8, sv8, nd8, aw8, nw8, cw8, an8, nn8, cn8, ak8, nk8, ck8, ap8, np8, cp8, rfl, hT8, hb8⟩
                      have HT8 := Lib.hid hT8
                      have HB8 := Lib.hid (Below.next HB7.out hb8)
                      have HG8 := Lib.hid (heap_below HB8.out HGR.out)
                      have hs8 := hb8.size
                      clear hT8 hb8 HFL
                      obtain ⟨z0, z1, z2, z3, z4, z5, z6⟩ := frz7 HG8.out
                      obtain ⟨r0, r1, r2, r3, r4, r5, r6⟩ := open7 HG8.out
                      go_wp2_with fail
                      clear z0 z1 z2 z3 z4 z5 z6 r0 r1 r2 r3 r4 r5 r6
                      generalize hWF : ((((((w8.setCell _ _).setCell _ _).setCell _ _).setCell _ _).setCell _ _).setCell _ _).setCell _ _ = WF
                      obtain ⟨q1, q2⟩ := rret_fin (S := S) (w := w) HT8.out (Nat.le_succ _) (fun g hg => by
                        rcases hg with hg | hg
                        · have := HSX.out g hg; exact ⟨this.1.imp id (fun h => ⟨by omega, by omega⟩), by
                            rcases this.1 with h | h
                            · have := HS.out g h; omega
                            · omega⟩
                        · exact ⟨.inr ⟨by omega, by omega⟩, by omega⟩) (HBW.out.trans (HB8.out.mono HBW.out.size)) HG8.out hWF
                      refine bodyPost_ret (v := .agg #[.int .i64 kd8, .int .i64 sv8, .int .i64 nd8, .slice aw8 nw8 cw8, .slice an8 nn8 cn8, .slice ak8 nk8 ck8, .slice ap8 np8 cp8]) ?_ rfl (by rw [HFS.out, HHO.out, HME.out]; exact q2)
                      exact results_cell_row rfl _ _ _ _ _ _ _ rfl q1 Tryz.underlying112 rfl (by kernel_rfl)
                    · have hany2 : LT.anyB = false := by simpa using hany
                      rw [hany2]
                      have HANY := Lib.hid hany2
                      have HI2 := Lib.hid (is_c ⟨kd6, sv6, nd6, .slice aw6 nw6 cw6, .slice an6 nn6 cn6, .slice ak6 nk6 ck6, .slice ap6 np6 cp6⟩ LT true w7 HTO7.out.r)
                      unfold rtA at HI2
                      rw [show isB true LT = LT.allB from rfl] at HI2
                      clear hany hany2
                      obtain ⟨t0, t1, t2, t3, t4, t5, t6⟩ := open7 GO7.out
                      go_wp2_with fail
                      clear t0 t1 t2 t3 t4 t5 t6
                      with_reducible refine HI2.out.mono ?_
                      rintro e w9 ⟨rfl, hb9⟩
                      have HB9 := Lib.hid (Below.next HB7.out hb9)
                      have GO9 := Lib.hid (heap_below hb9 GO7.out)
                      have hs9 := hb9.size
                      have HTO9 : Hid (RtS SO w9 ⟨kd6, sv6, nd6, .slice aw6 nw6 cw6, .slice an6 nn6 cn6, .slice ak6 nk6 ck6, .slice ap6 np6 cp6⟩ LT) := Lib.hid (RS.below HTO7.out hb9 (fun g hg => by have := HSOL.out g hg; omega))
                      clear hb9 HI2 GO7 HTO7
                      by_cases hall : LT.allB = true
                      · rw [hall]
                        have HME : Hid (mergA LT = .thr (if true = true then ((mergT (isB true) KK).length : Int) else 1) [] (mergT (isB true) KK)) := Lib.hid (by
                          unfold mergA
                          rw [if_neg (by rw [HANY.out]; simp), if_pos hall, isB_all, HLT2.out]
                          rfl)
                        clear hall
                        have HFL := Lib.hid (flat_c SO ⟨kd6, sv6, nd6, .slice aw6 nw6 cw6, .slice an6 nn6 cn6, .slice ak6 nk6 ck6, .slice ap6 np6 cp6⟩ u1 ws' KK true w9 (by have h9 := HTO9.out; rw [HLT2.out] at h9; exact h9) (fun g hg => by have := HSOL.out g hg; omega) HKZ.out)
                        unfold rtA at HFL
                        obtain ⟨t0, t1, t2, t3, t4, t5, t6⟩ := open7 GO9.out
                        go_wp2_with fail
                        clear t0 t1 t2 t3 t4 t5 t6
                        with_reducible refine HFL.out.mono ?_
                        rintro e w8 ⟨kd8, sv8, nd8, aw8, nw8, cw8, an8, nn8, cn8, ak8, nk8, ck8, ap8, np8, cp8, rfl, hT8, hb8⟩
                        have HT8 := Lib.hid hT8
                        have HB8 := Lib.hid (Below.next HB9.out hb8)
                        have HG8 := Lib.hid (heap_below HB8.out HGR.out)
                        have hs8 := hb8.size
                        clear hT8 hb8 HFL
                        obtain ⟨z0, z1, z2, z3, z4, z5, z6⟩ := frz7 HG8.out
                        obtain ⟨r0, r1, r2, r3, r4, r5, r6⟩ := open7 HG8.out
                        go_wp2_with fail
                        clear z0 z1 z2 z3 z4 z5 z6 r0 r1 r2 r3 r4 r5 r6
                        generalize hWF : ((((((w8.setCell _ _).setCell _ _).setCell _ _).setCell _ _).setCell _ _).setCell _ _).setCell _ _ = WF
                        obtain ⟨q1, q2⟩ := rret_fin (S := S) (w := w) HT8.out (Nat.le_succ _) (fun g hg => by
                          rcases hg with hg | hg
                          · have := HSX.out g hg; exact ⟨this.1.imp id (fun h => ⟨by omega, by omega⟩), by
                              rcases this.1 with h | h
                              · have := HS.out g h; omega
                              · omega⟩
                          · exact ⟨.inr ⟨by omega, by omega⟩, by omega⟩) (HBW.out.trans (HB8.out.mono HBW.out.size)) HG8.out hWF
                        refine bodyPost_ret (v := .agg #[.int .i64 kd8, .int .i64 sv8, .int .i64 nd8, .slice aw8 nw8 cw8, .slice an8 nn8 cn8, .slice ak8 nk8 ck8, .slice ap8 np8 cp8]) ?_ rfl (by rw [HFS.out, HHO.out, HME.out]; exact q2)
                        exact results_cell_row rfl _ _ _ _ _ _ _ rfl q1 Tryz.underlying112 rfl (by kernel_rfl)
                      · have hall2 : LT.allB = false := by simpa using hall
                        rw [hall2]
                        have HME : Hid (mergA LT = LT) := Lib.hid (by unfold mergA; rw [if_neg (by rw [HANY.out]; simp), if_neg hall])
                        have HG9 := Lib.hid (heap_below HB9.out HGR.out)
                        clear hall hall2
                        obtain ⟨t0, t1, t2, t3, t4, t5, t6⟩ := open7 GO9.out
                        obtain ⟨z0, z1, z2, z3, z4, z5, z6⟩ := frz7 HG9.out
                        obtain ⟨r0, r1, r2, r3, r4, r5, r6⟩ := open7 HG9.out
                        go_wp2_with fail
                        clear t0 t1 t2 t3 t4 t5 t6
                        clear z0 z1 z2 z3 z4 z5 z6 r0 r1 r2 r3 r4 r5 r6
                        generalize hWF : ((((((w9.setCell _ _).setCell _ _).setCell _ _).setCell _ _).setCell _ _).setCell _ _).setCell _ _ = WF
                        obtain ⟨q1, q2⟩ := rret_fin (S := S) (w := w) HTO9.out (Nat.le_succ _) (fun g hg => by
                          have := HSX.out g hg
                          exact ⟨this.1.imp id (fun h => ⟨by omega, by omega⟩), by
                            rcases this.1 with h | h
                            · have := HS.out g h; omega
                            · omega⟩) (HBW.out.trans (HB9.out.mono HBW.out.size)) HG9.out hWF
                        refine bodyPost_ret (v := .agg #[.int .i64 kd6, .int .i64 sv6, .int .i64 nd6, .slice aw6 nw6 cw6, .slice an6 nn6 cn6, .slice ak6 nk6 ck6, .slice ap6 np6 cp6]) ?_ rfl (by rw [HFS.out, HHO.out, HME.out]; exact q2)
                        exact results_cell_row rfl _ _ _ _ _ _ _ rfl q1 Tryz.underlying112 rfl (by kernel_rfl)
                · have d1b : decide (ND ≤ M) = false := decide_eq_false d1
                  by_cases d2 : SM - M < ND
                  · skip
                    obtain ⟨W1, hW1⟩ : ∃ W1, W1 = wr.alloc (.cells zRt 112) := ⟨_, rfl⟩
                    have hb1 : Below wr.heap.size wr W1 := by rw [hW1]; exact (Below.refl _ _).alloc (Nat.le_refl _) _
                    have g1' : W1.heap[OO]? = some (.cells zRt 112 (0, 0)) := by rw [hW1, ← HOO.out]; exact heap_alloc_new _ _
                    have hsW : W1.heap.size = OO + 1 := by rw [hW1, World.size_alloc, HOO.out]
                    have GO1 := Lib.hid g1'
                    have HBW1 := Lib.hid (Below.next HBX.out hb1)
                    clear hb1 g1'
                    have HTC := Lib.hid (thr_c (KK.length : Int) KK S' (fun g => S g ∨ (w2.heap.size ≤ g ∧ g < WQ.heap.size)) w2.heap.size (.slice a0 i c0') W1 (HTB.out.below HBW1.out) HSS0.out HSK0.out (fun g hg => by
                      rcases hg with hg | hg
                      · have := HS.out g hg; omega
                      · omega) (by have := HL.out; omega))
                    have HLT2 : Hid (lightT ND SM P KK = .thr (KK.length : Int) [] KK) := Lib.hid (by rw [HVL.out, if_neg d1, if_pos d2])
                    have d2b : decide (SM - M < ND) = true := decide_eq_true d2
                    rw [HL.out] at HTC HLT2
                    go_wp2_with fail
                    rw [← hW1]
                    with_reducible refine HTC.out.mono ?_
                    rintro e w6 ⟨kd6, sv6, nd6, aw6, nw6, cw6, an6, nn6, cn6, ak6, nk6, ck6, ap6, np6, cp6, rfl, hT6, hb6⟩
                    obtain ⟨u1, hu1⟩ : ∃ u1 : Int, (i : Int) = u1 := ⟨_, rfl⟩
                    obtain ⟨ws', hws'⟩ : ∃ ws' : List Int, [] = ws' := ⟨_, rfl⟩
                    rw [hu1, hws'] at HLT2
                    rw [hu1, hws'] at hT6
                    clear hu1 hws'
                    have hs6 := hb6.size
                    have g6 := heap_below hb6 GO1.out
                    have HT6 := Lib.hid hT6
                    have HB6 := Lib.hid (Below.next HBW1.out hb6)
                    obtain ⟨t0, t1, t2, t3, t4, t5, t6⟩ := open7 g6
                    obtain ⟨y0, y1, y2, y3, y4, y5, y6⟩ := frz7 g6
                    have G6 := Lib.hid g6
                    clear hT6 hb6 g6 HTC
                    go_upto_region 33 with fail
                    clear t0 t1 t2 t3 t4 t5 t6 y0 y1 y2 y3 y4 y5 y6
                    generalize hwc : ((((((w6.setCell _ _).setCell _ _).setCell _ _).setCell _ _).setCell _ _).setCell _ _).setCell _ _ = wc
                    obtain ⟨k1, k2, k3, k4⟩ := fin7 G6.out hwc
                    have GO := Lib.hid k1
                    obtain ⟨SO, hSO⟩ : ∃ SO : Nat → Prop, (fun g => (S g ∨ (w2.heap.size ≤ g ∧ g < WQ.heap.size)) ∨ (W1.heap.size ≤ g ∧ g < w6.heap.size)) = SO := ⟨_, rfl⟩
                    have hSX : ∀ g, SO g → (S g ∨ (w2.heap.size ≤ g ∧ g < wc.heap.size)) ∧ g ≠ OO := fun g hg => by
                      rw [← hSO] at hg
                      rcases hg with (hg | hg) | hg
                      · exact ⟨.inl hg, by have := HS.out g hg; omega⟩
                      · exact ⟨.inr ⟨by omega, by omega⟩, by omega⟩
                      · exact ⟨.inr ⟨by omega, by omega⟩, by omega⟩
                    obtain ⟨LT, hLT9⟩ : ∃ LT, lightT ND SM P KK = LT := ⟨_, rfl⟩
                    have hT6 := HT6.out
                    rw [hSO] at hT6
                    rw [← HLT2.out, hLT9] at hT6
                    rw [hLT9] at HLT2 HF
                    have HTO : Hid (RtS SO wc ⟨kd6, sv6, nd6, .slice aw6 nw6 cw6, .slice an6 nn6 cn6, .slice ak6 nk6 ck6, .slice ap6 np6 cp6⟩ LT) := Lib.hid (RS.move hT6 (fun g hg => k2 g (hSX g hg).2))
                    have HSX := Lib.hid hSX
                    have HSOL : Hid (∀ g, SO g → g < wc.heap.size) := Lib.hid (fun g hg => by
                      rcases (hSX g hg).1 with h | h
                      · have := HS.out g h; omega
                      · exact h.2)
                    have HBC : Hid (Below WQ.heap.size WQ wc) := Lib.hid (HB6.out.trans (k4 _ (by omega)))
                    clear hwc k1 k2 k4 hSO hSX hT6 hLT9 HT6 G6 HB6
                    rcases oneOf_cases KK (mergA LT) HKN.out with ⟨k0, hk0, ho⟩ | ⟨ho2, ho⟩
                    · have hL1 : i = 1 := by rw [← HL.out, hk0]; rfl
                      have HHO : Hid (oneOf KK (mergA LT) = k0) := Lib.hid ho
                      have hk00 : KK[0]? = some k0 := by rw [hk0]; rfl
                      obtain ⟨p0, hp0⟩ : ∃ p0, V0[0]? = some p0 := ⟨_, List.getElem?_eq_getElem (by have := HW1.out; omega)⟩
                      have hts0 : RtS S' WQ p0 k0 := HW3.out 0 p0 k0 hp0 hk00
                      obtain ⟨aw8, nw8, cw8, an8, nn8, cn8, ak8, nk8, ck8, ap8, np8, cp8, hpk8, -, -⟩ := hts0.r.shape
                      obtain ⟨kd8, sv8, nd8, wv8, nv8, kv8, pv8⟩ := p0
                      simp only [RtV.mk.injEq, true_and] at hpk8
                      obtain ⟨rfl, rfl, rfl, rfl⟩ := hpk8
                      obtain ⟨bb, oo, ha, hcells⟩ := RdK.cells (HRK.out.below HBC.out) rtVC_len (by omega)
                      have hc := hcells 0 _ hp0
                      have c0 := hc 0 (by omega)
                      have c1 := hc 1 (by omega)
                      have c2 := hc 2 (by omega)
                      have c3 := hc 3 (by omega)
                      have c4 := hc 4 (by omega)
                      have c5 := hc 5 (by omega)
                      have c6 := hc 6 (by omega)
                      simp only [rtVC, Nat.zero_mul, Nat.add_zero, List.getElem?_cons_zero, List.getElem?_cons_succ] at c0 c1 c2 c3 c4 c5 c6
                      have HT0 : Hid (RtS S' wc ⟨kd8, sv8, nd8, .slice aw8 nw8 cw8, .slice an8 nn8 cn8, .slice ak8 nk8 ck8, .slice ap8 np8 cp8⟩ k0) := Lib.hid (RS.below hts0 HBC.out HTB.out.lt)
                      have HTL := Lib.hid HTB.out.lt
                      have HGC := Lib.hid (heap_below HBC.out HGR.out)
                      have e1 : ((i : Int) == 1) = true := by rw [hL1]; rfl
                      have hip : 0 < i := by omega
                      have hip2 : (0 : Int) < (i : Int) := by omega
                      subst ha
                      clear hcells hc hts0 hp0 ho hk0 hk00 hL1
                      obtain ⟨z0, z1, z2, z3, z4, z5, z6⟩ := frz7 HGC.out
                      obtain ⟨r0, r1, r2, r3, r4, r5, r6⟩ := open7 HGC.out
                      go_wp2_with fail
                      clear z0 z1 z2 z3 z4 z5 z6 r0 r1 r2 r3 r4 r5 r6
                      generalize hWF : ((((((wc.setCell _ _).setCell _ _).setCell _ _).setCell _ _).setCell _ _).setCell _ _).setCell _ _ = WF
                      obtain ⟨q1, q2⟩ := rret_fin (S := S) (w := w) HT0.out (Nat.le_succ _) (fun g hg => by
                        have h1 := HTL.out g hg
                        rcases HS'.out g hg with h | h
                        · exact ⟨.inl h, by have := HS.out g h; omega⟩
                        · exact ⟨.inr ⟨by omega, by omega⟩, by omega⟩) (HBW.out.trans (HBC.out.mono HBW.out.size)) HGC.out hWF
                      refine bodyPost_ret (v := .agg #[.int .i64 kd8, .int .i64 sv8, .int .i64 nd8, .slice aw8 nw8 cw8, .slice an8 nn8 cn8, .slice ak8 nk8 ck8, .slice ap8 np8 cp8]) ?_ rfl (by rw [HFS.out, HF.out, HHO.out]; exact q2)
                      exact results_cell_row rfl _ _ _ _ _ _ _ rfl q1 Tryz.underlying112 rfl (by kernel_rfl)
                    · have e1 : ((i : Int) == 1) = false := by rw [beq_eq_false_iff_ne]; have := HL.out; omega
                      have HHO : Hid (finS st = mergA LT) := Lib.hid (by rw [HF.out, ho])
                      have HI1 := Lib.hid (is_c ⟨kd6, sv6, nd6, .slice aw6 nw6 cw6, .slice an6 nn6 cn6, .slice ak6 nk6 ck6, .slice ap6 np6 cp6⟩ LT false wc HTO.out.r)
                      unfold rtA at HI1
                      rw [show isB false LT = LT.anyB from rfl] at HI1
                      clear ho ho2 HF HRK HW3 HW1
                      obtain ⟨t0, t1, t2, t3, t4, t5, t6⟩ := open7 GO.out
                      go_wp2_with fail
                      clear t0 t1 t2 t3 t4 t5 t6
                      with_reducible refine HI1.out.mono ?_
                      rintro e w7 ⟨rfl, hb7⟩
                      have HB7 := Lib.hid (Below.next HBC.out hb7)
                      have GO7 := Lib.hid (heap_below hb7 GO.out)
                      have hs7 := hb7.size
                      have HTO7 : Hid (RtS SO w7 ⟨kd6, sv6, nd6, .slice aw6 nw6 cw6, .slice an6 nn6 cn6, .slice ak6 nk6 ck6, .slice ap6 np6 cp6⟩ LT) := Lib.hid (RS.below HTO.out hb7 HSOL.out)
                      clear hb7 HI1 GO HTO
                      by_cases hany : LT.anyB = true
                      · rw [hany]
                        have HME : Hid (mergA LT = .thr (if false = true then ((mergT (isB false) KK).length : Int) else 1) [] (mergT (isB false) KK)) := Lib.hid (by
                          unfold mergA
                          rw [if_pos hany, isB_any]
                          have h9 := hany
                          rw [HLT2.out] at h9 ⊢
                          have h8 : u1 = 1 := by
                            show u1 = 1
                            have h7 : ((!KK.isEmpty && ws'.isEmpty) && decide (u1 = 1)) = true := h9
                            simp at h7
                            exact h7.2
                          show ET.thr u1 [] _ = _
                          rw [h8]; rfl)
                        clear hany
                        have HFL := Lib.hid (flat_c SO ⟨kd6, sv6, nd6, .slice aw6 nw6 cw6, .slice an6 nn6 cn6, .slice ak6 nk6 ck6, .slice ap6 np6 cp6⟩ u1 ws' KK false w7 (by have h9 := HTO7.out; rw [HLT2.out] at h9; exact h9) (fun g hg => by have := HSOL.out g hg; omega) HKZ.out)
                        unfold rtA at HFL
                        obtain ⟨t0, t1, t2, t3, t4, t5, t6⟩ := open7 GO7.out
                        go_wp2_with fail
                        clear t0 t1 t2 t3 t4 t5 t6
                        with_reducible refine HFL.out.mono ?_
                        rintro e w8 ⟨kd8, sv8, nd8, aw8, nw8, cw8, an8, nn8, cn8, ak8, nk8, ck8, ap8, np8, cp8, rfl, hT8, hb8⟩
                        have HT8 := Lib.hid hT8
                        have HB8 := Lib.hid (Below.next HB7.out hb8)
                        have HG8 := Lib.hid (heap_below HB8.out HGR.out)
                        have hs8 := hb8.size
                        clear hT8 hb8 HFL
                        obtain ⟨z0, z1, z2, z3, z4, z5, z6⟩ := frz7 HG8.out
                        obtain ⟨r0, r1, r2, r3, r4, r5, r6⟩ := open7 HG8.out
                        go_wp2_with fail
                        clear z0 z1 z2 z3 z4 z5 z6 r0 r1 r2 r3 r4 r5 r6
                        generalize hWF : ((((((w8.setCell _ _).setCell _ _).setCell _ _).setCell _ _).setCell _ _).setCell _ _).setCell _ _ = WF
                        obtain ⟨q1, q2⟩ := rret_fin (S := S) (w := w) HT8.out (Nat.le_succ _) (fun g hg => by
                          rcases hg with hg | hg
                          · have := HSX.out g hg; exact ⟨this.1.imp id (fun h => ⟨by omega, by omega⟩), by
                              rcases this.1 with h | h
                              · have := HS.out g h; omega
                              · omega⟩
                          · exact ⟨.inr ⟨by omega, by omega⟩, by omega⟩) (HBW.out.trans (HB8.out.mono HBW.out.size)) HG8.out hWF
                        refine bodyPost_ret (v := .agg #[.int .i64 kd8, .int .i64 sv8, .int .i64 nd8, .slice aw8 nw8 cw8, .slice an8 nn8 cn8, .slice ak8 nk8 ck8, .slice ap8 np8 cp8]) ?_ rfl (by rw [HFS.out, HHO.out, HME.out]; exact q2)
                        exact results_cell_row rfl _ _ _ _ _ _ _ rfl q1 Tryz.underlying112 rfl (by kernel_rfl)
                      · have hany2 : LT.anyB = false := by simpa using hany
                        rw [hany2]
                        have HANY := Lib.hid hany2
                        have HI2 := Lib.hid (is_c ⟨kd6, sv6, nd6, .slice aw6 nw6 cw6, .slice an6 nn6 cn6, .slice ak6 nk6 ck6, .slice ap6 np6 cp6⟩ LT true w7 HTO7.out.r)
                        unfold rtA at HI2
                        rw [show isB true LT = LT.allB from rfl] at HI2
                        clear hany hany2
                        obtain ⟨t0, t1, t2, t3, t4, t5, t6⟩ := open7 GO7.out
                        go_wp2_with fail
                        clear t0 t1 t2 t3 t4 t5 t6
                        with_reducible refine HI2.out.mono ?_
                        rintro e w9 ⟨rfl, hb9⟩
                        have HB9 := Lib.hid (Below.next HB7.out hb9)
                        have GO9 := Lib.hid (heap_below hb9 GO7.out)
                        have hs9 := hb9.size
                        have HTO9 : Hid (RtS SO w9 ⟨kd6, sv6, nd6, .slice aw6 nw6 cw6, .slice an6 nn6 cn6, .slice ak6 nk6 ck6, .slice ap6 np6 cp6⟩ LT) := Lib.hid (RS.below HTO7.out hb9 (fun g hg => by have := HSOL.out g hg; omega))
                        clear hb9 HI2 GO7 HTO7
                        by_cases hall : LT.allB = true
                        · rw [hall]
                          have HME : Hid (mergA LT = .thr (if true = true then ((mergT (isB true) KK).length : Int) else 1) [] (mergT (isB true) KK)) := Lib.hid (by
                            unfold mergA
                            rw [if_neg (by rw [HANY.out]; simp), if_pos hall, isB_all, HLT2.out]
                            rfl)
                          clear hall
                          have HFL := Lib.hid (flat_c SO ⟨kd6, sv6, nd6, .slice aw6 nw6 cw6, .slice an6 nn6 cn6, .slice ak6 nk6 ck6, .slice ap6 np6 cp6⟩ u1 ws' KK true w9 (by have h9 := HTO9.out; rw [HLT2.out] at h9; exact h9) (fun g hg => by have := HSOL.out g hg; omega) HKZ.out)
                          unfold rtA at HFL
                          obtain ⟨t0, t1, t2, t3, t4, t5, t6⟩ := open7 GO9.out
                          go_wp2_with fail
                          clear t0 t1 t2 t3 t4 t5 t6
                          with_reducible refine HFL.out.mono ?_
                          rintro e w8 ⟨kd8, sv8, nd8, aw8, nw8, cw8, an8, nn8, cn8, ak8, nk8, ck8, ap8, np8, cp8, rfl, hT8, hb8⟩
                          have HT8 := Lib.hid hT8
                          have HB8 := Lib.hid (Below.next HB9.out hb8)
                          have HG8 := Lib.hid (heap_below HB8.out HGR.out)
                          have hs8 := hb8.size
                          clear hT8 hb8 HFL
                          obtain ⟨z0, z1, z2, z3, z4, z5, z6⟩ := frz7 HG8.out
                          obtain ⟨r0, r1, r2, r3, r4, r5, r6⟩ := open7 HG8.out
                          go_wp2_with fail
                          clear z0 z1 z2 z3 z4 z5 z6 r0 r1 r2 r3 r4 r5 r6
                          generalize hWF : ((((((w8.setCell _ _).setCell _ _).setCell _ _).setCell _ _).setCell _ _).setCell _ _).setCell _ _ = WF
                          obtain ⟨q1, q2⟩ := rret_fin (S := S) (w := w) HT8.out (Nat.le_succ _) (fun g hg => by
                            rcases hg with hg | hg
                            · have := HSX.out g hg; exact ⟨this.1.imp id (fun h => ⟨by omega, by omega⟩), by
                                rcases this.1 with h | h
                                · have := HS.out g h; omega
                                · omega⟩
                            · exact ⟨.inr ⟨by omega, by omega⟩, by omega⟩) (HBW.out.trans (HB8.out.mono HBW.out.size)) HG8.out hWF
                          refine bodyPost_ret (v := .agg #[.int .i64 kd8, .int .i64 sv8, .int .i64 nd8, .slice aw8 nw8 cw8, .slice an8 nn8 cn8, .slice ak8 nk8 ck8, .slice ap8 np8 cp8]) ?_ rfl (by rw [HFS.out, HHO.out, HME.out]; exact q2)
                          exact results_cell_row rfl _ _ _ _ _ _ _ rfl q1 Tryz.underlying112 rfl (by kernel_rfl)
                        · have hall2 : LT.allB = false := by simpa using hall
                          rw [hall2]
                          have HME : Hid (mergA LT = LT) := Lib.hid (by unfold mergA; rw [if_neg (by rw [HANY.out]; simp), if_neg hall])
                          have HG9 := Lib.hid (heap_below HB9.out HGR.out)
                          clear hall hall2
                          obtain ⟨t0, t1, t2, t3, t4, t5, t6⟩ := open7 GO9.out
                          obtain ⟨z0, z1, z2, z3, z4, z5, z6⟩ := frz7 HG9.out
                          obtain ⟨r0, r1, r2, r3, r4, r5, r6⟩ := open7 HG9.out
                          go_wp2_with fail
                          clear t0 t1 t2 t3 t4 t5 t6
                          clear z0 z1 z2 z3 z4 z5 z6 r0 r1 r2 r3 r4 r5 r6
                          generalize hWF : ((((((w9.setCell _ _).setCell _ _).setCell _ _).setCell _ _).setCell _ _).setCell _ _).setCell _ _ = WF
                          obtain ⟨q1, q2⟩ := rret_fin (S := S) (w := w) HTO9.out (Nat.le_succ _) (fun g hg => by
                            have := HSX.out g hg
                            exact ⟨this.1.imp id (fun h => ⟨by omega, by omega⟩), by
                              rcases this.1 with h | h
                              · have := HS.out g h; omega
                              · omega⟩) (HBW.out.trans (HB9.out.mono HBW.out.size)) HG9.out hWF
                          refine bodyPost_ret (v := .agg #[.int .i64 kd6, .int .i64 sv6, .int .i64 nd6, .slice aw6 nw6 cw6, .slice an6 nn6 cn6, .slice ak6 nk6 ck6, .slice ap6 np6 cp6]) ?_ rfl (by rw [HFS.out, HHO.out, HME.out]; exact q2)
                          exact results_cell_row rfl _ _ _ _ _ _ _ rfl q1 Tryz.underlying112 rfl (by kernel_rfl)
                  · have d2b : decide (SM - M < ND) = false := decide_eq_false d2
                    by_cases d3 : M = G
                    · subst d3
                      obtain ⟨W1, hW1⟩ : ∃ W1, W1 = wr.alloc (.cells zRt 112) := ⟨_, rfl⟩
                      have hb1 : Below wr.heap.size wr W1 := by rw [hW1]; exact (Below.refl _ _).alloc (Nat.le_refl _) _
                      have g1' : W1.heap[OO]? = some (.cells zRt 112 (0, 0)) := by rw [hW1, ← HOO.out]; exact heap_alloc_new _ _
                      have hsW : W1.heap.size = OO + 1 := by rw [hW1, World.size_alloc, HOO.out]
                      have GO1 := Lib.hid g1'
                      have HBW1 := Lib.hid (Below.next HBX.out hb1)
                      clear hb1 g1'
                      have HTC := Lib.hid (thr_c ((ND + M - 1) / M) KK S' (fun g => S g ∨ (w2.heap.size ≤ g ∧ g < WQ.heap.size)) w2.heap.size (.slice a0 i c0') W1 (HTB.out.below HBW1.out) HSS0.out HSK0.out (fun g hg => by
                        rcases hg with hg | hg
                        · have := HS.out g hg; omega
                        · omega) (by have := HL.out; omega))
                      have HLT2 : Hid (lightT ND SM P KK = .thr ((ND + M - 1) / M) [] KK) := Lib.hid (by rw [HVL.out, if_neg d1, if_neg d2, if_pos rfl])
                      have hq : (ND + M - 1).tdiv M = (ND + M - 1) / M := Int.tdiv_eq_ediv_of_nonneg (by omega)
                      have hq1 : 0 ≤ (ND + M - 1) / M := Int.ediv_nonneg (by omega) (by omega)
                      have hq2 : (ND + M - 1) / M ≤ 101000 := Int.le_trans (Int.ediv_le_self _ (by omega)) (by omega)
                      have hq3 : wrap64 ((ND + M - 1) / M) = (ND + M - 1) / M := by generalize (ND + M - 1) / M = Q at hq1 hq2 ⊢; unfold wrap64; omega
                      have e3 : (M == M) = true := by simp
                      have hM0 : M ≠ 0 := by omega
                      go_wp2_with fail
                      rw [← hW1]
                      with_reducible refine HTC.out.mono ?_
                      rintro e w6 ⟨kd6, sv6, nd6, aw6, nw6, cw6, an6, nn6, cn6, ak6, nk6, ck6, ap6, np6, cp6, rfl, hT6, hb6⟩
                      obtain ⟨u1, hu1⟩ : ∃ u1 : Int, ((ND + M - 1) / M) = u1 := ⟨_, rfl⟩
                      obtain ⟨ws', hws'⟩ : ∃ ws' : List Int, [] = ws' := ⟨_, rfl⟩
                      rw [hu1, hws'] at HLT2
                      rw [hu1, hws'] at hT6
                      clear hu1 hws'
                      have hs6 := hb6.size
                      have g6 := heap_below hb6 GO1.out
                      have HT6 := Lib.hid hT6
                      have HB6 := Lib.hid (Below.next HBW1.out hb6)
                      obtain ⟨t0, t1, t2, t3, t4, t5, t6⟩ := open7 g6
                      obtain ⟨y0, y1, y2, y3, y4, y5, y6⟩ := frz7 g6
                      have G6 := Lib.hid g6
                      clear hT6 hb6 g6 HTC
                      go_upto_region 33 with fail
                      clear t0 t1 t2 t3 t4 t5 t6 y0 y1 y2 y3 y4 y5 y6
                      generalize hwc : ((((((w6.setCell _ _).setCell _ _).setCell _ _).setCell _ _).setCell _ _).setCell _ _).setCell _ _ = wc
                      obtain ⟨k1, k2, k3, k4⟩ := fin7 G6.out hwc
                      have GO := Lib.hid k1
                      obtain ⟨SO, hSO⟩ : ∃ SO : Nat → Prop, (fun g => (S g ∨ (w2.heap.size ≤ g ∧ g < WQ.heap.size)) ∨ (W1.heap.size ≤ g ∧ g < w6.heap.size)) = SO := ⟨_, rfl⟩
                      have hSX : ∀ g, SO g → (S g ∨ (w2.heap.size ≤ g ∧ g < wc.heap.size)) ∧ g ≠ OO := fun g hg => by
                        rw [← hSO] at hg
                        rcases hg with (hg | hg) | hg
                        · exact ⟨.inl hg, by have := HS.out g hg; omega⟩
                        · exact ⟨.inr ⟨by omega, by omega⟩, by omega⟩
                        · exact ⟨.inr ⟨by omega, by omega⟩, by omega⟩
                      obtain ⟨LT, hLT9⟩ : ∃ LT, lightT ND SM P KK = LT := ⟨_, rfl⟩
                      have hT6 := HT6.out
                      rw [hSO] at hT6
                      rw [← HLT2.out, hLT9] at hT6
                      rw [hLT9] at HLT2 HF
                      have HTO : Hid (RtS SO wc ⟨kd6, sv6, nd6, .slice aw6 nw6 cw6, .slice an6 nn6 cn6, .slice ak6 nk6 ck6, .slice ap6 np6 cp6⟩ LT) := Lib.hid (RS.move hT6 (fun g hg => k2 g (hSX g hg).2))
                      have HSX := Lib.hid hSX
                      have HSOL : Hid (∀ g, SO g → g < wc.heap.size) := Lib.hid (fun g hg => by
                        rcases (hSX g hg).1 with h | h
                        · have := HS.out g h; omega
                        · exact h.2)
                      have HBC : Hid (Below WQ.heap.size WQ wc) := Lib.hid (HB6.out.trans (k4 _ (by omega)))
                      clear hwc k1 k2 k4 hSO hSX hT6 hLT9 HT6 G6 HB6
                      rcases oneOf_cases KK (mergA LT) HKN.out with ⟨k0, hk0, ho⟩ | ⟨ho2, ho⟩
                      · have hL1 : i = 1 := by rw [← HL.out, hk0]; rfl
                        have HHO : Hid (oneOf KK (mergA LT) = k0) := Lib.hid ho
                        have hk00 : KK[0]? = some k0 := by rw [hk0]; rfl
                        obtain ⟨p0, hp0⟩ : ∃ p0, V0[0]? = some p0 := ⟨_, List.getElem?_eq_getElem (by have := HW1.out; omega)⟩
                        have hts0 : RtS S' WQ p0 k0 := HW3.out 0 p0 k0 hp0 hk00
                        obtain ⟨aw8, nw8, cw8, an8, nn8, cn8, ak8, nk8, ck8, ap8, np8, cp8, hpk8, -, -⟩ := hts0.r.shape
                        obtain ⟨kd8, sv8, nd8, wv8, nv8, kv8, pv8⟩ := p0
                        simp only [RtV.mk.injEq, true_and] at hpk8
                        obtain ⟨rfl, rfl, rfl, rfl⟩ := hpk8
                        obtain ⟨bb, oo, ha, hcells⟩ := RdK.cells (HRK.out.below HBC.out) rtVC_len (by omega)
                        have hc := hcells 0 _ hp0
                        have c0 := hc 0 (by omega)
                        have c1 := hc 1 (by omega)
                        have c2 := hc 2 (by omega)
                        have c3 := hc 3 (by omega)
                        have c4 := hc 4 (by omega)
                        have c5 := hc 5 (by omega)
                        have c6 := hc 6 (by omega)
                        simp only [rtVC, Nat.zero_mul, Nat.add_zero, List.getElem?_cons_zero, List.getElem?_cons_succ] at c0 c1 c2 c3 c4 c5 c6
                        have HT0 : Hid (RtS S' wc ⟨kd8, sv8, nd8, .slice aw8 nw8 cw8, .slice an8 nn8 cn8, .slice ak8 nk8 ck8, .slice ap8 np8 cp8⟩ k0) := Lib.hid (RS.below hts0 HBC.out HTB.out.lt)
                        have HTL := Lib.hid HTB.out.lt
                        have HGC := Lib.hid (heap_below HBC.out HGR.out)
                        have e1 : ((i : Int) == 1) = true := by rw [hL1]; rfl
                        have hip : 0 < i := by omega
                        have hip2 : (0 : Int) < (i : Int) := by omega
                        subst ha
                        clear hcells hc hts0 hp0 ho hk0 hk00 hL1
                        obtain ⟨z0, z1, z2, z3, z4, z5, z6⟩ := frz7 HGC.out
                        obtain ⟨r0, r1, r2, r3, r4, r5, r6⟩ := open7 HGC.out
                        go_wp2_with fail
                        clear z0 z1 z2 z3 z4 z5 z6 r0 r1 r2 r3 r4 r5 r6
                        generalize hWF : ((((((wc.setCell _ _).setCell _ _).setCell _ _).setCell _ _).setCell _ _).setCell _ _).setCell _ _ = WF
                        obtain ⟨q1, q2⟩ := rret_fin (S := S) (w := w) HT0.out (Nat.le_succ _) (fun g hg => by
                          have h1 := HTL.out g hg
                          rcases HS'.out g hg with h | h
                          · exact ⟨.inl h, by have := HS.out g h; omega⟩
                          · exact ⟨.inr ⟨by omega, by omega⟩, by omega⟩) (HBW.out.trans (HBC.out.mono HBW.out.size)) HGC.out hWF
                        refine bodyPost_ret (v := .agg #[.int .i64 kd8, .int .i64 sv8, .int .i64 nd8, .slice aw8 nw8 cw8, .slice an8 nn8 cn8, .slice ak8 nk8 ck8, .slice ap8 np8 cp8]) ?_ rfl (by rw [HFS.out, HF.out, HHO.out]; exact q2)
                        exact results_cell_row rfl _ _ _ _ _ _ _ rfl q1 Tryz.underlying112 rfl (by kernel_rfl)
                      · have e1 : ((i : Int) == 1) = false := by rw [beq_eq_false_iff_ne]; have := HL.out; omega
                        have HHO : Hid (finS st = mergA LT) := Lib.hid (by rw [HF.out, ho])
                        have HI1 := Lib.hid (is_c ⟨kd6, sv6, nd6, .slice aw6 nw6 cw6, .slice an6 nn6 cn6, .slice ak6 nk6 ck6, .slice ap6 np6 cp6⟩ LT false wc HTO.out.r)
                        unfold rtA at HI1
                        rw [show isB false LT = LT.anyB from rfl] at HI1
                        clear ho ho2 HF HRK HW3 HW1
                        obtain ⟨t0, t1, t2, t3, t4, t5, t6⟩ := open7 GO.out
                        go_wp2_with fail
                        clear t0 t1 t2 t3 t4 t5 t6
                        with_reducible refine HI1.out.mono ?_
                        rintro e w7 ⟨rfl, hb7⟩
                        have HB7 := Lib.hid (Below.next HBC.out hb7)
                        have GO7 := Lib.hid (heap_below hb7 GO.out)
                        have hs7 := hb7.size
                        have HTO7 : Hid (RtS SO w7 ⟨kd6, sv6, nd6, .slice aw6 nw6 cw6, .slice an6 nn6 cn6, .slice ak6 nk6 ck6, .slice ap6 np6 cp6⟩ LT) := Lib.hid (RS.below HTO.out hb7 HSOL.out)
                        clear hb7 HI1 GO HTO
                        by_cases hany : LT.anyB = true
                        · rw [hany]
                          have HME : Hid (mergA LT = .thr (if false = true then ((mergT (isB false) KK).length : Int) else 1) [] (mergT (isB false) KK)) := Lib.hid (by
                            unfold mergA
                            rw [if_pos hany, isB_any]
                            have h9 := hany
                            rw [HLT2.out] at h9 ⊢
                            have h8 : u1 = 1 := by
                              show u1 = 1
                              have h7 : ((!KK.isEmpty && ws'.isEmpty) && decide (u1 = 1)) = true := h9
                              simp at h7
                              exact h7.2
                            show ET.thr u1 [] _ = _
                            rw [h8]; rfl)
                          clear hany
                          have HFL := Lib.hid (flat_c SO ⟨kd6, sv6, nd6, .slice aw6 nw6 cw6, .slice an6 nn6 cn6, .slice ak6 nk6 ck6, .slice ap6 np6 cp6⟩ u1 ws' KK false w7 (by have h9 := HTO7.out; rw [HLT2.out] at h9; exact h9) (fun g hg => by have := HSOL.out g hg; omega) HKZ.out)
                          unfold rtA at HFL
                          obtain ⟨t0, t1, t2, t3, t4, t5, t6⟩ := open7 GO7.out
                          go_wp2_with fail
                          clear t0 t1 t2 t3 t4 t5 t6
                          with_reducible refine HFL.out.mono ?_
                          rintro e w8 ⟨kd8, sv8, nd8, aw8, nw8, cw8, an8, nn8, cn8, ak8, nk8, ck8, ap8, np8, cp8, rfl, hT8, hb8⟩
                          have HT8 := Lib.hid hT8
                          have HB8 := Lib.hid (Below.next HB7.out hb8)
                          have HG8 := Lib.hid (heap_below HB8.out HGR.out)
                          have hs8 := hb8.size
                          clear hT8 hb8 HFL
                          obtain ⟨z0, z1, z2, z3, z4, z5, z6⟩ := frz7 HG8.out
                          obtain ⟨r0, r1, r2, r3, r4, r5, r6⟩ := open7 HG8.out
                          go_wp2_with fail
                          clear z0 z1 z2 z3 z4 z5 z6 r0 r1 r2 r3 r4 r5 r6
                          generalize hWF : ((((((w8.setCell _ _).setCell _ _).setCell _ _).setCell _ _).setCell _ _).setCell _ _).setCell _ _ = WF
                          obtain ⟨q1, q2⟩ := rret_fin (S := S) (w := w) HT8.out (Nat.le_succ _) (fun g hg => by
                            rcases hg with hg | hg
                            · have := HSX.out g hg; exact ⟨this.1.imp id (fun h => ⟨by omega, by omega⟩), by
                                rcases this.1 with h | h
                                · have := HS.out g h; omega
                                · omega⟩
                            · exact ⟨.inr ⟨by omega, by omega⟩, by omega⟩) (HBW.out.trans (HB8.out.mono HBW.out.size)) HG8.out hWF
                          refine bodyPost_ret (v := .agg #[.int .i64 kd8, .int .i64 sv8, .int .i64 nd8, .slice aw8 nw8 cw8, .slice an8 nn8 cn8, .slice ak8 nk8 ck8, .slice ap8 np8 cp8]) ?_ rfl (by rw [HFS.out, HHO.out, HME.out]; exact q2)
                          exact results_cell_row rfl _ _ _ _ _ _ _ rfl q1 Tryz.underlying112 rfl (by kernel_rfl)
                        · have hany2 : LT.anyB = false := by simpa using hany
                          rw [hany2]
                          have HANY := Lib.hid hany2
                          have HI2 := Lib.hid (is_c ⟨kd6, sv6, nd6, .slice aw6 nw6 cw6, .slice an6 nn6 cn6, .slice ak6 nk6 ck6, .slice ap6 np6 cp6⟩ LT true w7 HTO7.out.r)
                          unfold rtA at HI2
                          rw [show isB true LT = LT.allB from rfl] at HI2
                          clear hany hany2
                          obtain ⟨t0, t1, t2, t3, t4, t5, t6⟩ := open7 GO7.out
                          go_wp2_with fail
                          clear t0 t1 t2 t3 t4 t5 t6
                          with_reducible refine HI2.out.mono ?_
                          rintro e w9 ⟨rfl, hb9⟩
                          have HB9 := Lib.hid (Below.next HB7.out hb9)
                          have GO9 := Lib.hid (heap_below hb9 GO7.out)
                          have hs9 := hb9.size
                          have HTO9 : Hid (RtS SO w9 ⟨kd6, sv6, nd6, .slice aw6 nw6 cw6, .slice an6 nn6 cn6, .slice ak6 nk6 ck6, .slice ap6 np6 cp6⟩ LT) := Lib.hid (RS.below HTO7.out hb9 (fun g hg => by have := HSOL.out g hg; omega))
                          clear hb9 HI2 GO7 HTO7
                          by_cases hall : LT.allB = true
                          · rw [hall]
                            have HME : Hid (mergA LT = .thr (if true = true then ((mergT (isB true) KK).length : Int) else 1) [] (mergT (isB true) KK)) := Lib.hid (by
                              unfold mergA
                              rw [if_neg (by rw [HANY.out]; simp), if_pos hall, isB_all, HLT2.out]
                              rfl)
                            clear hall
                            have HFL := Lib.hid (flat_c SO ⟨kd6, sv6, nd6, .slice aw6 nw6 cw6, .slice an6 nn6 cn6, .slice ak6 nk6 ck6, .slice ap6 np6 cp6⟩ u1 ws' KK true w9 (by have h9 := HTO9.out; rw [HLT2.out] at h9; exact h9) (fun g hg => by have := HSOL.out g hg; omega) HKZ.out)
                            unfold rtA at HFL
                            obtain ⟨t0, t1, t2, t3, t4, t5, t6⟩ := open7 GO9.out
                            go_wp2_with fail
                            clear t0 t1 t2 t3 t4 t5 t6
                            with_reducible refine HFL.out.mono ?_
                            rintro e w8 ⟨kd8, sv8, nd8, aw8, nw8, cw8, an8, nn8, cn8, ak8, nk8, ck8, ap8, np8, cp8, rfl, hT8, hb8⟩
                            have HT8 := Lib.hid hT8
                            have HB8 := Lib.hid (Below.next HB9.out hb8)
                            have HG8 := Lib.hid (heap_below HB8.out HGR.out)
                            have hs8 := hb8.size
                            clear hT8 hb8 HFL
                            obtain ⟨z0, z1, z2, z3, z4, z5, z6⟩ := frz7 HG8.out
                            obtain ⟨r0, r1, r2, r3, r4, r5, r6⟩ := open7 HG8.out
                            go_wp2_with fail
                            clear z0 z1 z2 z3 z4 z5 z6 r0 r1 r2 r3 r4 r5 r6
                            generalize hWF : ((((((w8.setCell _ _).setCell _ _).setCell _ _).setCell _ _).setCell _ _).setCell _ _).setCell _ _ = WF
                            obtain ⟨q1, q2⟩ := rret_fin (S := S) (w := w) HT8.out (Nat.le_succ _) (fun g hg => by
                              rcases hg with hg | hg
                              · have := HSX.out g hg; exact ⟨this.1.imp id (fun h => ⟨by omega, by omega⟩), by
                                  rcases this.1 with h | h
                                  · have := HS.out g h; omega
                                  · omega⟩
                              · exact ⟨.inr ⟨by omega, by omega⟩, by omega⟩) (HBW.out.trans (HB8.out.mono HBW.out.size)) HG8.out hWF
                            refine bodyPost_ret (v := .agg #[.int .i64 kd8, .int .i64 sv8, .int .i64 nd8, .slice aw8 nw8 cw8, .slice an8 nn8 cn8, .slice ak8 nk8 ck8, .slice ap8 np8 cp8]) ?_ rfl (by rw [HFS.out, HHO.out, HME.out]; exact q2)
                            exact results_cell_row rfl _ _ _ _ _ _ _ rfl q1 Tryz.underlying112 rfl (by kernel_rfl)
                          · have hall2 : LT.allB = false := by simpa using hall
                            rw [hall2]
                            have HME : Hid (mergA LT = LT) := Lib.hid (by unfold mergA; rw [if_neg (by rw [HANY.out]; simp), if_neg hall])
                            have HG9 := Lib.hid (heap_below HB9.out HGR.out)
                            clear hall hall2
                            obtain ⟨t0, t1, t2, t3, t4, t5, t6⟩ := open7 GO9.out
                            obtain ⟨z0, z1, z2, z3, z4, z5, z6⟩ := frz7 HG9.out
                            obtain ⟨r0, r1, r2, r3, r4, r5, r6⟩ := open7 HG9.out
                            go_wp2_with fail
                            clear t0 t1 t2 t3 t4 t5 t6
                            clear z0 z1 z2 z3 z4 z5 z6 r0 r1 r2 r3 r4 r5 r6
                            generalize hWF : ((((((w9.setCell _ _).setCell _ _).setCell _ _).setCell _ _).setCell _ _).setCell _ _).setCell _ _ = WF
                            obtain ⟨q1, q2⟩ := rret_fin (S := S) (w := w) HTO9.out (Nat.le_succ _) (fun g hg => by
                              have := HSX.out g hg
                              exact ⟨this.1.imp id (fun h => ⟨by omega, by omega⟩), by
                                rcases this.1 with h | h
                                · have := HS.out g h; omega
                                · omega⟩) (HBW.out.trans (HB9.out.mono HBW.out.size)) HG9.out hWF
                            refine bodyPost_ret (v := .agg #[.int .i64 kd6, .int .i64 sv6, .int .i64 nd6, .slice aw6 nw6 cw6, .slice an6 nn6 cn6, .slice ak6 nk6 ck6, .slice ap6 np6 cp6]) ?_ rfl (by rw [HFS.out, HHO.out, HME.out]; exact q2)
                            exact results_cell_row rfl _ _ _ _ _ _ _ rfl q1 Tryz.underlying112 rfl (by kernel_rfl)
                    · have e3 : (M == G) = false := by simpa using d3
                      have HLT2 : Hid (lightT ND SM P KK = .thr ND P KK) := Lib.hid (by rw [HVL.out, if_neg d1, if_neg d2, if_neg d3])
                      obtain ⟨wc, hwc⟩ : ∃ wc, wc = wr.alloc (.cells #[.int .i64 2, .int .i64 0, .int .i64 ND, .slice (some ⟨bq, oq, none⟩) i d0', .slice none 0 0, .slice a0 i c0', .slice (some ⟨bq, oq, none⟩) i d0'] 112) := ⟨_, rfl⟩
                      have hbc : Below wr.heap.size wr wc := by rw [hwc]; exact (Below.refl _ _).alloc (Nat.le_refl _) _
                      have gc : wc.heap[OO]? = some (.cells #[.int .i64 2, .int .i64 0, .int .i64 ND, .slice (some ⟨bq, oq, none⟩) i d0', .slice none 0 0, .slice a0 i c0', .slice (some ⟨bq, oq, none⟩) i d0'] 112 (0, 0)) := by rw [hwc, ← HOO.out]; exact heap_alloc_new _ _
                      have hsc : wc.heap.size = OO + 1 := by rw [hwc, World.size_alloc, HOO.out]
                      go_upto_region 33 with fail
                      rw [← hwc]
                      have GO := Lib.hid gc
                      have HBC := Lib.hid (Below.next HBX.out hbc)
                      obtain ⟨SO, hSO⟩ : ∃ SO : Nat → Prop, (fun g => S g ∨ (w2.heap.size ≤ g ∧ g < WQ.heap.size)) = SO := ⟨_, rfl⟩
                      have hSX : ∀ g, SO g → (S g ∨ (w2.heap.size ≤ g ∧ g < wc.heap.size)) ∧ g ≠ OO := fun g hg => by
                        rw [← hSO] at hg
                        rcases hg with hg | hg
                        · exact ⟨.inl hg, by have := HS.out g hg; omega⟩
                        · exact ⟨.inr ⟨by omega, by omega⟩, by omega⟩
                      have hSW : SlS (fun g => (Value.slice (some ⟨bq, oq, none⟩) i d0').ownBlock = some g) WQ (.slice (some ⟨bq, oq, none⟩) i d0') P := SlS.of_row HRW.out
                      have hTT := RB.thr (an := none) (nn := 0) (cn := 0) (S' := SO) ND HTB.out hSW (by rw [HL.out]; unfold prtT; rw [if_neg HNE.out]; exact hSW) (fun g hg => by rw [← hSO]; exact HSS0.out g hg) (fun g hg => by rw [← hSO]; exact .inr (HRW.out.lt g hg)) (fun g hg => by rw [← hSO]; exact HSK0.out g hg) (fun g hg => by rw [← hSO]; exact .inr (HRW.out.lt g hg))
                      obtain ⟨LT, hLT9⟩ : ∃ LT, lightT ND SM P KK = LT := ⟨_, rfl⟩
                      rw [← HLT2.out, hLT9] at hTT
                      rw [hLT9] at HLT2 HF
                      have HTO : Hid (RtS SO wc ⟨2, 0, ND, .slice (some ⟨bq, oq, none⟩) i d0', .slice none 0 0, .slice a0 i c0', .slice (some ⟨bq, oq, none⟩) i d0'⟩ LT) := Lib.hid (RS.below hTT HBC.out (fun g hg => by
                        rw [← hSO] at hg
                        rcases hg with h | h
                        · have := HS.out g h; have := HBW.out.size; omega
                        · exact h.2))
                      have HSX := Lib.hid hSX
                      have HSOL : Hid (∀ g, SO g → g < wc.heap.size) := Lib.hid (fun g hg => by
                        rcases (hSX g hg).1 with h | h
                        · have := HS.out g h; omega
                        · exact h.2)
                      clear hwc hbc gc hSO hSX hTT hLT9 hSW
                      obtain ⟨u1, hu1⟩ : ∃ u1, ND = u1 := ⟨_, rfl⟩
                      obtain ⟨ws', hws'⟩ : ∃ ws', P = ws' := ⟨_, rfl⟩
                      rw [hu1, hws'] at HLT2
                      clear hu1 hws'
                      rcases oneOf_cases KK (mergA LT) HKN.out with ⟨k0, hk0, ho⟩ | ⟨ho2, ho⟩
                      · have hL1 : i = 1 := by rw [← HL.out, hk0]; rfl
                        have HHO : Hid (oneOf KK (mergA LT) = k0) := Lib.hid ho
                        have hk00 : KK[0]? = some k0 := by rw [hk0]; rfl
                        obtain ⟨p0, hp0⟩ : ∃ p0, V0[0]? = some p0 := ⟨_, List.getElem?_eq_getElem (by have := HW1.out; omega)⟩
                        have hts0 : RtS S' WQ p0 k0 := HW3.out 0 p0 k0 hp0 hk00
                        obtain ⟨aw8, nw8, cw8, an8, nn8, cn8, ak8, nk8, ck8, ap8, np8, cp8, hpk8, -, -⟩ := hts0.r.shape
                        obtain ⟨kd8, sv8, nd8, wv8, nv8, kv8, pv8⟩ := p0
                        simp only [RtV.mk.injEq, true_and] at hpk8
                        obtain ⟨rfl, rfl, rfl, rfl⟩ := hpk8
                        obtain ⟨bb, oo, ha, hcells⟩ := RdK.cells (HRK.out.below HBC.out) rtVC_len (by omega)
                        have hc := hcells 0 _ hp0
                        have c0 := hc 0 (by omega)
                        have c1 := hc 1 (by omega)
                        have c2 := hc 2 (by omega)
                        have c3 := hc 3 (by omega)
                        have c4 := hc 4 (by omega)
                        have c5 := hc 5 (by omega)
                        have c6 := hc 6 (by omega)
                        simp only [rtVC, Nat.zero_mul, Nat.add_zero, List.getElem?_cons_zero, List.getElem?_cons_succ] at c0 c1 c2 c3 c4 c5 c6
                        have HT0 : Hid (RtS S' wc ⟨kd8, sv8, nd8, .slice aw8 nw8 cw8, .slice an8 nn8 cn8, .slice ak8 nk8 ck8, .slice ap8 np8 cp8⟩ k0) := Lib.hid (RS.below hts0 HBC.out HTB.out.lt)
                        have HTL := Lib.hid HTB.out.lt
                        have HGC := Lib.hid (heap_below HBC.out HGR.out)
                        have e1 : ((i : Int) == 1) = true := by rw [hL1]; rfl
                        have hip : 0 < i := by omega
                        have hip2 : (0 : Int) < (i : Int) := by omega
                        subst ha
                        clear hcells hc hts0 hp0 ho hk0 hk00 hL1
                        obtain ⟨z0, z1, z2, z3, z4, z5, z6⟩ := frz7 HGC.out
                        obtain ⟨r0, r1, r2, r3, r4, r5, r6⟩ := open7 HGC.out
                        go_wp2_with fail
                        clear z0 z1 z2 z3 z4 z5 z6 r0 r1 r2 r3 r4 r5 r6
                        generalize hWF : ((((((wc.setCell _ _).setCell _ _).setCell _ _).setCell _ _).setCell _ _).setCell _ _).setCell _ _ = WF
                        obtain ⟨q1, q2⟩ := rret_fin (S := S) (w := w) HT0.out (Nat.le_succ _) (fun g hg => by
                          have h1 := HTL.out g hg
                          rcases HS'.out g hg with h | h
                          · exact ⟨.inl h, by have := HS.out g h; omega⟩
                          · exact ⟨.inr ⟨by omega, by omega⟩, by omega⟩) (HBW.out.trans (HBC.out.mono HBW.out.size)) HGC.out hWF
                        refine bodyPost_ret (v := .agg #[.int .i64 kd8, .int .i64 sv8, .int .i64 nd8, .slice aw8 nw8 cw8, .slice an8 nn8 cn8, .slice ak8 nk8 ck8, .slice ap8 np8 cp8]) ?_ rfl (by rw [HFS.out, HF.out, HHO.out]; exact q2)
                        exact results_cell_row rfl _ _ _ _ _ _ _ rfl q1 Tryz.underlying112 rfl (by kernel_rfl)
                      · have e1 : ((i : Int) == 1) = false := by rw [beq_eq_false_iff_ne]; have := HL.out; omega
                        have HHO : Hid (finS st = mergA LT) := Lib.hid (by rw [HF.out, ho])
                        have HI1 := Lib.hid (is_c ⟨2, 0, ND, .slice (some ⟨bq, oq, none⟩) i d0', .slice none 0 0, .slice a0 i c0', .slice (some ⟨bq, oq, none⟩) i d0'⟩ LT false wc HTO.out.r)
                        unfold rtA at HI1
                        rw [show isB false LT = LT.anyB from rfl] at HI1
                        clear ho ho2 HF HRK HW3 HW1
                        obtain ⟨t0, t1, t2, t3, t4, t5, t6⟩ := open7 GO.out
                        go_wp2_with fail
                        clear t0 t1 t2 t3 t4 t5 t6
                        with_reducible refine HI1.out.mono ?_
                        rintro e w7 ⟨rfl, hb7⟩
                        have HB7 := Lib.hid (Below.next HBC.out hb7)
                        have GO7 := Lib.hid (heap_below hb7 GO.out)
                        have hs7 := hb7.size
                        have HTO7 : Hid (RtS SO w7 ⟨2, 0, ND, .slice (some ⟨bq, oq, none⟩) i d0', .slice none 0 0, .slice a0 i c0', .slice (some ⟨bq, oq, none⟩) i d0'⟩ LT) := Lib.hid (RS.below HTO.out hb7 HSOL.out)
                        clear hb7 HI1 GO HTO
                        by_cases hany : LT.anyB = true
                        · rw [hany]
                          have HME : Hid (mergA LT = .thr (if false = true then ((mergT (isB false) KK).length : Int) else 1) [] (mergT (isB false) KK)) := Lib.hid (by
                            unfold mergA
                            rw [if_pos hany, isB_any]
                            have h9 := hany
                            rw [HLT2.out] at h9 ⊢
                            have h8 : u1 = 1 := by
                              show u1 = 1
                              have h7 : ((!KK.isEmpty && ws'.isEmpty) && decide (u1 = 1)) = true := h9
                              simp at h7
                              exact h7.2
                            show ET.thr u1 [] _ = _
                            rw [h8]; rfl)
                          clear hany
                          have HFL := Lib.hid (flat_c SO ⟨2, 0, ND, .slice (some ⟨bq, oq, none⟩) i d0', .slice none 0 0, .slice a0 i c0', .slice (some ⟨bq, oq, none⟩) i d0'⟩ u1 ws' KK false w7 (by have h9 := HTO7.out; rw [HLT2.out] at h9; exact h9) (fun g hg => by have := HSOL.out g hg; omega) HKZ.out)
                          unfold rtA at HFL
                          obtain ⟨t0, t1, t2, t3, t4, t5, t6⟩ := open7 GO7.out
                          go_wp2_with fail
                          clear t0 t1 t2 t3 t4 t5 t6
                          with_reducible refine HFL.out.mono ?_
                          rintro e w8 ⟨kd8, sv8, nd8, aw8, nw8, cw8, an8, nn8, cn8, ak8, nk8, ck8, ap8, np8, cp8, rfl, hT8, hb8⟩
                          have HT8 := Lib.hid hT8
                          have HB8 := Lib.hid (Below.next HB7.out hb8)
                          have HG8 := Lib.hid (heap_below HB8.out HGR.out)
                          have hs8 := hb8.size
                          clear hT8 hb8 HFL
                          obtain ⟨z0, z1, z2, z3, z4, z5, z6⟩ := frz7 HG8.out
                          obtain ⟨r0, r1, r2, r3, r4, r5, r6⟩ := open7 HG8.out
                          go_wp2_with fail
                          clear z0 z1 z2 z3 z4 z5 z6 r0 r1 r2 r3 r4 r5 r6
                          generalize hWF : ((((((w8.setCell _ _).setCell _ _).setCell _ _).setCell _ _).setCell _ _).setCell _ _).setCell _ _ = WF
                          obtain ⟨q1, q2⟩ := rret_fin (S := S) (w := w) HT8.out (Nat.le_succ _) (fun g hg => by
                            rcases hg with hg | hg
                            · have := HSX.out g hg; exact ⟨this.1.imp id (fun h => ⟨by omega, by omega⟩), by
                                rcases this.1 with h | h
                                · have := HS.out g h; omega
                                · omega⟩
                            · exact ⟨.inr ⟨by omega, by omega⟩, by omega⟩) (HBW.out.trans (HB8.out.mono HBW.out.size)) HG8.out hWF
                          refine bodyPost_ret (v := .agg #[.int .i64 kd8, .int .i64 sv8, .int .i64 nd8, .slice aw8 nw8 cw8, .slice an8 nn8 cn8, .slice ak8 nk8 ck8, .slice ap8 np8 cp8]) ?_ rfl (by rw [HFS.out, HHO.out, HME.out]; exact q2)
                          exact results_cell_row rfl _ _ _ _ _ _ _ rfl q1 Tryz.underlying112 rfl (by kernel_rfl)
                        · have hany2 : LT.anyB = false := by simpa using hany
                          rw [hany2]
                          have HANY := Lib.hid hany2
                          have HI2 := Lib.hid (is_c ⟨2, 0, ND, .slice (some ⟨bq, oq, none⟩) i d0', .slice none 0 0, .slice a0 i c0', .slice (some ⟨bq, oq, none⟩) i d0'⟩ LT true w7 HTO7.out.r)
                          unfold rtA at HI2
                          rw [show isB true LT = LT.allB from rfl] at HI2
                          clear hany hany2
                          obtain ⟨t0, t1, t2, t3, t4, t5, t6⟩ := open7 GO7.out
                          go_wp2_with fail
                          clear t0 t1 t2 t3 t4 t5 t6
                          with_reducible refine HI2.out.mono ?_
                          rintro e w9 ⟨rfl, hb9⟩
                          have HB9 := Lib.hid (Below.next HB7.out hb9)
                          have GO9 := Lib.hid (heap_below hb9 GO7.out)
                          have hs9 := hb9.size
                          have HTO9 : Hid (RtS SO w9 ⟨2, 0, ND, .slice (some ⟨bq, oq, none⟩) i d0', .slice none 0 0, .slice a0 i c0', .slice (some ⟨bq, oq, none⟩) i d0'⟩ LT) := Lib.hid (RS.below HTO7.out hb9 (fun g hg => by have := HSOL.out g hg; omega))
                          clear hb9 HI2 GO7 HTO7
                          by_cases hall : LT.allB = true
                          · rw [hall]
                            have HME : Hid (mergA LT = .thr (if true = true then ((mergT (isB true) KK).length : Int) else 1) [] (mergT (isB true) KK)) := Lib.hid (by
                              unfold mergA
                              rw [if_neg (by rw [HANY.out]; simp), if_pos hall, isB_all, HLT2.out]
                              rfl)
                            clear hall
                            have HFL := Lib.hid (flat_c SO ⟨2, 0, ND, .slice (some ⟨bq, oq, none⟩) i d0', .slice none 0 0, .slice a0 i c0', .slice (some ⟨bq, oq, none⟩) i d0'⟩ u1 ws' KK true w9 (by have h9 := HTO9.out; rw [HLT2.out] at h9; exact h9) (fun g hg => by have := HSOL.out g hg; omega) HKZ.out)
                            unfold rtA at HFL
                            obtain ⟨t0, t1, t2, t3, t4, t5, t6⟩ := open7 GO9.out
                            go_wp2_with fail
                            clear t0 t1 t2 t3 t4 t5 t6
                            with_reducible refine HFL.out.mono ?_
                            rintro e w8 ⟨kd8, sv8, nd8, aw8, nw8, cw8, an8, nn8, cn8, ak8, nk8, ck8, ap8, np8, cp8, rfl, hT8, hb8⟩
                            have HT8 := Lib.hid hT8
                            have HB8 := Lib.hid (Below.next HB9.out hb8)
                            have HG8 := Lib.hid (heap_below HB8.out HGR.out)
                            have hs8 := hb8.size
                            clear hT8 hb8 HFL
                            obtain ⟨z0, z1, z2, z3, z4, z5, z6⟩ := frz7 HG8.out
                            obtain ⟨r0, r1, r2, r3, r4, r5, r6⟩ := open7 HG8.out
                            go_wp2_with fail
                            clear z0 z1 z2 z3 z4 z5 z6 r0 r1 r2 r3 r4 r5 r6
                            generalize hWF : ((((((w8.setCell _ _).setCell _ _).setCell _ _).setCell _ _).setCell _ _).setCell _ _).setCell _ _ = WF
                            obtain ⟨q1, q2⟩ := rret_fin (S := S) (w := w) HT8.out (Nat.le_succ _) (fun g hg => by
                              rcases hg with hg | hg
                              · have := HSX.out g hg; exact ⟨this.1.imp id (fun h => ⟨by omega, by omega⟩), by
                                  rcases this.1 with h | h
                                  · have := HS.out g h; omega
                                  · omega⟩
                              · exact ⟨.inr ⟨by omega, by omega⟩, by omega⟩) (HBW.out.trans (HB8.out.mono HBW.out.size)) HG8.out hWF
                            refine bodyPost_ret (v := .agg #[.int .i64 kd8, .int .i64 sv8, .int .i64 nd8, .slice aw8 nw8 cw8, .slice an8 nn8 cn8, .slice ak8 nk8 ck8, .slice ap8 np8 cp8]) ?_ rfl (by rw [HFS.out, HHO.out, HME.out]; exact q2)
                            exact results_cell_row rfl _ _ _ _ _ _ _ rfl q1 Tryz.underlying112 rfl (by kernel_rfl)
                          · have hall2 : LT.allB = false := by simpa using hall
                            rw [hall2]
                            have HME : Hid (mergA LT = LT) := Lib.hid (by unfold mergA; rw [if_neg (by rw [HANY.out]; simp), if_neg hall])
                            have HG9 := Lib.hid (heap_below HB9.out HGR.out)
                            clear hall hall2
                            obtain ⟨t0, t1, t2, t3, t4, t5, t6⟩ := open7 GO9.out
                            obtain ⟨z0, z1, z2, z3, z4, z5, z6⟩ := frz7 HG9.out
                            obtain ⟨r0, r1, r2, r3, r4, r5, r6⟩ := open7 HG9.out
                            go_wp2_with fail
                            clear t0 t1 t2 t3 t4 t5 t6
                            clear z0 z1 z2 z3 z4 z5 z6 r0 r1 r2 r3 r4 r5 r6
                            generalize hWF : ((((((w9.setCell _ _).setCell _ _).setCell _ _).setCell _ _).setCell _ _).setCell _ _).setCell _ _ = WF
                            obtain ⟨q1, q2⟩ := rret_fin (S := S) (w := w) HTO9.out (Nat.le_succ _) (fun g hg => by
                              have := HSX.out g hg
                              exact ⟨this.1.imp id (fun h => ⟨by omega, by omega⟩), by
                                rcases this.1 with h | h
                                · have := HS.out g h; omega
                                · omega⟩) (HBW.out.trans (HB9.out.mono HBW.out.size)) HG9.out hWF
                            refine bodyPost_ret (v := .agg #[.int .i64 2, .int .i64 0, .int .i64 ND, .slice (some ⟨bq, oq, none⟩) i d0', .slice none 0 0, .slice a0 i c0', .slice (some ⟨bq, oq, none⟩) i d0']) ?_ rfl (by rw [HFS.out, HHO.out, HME.out]; exact q2)
                            exact results_cell_row rfl _ _ _ _ _ _ _ rfl q1 Tryz.underlying112 rfl (by kernel_rfl)
/-- **simple.** -/
theorem rsimple_c : ∀ f, SrC f
  | 0 => fun t ht => by have := t.sz_pos; omega
  | f + 1 => rsimp_step f (rsimple_c f)
end Go.Proofs.YtcojmmhclklpoaaGreatDoor
namespace Go.Proofs.YtcojmmhclklpoaaGreatDoor
open Go.RowKit Go.Shelf

/-- how many nodes the tidy expressions have, cut at 1000 -/
def els (ys : List Xpr) : List Nat := ys.map fun y => min 1000 (treY y noSub).sz
theorem els_len (ys : List Xpr) : (els ys).length = ys.length := List.length_map _
theorem els_take {ys : List Xpr} {k : Nat} {y : Xpr} (h : ys[k]? = some y) : (els ys).take (k + 1) = (els ys).take k ++ [min 1000 (treY y noSub).sz] := by
  rw [List.take_add_one, show (els ys)[k]? = some (min 1000 (treY y noSub).sz) by unfold els; rw [List.getElem?_map, h]; rfl]; rfl
theorem els_sub (ys : List Xpr) : ∀ s, s < 12 → subZ 1000 (subL ys) s = if s < (els ys).length then (els ys).getD s 0 else 1 := fun s _ => by
  rw [els_len]
  by_cases h : s < ys.length
  · rw [if_pos h]
    have hy : ys[s]? = some ys[s] := List.getElem?_eq_getElem h
    unfold subZ subL els
    rw [hy, List.getD_eq_getElem?_getD, List.getElem?_map, hy]; rfl
  · rw [if_neg h]
    unfold subZ subL
    rw [List.getElem?_eq_none (by omega)]; rfl
theorem root_sz {x : Xpr} (hx : xprE x = 0) (sub : Nat → Option ET) : ((szl 1000 x.nodes sub x.nodes.length).map fun k => Value.int .i64 ((k : Nat) : Int))[x.root.toNat]? = some (.int .i64 ((min 1000 (treY x sub).sz : Nat) : Int)) := by
  have hr := (xprE_ok hx).root
  have hlt : x.root.toNat < x.nodes.length := by omega
  have h1 := szl_get 1000 x.nodes sub x.nodes.length x.root.toNat hlt
  rw [List.getElem?_map]
  have h2 : (szl 1000 x.nodes sub x.nodes.length)[x.root.toNat]? = some (min 1000 (treY x sub).sz) := by
    rw [List.getD_eq_getElem?_getD] at h1
    have h3 : x.root.toNat < (szl 1000 x.nodes sub x.nodes.length).length := by rw [szl_len]; exact hlt
    rw [List.getElem?_eq_getElem h3] at h1 ⊢
    simp only [Option.getD_some] at h1
    rw [h1]; rfl
  rw [h2]; rfl

set_option maxRecDepth 100000 in
set_option maxHeartbeats 8000000 in
theorem rsubst_c (x : Xpr) (ys : List Xpr) (hsx : XprSum x) (hsy : ∀ y ∈ ys, XprSum y) (hf : XprFew x) (hfs : ∀ y ∈ ys, XprFew y) (a : Option Addr) (n c : Nat) (la : Option Addr) (ln lc : Nat) (w : World) (h : XM w a n c x.nodes) (hl : LM w la ln lc ys) (hln : ln ≤ 100000) :
    Calls Tryz.prog 23 #[.agg #[.slice a n c, .int .i64 x.root], .slice la ln lc] w fun e w' => RetX (subS x ys).1 (subS x ys).2 w e w' := by
  have HX := Lib.hid h
  have HL := Lib.hid hl
  have HV := Lib.hid (fun (u : World) (hu : Below w.heap.size w u) => rvalid10_c x hsx a n c u (h.below hu))
  have HFS := Lib.hid hfs
  have HSY := Lib.hid hsy
  clear h hl hfs hsy
  by_cases hx : xprE x = 0
  · rw [hx] at HV
    have HXX := Lib.hid hx
    have HLN := Lib.hid HL.out.len
    have HSS : Hid (subS x ys = if xprsE ys ≠ 0 then (⟨[], 0⟩, xprsE ys) else if 60 < (treY x (subL ys)).sz then (⟨[], 0⟩, 3) else ((treY x (subL ys)).xpr, 0)) := Lib.hid (by unfold subS; rw [if_neg (by rw [hx]; simp)])
    clear hx
    go_enter Tryz.func23, Tryz.ntmps23
    go_wp2_with fail
    generalize hW3 : (w.alloc _).alloc _ = W3
    obtain ⟨gX, gR, hb3, hs3⟩ := box2' hW3
    have GX := Lib.hid gX
    have GR := Lib.hid gR
    have HB3 := Lib.hid hb3
    have HS3 := Lib.hid hs3
    clear hW3 gX gR hb3 hs3
    with_reducible refine (HV.out W3 HB3.out).mono ?_
    rintro e w4 ⟨rfl, hb4⟩
    have HB4 := Lib.hid (Below.next HB3.out hb4)
    have GX4 := Lib.hid (heap_below hb4 GX.out)
    have GR4 := Lib.hid (heap_below hb4 GR.out)
    have hs4 : w.heap.size + 2 ≤ w4.heap.size := by have := hb4.size; have := HS3.out; omega
    clear GX GR HB3 HS3 hb4
    go_wp2_with fail
    go_loopw [7, 8] (fun eq i wr => ∃ (ev : Value) (k : Nat), ev = eq ∧ k ≤ ln ∧ i = .int .i64 ((k : Nat) : Int) ∧ Hid (xprsE ys = xprsE (ys.drop k)) ∧ Below w4.heap.size w4 wr ∧ Hid (wr.ownsRow w4.heap.size 3 1 ev k (((els ys).take k).map fun k => Value.int .i64 ((k : Nat) : Int)))) (fun _ i _ => ln - (intOf i).toNat)
    case atStart => exact ⟨_, 0, rfl, Nat.zero_le _, rfl, Lib.hid (by simp), Below.refl _ _, Lib.hid (World.ownsRow_nil _ _ _ _)⟩
    case round =>
      obtain ⟨ev, k, rfl, hk, rfl, hno, hb, HROW⟩ := hrel
      by_cases hlt : k < ln
      · obtain ⟨y, hy⟩ : ∃ y, ys[k]? = some y := ⟨_, List.getElem?_eq_getElem (by have := HLN.out; omega)⟩
        obtain ⟨b2, o2, ha2, hc2⟩ := (HL.out.below (Below.next HB4.out hb)).at' (by omega)
        obtain ⟨a3, n3, c3, y0, hxm, y1⟩ := hc2 k y hy
        subst ha2
        have hdr := xprsE_drop hy
        have hym := List.mem_of_getElem? hy
        have HVY := Lib.hid (fun (u : World) (hu : Below wr.heap.size wr u) => rvalid10_c y (HSY.out y hym) a3 n3 c3 u (hxm.below hu))
        have HXY := Lib.hid hxm
        have HYY := Lib.hid hy
        obtain ⟨E, hE⟩ : ∃ E, xprE y = E := ⟨_, rfl⟩
        rw [hE] at HVY hdr
        have HE := Lib.hid hE
        have HDR := Lib.hid hdr
        have HB := Lib.hid hb
        have HY0 := Lib.hid y0
        have HY1 := Lib.hid y1
        have hsr := hb.size
        clear hdr hE hxm hc2 hy hb hym
        go_wp2_with fail
        with_reducible refine (HVY.out _ (Below.refl _ _)).mono ?_
        rintro e w6 ⟨rfl, hb6⟩
        have HB6 := Lib.hid (Below.next HB.out hb6)
        have HBS := Lib.hid hb6
        clear hb6 y0 y1
        by_cases hE0 : E = 0
        · subst hE0
          have hno2 : Hid (xprsE ys = xprsE (ys.drop (k + 1))) := Lib.hid (by rw [hno.out, HDR.out, if_neg (by simp)])
          have HR6 := Lib.hid (rowK_below HROW.out HBS.out)
          have HSZ := Lib.hid (fun (u : World) (hu : Below w6.heap.size w6 u) => rsizes_c y HE.out (HFS.out y (List.mem_of_getElem? HYY.out)) noSub [] (fun s _ => rfl) a3 n3 c3 none 0 0 u ((HXY.out.below HBS.out).below hu) (Rd.none_ _))
          have HRT := Lib.hid (root_sz HE.out noSub)
          have HTK := Lib.hid (els_take HYY.out)
          obtain ⟨b9, o9, hb9, hc9⟩ := HL.out.at' (by omega)
          obtain ⟨rfl, rfl⟩ : b9 = b2 ∧ o9 = o2 := by injection hb9 with h1; injection h1 with h2 h3; exact ⟨h2.symm, h3.symm⟩
          obtain ⟨a8, n8, c8, l0, _, l1⟩ := hc9 k y HYY.out
          have e8 : Value.slice a8 n8 c8 = Value.slice a3 n3 c3 := Option.some.inj ((cell_keep (HB4.out.trans (HB.out.mono (by omega))) l0).symm.trans HY0.out)
          rw [e8] at l0
          have HKS := Lib.hid (fun (u : World) (hu : Below w4.heap.size w4 u) => And.intro (cell_keep (HB4.out.trans (hu.mono (by omega))) l0) (cell_keep (HB4.out.trans (hu.mono (by omega))) l1))
          clear l0 l1 e8 hb9 hc9
          obtain ⟨RT, hRT⟩ := Int.eq_ofNat_of_zero_le (xprE_ok HE.out).root.1
          have hrn : RT < n3 := by have h1 := (xprE_ok HE.out).root; have h2 := HXY.out.len; omega
          have hzz : min 1000 (treY y noSub).sz ≤ 1000 := Nat.min_le_left _ _
          rw [hRT, Int.toNat_natCast] at HRT
          rw [hRT] at HSZ HKS
          have hyl : y.nodes.length = n3 := HXY.out.len
          rw [hyl] at HRT
          obtain ⟨Z, hZ⟩ : ∃ Z, min 1000 (treY y noSub).sz = Z := ⟨_, rfl⟩
          rw [hZ] at HRT HTK hzz
          obtain ⟨ae, ce, rfl, _⟩ := rd_of_row HR6.out
          have hs6 : w4.heap.size ≤ w6.heap.size := HB6.out.size
          obtain ⟨ii, hi0, hz0, hz1, hz2⟩ := info_parts Tryz.infoInt
          clear HDR HVY hZ HXY HY0 HY1 HBS
          go_upto_region 11 with fail
          refine wp_region_noPanic ?_
          refine wp_region_takes (fun u => Below w4.heap.size w4 u) [0, 1, 2, 3, 4, 6, 7, 8, 9, 10] 6 (by kernel_rfl) (by kernel_rfl) (by kernel_rfl) (fun _ _ _ _ _ h => h) (below_drew HB6.out) ?_
          repeat (refine wpTk_cons rfl (fun K hK => ?_); go_simp; apply Exists.intro; refine ⟨fun u hu => ?_, hK _ ?_⟩; (first | exact rfl | (obtain ⟨q1, q2⟩ := HKS.out u hu; go_simp; done) | (obtain ⟨q1, q2⟩ := HKS.out u hu; go_simp; exact rfl)); clear hK K)
          refine wpTk_nil ?_
          refine held_ready (rs := [5]) (by kernel_rfl) (by simp) ?_
          refine AllReadyH.cons rfl (fun K hK => ?_) AllReadyH.nil
          go_simp
          with_reducible refine (HSZ.out _ (below_drew (Below.refl _ _))).mono ?_
          rintro e w7 ⟨a7, rfl, r7, b7⟩
          have HB7 := Lib.hid (below_undrew b7)
          have HB47 := Lib.hid (HB6.out.trans (HB7.out.mono hs6))
          obtain ⟨c7, o7, ha7, hc7⟩ := r7.at' (by omega)
          have t7 := hc7 RT _ HRT.out
          subst ha7
          clear b7 r7 hc7
          go_simp
          refine hK.out _ _ HB47.out (fun hh => ?_)
          clear hh hK K; try simp only [Act.put, List.setIfInBounds_toArray, List.set_cons_zero, List.set_cons_succ]
          refine held_ready (rs := [11]) (by kernel_rfl) (by simp) ?_
          refine AllReadyH.cons rfl (fun K hK => ?_) AllReadyH.nil
          go_simp
          refine hK.out _ _ HB47.out (fun hh => ?_)
          clear hh hK K; try simp only [Act.put, List.setIfInBounds_toArray, List.set_cons_zero, List.set_cons_succ]
          refine held_ready (rs := [12]) (by kernel_rfl) (by simp) ?_
          refine AllReadyH.cons rfl (fun K hK => ?_) AllReadyH.nil
          go_simp
          refine hK.out _ _ HB47.out (fun hh => ?_)
          clear hh hK K; try simp only [Act.put, List.setIfInBounds_toArray, List.set_cons_zero, List.set_cons_succ]
          clear t7
          refine held_ready (rs := [13]) (by kernel_rfl) (by simp) ?_
          refine AllReadyH.cons rfl (fun K hK => ?_) AllReadyH.nil
          go_simp
          have hs7 := HB7.out.size
          have HB8 := Lib.hid (HB47.out.alloc (by omega) (.cells #[.int .i64 (Z : Int)] 3))
          refine hK.out _ _ HB8.out (fun hh => ?_)
          clear hh hK K; try simp only [Act.put, List.setIfInBounds_toArray, List.set_cons_zero, List.set_cons_succ]
          refine held_ready (rs := [14]) (by kernel_rfl) (by simp) ?_
          refine AllReadyH.cons rfl (fun K hK => ?_) AllReadyH.nil
          have HR7 := Lib.hid (rowK_below HR6.out HB7.out)
          refine step_append_lies _ (by rfl) _ _ _ (by rfl) w4.heap.size 3 ii _ 1 8 Tryz.underlying69 hi0 hz0 hz1 hz2 rfl (by omega) (.slice ae k ce) k _ (by rfl) (HR7.out.alloc _) ⟨w7.heap.size, 0, none⟩ 1 1 [.int .i64 (Z : Int)] (by rfl) (by rfl) (World.news_of_block (cs := #[.int .i64 (Z : Int)]) (t := 3) (fr := (0, 0)) (heap_alloc_new w7 _)) (by simp [Value.oneCell']) (by omega) (by unfold maxLen; omega) (by omega) (by simp; omega) (w7.heap.size + 1) (by simp) ?_
          intro gg cap wA hownA hgrow hat hlt2
          have hbA : Below w4.heap.size w4 wA := HB8.out.grown hgrow (by simp; omega) (fun g hg => (HR7.out.lt g hg).1)
          refine hK.out _ _ hbA (fun hh => ?_)
          clear hh hK K; try simp only [Act.put, List.setIfInBounds_toArray, List.set_cons_zero, List.set_cons_succ]
          refine held_ready (rs := [15]) (by kernel_rfl) (by simp) ?_
          refine AllReadyH.cons rfl (fun K hK => ?_) AllReadyH.nil
          go_simp
          refine hK.out _ _ hbA (fun hh => ?_)
          clear hh hK K; try simp only [Act.put, List.setIfInBounds_toArray, List.set_cons_zero, List.set_cons_succ]
          refine wpAnyH_done (by kernel_rfl) (NoPanic.normal ?_) _
          have HRA := Lib.hid (show wA.ownsRow w4.heap.size 3 1 (.slice (some ⟨gg, 0, none⟩) (k + 1) cap) (k + 1) (((els ys).take (k + 1)).map fun k => Value.int .i64 ((k : Nat) : Int)) by rw [HTK.out, List.map_append]; exact hownA)
          have HBA := Lib.hid hbA
          clear hownA hgrow hat hlt2 hbA
          go_wp2_with fail
          go_roundw
          case rel => exact ⟨_, k + 1, rfl, by omega, by go_num, hno2, HBA.out, HRA⟩
          case measure => simp [intOf] <;> omega
        · have hne : (E != 0) = true := by simpa using hE0
          have hS : subS x ys = (⟨[], 0⟩, E) := by
            rw [HSS.out, hno.out, HDR.out, if_pos hE0, if_pos hE0]
          have HRS := Lib.hid hS
          have g4 := heap_below HB6.out GR4.out
          have t0 := cell_of_row _ _ 0 _ _ _ g4
          have t1 := cell_of_row _ _ 1 _ _ _ g4
          have z0 := frozen_row g4 0
          have z1 := frozen_row g4 1
          have G4 := Lib.hid g4
          clear g4 hS hE0 HDR HVY HSS
          go_wp2_with fail
          clear t0 t1 z0 z1
          generalize hWF : (w6.setCell _ _).setCell _ _ = WF
          obtain ⟨e1, hbf⟩ := fin_box G4.out (by omega) (Below.next HB4.out HB6.out) hWF
          have HBF := Lib.hid hbf
          have f0 := cell_of_row _ _ 0 _ _ _ e1
          have f1 := cell_of_row _ _ 1 _ _ _ e1
          clear hWF e1 hbf
          refine bodyPost_ret (v := .tuple #[.agg #[.slice none 0 0, .int .i64 0], .int .i64 E]) ?_ rfl (by rw [HRS.out]; exact RetX.none_ rfl HBF.out)
          rw [results_cell_tmp rfl]
          go_simp
      · obtain rfl : k = ln := by omega
        have hys : xprsE ys = 0 := by rw [hno.out, List.drop_of_length_le (by have := HLN.out; omega)]; rfl
        have HYS := Lib.hid (fun y hy => xprsE_ok hys y hy)
        have hS2 : Hid (subS x ys = if 60 < (treY x (subL ys)).sz then (⟨[], 0⟩, 3) else ((treY x (subL ys)).xpr, 0)) := Lib.hid (by rw [HSS.out, hys, if_neg (by simp)])
        have hsr := hb.size
        have hrow := HROW.out
        rw [List.take_of_length_le (by rw [els_len]; have := HLN.out; omega)] at hrow
        obtain ⟨ae, ce, rfl, hrd⟩ := rd_of_row hrow
        have gX := heap_below hb GX4.out
        have gR := heap_below hb GR4.out
        have hbw := Below.next HB4.out hb
        have HSZ := Lib.hid (fun (u : World) (hu : Below wr.heap.size wr u) => rsizes_c x HXX.out hf (subL ys) (els ys) (els_sub ys) a n c ae k ce u (HX.out.below (Below.next hbw hu)) (hrd.below hu))
        have HKS := Lib.hid (fun (u : World) (hu : Below wr.heap.size wr u) => (open2 (heap_below hu gX)).1)
        have HRT := Lib.hid (root_sz HXX.out (subL ys))
        obtain ⟨RT, hRT⟩ := Int.eq_ofNat_of_zero_le (xprE_ok HXX.out).root.1
        have hrn : RT < n := by have h1 := (xprE_ok HXX.out).root; have h2 := HX.out.len; omega
        have HRQ := Lib.hid hRT
        rw [hRT, Int.toNat_natCast] at HRT
        have hyl : x.nodes.length = n := HX.out.len
        rw [hyl] at HRT
        rw [hRT] at HSZ HKS ⊢
        have GX5 := Lib.hid gX
        have GR5 := Lib.hid gR
        have HBW := Lib.hid hbw
        clear hno hys HSS hb gX gR hbw hrow hrd HROW GX4 GR4
        obtain ⟨MZ, hMZ⟩ : ∃ MZ, min 1000 (treY x (subL ys)).sz = MZ := ⟨_, rfl⟩
        have HMZ : Hid (60 < MZ ↔ 60 < (treY x (subL ys)).sz) := Lib.hid (by omega)
        rw [hMZ] at HRT
        go_upto_region 12 with fail
        refine wp_region_noPanic ?_
        refine wp_region_takes (fun u => Below wr.heap.size wr u) [0, 1, 3, 4] 4 (by kernel_rfl) (by kernel_rfl) (by kernel_rfl) (fun _ _ _ _ _ h => h) (below_drew (Below.refl _ _)) ?_
        repeat (refine wpTk_cons rfl (fun K hK => ?_); go_simp; apply Exists.intro; refine ⟨fun u hu => ?_, hK _ ?_⟩; (first | exact rfl | (obtain ⟨q1, q2⟩ := HKS.out u hu; go_simp; done) | (obtain ⟨q1, q2⟩ := HKS.out u hu; go_simp; exact rfl)); clear hK K)
        refine wpTk_nil ?_
        refine held_ready (rs := [2]) (by kernel_rfl) (by simp) ?_
        refine AllReadyH.cons rfl (fun K hK => ?_) AllReadyH.nil
        go_simp
        with_reducible refine (HSZ.out _ (below_drew (Below.refl _ _))).mono ?_
        rintro e w7 ⟨a7, rfl, r7, b7⟩
        have HB7 := Lib.hid (below_undrew b7)
        obtain ⟨c7, o7, ha7, hc7⟩ := r7.at' (by omega)
        have t7 := hc7 RT _ HRT.out
        subst ha7
        clear b7 r7 hc7
        go_simp
        refine hK.out _ _ HB7.out (fun hh => ?_)
        clear hh hK K; try simp only [Act.put, List.setIfInBounds_toArray, List.set_cons_zero, List.set_cons_succ]
        refine held_ready (rs := [5]) (by kernel_rfl) (by simp) ?_
        refine AllReadyH.cons rfl (fun K hK => ?_) AllReadyH.nil
        go_simp
        refine hK.out _ _ HB7.out (fun hh => ?_)
        clear hh hK K; try simp only [Act.put, List.setIfInBounds_toArray, List.set_cons_zero, List.set_cons_succ]
        refine held_ready (rs := [6]) (by kernel_rfl) (by simp) ?_
        refine AllReadyH.cons rfl (fun K hK => ?_) AllReadyH.nil
        go_simp
        refine hK.out _ _ HB7.out (fun hh => ?_)
        clear hh hK K; try simp only [Act.put, List.setIfInBounds_toArray, List.set_cons_zero, List.set_cons_succ]
        clear t7
        refine held_ready (rs := [7]) (by kernel_rfl) (by simp) ?_
        refine AllReadyH.cons rfl (fun K hK => ?_) AllReadyH.nil
        go_simp
        refine hK.out _ _ HB7.out (fun hh => ?_)
        clear hh hK K; try simp only [Act.put, List.setIfInBounds_toArray, List.set_cons_zero, List.set_cons_succ]
        refine wpAnyH_done (by kernel_rfl) (NoPanic.normal ?_) _
        have GX7 := Lib.hid (heap_below HB7.out GX5.out)
        have GR7 := Lib.hid (heap_below HB7.out GR5.out)
        have HBF7 := Lib.hid (Below.next HBW.out HB7.out)
        have hs7 : w.heap.size + 2 ≤ w7.heap.size := by have := HB7.out.size; omega
        clear HSZ HRT hMZ HKS GX5 GR5 HB7
        by_cases hbig : 60 < (treY x (subL ys)).sz
        · have hd : decide ((60 : Int) < (MZ : Int)) = true := decide_eq_true (by have := HMZ.out.2 hbig; omega)
          have h60 : 60 < MZ := HMZ.out.2 hbig
          have hS : subS x ys = (⟨[], 0⟩, 3) := by rw [hS2.out, if_pos hbig]
          have HRS := Lib.hid hS
          have t0 := cell_of_row _ _ 0 _ _ _ GR7.out
          have t1 := cell_of_row _ _ 1 _ _ _ GR7.out
          have z0 := frozen_row GR7.out 0
          have z1 := frozen_row GR7.out 1
          clear hS hS2 hbig
          go_wp2_with fail
          clear t0 t1 z0 z1
          generalize hWF : (w7.setCell _ _).setCell _ _ = WF
          obtain ⟨e1, hbf⟩ := fin_box GR7.out (by omega) HBF7.out hWF
          have HBF := Lib.hid hbf
          have f0 := cell_of_row _ _ 0 _ _ _ e1
          have f1 := cell_of_row _ _ 1 _ _ _ e1
          clear hWF e1 hbf
          refine bodyPost_ret (v := .tuple #[.agg #[.slice none 0 0, .int .i64 0], .int .i64 3]) ?_ rfl (by rw [HRS.out]; exact RetX.none_ rfl HBF.out)
          rw [results_cell_tmp rfl]
          go_simp
        · have hd : decide ((60 : Int) < (MZ : Int)) = false := decide_eq_false (by have := HMZ.out; omega)
          have h60 : MZ ≤ 60 := by have := HMZ.out; omega
          have hS : subS x ys = ((treY x (subL ys)).xpr, 0) := by rw [hS2.out, if_neg hbig]
          have HRS := Lib.hid hS
          have HBIG := Lib.hid hbig
          have x0 := cell_of_row _ _ 0 _ _ _ GX7.out
          have x1 := cell_of_row _ _ 1 _ _ _ GX7.out
          have hT : treF x.nodes (subL ys) (x.root.toNat + 1) x.root.toNat = treY x (subL ys) := rfl
          have hWr := grow_c x HXX.out ys HYS.out w7 (x.root.toNat + 1) a n c la k lc (HX.out.below HBF7.out) (HL.out.below HBF7.out) x.root.toNat (Nat.lt_succ_self _) (by omega) w7 (fun _ => False) (.slice none 0 0) [] ⟨Below.refl _ _, XB.nil _ _ _ _ (fun _ h => h.elim)⟩ (by rw [hT]; simp; omega)
          rw [hT, hRT, Int.toNat_natCast] at hWr
          rw [hRT] at x1
          have HWR := Lib.hid hWr
          clear hS hS2 hbig hT hWr
          go_wp2_with fail
          clear x0 x1
          with_reducible refine HWR.out.mono ?_
          rintro e w9 ⟨v', S', rfl, k2, k3, k4, k5⟩
          obtain ⟨a', c', rfl, _⟩ := k2.shape
          have gR9 := (k3.blk (w.heap.size + 1) (by omega) (fun e => by cases e)).trans GR7.out
          have t0 := cell_of_row _ _ 0 _ _ _ gR9
          have t1 := cell_of_row _ _ 1 _ _ _ gR9
          have z0 := frozen_row gR9 0
          have z1 := frozen_row gR9 1
          have GR9 := Lib.hid gR9
          have HK2 := Lib.hid k2
          have HK5 := Lib.hid k5
          have HB9 := Lib.hid (HBF7.out.trans (k3.bel.mono (by omega)))
          have hs9 := k3.bel.size
          have hlp := (treY x (subL ys)).sz_pos
          have hln9 : ([] ++ (treY x (subL ys)).post 0).length = ((treY x (subL ys)).sz - 1) + 1 := by rw [List.nil_append, ET.post_len]; omega
          have hsz9 : (treY x (subL ys)).sz - 1 ≤ 60 := by have := HBIG.out; omega
          obtain ⟨RR, hRR⟩ : ∃ RR, (treY x (subL ys)).sz - 1 = RR := ⟨_, rfl⟩
          rw [hRR] at hln9 hsz9
          have HRR := Lib.hid hRR
          have HLN9 := Lib.hid hln9
          simp only [List.length_nil] at *
          rw [hln9]
          clear k2 k3 k4 k5 gR9 HWR hRR hln9 hlp
          go_wp2_with fail
          clear t0 t1 z0 z1
          generalize hWF : (w9.setCell _ _).setCell _ _ = WF
          obtain ⟨e1, hbf⟩ := fin_box GR9.out (by omega) HB9.out hWF
          have hkeep : ∀ g, g ≠ w.heap.size + 1 → WF.heap[g]? = w9.heap[g]? := fun g hg => by
            rw [← hWF, Below.heap_setCell _ ⟨w.heap.size + 1, 1, none⟩ _ g hg, Below.heap_setCell _ ⟨w.heap.size + 1, 0, none⟩ _ g hg]
          have hsF : WF.heap.size = w9.heap.size := by rw [← hWF]; simp
          have hS8 : ∀ g, S' g → w7.heap.size ≤ g := fun g hg => by
            rcases HK5.out g hg with h | h
            · exact h.elim
            · exact h
          have hxb := HK2.out.move (w' := WF) (fun g hg => hkeep g (by have := hS8 g hg; omega)) (fun g hg => hkeep g (by have := (HK2.out.lt_own g hg).1; omega)) (by omega)
          obtain ⟨a2, c2, e2, hxmr⟩ := hxb.xmr (lo := w.heap.size) (fun g hg => by have := hS8 g hg; omega) (by omega)
          cases e2
          have f0 := cell_of_row _ _ 0 _ _ _ e1
          have f1 := cell_of_row _ _ 1 _ _ _ e1
          have HXM := Lib.hid hxmr
          have HBF := Lib.hid hbf
          clear hWF e1 hkeep hS8 hxb hxmr hbf
          refine bodyPost_ret (v := .tuple #[.agg #[.slice a' (RR + 1) c', .int .i64 (RR : Int)], .int .i64 0]) ?_ rfl ?_
          · rw [results_cell_tmp rfl]
            go_simp
          · rw [HRS.out]
            have hx1 := HXM.out
            rw [List.nil_append] at hx1
            have hl1 := HLN9.out
            rw [List.nil_append] at hl1
            refine ⟨a', c', ?_, hx1, HBF.out⟩
            show _ = Ending.returned (.tuple #[.agg #[.slice a' ((treY x (subL ys)).post 0).length c', .int .i64 (((treY x (subL ys)).sz - 1 : Nat) : Int)], .int .i64 0])
            rw [hl1, HRR.out]
  · have hR : subS x ys = (⟨[], 0⟩, xprE x) := by unfold subS; rw [if_pos hx]
    obtain ⟨E, hE⟩ : ∃ E, xprE x = E := ⟨_, rfl⟩
    rw [hR, hE]
    rw [hE] at HV hx
    have hne : (E != 0) = true := by simpa using hx
    clear hR hE hx
    go_enter Tryz.func23, Tryz.ntmps23
    go_wp2_with fail
    generalize hW3 : (w.alloc _).alloc _ = W3
    obtain ⟨gX, gR, hb3, hs3⟩ := box2' hW3
    have GR := Lib.hid gR
    have HB3 := Lib.hid hb3
    have HS3 := Lib.hid hs3
    clear hW3 gX gR hb3 hs3
    with_reducible refine (HV.out W3 HB3.out).mono ?_
    rintro e w4 ⟨rfl, hb4⟩
    have g4 := heap_below hb4 GR.out
    have t0 := cell_of_row _ _ 0 _ _ _ g4
    have t1 := cell_of_row _ _ 1 _ _ _ g4
    have z0 := frozen_row g4 0
    have z1 := frozen_row g4 1
    have G4 := Lib.hid g4
    have HB4 := Lib.hid (Below.next HB3.out hb4)
    clear g4 hb4 GR HB3 HS3
    go_wp2_with fail
    clear t0 t1 z0 z1
    generalize hWF : (w4.setCell _ _).setCell _ _ = WF
    obtain ⟨e1, hbf⟩ := fin_box G4.out (by omega) HB4.out hWF
    have HBF := Lib.hid hbf
    have f0 := cell_of_row _ _ 0 _ _ _ e1
    have f1 := cell_of_row _ _ 1 _ _ _ e1
    clear hWF e1 hbf
    refine bodyPost_ret (v := .tuple #[.agg #[.slice none 0 0, .int .i64 0], .int .i64 E]) ?_ rfl (RetX.none_ rfl HBF.out)
    rw [results_cell_tmp rfl]
    go_simp

set_option maxRecDepth 100000 in
set_option maxHeartbeats 4000000 in
theorem rtidy_c (x : Xpr) (hsx : XprSum x) (hf : XprFew x) (a : Option Addr) (n c : Nat) (w : World) (h : XM w a n c x.nodes) :
    Calls Tryz.prog 28 #[.agg #[.slice a n c, .int .i64 x.root]] w fun e w' => RetX (tidS x).1 (tidS x).2 w e w' := by
  have HX := Lib.hid h
  have HS := Lib.hid (fun (u : World) (hb : Below w.heap.size w u) => rsubst_c x [] hsx (fun _ h => by cases h) hf (fun _ h => by cases h) a n c none 0 0 u (h.below hb) (LM.none_ _) (by omega))
  clear h
  rw [subS_nil] at HS
  obtain ⟨⟨X, E⟩, hQ⟩ : ∃ Q, tidS x = Q := ⟨_, rfl⟩
  rw [hQ] at HS ⊢
  simp only at HS
  clear hQ
  go_enter Tryz.func28, Tryz.ntmps28
  go_wp2_with fail
  generalize hW2 : (w.alloc _).alloc _ = W2
  obtain ⟨gX, gR, hb2, hs2⟩ := box2' hW2
  have GR := Lib.hid gR
  have HB2 := Lib.hid hb2
  have hw2 : w.heap.size + 2 ≤ W2.heap.size := by omega
  clear hW2 gX gR hb2 hs2
  with_reducible refine (HS.out W2 HB2.out).mono ?_
  rintro e w3 ⟨a3, c3, rfl, hx3, b3⟩
  have GR3 := Lib.hid (heap_below b3 GR.out)
  have HB3 := Lib.hid (Below.next HB2.out b3)
  have HX3 := Lib.hid hx3
  have t0 := cell_of_row _ _ 0 _ _ _ GR3.out
  have t1 := cell_of_row _ _ 1 _ _ _ GR3.out
  have z0 := frozen_row GR3.out 0
  have z1 := frozen_row GR3.out 1
  clear b3 hx3 HS GR
  go_wp2_with fail
  clear t0 t1 z0 z1
  generalize hWF : (w3.setCell _ _).setCell _ _ = WF
  obtain ⟨e1, hbf⟩ := fin_box GR3.out (by omega) HB3.out hWF
  have HBF := Lib.hid hbf
  have HXF := Lib.hid (xmr_box HX3.out (by omega) hWF)
  have f0 := cell_of_row _ _ 0 _ _ _ e1
  have f1 := cell_of_row _ _ 1 _ _ _ e1
  clear hWF e1 hbf
  refine bodyPost_ret (v := .tuple #[.agg #[.slice a3 X.nodes.length c3, .int .i64 X.root], .int .i64 E]) ?_ rfl ?_
  · rw [results_cell_tmp rfl]
    go_simp
  · exact ⟨a3, c3, rfl, fun w2 hg => HXF.out w2 fun g h1 h2 => hg g (by omega) h2, HBF.out⟩
end Go.Proofs.YtcojmmhclklpoaaGreatDoor
namespace Go.Proofs.YtcojmmhclklpoaaGreatDoor
open Go.RowKit Go.Shelf

set_option maxRecDepth 100000 in
set_option maxHeartbeats 4000000 in
theorem rsimplify_c (x : Xpr) (hsx : XprSum x) (hf : XprFew x) (a : Option Addr) (n c : Nat) (w : World) (h : XM w a n c x.nodes) :
    Calls Tryz.prog 36 #[.agg #[.slice a n c, .int .i64 x.root]] w fun e w' => RetX (smpS x).1 (smpS x).2 w e w' := by
  have HS := Lib.hid (fun (u : World) (hu : Below w.heap.size w u) => rtidy_c x hsx hf a n c u (h.below hu))
  clear h
  by_cases hE : (tidS x).2 = 0
  · obtain ⟨hx, hz, h1⟩ := tidS_ok hE
    have hR : smpS x = ((treX x).simp.xpr, 0) := by unfold smpS; rw [if_neg (by rw [hE]; simp)]
    rw [hR]
    have hok := treX_ok (xprE_ok hx)
    have hyx := treX_xpr (treX x)
    have hyE := xpr_ok hok hz
    have hso := simp_ok (treX x) hok (by omega)
    obtain ⟨T, hT⟩ : ∃ T, treX x = T := ⟨_, rfl⟩
    rw [hT] at h1 hz hok hyx hyE hso ⊢
    rw [h1, hE] at HS
    have HYX := Lib.hid hyx
    have HYE := Lib.hid hyE
    have HOK := Lib.hid hok
    have HSO := Lib.hid hso.1
    have hzs := hso.2
    have hlen : (T.post 0).length = T.sz := T.post_len 0
    have hpos := T.sz_pos
    have hxr : T.xpr.root = ((T.sz - 1 : Nat) : Int) := rfl
    have hxn : T.xpr.nodes = T.post 0 := rfl
    have HXR := Lib.hid hxr
    have HXN := Lib.hid hxn
    have HLE := Lib.hid hlen
    clear hR h1 hE hx hT hok hyx hyE hxr hxn hlen hso
    go_enter Tryz.func36, Tryz.ntmps36
    go_wp2_with fail
    generalize hW2 : (w.alloc _).alloc _ = W2
    obtain ⟨gX, gR, hb2, hs2⟩ := box2 hW2
    have GR := Lib.hid gR
    have HB2 := Lib.hid hb2
    clear hW2 gX gR hb2
    with_reducible refine (HS.out W2 HB2.out).mono ?_
    rintro e w3 ⟨a', c', rfl, hxm, hb3⟩
    obtain ⟨N3, hN3⟩ : ∃ N3, T.xpr.nodes.length = N3 := ⟨_, rfl⟩
    obtain ⟨RT, hRT⟩ : ∃ RT, T.xpr.root = RT := ⟨_, rfl⟩
    have hxm2 := hxm.xm
    rw [hN3] at hxm2 ⊢
    rw [hRT]
    obtain ⟨w4, hw4⟩ : ∃ w4, w4 = w3.alloc (.cells #[.slice a' N3 c', .int .i64 RT] 32) := ⟨_, rfl⟩
    have hb4 : Below w3.heap.size w3 w4 := by rw [hw4]; exact (Below.refl _ _).alloc (Nat.le_refl _) _
    have gY : w4.heap[w3.heap.size]? = some (.cells #[.slice a' N3 c', .int .i64 RT] 32 (0, 0)) := by rw [hw4]; exact heap_alloc_new _ _
    have HB4 := Lib.hid (Below.next HB2.out (Below.next hb3 hb4))
    have hs3 := hb3.size
    have hs4 := hb4.size
    have GR4 := Lib.hid (heap_below (Below.next hb3 hb4) GR.out)
    have HX4 := Lib.hid (hxm2.below hb4)
    obtain ⟨y0, y1⟩ := (open2 gY).1
    have hTr : treF T.xpr.nodes noSub (T.sz - 1 + 1) (T.sz - 1) = T := by
      have := HYX.out
      unfold treX at this
      rw [HXR.out, Int.toNat_natCast] at this
      exact this
    have hPL := tree_c T.xpr HYE.out w4 (T.sz - 1 + 1) (T.sz - 1) (by omega) (by rw [HXN.out, HLE.out]; omega) a' N3 c' HX4.out w4 (Below.refl _ _) (by rw [hTr]; omega)
    rw [hTr, ← HXR.out, hRT] at hPL
    unfold RetR at hPL
    have HPL := Lib.hid hPL
    rw [hw4] at y0 y1
    clear hxm hxm2 hb3 hb4 gY hTr hPL HS
    go_wp2_with fail
    rw [← hw4]
    clear y0 y1
    with_reducible refine HPL.out.mono ?_
    rintro e w5 ⟨kd, sv, nd, aw, nw, cw, an, nn, cn, ak, nk, ck, ap, np, cp, rfl, hT5, hb5⟩
    have hsz5 := hb5.size
    have hSI := rsimple_c T.sz T (Nat.le_refl _) HOK.out (by omega) _ ⟨kd, sv, nd, .slice aw nw cw, .slice an nn cn, .slice ak nk ck, .slice ap np cp⟩ w5 hT5 (fun g hg => by
      rcases hg with hg | hg
      · omega
      · exact hg.2)
    unfold rtA RetR at hSI
    have HSI := Lib.hid hSI
    have HB5 := Lib.hid (Below.next HB4.out hb5)
    have GR5 := Lib.hid (heap_below hb5 GR4.out)
    clear hSI hT5 hb5 HPL hw4
    go_wp2_with fail
    with_reducible refine HSI.out.mono ?_
    rintro e w6 ⟨kd6, sv6, nd6, aw6, nw6, cw6, an6, nn6, cn6, ak6, nk6, ck6, ap6, np6, cp6, rfl, hT6, hb6⟩
    have GR6 := Lib.hid (heap_below hb6 GR5.out)
    have HB6 := Lib.hid (Below.next HB5.out hb6)
    have hs6 := hb6.size
    have hLI := listed_c w6 T.simp.sz T.simp (Nat.le_refl _) _ hT6.r HSO.out w6 (fun _ => False) (.slice none 0 0) [] ⟨Below.refl _ _, XB.nil _ _ _ _ (fun _ h => h.elim)⟩ (by show 0 + _ ≤ 1000; omega)
    unfold rtA at hLI
    have HLI := Lib.hid hLI
    clear hT6 hb6 HSI hLI
    go_wp2_with fail
    with_reducible refine HLI.out.mono ?_
    rintro e w9 ⟨v', S', rfl, k2, k3, k4, k5⟩
    obtain ⟨a9, c9, rfl, _⟩ := k2.shape
    have gR9 := (k3.blk (w.heap.size + 1) (by omega) (fun e => by cases e)).trans GR6.out
    have t0 := cell_of_row _ _ 0 _ _ _ gR9
    have t1 := cell_of_row _ _ 1 _ _ _ gR9
    have z0 := frozen_row gR9 0
    have z1 := frozen_row gR9 1
    have GR9 := Lib.hid gR9
    have HK2 := Lib.hid k2
    have HK5 := Lib.hid k5
    have HB9 := Lib.hid (HB6.out.trans (k3.bel.mono (by omega)))
    have hs9 := k3.bel.size
    have hln9 : ([] ++ T.simp.post ([] : List Nod).length).length = (T.simp.sz - 1) + 1 := by
      have := T.simp.sz_pos
      rw [List.nil_append, ET.post_len]; omega
    obtain ⟨RR, hRR⟩ : ∃ RR, T.simp.sz - 1 = RR := ⟨_, rfl⟩
    rw [hRR] at hln9
    have HLN := Lib.hid hln9
    have HRR := Lib.hid hRR
    have hRl : RR ≤ 100000 := by omega
    rw [hln9]
    clear k2 k3 k4 k5 gR9 HLI hln9 hRR
    go_wp2_with fail
    clear t0 t1 z0 z1
    generalize hWF : (w9.setCell _ _).setCell _ _ = WF
    obtain ⟨e1, hbf⟩ := fin_box GR9.out (by omega) HB9.out hWF
    have hkeep : ∀ g, g ≠ w.heap.size + 1 → WF.heap[g]? = w9.heap[g]? := fun g hg => by
      rw [← hWF, Below.heap_setCell _ ⟨w.heap.size + 1, 1, none⟩ _ g hg, Below.heap_setCell _ ⟨w.heap.size + 1, 0, none⟩ _ g hg]
    have hsF : WF.heap.size = w9.heap.size := by rw [← hWF]; simp
    have hS8 : ∀ g, S' g → w.heap.size + 2 ≤ g := fun g hg => by
      rcases HK5.out g hg with h | h
      · exact h.elim
      · omega
    have hxb := HK2.out.move (w' := WF) (fun g hg => hkeep g (by have := hS8 g hg; omega)) (fun g hg => hkeep g (by have := (HK2.out.lt_own g hg).1; omega)) (by omega)
    obtain ⟨a2, c2, e2, hxmr⟩ := hxb.xmr (lo := w.heap.size) (fun g hg => by have := hS8 g hg; omega) (by omega)
    have hnl : ([] ++ T.simp.post ([] : List Nod).length) = T.simp.xpr.nodes := by rw [List.nil_append]; rfl
    cases e2
    rw [hnl] at hxmr
    have f0 := cell_of_row _ _ 0 _ _ _ e1
    have f1 := cell_of_row _ _ 1 _ _ _ e1
    have hroot : T.simp.xpr.root = (RR : Int) := by
      show ((T.simp.sz - 1 : Nat) : Int) = _
      rw [HRR.out]
    have hlx : T.simp.xpr.nodes.length = RR + 1 := by rw [← hnl]; exact HLN.out
    have HXM := Lib.hid hxmr
    have HBF := Lib.hid hbf
    have HROOT := Lib.hid hroot
    have HLX := Lib.hid hlx
    clear hWF e1 hkeep hS8 hxb hxmr hbf hroot hlx hnl
    refine bodyPost_ret (v := .tuple #[.agg #[.slice a9 (RR + 1) c9, .int .i64 (RR : Int)], .int .i64 0]) ?_ rfl (by
      unfold RetX
      rw [HROOT.out, HLX.out]
      have h9 := HXM.out
      rw [HLX.out] at h9
      exact ⟨a9, c9, rfl, h9, HBF.out⟩)
    rw [results_cell_tmp rfl]
    go_simp
  · have hR : smpS x = (⟨[], 0⟩, (tidS x).2) := by unfold smpS; rw [if_pos hE]
    rw [hR]
    obtain ⟨R, hRR⟩ : ∃ R, tidS x = R := ⟨_, rfl⟩
    rw [hRR] at HS hE ⊢
    obtain ⟨y, er⟩ := R
    simp only at HS hE ⊢
    have hne : (er != 0) = true := by simpa using hE
    clear hR hRR hE
    go_enter Tryz.func36, Tryz.ntmps36
    go_wp2_with fail
    generalize hW2 : (w.alloc _).alloc _ = W2
    obtain ⟨gX, gR, hb2, hs2⟩ := box2 hW2
    have GR := Lib.hid gR
    have HB2 := Lib.hid hb2
    clear hW2 gX gR hb2
    with_reducible refine (HS.out W2 HB2.out).mono ?_
    rintro e w3 ⟨a', c', rfl, hxm, hb3⟩
    obtain ⟨wE, hwE⟩ : ∃ wE, wE = w3.alloc (.cells #[.slice a' y.nodes.length c', .int .i64 y.root] 32) := ⟨_, rfl⟩
    have hbE : Below w3.heap.size w3 wE := by rw [hwE]; exact (Below.refl _ _).alloc (Nat.le_refl _) _
    have gR3 := heap_below (Below.next hb3 hbE) GR.out
    have t0 := cell_of_row _ _ 0 _ _ _ gR3
    have t1 := cell_of_row _ _ 1 _ _ _ gR3
    have z0 := frozen_row gR3 0
    have z1 := frozen_row gR3 1
    have GR3 := Lib.hid gR3
    have HB3 := Lib.hid (Below.next HB2.out (Below.next hb3 hbE))
    rw [hwE] at t0 t1 z0 z1
    clear gR3 hb3 hxm HS GR HB2 hbE
    go_wp2_with fail
    rw [← hwE]
    clear t0 t1 z0 z1 hwE
    generalize hWF : (wE.setCell _ _).setCell _ _ = WF
    obtain ⟨e1, hbf⟩ := fin_box GR3.out (by omega) HB3.out hWF
    have HBF := Lib.hid hbf
    have f0 := cell_of_row _ _ 0 _ _ _ e1
    have f1 := cell_of_row _ _ 1 _ _ _ e1
    clear hWF e1 hbf
    refine bodyPost_ret (v := .tuple #[.agg #[.slice none 0 0, .int .i64 0], .int .i64 er]) ?_ rfl (RetX.none_ rfl HBF.out)
    rw [results_cell_tmp rfl]
    go_simp
end Go.Proofs.YtcojmmhclklpoaaGreatDoor
namespace Go.Proofs.YtcojmmhclklpoaaGreatDoor

/-- do the same sets satisfy both -/
def eqvB (x y : Xpr) : Bool := (subsS (srvX x ||| srvX y)).all fun s => holdX x s == holdX y s
def eqvE (x y : Xpr) : Bool × Int := if xprE x ≠ 0 then (false, xprE x) else if xprE y ≠ 0 then (false, xprE y) else (eqvB x y, 0)
theorem eqv_iff {x y : Xpr} (hx : XprOk x) (hy : XprOk y) : eqvB x y = true ↔ ∀ s, holdX x s = holdX y s := by
  unfold eqvB
  rw [List.all_eq_true]
  constructor
  · intro h s
    have h1 := h (s &&& (srvX x ||| srvX y)) (mem_subs fun p hp => by rw [hasB_and, Bool.and_eq_true] at hp; exact hp.2)
    have e1 : holdX x (s &&& (srvX x ||| srvX y)) = holdX x s := holdX_only hx fun p hp => by rw [hasB_and, hasB_or, hp, Bool.true_or, Bool.and_true]
    have e2 : holdX y (s &&& (srvX x ||| srvX y)) = holdX y s := holdX_only hy fun p hp => by rw [hasB_and, hasB_or, hp, Bool.or_true, Bool.and_true]
    rw [e1, e2] at h1
    exact eq_of_beq h1
  · intro h s _
    rw [h s]; simp
end Go.Proofs.YtcojmmhclklpoaaGreatDoor
namespace Go.Proofs.YtcojmmhclklpoaaGreatDoor
open Go.RowKit
section
variable {F : Fence} {d : Nat} {P : Program} {ops : Array Oper} {md : Region.Mode} {C : World → Prop}

def noDefer (ops : Array Oper) : Bool := ops.all fun o => match o.op with | .defer _ => false | _ => true
theorem noDefer_at {ops : Array Oper} (h : noDefer ops = true) {i : Nat} {o : Oper} (hi : ops[i]? = some o) : ∀ c, o.op ≠ .defer c := fun c hc => by
  unfold noDefer at h
  obtain ⟨hlt, e⟩ := Array.getElem?_eq_some_iff.1 hi
  have := Array.all_eq_true.1 h i hlt
  rw [e, hc] at this
  cases this
theorem wpIn_of_quiet_r {o : Oper} {a : Act} {K : Act → Prop} {K' : Act → World → Prop} {Q' : Exit → Act → World → Prop} {w : World} (hnd : ∀ c, o.op ≠ .defer c) (hw : C w) (h : ∀ a w', C w' → K a → K' a w')
    (ha : o.askedIn F P a C) (hh : o.quietIn F d P a C K) : o.wpIn F d P a w K' Q' := by
  obtain ⟨v, h1, h2⟩ := hh
  have h3 := h1 w hw
  unfold Oper.quietAtIn at h3
  unfold Oper.wpIn
  refine ⟨ha w hw, ?_⟩
  rw [Oper.semAt_plain F _ _ hnd]
  generalize (execOp a.eval o).run P w = r at *
  cases r with
  | ok x w' =>
    cases x <;> simp only [Oper.quietUponIn] at h3 <;> simp only [Oper.uponIn]
    case value u =>
      obtain ⟨e1, e2⟩ := h3
      rw [e1, e2]
      exact h _ _ hw h2
    case skip =>
      obtain ⟨e1, e2⟩ := h3
      rw [e1, ← e2]
      exact h _ _ hw h2
    case enter f args =>
      obtain ⟨e1, hd, hc⟩ := h3
      rw [e1]
      exact ⟨hd, hc.mono fun e w'' ⟨he, hw''⟩ => by subst he; exact h _ _ hw'' h2⟩
  | halt x w' => simp only [Oper.quietUponIn] at h3
theorem wpOpIn_of_qOpIn_r {i : Nat} {a : Act} {K : Act → Prop} {K' : Act → World → Prop} {Q' : Exit → Act → World → Prop} {w : World} (hnd : noDefer ops = true) (hC : C w) (h : ∀ a w', C w' → K a → K' a w')
    (hh : qOpIn F d P ops C i K a) : wpOpIn F d P ops Q' i K' a w := by
  unfold qOpIn at hh
  unfold wpOpIn
  split
  · rename_i ho; simp only [ho] at hh; exact h _ _ hC hh
  · rename_i o ho
    simp only [ho] at hh
    obtain ⟨ha, hh⟩ := hh
    split
    · rename_i hw; simp only [hw, if_true] at hh; exact wpIn_of_quiet_r (noDefer_at hnd ho) hC h ha hh
    · rename_i hw; simp only [hw] at hh; exact ⟨ha w hC, h _ _ hC hh⟩
theorem wpAnyIn_of_quiet_r {Q : Act → Prop} {Q' : Exit → Act → World → Prop} (hnd : noDefer ops = true) (hQ : ∀ a w, C w → Q a → Q' .normal a w) : ∀ (fuel : Nat) (listed : Array Bool) (a : Act) (w : World), C w →
    wpAnyQIn F d P md ops C Q fuel listed a → wpAnyIn F d P md ops Q' fuel listed a w
  | 0, _, _, _, hw, h => ⟨h.1, hQ _ _ hw h.2⟩
  | fuel + 1, _, _, _, hw, h => ⟨fun h0 => hQ _ _ hw (h.1 h0), fun i hi => wpOpIn_of_qOpIn_r hnd hw (fun a' w' hw' => wpAnyIn_of_quiet_r hnd hQ fuel _ a' w' hw') (h.2 i hi)⟩
/-- one walk of the order of the text serves every order, in a round too -/
theorem wpIn_region_quiet_r {id : Nat} {Q : Exit → Act → World → Prop} {a : Act} {w : World} {l : List Oper} (C : World → Prop) (hm : P.follows .mixedOrders = true) (hB : (noDefer l.toArray && Region.lexB .any l.toArray) = true) (hC : C { w with drawn := w.drawn + 1 })
    (h : wpQuietIn F d P l.toArray C (fun a' => ∀ w', C w' → Q .normal a' w') l a) : (Code.region id l.toArray true).wpIn F d P Q a w := by
  simp only [Region.lexB, Bool.and_eq_true] at hB
  refine wpIn_region_any hm (wpAnyIn_of_quiet_r (Q := fun a' => ∀ w', C w' → Q .normal a' w') hB.1 (fun _ w' hw' h => h w' hw') _ _ _ _ hC ?_)
  have := wpAnyQIn_lex (F := F) (n := d) (C := C) (md := .any) hB.2.1 l 0 (Array.replicate l.length false) a (by simp) (by simpa using hB.2.2) h
  simpa using this

def headQIn (F : Fence) (d : Nat) (P : Program) (md : Region.Mode) (ops : Array Oper) (C : World → Prop) (n : Nat) (L : Array Bool → Act → Prop) : Nat → Array Bool → Act → Prop
  | 0, listed, a => L listed a
  | f + 1, listed, a => Region.ready md ops listed ≠ [] ∧ ∀ i ∈ Region.ready md ops listed, i < n ∧ qOpIn F d P ops C i (headQIn F d P md ops C n L f (listed.setIfInBounds i true)) a

theorem any_of_headQIn {n g : Nat} {L : Array Bool → Act → Prop} {Q' : Exit → Act → World → Prop} (hnd : noDefer ops = true) (hL : ∀ listed a w, C w → L listed a → wpAnyIn F d P md ops Q' g listed a w) :
    ∀ (f : Nat) (listed : Array Bool) (a : Act) (w : World), C w → headQIn F d P md ops C n L f listed a → wpAnyIn F d P md ops Q' (f + g) listed a w
  | 0, listed, a, w, hw, h => by rw [Nat.zero_add]; exact hL _ _ _ hw h
  | f + 1, listed, a, w, hw, h => by
    rw [show f + 1 + g = (f + g) + 1 by omega]
    exact ⟨fun h0 => absurd h0 h.1, fun i hi => wpOpIn_of_qOpIn_r hnd hw (fun a' w' hw' h' => any_of_headQIn hnd hL f _ a' w' hw' h') (h.2 i hi).2⟩

theorem headQIn_first {n i : Nat} {oi : Oper} {v : Value} {L : Array Bool → Act → Prop} (hi : ops[i]? = some oi) (hsel : ∀ (j : Nat) (o : Oper) cs b, ops[j]? = some o → o.op ≠ .select cs b)
    (hs : Region.sinkB md ops n = true) (hc : Region.chainB md ops n = true) (hn : n < ops.size) (hin : i < n)
    (hdone : ∀ listed a, L listed a → ∀ j ∈ Region.ready md ops listed, n ≤ j) :
    ∀ (f : Nat) (listed : Array Bool) (a : Act), HeadInv md ops n listed →
      (∀ j oj, ops[j]? = some oj → j ≠ i → listed.getD j true = false → (∀ e ∈ oj.after, Region.binds md e = true → e.on ≠ i) → oi.apart ops oj = true) →
      i ∈ Region.ready md ops listed → YieldsQuiet F d P ops C oi v a →
      headQIn F d P md ops C n L f (listed.setIfInBounds i true) (a.put oi.dst v) → headQIn F d P md ops C n L (f + 1) listed a := by
  intro f
  induction f with
  | zero =>
    intro listed a inv _ hr hy H
    have hun := (mem_ready.1 hr).1
    refine ⟨fun h => (by rw [h] at hr; cases hr), fun j hj => ?_⟩
    have hjn : j < n := by
      rcases Nat.lt_or_ge j n with h | h
      · exact h
      · exact absurd hj (tail_waits hs hc hn inv _ i rfl hin hun j h)
    refine ⟨hjn, ?_⟩
    by_cases hji : j = i
    · subst hji; exact hy.qOpIn hi H
    · have := hdone _ _ H j (ready_mono hj hji)
      omega
  | succ f ih =>
    intro listed a inv hfree hr hy H
    have hun := (mem_ready.1 hr).1
    refine ⟨fun h => (by rw [h] at hr; cases hr), fun j hj => ?_⟩
    have hjn : j < n := by
      rcases Nat.lt_or_ge j n with h | h
      · exact h
      · exact absurd hj (tail_waits hs hc hn inv _ i rfl hin hun j h)
    refine ⟨hjn, ?_⟩
    by_cases hji : j = i
    · subst hji; exact hy.qOpIn hi H
    · have h1 := (H.2 j (ready_mono hj hji)).2
      obtain ⟨hjun, oj, hoj, hall⟩ := mem_ready.1 hj
      have hnot : ∀ e ∈ oj.after, Region.binds md e = true → e.on ≠ i := fun e he hb heq => by
        have h1 := hall e he hb
        rw [heq, getD_both hun] at h1
        cases h1
      have h2 := qOpIn_put hoj (hfree j oj hoj hji hjun hnot) (fun cs b => hsel i oi cs b hi) (fun cs b => hsel j oj cs b hoj) hy h1
      have hfree' : ∀ k ok, ops[k]? = some ok → k ≠ i → (listed.setIfInBounds j true).getD k true = false →
          (∀ e ∈ ok.after, Region.binds md e = true → e.on ≠ i) → oi.apart ops ok = true := fun k ok hk hki hun hno => by
        refine hfree k ok hk hki ?_ hno
        by_cases hjk : j = k
        · subst hjk; exact hjun
        · rw [getD_set_ne true hjk] at hun; exact hun
      refine qOpIn_mono (fun a' h3 => ih (listed.setIfInBounds j true) a' (inv.set hj hjn) hfree' (ready_mono hr (Ne.symm hji)) h3.1 ?_) h2
      rw [Array.setIfInBounds_comm _ _ hji]
      exact h3.2

theorem headQIn_lex {n g : Nat} {Lq : Act → Prop} (hsel : Region.noSelect ops = true) (hs : Region.sinkB md ops n = true) (hc : Region.chainB md ops n = true) (hn : n < ops.size) :
    ∀ (l : List Oper) (k : Nat) (listed : Array Bool) (a : Act), (∀ j, j < l.length → l[j]? = ops[k + j]?) → k + l.length = n → HeadInv md ops n listed →
    Region.lexHead md ops g l.length k listed = true → wpQuietIn F d P ops C Lq l a →
    headQIn F d P md ops C n (fun listed' a' => Region.seqB md ops g n listed' = true ∧ Lq a') l.length listed a
  | [], k, listed, a, _, hk, _, hB, h => by
    have : k = n := by simpa using hk
    subst this
    exact ⟨by simpa [Region.lexHead] using hB, h⟩
  | o :: l, k, listed, a, hl, hk, inv, hB, h => by
    have h0 : ops[k]? = some o := by simpa using (hl 0 (by simp)).symm
    simp only [List.length_cons, Region.lexHead, Bool.and_eq_true] at hB
    obtain ⟨⟨hr, hf⟩, hB'⟩ := hB
    have hkn : k < n := by simp only [List.length_cons] at hk; omega
    have hr' : k ∈ Region.ready md ops listed := by simpa using hr
    have hst : qOpIn F d P ops C k (wpQuietIn F d P ops C Lq l) a := by unfold qOpIn; simp only [h0]; exact h
    obtain ⟨v, hy, hK⟩ := yieldsQuiet_of_qOpIn h0 hst
    exact headQIn_first h0 (Region.noSelect_spec hsel) hs hc hn hkn (fun listed' a' hL => seqB_ready hL.1) l.length listed a inv (Region.free_spec h0 hf) hr' hy
      (headQIn_lex hsel hs hc hn l (k + 1) _ _ (fun j hj => by have := hl (j + 1) (by simp; omega); simpa [Nat.add_assoc, Nat.add_comm 1 j] using this) (by simp only [List.length_cons] at hk; omega) (inv.set hr' hkn) hB' hK)

theorem wpAnyIn_of_seq {Q' : Exit → Act → World → Prop} : ∀ (l : List Oper) (k : Nat) (listed : Array Bool) (a : Act) (w : World), (∀ j, l[j]? = ops[k + j]?) →
    Region.seqB md ops l.length k listed = true → wpListIn F d P ops Q' l a w → wpAnyIn F d P md ops Q' l.length listed a w
  | [], _, _, _, _, _, hB, h => ⟨by simpa [Region.seqB] using hB, h⟩
  | o :: l, k, listed, a, w, hl, hB, h => by
    have h0 : ops[k]? = some o := by simpa using (hl 0).symm
    simp only [List.length_cons, Region.seqB, Bool.and_eq_true, decide_eq_true_eq] at hB
    refine ⟨fun h1 => (by rw [hB.1] at h1; cases h1), fun i hi => ?_⟩
    rw [hB.1] at hi
    have hik : i = k := by simpa using hi
    subst hik
    have hw : wpOpIn F d P ops Q' i (wpListIn F d P ops Q' l) a w := by unfold wpOpIn; simp only [h0]; exact h
    exact wpOpIn_mono (fun a' w' h' => wpAnyIn_of_seq l (i + 1) _ a' w' (fun j => by have := hl (j + 1); simpa [Nat.add_assoc, Nat.add_comm 1 j] using this) hB.2 h') hw
/-- one walk in the order of the text serves every order; the tail stands behind, in any world of the class -/
theorem wpIn_region_quiet_tail {id : Nat} {Q : Exit → Act → World → Prop} {a : Act} {w : World} {l : List Oper} (C : World → Prop) (n : Nat) (hm : P.follows .mixedOrders = true) (hB : (noDefer l.toArray && Region.lexTailB .any l.toArray n) = true) (hC : C { w with drawn := w.drawn + 1 })
    (h : wpQuietIn F d P l.toArray C (fun a' => ∀ w', C w' → wpListIn F d P l.toArray Q (l.drop n) a' w') (l.take n) a) : (Code.region id l.toArray true).wpIn F d P Q a w := by
  simp only [Region.lexTailB, Bool.and_eq_true, decide_eq_true_eq] at hB
  obtain ⟨hnd, ⟨⟨⟨hsel, hn⟩, hs⟩, hc⟩, hlex⟩ := hB
  have hn' : n < l.length := by simpa using hn
  have htl : (l.take n).length = n := by simp; omega
  have hdl : (l.drop n).length = l.toArray.size - n := by simp
  have inv0 : HeadInv .any l.toArray n (Array.replicate l.toArray.size false) :=
    ⟨by simp, fun j oj _ hl => (by rw [getD_replicate_false] at hl; cases hl), fun t _ ht => getD_in (by simpa using ht) (getD_replicate_false _ _)⟩
  have H := headQIn_lex (md := .any) (C := C) (g := l.toArray.size - n) hsel hs hc hn (l.take n) 0 _ a (fun j hj => by
    have hj' : j < n := by rw [htl] at hj; exact hj
    simp [hj']) (by simpa using htl) inv0 (by rw [htl]; exact hlex) h
  refine wpIn_region_any hm ?_
  have := any_of_headQIn (Q' := Q) (g := l.toArray.size - n) hnd (fun listed a' w' hw' hL => by
    have := wpAnyIn_of_seq (md := .any) (Q' := Q) (l.drop n) n listed a' w' (fun j => by simp [List.getElem?_drop]) (by rw [hdl]; exact hL.1) (hL.2 w' hw')
    rwa [hdl] at this) _ _ _ _ hC H
  rw [htl, show n + (l.toArray.size - n) = l.toArray.size by omega] at this
  exact this
end
end Go.Proofs.YtcojmmhclklpoaaGreatDoor
namespace Go.Proofs.YtcojmmhclklpoaaGreatDoor
open Go.RowKit Go.Shelf
attribute [local go_sem] Oper.semAt_some
attribute [local simp] wide_fnx

theorem box5 {w W5 : World} {c0 c1 c2 c3 c4 : Array Value} {t0 t1 t2 t3 t4 : TypeId} (h : ((((w.alloc (.cells c0 t0)).alloc (.cells c1 t1)).alloc (.cells c2 t2)).alloc (.cells c3 t3)).alloc (.cells c4 t4) = W5) :
    W5.heap[w.heap.size]? = some (.cells c0 t0 (0, 0)) ∧ W5.heap[w.heap.size + 1]? = some (.cells c1 t1 (0, 0)) ∧ W5.heap[w.heap.size + 1 + 1]? = some (.cells c2 t2 (0, 0)) ∧ W5.heap[w.heap.size + 1 + 1 + 1]? = some (.cells c3 t3 (0, 0)) ∧ W5.heap[w.heap.size + 1 + 1 + 1 + 1]? = some (.cells c4 t4 (0, 0)) ∧ Below w.heap.size w W5 ∧ W5.heap.size = w.heap.size + 5 := by
  obtain ⟨W3, hW3⟩ : ∃ W3, ((w.alloc (.cells c0 t0)).alloc (.cells c1 t1)).alloc (.cells c2 t2) = W3 := ⟨_, rfl⟩
  rw [hW3] at h
  obtain ⟨g0, g1, g2, hb, hs⟩ := box3 hW3
  obtain ⟨g3, g4, hb2, hs2⟩ := box2' h
  have e : w.heap.size + 1 + 1 + 1 = W3.heap.size := by omega
  rw [e]
  exact ⟨heap_below hb2 g0, heap_below hb2 g1, heap_below hb2 g2, g3, g4, hb.trans (hb2.mono (by omega)), by omega⟩
theorem fin2 {w w4 WF : World} {R E : Nat} {p u q z : Value} {t t' : TypeId} (hR : w4.heap[R]? = some (.cells #[p] t (0, 0))) (hE : w4.heap[E]? = some (.cells #[q] t' (0, 0))) (hne : R ≠ E) (hRb : w.heap.size ≤ R) (hEb : w.heap.size ≤ E) (hb : Below w.heap.size w w4) (hW : (w4.setCell ⟨R, 0, none⟩ u).setCell ⟨E, 0, none⟩ z = WF) :
    WF.heap[R]? = some (.cells #[u] t (0, 0)) ∧ WF.heap[E]? = some (.cells #[z] t' (0, 0)) ∧ Below w.heap.size w WF ∧ (∀ g, g ≠ R → g ≠ E → WF.heap[g]? = w4.heap[g]?) ∧ WF.heap.size = w4.heap.size := by
  subst hW
  have h1 : (w4.setCell ⟨R, 0, none⟩ u).heap[R]? = some (.cells #[u] t (0, 0)) := by rw [heap_set_at hR]; rfl
  have h2 : (w4.setCell ⟨R, 0, none⟩ u).heap[E]? = some (.cells #[q] t' (0, 0)) := heap_set_other (Ne.symm hne) _ _ hE
  refine ⟨heap_set_other hne _ _ h1, by rw [heap_set_at h2]; rfl, (hb.setCell (p := ⟨R, 0, none⟩) hRb _).setCell (p := ⟨E, 0, none⟩) hEb _, fun g h3 h4 => ?_, by simp⟩
  rw [Below.heap_setCell _ ⟨E, 0, none⟩ _ g h4, Below.heap_setCell _ ⟨R, 0, none⟩ _ g h3]
set_option maxRecDepth 100000 in
set_option maxHeartbeats 8000000 in
theorem equiv_in (x y : Xpr) (hfx : XprFew x) (hfy : XprFew y) (a : Option Addr) (n c : Nat) (a2 : Option Addr) (n2 c2 : Nat) (w : World) (ht : HasTab w) (h : XM w a n c x.nodes) (h2 : XM w a2 n2 c2 y.nodes) :
    CallsIn Fence.wide 5 Tryz.prog 37 #[.agg #[.slice a n c, .int .i64 x.root], .agg #[.slice a2 n2 c2, .int .i64 y.root]] w fun e w' => e = .returned (.tuple #[.bool (eqvE x y).1, .int .i64 (eqvE x y).2]) ∧ Below w.heap.size w w' := by
  have HT := Lib.hid ht
  have HX := Lib.hid (fun (u : World) (hb : Below w.heap.size w u) => xpr_c x a n c u (h.below hb))
  have HY := Lib.hid (fun (u : World) (hb : Below w.heap.size w u) => xpr_c y a2 n2 c2 u (h2.below hb))
  have HSX := Lib.hid (fun (hx : XprOk x) (u : World) (hb : Below w.heap.size w u) => servers_x x hx a n c u (h.below hb))
  have HSY := Lib.hid (fun (hx : XprOk y) (u : World) (hb : Below w.heap.size w u) => servers_x y hx a2 n2 c2 u (h2.below hb))
  have HHX := Lib.hid (fun (hx : XprOk x) (s : BitVec 16) (u : World) (hb : Below w.heap.size w u) => holds_c x hx hfx s a n c u (h.below hb))
  have HHY := Lib.hid (fun (hx : XprOk y) (s : BitVec 16) (u : World) (hb : Below w.heap.size w u) => holds_c y hx hfy s a2 n2 c2 u (h2.below hb))
  have HOX : Hid (xprE x = 0 → XprOk x) := Lib.hid xprE_ok
  have HOY : Hid (xprE y = 0 → XprOk y) := Lib.hid xprE_ok
  have HE : Hid (eqvE x y = if xprE x ≠ 0 then (false, xprE x) else if xprE y ≠ 0 then (false, xprE y) else (eqvB x y, 0)) := Lib.hid rfl
  obtain ⟨EX, hEX⟩ : ∃ EX, xprE x = EX := ⟨_, rfl⟩
  obtain ⟨EY, hEY⟩ : ∃ EY, xprE y = EY := ⟨_, rfl⟩
  rw [hEX] at HX HOX HE
  rw [hEY] at HY HOY HE
  obtain ⟨EV, hEV⟩ : ∃ EV, eqvE x y = EV := ⟨_, rfl⟩
  rw [hEV] at HE ⊢
  clear ht h h2 hfx hfy hEX hEY hEV
  refine callsIn_of_wp_marks Tryz.func37 rfl trivial ?_ rfl
  simp only [Tryz.ntmps37, List.size_toArray, List.length_cons, List.length_nil, Nat.reduceAdd, Nat.reduceSub, Array.replicate_succ, Array.replicate_zero, List.push_toArray, List.append_toArray, List.nil_append, List.cons_append]
  gi_wp2_with fail
  generalize hW5 : ((((w.alloc _).alloc _).alloc _).alloc _).alloc _ = w5
  obtain ⟨gX, gY, gR, gE, gL, hb5, hs5⟩ := box5 hW5
  have GX := Lib.hid gX
  have GY := Lib.hid gY
  have GR := Lib.hid gR
  have GE := Lib.hid gE
  have GL := Lib.hid gL
  have HB5 := Lib.hid hb5
  clear hW5 gX gY gR gE gL hb5
  gi_loopw [14] (fun i wr => ∃ k : Nat, k ≤ 2 ∧ i = .int .i64 ((k : Nat) : Int) ∧ Hid (0 < k → EX = 0) ∧ Hid (1 < k → EY = 0) ∧ Below w5.heap.size w5 wr) (fun i _ => 2 - (intOf i).toNat)
  case atStart => exact ⟨0, by omega, rfl, Lib.hid (fun h => by omega), Lib.hid (fun h => by omega), Below.refl _ _⟩
  case round =>
    obtain ⟨k, hk, rfl, h0, h1, hb⟩ := hrel
    have HB := Lib.hid hb
    have gl := heap_below hb GL.out
    have l0 := cell_of_row _ _ 0 _ _ _ gl
    have l1 := cell_of_row _ _ 1 _ _ _ gl
    have l2 := cell_of_row _ _ 2 _ _ _ gl
    have l3 := cell_of_row _ _ 3 _ _ _ gl
    have hsr := hb.size
    clear hb gl
    by_cases k0 : k = 0
    · subst k0
      clear l2 l3
      gi_wp2_with fail
      refine (callsIn_wide.2 (HX.out _ (Below.next HB5.out (HB.out.trans (((Below.refl _ wr).alloc (Nat.le_refl _) _).mono hsr))))).mono ?_
      rintro e w6 ⟨rfl, hb6⟩
      have hb6 := HB.out.trans ((Below.next ((Below.refl _ wr).alloc (Nat.le_refl _) _) hb6).mono hsr)
      by_cases hE : EX = 0
      · subst hE
        have HB6 := Lib.hid hb6
        clear hb6 l0 l1
        gi_wp2_with fail
        go_roundw
        case rel => exact ⟨1, by omega, by go_num, Lib.hid (fun _ => trivial), Lib.hid (fun h => by omega), HB6.out⟩
        case measure => simp [intOf]
      · have hne : (EX != 0) = true := by simpa using hE
        have hV : EV = (false, EX) := by rw [HE.out, if_pos hE]
        have gr := heap_below hb6 GR.out
        have ge := heap_below hb6 GE.out
        have t0 := cell_of_row _ _ 0 _ _ _ gr
        have t1 := cell_of_row _ _ 0 _ _ _ ge
        have z0 := frozen_row gr 0
        have z1 := frozen_row ge 0
        have HGR := Lib.hid gr
        have HGE := Lib.hid ge
        have HB6 := Lib.hid (HB5.out.trans (hb6.mono (by omega)))
        clear hb6 gr ge l0 l1 hE HE
        gi_wp2_with fail
        clear t0 t1 z0 z1
        generalize hWF : (w6.setCell _ _).setCell _ _ = WF
        obtain ⟨e1, e2, hbf, _, _⟩ := fin2 HGR.out HGE.out (by omega) (by omega) (by omega) HB6.out hWF
        have HBF := Lib.hid hbf
        have f0 := cell_of_row _ _ 0 _ _ _ e1
        have f1 := cell_of_row _ _ 0 _ _ _ e2
        clear hWF e1 e2 hbf
        refine ⟨.tuple #[.bool false, .int .i64 EX], ?_, ?_⟩
        · rw [results_cell_cell rfl]
          go_simp
        · rw [hV]; exact ⟨rfl, HBF.out⟩
    · by_cases k1 : k = 1
      · subst k1
        obtain rfl : EX = 0 := h0.out (by omega)
        clear l0 l1
        gi_wp2_with fail
        refine (callsIn_wide.2 (HY.out _ (Below.next HB5.out (HB.out.trans (((Below.refl _ wr).alloc (Nat.le_refl _) _).mono hsr))))).mono ?_
        rintro e w6 ⟨rfl, hb6⟩
        have hb6 := HB.out.trans ((Below.next ((Below.refl _ wr).alloc (Nat.le_refl _) _) hb6).mono hsr)
        by_cases hE : EY = 0
        · subst hE
          have HB6 := Lib.hid hb6
          clear hb6 l2 l3
          gi_wp2_with fail
          go_roundw
          case rel => exact ⟨2, by omega, by go_num, Lib.hid (fun _ => trivial), Lib.hid (fun _ => trivial), HB6.out⟩
          case measure => simp [intOf]
        · have hne : (EY != 0) = true := by simpa using hE
          have hV : EV = (false, EY) := by rw [HE.out, if_neg (by simp), if_pos hE]
          have gr := heap_below hb6 GR.out
          have ge := heap_below hb6 GE.out
          have t0 := cell_of_row _ _ 0 _ _ _ gr
          have t1 := cell_of_row _ _ 0 _ _ _ ge
          have z0 := frozen_row gr 0
          have z1 := frozen_row ge 0
          have HGR := Lib.hid gr
          have HGE := Lib.hid ge
          have HB6 := Lib.hid (HB5.out.trans (hb6.mono (by omega)))
          clear hb6 gr ge l2 l3 hE HE
          gi_wp2_with fail
          clear t0 t1 z0 z1
          generalize hWF : (w6.setCell _ _).setCell _ _ = WF
          obtain ⟨e1, e2, hbf, _, _⟩ := fin2 HGR.out HGE.out (by omega) (by omega) (by omega) HB6.out hWF
          have HBF := Lib.hid hbf
          have f0 := cell_of_row _ _ 0 _ _ _ e1
          have f1 := cell_of_row _ _ 0 _ _ _ e2
          clear hWF e1 e2 hbf
          refine ⟨.tuple #[.bool false, .int .i64 EY], ?_, ?_⟩
          · rw [results_cell_cell rfl]
            go_simp
          · rw [hV]; exact ⟨rfl, HBF.out⟩
      · obtain rfl : k = 2 := by omega
        obtain rfl : EX = 0 := h0.out (by omega)
        obtain rfl : EY = 0 := h1.out (by omega)
        have hok := HOX.out rfl
        have hoy := HOY.out rfl
        have HH1 := Lib.hid (HHX.out hok)
        have HH2 := Lib.hid (HHY.out hoy)
        have HS1 := Lib.hid (HSX.out hok)
        have HS2 := Lib.hid (HSY.out hoy)
        have hV : Hid (EV = (eqvB x y, 0)) := Lib.hid (by rw [HE.out, if_neg (by simp), if_neg (by simp)])
        have HBW := Lib.hid (Below.next HB5.out (HB.out.trans ((Below.refl _ wr).mono hsr)))
        have hbw : Below w.heap.size w wr := HB5.out.trans (HB.out.mono (by omega))
        have HBW := Lib.hid hbw
        have KS := Lib.hid (fun (u : World) (hu : Below wr.heap.size wr u) => And.intro (open2 (heap_below (HB.out.trans (hu.mono hsr)) GX.out)).1 (open2 (heap_below (HB.out.trans (hu.mono hsr)) GY.out)).1)
        clear hok hoy HHX HHY HSX HSY HOX HOY HE h0 h1 l0 l1 l2 l3 hbw HX HY k0 k1
        gi_upto_region 8 with fail
        refine wpIn_region_quiet_tail (fun u => Below wr.heap.size wr u) 5 (by kernel_rfl) (by kernel_rfl) (below_drew (Below.refl _ _)) ?_
        repeat (refine wpQuietIn_step (by quiet_asked_in) (fun K hK => ?_); go_simp; (first | (refine hK _ ?_; clear hK K) | (apply Exists.intro; refine ⟨fun u hu => ?_, hK _ ?_⟩; (first | with_reducible exact rfl | with_reducible exact ⟨rfl, hu⟩ | ((with_reducible refine (callsIn_wide.2 (HS1.out u (Below.next HBW.out hu))).mono ?_); (rintro e w3 ⟨rfl, h3⟩; exact ⟨rfl, Below.next hu h3⟩)) | ((with_reducible refine (callsIn_wide.2 (HS2.out u (Below.next HBW.out hu))).mono ?_); (rintro e w3 ⟨rfl, h3⟩; exact ⟨rfl, Below.next hu h3⟩)) | (obtain ⟨⟨q1, q2⟩, ⟨q3, q4⟩⟩ := KS.out u hu; go_simp; first | exact rfl | exact ⟨rfl, hu⟩ | exact hu)); clear hK K)))
        refine wpQuietIn_nil ?_
        intro wq hwq
        simp only [List.drop_succ_cons, List.drop_zero]
        have HBQ := Lib.hid (Below.next HBW.out hwq)
        have GRQ := Lib.hid (heap_below (HB.out.trans (hwq.mono hsr)) GR.out)
        have GEQ := Lib.hid (heap_below (HB.out.trans (hwq.mono hsr)) GE.out)
        have GXQ := Lib.hid (heap_below (HB.out.trans (hwq.mono hsr)) GX.out)
        have GYQ := Lib.hid (heap_below (HB.out.trans (hwq.mono hsr)) GY.out)
        have hsq : w.heap.size + 5 ≤ wq.heap.size := by have := hwq.size; omega
        clear hwq HB KS HS1 HS2 GL GR GE GX GY hs5 hsr
        gi_wp2_with fail
        refine (callsIn_wide.2 (subsets_c (srvX x ||| srvX y) _ _ rfl)).mono ?_
        rintro e w6 ⟨rfl, hw6⟩
        have hb6 : Below wq.heap.size wq w6 := by rw [hw6]; exact (Below.refl _ _).alloc (Nat.le_refl _) _
        have gS6 : w6.cell? ⟨wq.heap.size, 0, none⟩ = some (.int .u16 (U (srvX x ||| srvX y))) := by rw [hw6]; exact cell_new _ _ _ 0 _ rfl
        have hs6 : w6.heap.size = wq.heap.size + 1 := by rw [hw6]; simp
        have HB6 := Lib.hid (Below.next HBQ.out hb6)
        have GX6 := Lib.hid (heap_below hb6 GXQ.out)
        have GY6 := Lib.hid (heap_below hb6 GYQ.out)
        have GR6 := Lib.hid (heap_below hb6 GRQ.out)
        have GE6 := Lib.hid (heap_below hb6 GEQ.out)
        have hBs : wq.heap.size < w6.heap.size := by omega
        obtain ⟨SU, hSU⟩ : ∃ SU, srvX x ||| srvX y = SU := ⟨_, rfl⟩
        have HVE : Hid (eqvB x y = (subsS SU).all fun s => holdX x s == holdX y s) := Lib.hid (by rw [← hSU]; rfl)
        rw [hSU] at gS6 ⊢
        have HSQ := Lib.hid (fun m => subsets1_stops m wq.heap.size (CBox w6.heap.size w6.heap.size) (fun k => .inr ⟨by decide, by decide⟩) (fun t => .inl ⟨Nat.lt_of_lt_of_le (cell_lt (HT.out 0 (by decide))) HB6.out.size, by have := cell_lt (HT.out 0 (by decide)); have := HB6.out.size; omega⟩) (fun t => .inl ⟨hBs, by omega⟩) SU w6 (HT.out.below HB6.out) gS6)
        clear hb6 gS6 hw6 HBQ GRQ GEQ GXQ GYQ hs6 hSU
        gi_wp2_with fail
        refine rangeFunc_x rfl (by decide) rfl trivial (enters_of Tryz.func81 (by kernel_rfl) rfl) (HSQ.out _) KeepC.trans kT_b (Below.refl _ _) (fun _ => rfl)
          (fun pre Wr => (pre.all fun s => holdX x s == holdX y s) = true ∧ BelX w6.heap.size w6 w6.heap.size Wr)
          (fun c ys Wr => c = .ret ∧ (ys.all fun s => holdX x s == holdX y s) = false ∧ BelX w.heap.size w6 w6.heap.size Wr ∧ Wr.heap[w.heap.size + 1 + 1]? = some (.cells #[.bool false] 4 (0, 0)) ∧ Wr.heap[w.heap.size + 1 + 1 + 1]? = some (.cells #[.int .i64 0] 27 (0, 0)))
          ?hI ?hIx ?h0 ?done ?stop ?A
        case hI => exact OwnFrom.and (purex_own (p := fun pre => (pre.all fun s => holdX x s == holdX y s) = true) _) (belx_own (Nat.le_refl _) (Nat.le_refl _))
        case hIx =>
          intro c
          exact OwnFrom.and (purex_own (p := fun _ => c = .ret) _) (OwnFrom.and (purex_own (p := fun ys => (ys.all fun s => holdX x s == holdX y s) = false) _) (OwnFrom.and (belx_own (by omega) (by omega)) (OwnFrom.and (blkx_own (by omega)) (blkx_own (by omega)))))
        case h0 => exact ⟨rfl, Below.refl _ _, Nat.le_refl _⟩
        case done =>
          rintro D ys W hD rfl ⟨hall, hB⟩ hK
          have HR : Hid (EV = (true, 0)) := Lib.hid (by rw [hV.out, HVE.out, hall])
          have gR := (hB.1.block (w.heap.size + 1 + 1) (by omega)).trans GR6.out
          have gE := (hB.1.block (w.heap.size + 1 + 1 + 1) (by omega)).trans GE6.out
          have r0 := cell_of_row _ _ 0 _ _ _ gR
          have r1 := cell_of_row _ _ 0 _ _ _ gE
          have z0 := frozen_row gR 0
          have z1 := frozen_row gE 0
          have HGR := Lib.hid gR
          have HGE := Lib.hid gE
          have HB := Lib.hid hB
          have hBs2 := hB.2
          clear hB gR gE hall
          gi_wp2_with fail
          clear r0 r1 z0 z1
          generalize hWZ : (W.setCell _ _).setCell _ _ = WZ
          obtain ⟨gRZ, gEZ, hbZ, hoZ, hsZ⟩ := fin2 (w := w) HGR.out HGE.out (by omega) (by omega) (by omega) (HB6.out.trans (HB.out.1.mono (by omega))) hWZ
          have hKZ : WZ.heap[D]? = some (.deferred (some [])) := (hoZ D (by omega) (by omega)).trans hK
          refine ⟨by simp, .inl ⟨_, _, rfl, run_takeDeferred hKZ, ?_⟩⟩
          have gR2 : (WZ.putObj D (.deferred none)).heap[w.heap.size + 1 + 1]? = some (.cells #[.bool true] 4 (0, 0)) := (World.putObj_heap_other (by omega)).trans gRZ
          have gE2 : (WZ.putObj D (.deferred none)).heap[w.heap.size + 1 + 1 + 1]? = some (.cells #[.int .i64 0] 27 (0, 0)) := (World.putObj_heap_other (by omega)).trans gEZ
          have f0 := cell_of_row _ _ 0 _ _ _ gR2
          have f1 := cell_of_row _ _ 0 _ _ _ gE2
          have HBF := Lib.hid (hbZ.grown (grownBy_putObj' WZ D (.deferred none)) (by omega) (fun k hk => by injection hk with hk; omega))
          clear gR2 gE2 hWZ gRZ gEZ hbZ hoZ hsZ hKZ
          refine ⟨.tuple #[.bool true, .int .i64 0], ?_, ?_⟩
          · rw [results_cell_cell rfl]
            go_simp
          · rw [HR.out]; exact ⟨rfl, HBF.out⟩
        case stop =>
          rintro D c ys W hD hp ⟨rfl, hl, hB, hr2, hr3⟩ hK
          have hAll : ((subsS SU).all fun s => holdX x s == holdX y s) = false := by
            cases hc : (subsS SU).all fun s => holdX x s == holdX y s
            · rfl
            · rw [List.all_eq_true] at hc
              have : (ys.all fun s => holdX x s == holdX y s) = true := List.all_eq_true.2 fun s hs => hc s (hp.subset hs)
              rw [hl] at this; cases this
          have HR : Hid (EV = (false, 0)) := Lib.hid (by rw [hV.out, HVE.out, hAll])
          have r0 := cell_of_row _ _ 0 _ _ _ hr2
          have r1 := cell_of_row _ _ 0 _ _ _ hr3
          have hDr := hB.2
          clear hAll hl
          gi_wp2_with fail
          refine ⟨by simp, .inl ⟨_, _, rfl, run_takeDeferred hK, ?_⟩⟩
          have gR2 : (W.putObj D (.deferred none)).heap[w.heap.size + 1 + 1]? = some (.cells #[.bool false] 4 (0, 0)) := (World.putObj_heap_other (by omega)).trans hr2
          have gE2 : (W.putObj D (.deferred none)).heap[w.heap.size + 1 + 1 + 1]? = some (.cells #[.int .i64 0] 27 (0, 0)) := (World.putObj_heap_other (by omega)).trans hr3
          have f0 := cell_of_row _ _ 0 _ _ _ gR2
          have f1 := cell_of_row _ _ 0 _ _ _ gE2
          have hbF : Below w.heap.size w (W.putObj D (.deferred none)) := (HB6.out.trans hB.1).grown (grownBy_putObj' W D _) (by have := HB6.out.size; omega) (fun k hk => by injection hk with hk; omega)
          have HBF := Lib.hid hbF
          clear gR2 gE2 hbF r0 r1
          refine ⟨.tuple #[.bool false, .int .i64 0], ?_, ?_⟩
          · rw [results_cell_cell rfl]
            go_simp
          · rw [HR.out]; exact ⟨rfl, HBF.out⟩
        case A =>
          refine ⟨fun s => { tmps := #[.agg #[.slice a n c, .int .i64 x.root], .agg #[.slice a2 n2 c2, .int .i64 y.root], .pointer (some ⟨w.heap.size, 0, none⟩), .pointer (some ⟨w.heap.size + 1, 0, none⟩), .pointer (some ⟨w.heap.size + 1 + 1, 0, none⟩), .pointer (some ⟨w.heap.size + 1 + 1 + 1, 0, none⟩), undef, u7, u8, .int .u16 (U s), .agg #[.slice a n c, .int .i64 x.root], .agg #[.slice a2 n2 c2, .int .i64 y.root], .slice (some ⟨w.heap.size + 1 + 1 + 1 + 1, 0, none⟩) 2 2, .int .i64 2, .int .i64 2, .bool false, u16, u17, u18, u19, u20, u21, u22, u23, .agg #[.slice a n c, .int .i64 x.root], .int .u16 (U (srvX x)), .agg #[.slice a2 n2 c2, .int .i64 y.root], .int .u16 (U (srvX y)), .int .u16 (U SU), .func (.func 81) #[] #[.pointer (some ⟨wq.heap.size, 0, none⟩)], .int .u16 (U s), undef, undef, undef, undef, undef, undef, undef], defers := [] }, ?_, ?_⟩
          · intro l s Wr K hK
            gi_wp2_with fail
            exact hK
          · rintro l pre s Wr ⟨hall, hB⟩ hlt
            have hbw : Below w.heap.size w Wr := HB6.out.trans (hB.1.mono (by omega))
            have HB := Lib.hid hB
            have HBW := Lib.hid hbw
            have HH1s := Lib.hid (HH1.out s)
            have HH2s := Lib.hid (HH2.out s)
            have KS := Lib.hid (fun (u : World) (hu : Below Wr.heap.size Wr u) => And.intro (open2 (heap_below (hB.1.trans (hu.mono hB.2)) GX6.out)).1 (open2 (heap_below (hB.1.trans (hu.mono hB.2)) GY6.out)).1)
            have HAL : Hid ((pre ++ [s]).all (fun s => holdX x s == holdX y s) = (holdX x s == holdX y s)) := Lib.hid (by rw [List.all_append, hall]; simp)
            obtain ⟨BX, hBX⟩ : ∃ BX, holdX x s = BX := ⟨_, rfl⟩
            obtain ⟨BY, hBY⟩ : ∃ BY, holdX y s = BY := ⟨_, rfl⟩
            rw [hBX] at HH1s HAL
            rw [hBY] at HH2s HAL
            have HALL := Lib.hid hall
            clear hB hbw hlt hBX hBY hall
            gi_upto_region 10 with fail
            refine wpIn_region_quiet_r (fun u => Below Wr.heap.size Wr u) (by kernel_rfl) (by kernel_rfl) (below_drew (Below.refl _ _)) ?_
            repeat (refine wpQuietIn_step (by quiet_asked_in) (fun K hK => ?_); go_simp; (first | (refine hK _ ?_; clear hK K) | (apply Exists.intro; refine ⟨fun u hu => ?_, hK _ ?_⟩; (first | with_reducible exact rfl | with_reducible exact ⟨rfl, hu⟩ | ((with_reducible refine (CallsIn.inRound l (callsIn_wide.2 (HH1s.out u (Below.next HBW.out hu)))).mono ?_); (rintro e w3 ⟨rfl, h3⟩; exact ⟨rfl, Below.next hu h3⟩)) | ((with_reducible refine (CallsIn.inRound l (callsIn_wide.2 (HH2s.out u (Below.next HBW.out hu)))).mono ?_); (rintro e w3 ⟨rfl, h3⟩; exact ⟨rfl, Below.next hu h3⟩)) | (obtain ⟨⟨q1, q2⟩, ⟨q3, q4⟩⟩ := KS.out u hu; go_simp; first | exact rfl | exact ⟨rfl, hu⟩ | exact hu)); clear hK K)))
            refine wpQuietIn_nil ?_
            intro W2 hb2
            have hB2 : BelX w6.heap.size w6 w6.heap.size W2 := ⟨HB.out.1.trans (hb2.mono HB.out.2), Nat.le_trans HB.out.2 hb2.size⟩
            have HB2 := Lib.hid hB2
            have HKF := Lib.hid (keepsFrom_below (B := w6.heap.size) hb2)
            have HKC := Lib.hid (KeepC.of_below (CBox w6.heap.size w6.heap.size) hb2)
            have hs2 := hB2.2
            clear hb2 KS HH1s HH2s
            by_cases hq : BX = BY
            · have hne : (!BX == BY) = false := by rw [hq]; simp
              have hal : (BX == BY) = true := by rw [hq]; simp
              rw [hal] at HAL
              rw [hne]
              clear hq hne hal
              gi_wp2_with fail
              exact ⟨HKF.out, HKC.out, HAL.out, HB2.out⟩
            · have hal : (BX == BY) = false := by simpa using hq
              have hne : (!BX == BY) = true := by rw [hal]; rfl
              rw [hal] at HAL
              rw [hne]
              have gR := (hB2.1.block (w.heap.size + 1 + 1) (by omega)).trans GR6.out
              have gE := (hB2.1.block (w.heap.size + 1 + 1 + 1) (by omega)).trans GE6.out
              have r0 := cell_of_row _ _ 0 _ _ _ gR
              have r1 := cell_of_row _ _ 0 _ _ _ gE
              have z0 := frozen_row gR 0
              have z1 := frozen_row gE 0
              have HGR := Lib.hid gR
              have HGE := Lib.hid gE
              clear gR gE hq hne hal hB2
              gi_wp2_with fail
              have hkA := grownBy_setCell' W2 (w.heap.size + 1 + 1) (.bool false)
              have hkZ := grownBy_setCell' (W2.setCell ⟨w.heap.size + 1 + 1, 0, none⟩ (.bool false)) (w.heap.size + 1 + 1 + 1) (.int .i64 0)
              obtain ⟨gRZ, gEZ, _, hoZ, hsZ⟩ := fin2 (w := w) HGR.out HGE.out (by omega) (by omega) (by omega) (HB6.out.trans (HB2.out.1.mono (by omega))) rfl
              refine ⟨HKF.out.trans ((KeepsFrom.of_grownBy hkA (fun j hj => by injection hj with hj; omega)).trans (KeepsFrom.of_grownBy hkZ (fun j hj => by injection hj with hj; omega))), rfl, HAL.out, ⟨?_, ?_⟩, gRZ, gEZ⟩
              · exact ((HB2.out.1.mono (by omega)).setCell (p := ⟨w.heap.size + 1 + 1, 0, none⟩) (by show w.heap.size ≤ w.heap.size + 1 + 1; omega) _).setCell (p := ⟨w.heap.size + 1 + 1 + 1, 0, none⟩) (by show w.heap.size ≤ w.heap.size + 1 + 1 + 1; omega) _
              · rw [hsZ]; exact hs2
theorem equiv_c (x y : Xpr) (hfx : XprFew x) (hfy : XprFew y) (a : Option Addr) (n c : Nat) (a2 : Option Addr) (n2 c2 : Nat) (w : World) (ht : HasTab w) (h : XM w a n c x.nodes) (h2 : XM w a2 n2 c2 y.nodes) :
    Calls Tryz.prog 37 #[.agg #[.slice a n c, .int .i64 x.root], .agg #[.slice a2 n2 c2, .int .i64 y.root]] w fun e w' => e = .returned (.tuple #[.bool (eqvE x y).1, .int .i64 (eqvE x y).2]) ∧ Below w.heap.size w w' := callsIn_wide.1 (equiv_in x y hfx hfy a n c a2 n2 c2 w ht h h2)
end Go.Proofs.YtcojmmhclklpoaaGreatDoor
namespace Go.Proofs.YtcojmmhclklpoaaGreatDoor
open Go.RowKit

structure ExV where
  v : Value
  r : Int
def exVC (p : ExV) : List Value := [p.v, .int .i64 p.r]
def ExR (w : World) (p : ExV) (y : Xpr) : Prop := ∃ a c, p.v = .slice a y.nodes.length c ∧ XM w a y.nodes.length c y.nodes ∧ p.r = y.root
abbrev EB (S : Nat → Prop) (B : Nat) (w : World) (v : Value) (ys : List Xpr) : Prop := GB 2 exVC ExR S B w v 32 ys
/-- one more -/
theorem EB.push {S : Nat → Prop} {B lo : Nat} {w y : World} {v u : Value} {ys : List Xpr} {z : Xpr} {a : Option Addr} {c : Nat} {V : List ExV} (h : EB S B w v ys) (hV : V.length = ys.length) (h3 : ∀ (i : Nat) p nd, V[i]? = some p → ys[i]? = some nd → RS ExR S w p nd)
    (hx : XMR lo w.heap.size w a z.nodes.length c z.nodes) (hlo : ∀ g, v.ownBlock = some g → g < lo) (hg : w.grownBy y v.ownBlock) (ho : y.ownsRow B 32 2 u (ys.length + 1) (V.flatMap exVC ++ exVC ⟨.slice a z.nodes.length c, z.root⟩)) (hv : ∀ g, u.ownBlock = some g → v.ownBlock = some g ∨ w.heap.size ≤ g) :
    ∃ S', EB S' B y u (ys ++ [z]) := by
  refine ⟨_, GB.pushes (M := [z]) (U := [⟨.slice a z.nodes.length c, z.root⟩]) (SW := Rng lo w.heap.size) h hV h3 (Below.refl _ _) hg rfl ?_ hv (fun i p nd hp hn => ?_) (fun g hg' => ⟨hg'.2, fun e => by have := hlo g e; have := hg'.1; omega⟩)⟩
  · rw [List.flatMap_cons, List.flatMap_nil, List.append_nil]; exact ho
  · have hi : i = 0 := by have := (List.getElem?_eq_some_iff.1 hp).1; simpa using this
    subst hi
    cases hp; cases hn
    exact fun w2 ha => ⟨a, c, rfl, hx w2 fun g g1 g2 => ha g ⟨g1, g2⟩, rfl⟩

mutual
theorem post_few (t : ET) : ∀ (b j : Nat) nd, (t.post b)[j]? = some nd → nd.kids.length ≤ t.sz := by
  cases t with
  | srv s =>
    intro b j nd h
    rw [ET.post] at h
    have hj : j = 0 := by have := (List.getElem?_eq_some_iff.1 h).1; simpa using this
    subst hj; cases h
    simp
  | thr n ws ks =>
    intro b j nd h
    rw [ET.post] at h
    rw [ET.sz]
    by_cases hj : j < (ETs.post ks b).length
    · rw [List.getElem?_append_left hj] at h
      have := posts_few ks b j nd h
      omega
    · rw [List.getElem?_append_right (by omega)] at h
      have h2 : j - (ETs.post ks b).length = 0 := by have := (List.getElem?_eq_some_iff.1 h).1; simpa using this
      rw [h2] at h
      cases h
      show (ETs.idx ks b).length ≤ _
      rw [ETs.idx_len]
      have := ETs.sz_ge ks
      omega
theorem posts_few (ts : List ET) : ∀ (b j : Nat) nd, (ETs.post ts b)[j]? = some nd → nd.kids.length ≤ ETs.sz ts := by
  cases ts with
  | nil => intro b j nd h; simp [ETs.post] at h
  | cons t ts =>
    intro b j nd h
    rw [ETs.post] at h
    rw [ETs.sz]
    by_cases hj : j < (t.post b).length
    · rw [List.getElem?_append_left hj] at h
      have := post_few t b j nd h
      omega
    · rw [List.getElem?_append_right (by omega)] at h
      have := posts_few ts _ _ nd h
      omega
end
theorem xpr_few {t : ET} (h : t.sz ≤ 1000) : XprFew t.xpr := fun k nd hk => by have := post_few t 0 k nd hk; omega
end Go.Proofs.YtcojmmhclklpoaaGreatDoor
namespace Go.Proofs.YtcojmmhclklpoaaGreatDoor
open Go.RowKit Go.Shelf

/-- what is simplified is equivalent, and stays -/
theorem smp_law {x : Xpr} (h : (smpS x).2 = 0) : smpS (smpS x).1 = ((smpS x).1, 0) ∧ eqvE x (smpS x).1 = (true, 0) ∧ XprFew (smpS x).1 := by
  have hE : (tidS x).2 = 0 := by
    unfold smpS at h
    by_cases h1 : (tidS x).2 ≠ 0
    · rw [if_pos h1] at h; exact h
    · exact Classical.not_not.1 h1
  obtain ⟨hx, hz, _⟩ := tidS_ok hE
  have hs : smpS x = ((treX x).simp.xpr, 0) := by unfold smpS; rw [if_neg (by rw [hE]; simp)]
  rw [hs]
  have hok := treX_ok (xprE_ok hx)
  have hso := simp_ok (treX x) hok (by omega)
  have hz2 : (treX x).simp.sz ≤ 60 := by omega
  have hxe := xpr_ok hso.1 hz2
  refine ⟨?_, ?_, xpr_few (by omega)⟩
  · have ht : tidS (treX x).simp.xpr = ((treX x).simp.xpr, 0) := by
      unfold tidS
      rw [if_neg (by rw [hxe]; simp), treX_xpr, if_neg (by omega)]
    unfold smpS
    rw [ht, if_neg (by simp), treX_xpr, simp_simp hok (by omega)]
  · unfold eqvE
    rw [if_neg (by rw [hx]; simp), if_neg (by rw [hxe]; simp)]
    have : eqvB x (treX x).simp.xpr = true := (eqv_iff (xprE_ok hx) (xprE_ok hxe)).2 fun s => by
      rw [xpr_hold hso.1 hz2, simp_hold _ hok (by omega), treX_hold (xprE_ok hx)]
    rw [this]

set_option maxRecDepth 100000 in
set_option maxHeartbeats 8000000 in
theorem simps_w (v : Value) (xs : List Pce) (w : World) (ht : HasTab w) (hp : HasPow w) (hr : HasRng w) (hy : HasSyn w) (w0 : IsDraft w v xs) :
    Calls Tryz.prog 10 #[v] w fun e w' => e = .returned (.bool true) ∧ Below w.heap.size w w' := by
  have HA := Lib.hid (fun u (hb : Below w.heap.size w u) => awake10_c u (ht.below hb) (hp.below hb) (hr.below hb) (hy.below hb))
  obtain ⟨ax, nx, cx, rfl, hpx⟩ := w0.val
  have HMX := Lib.hid (fun u (hb : Below w.heap.size w u) => made_c xs w0.okx ax nx cx u (hpx.below hb))
  obtain ⟨hxo, _, _⟩ := madX_ok w0.okx
  have hxf := madX_few xs
  have hxs := madX_sum xs
  obtain ⟨X, hX⟩ : ∃ X, madX xs = X := ⟨_, rfl⟩
  rw [hX] at HMX hxo hxf hxs
  have HP := Lib.hid (fun a n c u h => simplify_c X a n c u h)
  have HR := Lib.hid (fun a n c u h => rsimplify_c X hxs hxf a n c u h)
  have HQ := Lib.hid (fun h => smp_law (x := X) h)
  have HEQ := Lib.hid (fun (y : Xpr) (hy : XprFew y) a n c a2 n2 c2 u (hb : Below w.heap.size w u) h h2 => equiv_c X y hxf hy a n c a2 n2 c2 u (ht.below hb) h h2)
  obtain ⟨Q, hQ⟩ : ∃ Q, smpS X = Q := ⟨_, rfl⟩
  rw [hQ] at HP HR HQ
  obtain ⟨A, E⟩ := Q
  simp only at HP HR HQ
  have HP2 := Lib.hid (fun (h : smpS A = (A, 0)) a n c u hm => show Calls Tryz.prog 35 #[.agg #[.slice a n c, .int .i64 A.root]] u fun e w' => RetX A 0 u e w' from by
    have h9 := simplify_c A a n c u hm
    rw [h] at h9
    exact h9)
  have HSM := Lib.hid (fun a n c a2 n2 c2 u h h2 => same10_c A a n c a2 n2 c2 u h h2)
  unfold RetX at HP HR HP2
  obtain ⟨NL, hNL⟩ : ∃ NL, A.nodes.length = NL := ⟨_, rfl⟩
  obtain ⟨RR, hRR⟩ : ∃ RR, A.root = RR := ⟨_, rfl⟩
  rw [hNL, hRR] at HP HR
  have HE2 := Lib.hid (fun (h : eqvE X A = (true, 0)) (hf : XprFew A) a n c a2 n2 c2 u (hb : Below w.heap.size w u) hm hm2 => show Calls Tryz.prog 37 #[.agg #[.slice a n c, .int .i64 X.root], .agg #[.slice a2 n2 c2, .int .i64 RR]] u fun e w' => e = .returned (.tuple #[.bool true, .int .i64 0]) ∧ Below u.heap.size u w' from by
    have h9 := HEQ.out A hf a n c a2 n2 c2 u hb hm hm2
    rw [h, hRR] at h9
    exact h9)
  have HP3 : Hid (∀ (h : smpS A = (A, 0)) a n c u, XM u a n c A.nodes → Calls Tryz.prog 35 #[.agg #[.slice a n c, .int .i64 RR]] u fun e w' => ∃ a' c', e = .returned (.tuple #[.agg #[.slice a' NL c', .int .i64 RR], .int .i64 0]) ∧ XMR u.heap.size w'.heap.size w' a' NL c' A.nodes ∧ Below u.heap.size u w') := Lib.hid (fun h a n c u hm => by
    have h9 := HP2.out h a n c u hm
    rw [hNL, hRR] at h9
    exact h9)
  rw [hRR] at HSM
  obtain ⟨N, hN⟩ : ∃ N, X.nodes.length = N := ⟨_, rfl⟩
  obtain ⟨RT, hRT⟩ : ∃ RT, X.root = RT := ⟨_, rfl⟩
  rw [hRT] at HP HR HE2
  simp only [hN, hRT] at HMX
  have hee : (E == E) = true := by simp
  have hen : (E != E) = false := by rw [bne_eq_false_iff_eq]
  clear hX hxo hxf hxs hQ hNL hRR hN hRT ht hp hr hy w0 hpx HEQ HP2
  go_enter Tryz.func10, Tryz.ntmps10
  go_wp2_with fail
  obtain ⟨W0, hW0⟩ : ∃ W0, W0 = w.alloc (.cells #[.slice ax nx cx] 24) := ⟨_, rfl⟩
  rw [← hW0]
  have hb0 : Below w.heap.size w W0 := by rw [hW0]; exact (Below.refl _ _).alloc (Nat.le_refl _) _
  have g0 : W0.heap[w.heap.size]? = some (.cells #[.slice ax nx cx] 24 (0, 0)) := by rw [hW0]; exact heap_alloc_new _ _
  with_reducible refine (HA.out W0 hb0).mono ?_
  rintro e w1 ⟨rfl, b1⟩
  have HB1 := Lib.hid (Below.next hb0 b1)
  have r0 := cell_of_row _ _ 0 _ _ _ (heap_below b1 g0)
  clear b1 hb0 g0 hW0 HA
  go_wp2_with fail
  clear r0
  with_reducible refine (HMX.out w1 HB1.out).mono ?_
  rintro e w2 ⟨a2, c2, rfl, hx2, b2⟩
  obtain ⟨W3, hW3⟩ : ∃ W3, W3 = w2.alloc (.cells #[.slice a2 N c2, .int .i64 RT] 32) := ⟨_, rfl⟩
  have hb3 : Below w2.heap.size w2 W3 := by rw [hW3]; exact (Below.refl _ _).alloc (Nat.le_refl _) _
  have g3 : W3.heap[w2.heap.size]? = some (.cells #[.slice a2 N c2, .int .i64 RT] 32 (0, 0)) := by rw [hW3]; exact heap_alloc_new _ _
  have HX3 := Lib.hid (hx2.below hb3)
  have HB3 := Lib.hid (Below.next HB1.out (Below.next b2 hb3))
  have HK3 := Lib.hid (fun (u : World) (hu : Below W3.heap.size W3 u) => (open2 (heap_below hu g3)).1)
  clear hb3 b2 hx2 HMX HB1 g3
  go_wp2_with fail
  rw [← hW3]
  clear hW3
  with_reducible refine (HP.out a2 N c2 W3 HX3.out).mono ?_
  rintro e w4 ⟨a4, c4, rfl, x4, b4⟩
  obtain ⟨W5, hW5⟩ : ∃ W5, W5 = w4.alloc (.cells #[.slice a4 NL c4, .int .i64 RR] 32) := ⟨_, rfl⟩
  have b5 : Below w4.heap.size w4 W5 := by rw [hW5]; exact (Below.refl _ _).alloc (Nat.le_refl _) _
  have g5 : W5.heap[w4.heap.size]? = some (.cells #[.slice a4 NL c4, .int .i64 RR] 32 (0, 0)) := by rw [hW5]; exact heap_alloc_new _ _
  have b45 := Below.next b4 b5
  have HB5 := Lib.hid (Below.next HB3.out b45)
  have HQ5 := Lib.hid b45
  have HX5 := Lib.hid (x4.xm.below b5)
  have HKA := Lib.hid (fun (u : World) (hu : Below W5.heap.size W5 u) => (open2 (heap_below hu g5)).1)
  obtain ⟨k0, k1⟩ := HK3.out W5 HQ5.out
  rw [hW5] at k0 k1
  clear b4 b5 b45 g5 x4 HP
  go_wp2_with fail
  rw [← hW5]
  clear hW5 k0 k1
  with_reducible refine (HR.out a2 N c2 W5 (HX3.out.below HQ5.out)).mono ?_
  rintro e w6 ⟨a6, c6, rfl, x6, b6⟩
  obtain ⟨W7, hW7⟩ : ∃ W7, W7 = w6.alloc (.cells #[.slice a6 NL c6, .int .i64 RR] 32) := ⟨_, rfl⟩
  have b7 : Below w6.heap.size w6 W7 := by rw [hW7]; exact (Below.refl _ _).alloc (Nat.le_refl _) _
  have g7 : W7.heap[w6.heap.size]? = some (.cells #[.slice a6 NL c6, .int .i64 RR] 32 (0, 0)) := by rw [hW7]; exact heap_alloc_new _ _
  have b67 := Below.next b6 b7
  have HB7 := Lib.hid (Below.next HB5.out b67)
  have HQ7 := Lib.hid (Below.next HQ5.out b67)
  have HX7 := Lib.hid (HX5.out.below b67)
  have HY7 := Lib.hid (x6.xm.below b7)
  have HKX := Lib.hid (fun (u : World) (hu : Below W7.heap.size W7 u) => HKA.out u (Below.next b67 hu))
  have HKY := Lib.hid (fun (u : World) (hu : Below W7.heap.size W7 u) => (open2 (heap_below hu g7)).1)
  have HS7 := Lib.hid (HSM.out a4 NL c4 a6 NL c6 W7 HX7.out HY7.out)
  obtain ⟨k0, k1⟩ := HKX.out W7 (Below.refl _ _)
  obtain ⟨l0, l1⟩ := HKY.out W7 (Below.refl _ _)
  rw [hW7] at k0 k1 l0 l1
  clear b6 b7 b67 g7 x6 HR HKA HX5
  go_wp2_with fail
  rw [← hW7]
  clear hW7 k0 k1 l0 l1
  with_reducible refine HS7.out.mono ?_
  rintro e w8 ⟨rfl, b8⟩
  have HK8 := Lib.hid b8
  have HB8 := Lib.hid (Below.next HB7.out b8)
  have HQ8 := Lib.hid (Below.next HQ7.out b8)
  obtain ⟨k0, k1⟩ := HKX.out w8 HK8.out
  clear b8 HS7
  by_cases hE : E = 0
  · subst hE
    obtain ⟨h1, h2, h3⟩ := HQ.out rfl
    have HF8 := Lib.hid (HP3.out h1 a4 NL c4 w8 (HX7.out.below HK8.out))
    have HE9 := Lib.hid (HE2.out h2 h3)
    clear hee hen h1 h2 h3 HQ HP3 HE2
    go_wp2_with fail
    clear k0 k1
    with_reducible refine HF8.out.mono ?_
    rintro e w9 ⟨a9, c9, rfl, x9, b9⟩
    obtain ⟨W10, hW10⟩ : ∃ W10, W10 = w9.alloc (.cells #[.slice a9 NL c9, .int .i64 RR] 32) := ⟨_, rfl⟩
    have b10 : Below w9.heap.size w9 W10 := by rw [hW10]; exact (Below.refl _ _).alloc (Nat.le_refl _) _
    have g10 : W10.heap[w9.heap.size]? = some (.cells #[.slice a9 NL c9, .int .i64 RR] 32 (0, 0)) := by rw [hW10]; exact heap_alloc_new _ _
    have b910 := Below.next b9 b10
    have HK10 := Lib.hid (Below.next HK8.out b910)
    have HQ10 := Lib.hid (Below.next HQ8.out b910)
    have HB10 := Lib.hid (Below.next HB8.out b910)
    have HX10 := Lib.hid (HX7.out.below HK10.out)
    have HY10 := Lib.hid (x9.xm.below b10)
    have HKZ := Lib.hid (fun (u : World) (hu : Below W10.heap.size W10 u) => (open2 (heap_below hu g10)).1)
    obtain ⟨k0, k1⟩ := HKX.out W10 HK10.out
    obtain ⟨l0, l1⟩ := HK3.out W10 HQ10.out
    rw [hW10] at k0 k1 l0 l1
    clear b9 b10 b910 g10 x9 HF8
    go_wp2_with fail
    rw [← hW10]
    clear hW10 k0 k1 l0 l1
    with_reducible refine (HE9.out a2 N c2 a4 NL c4 W10 HB10.out (HX3.out.below HQ10.out) HX10.out).mono ?_
    rintro e w11 ⟨rfl, b11⟩
    have HB11 := Lib.hid (Below.next HB10.out b11)
    have HS11 := Lib.hid (HSM.out a9 NL c9 a4 NL c4 w11 (HY10.out.below b11) (HX10.out.below b11))
    obtain ⟨k0, k1⟩ := HKX.out w11 (Below.next HK10.out b11)
    obtain ⟨l0, l1⟩ := HKZ.out w11 b11
    clear b11 HE9
    go_wp2_with fail
    clear k0 k1 l0 l1
    with_reducible refine HS11.out.mono ?_
    rintro e w12 ⟨rfl, b12⟩
    have HB12 := Lib.hid (Below.next HB11.out b12)
    clear b12
    go_wp2_with fail
    go_ret
    exact ⟨rfl, HB12.out⟩
  · have hne : (E != 0) = true := by simpa using hE
    obtain ⟨l0, l1⟩ := HKY.out w8 HK8.out
    have HS8 := Lib.hid (HSM.out a4 NL c4 a6 NL c6 w8 (HX7.out.below HK8.out) (HY7.out.below HK8.out))
    go_wp2_with fail
    clear k0 k1 l0 l1
    with_reducible refine HS8.out.mono ?_
    rintro e w9 ⟨rfl, b9⟩
    have HB9 := Lib.hid (Below.next HB8.out b9)
    clear b9
    go_wp2_with fail
    go_ret
    exact ⟨rfl, HB9.out⟩
end Go.Proofs.YtcojmmhclklpoaaGreatDoor
