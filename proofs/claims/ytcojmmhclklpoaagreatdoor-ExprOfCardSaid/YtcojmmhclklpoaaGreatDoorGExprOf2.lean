/- Texts laid together. ref10.sizes: the sizes of all nodes' trees, cut at 1000. The reference's Valid of layer 8. ref10.Of. The sets of a family that is found are in order; what the same sets satisfy has the same family. Plain Lean, no program. Of, plain: what the expression of a family says, and that Family leads back. No program. A handed expression with the reach of its lists, as a law's frame opens it. Layer 10: the law Of, walked. -/
import Derived.Test.YtcojmmhclklpoaaGreatDoorGC2
import Derived.Test.YtcojmmhclklpoaaGreatDoorGC3
import Derived.Test.YtcojmmhclklpoaaGreatDoorGC5
import Derived.Test.YtcojmmhclklpoaaGreatDoorGC6
import Derived.Test.YtcojmmhclklpoaaGreatDoorGC7
import Derived.Test.YtcojmmhclklpoaaGreatDoorGC8
import Derived.Test.YtcojmmhclklpoaaGreatDoorGC10
import Derived.Test.YtcojmmhclklpoaaGreatDoorGExprOf1
import Derived.IntWalk
import Derived.SizedLaws
namespace Go.Proofs.YtcojmmhclklpoaaGreatDoor
open Go.RowKit Go.Shelf

/-- m places for numbers, the first ones filled -/
def inN (m : Nat) (l : List Nat) : Array Value := ((l ++ List.replicate (m - l.length) 0).map fun k => Value.int .i64 ((k : Nat) : Int)).toArray
theorem inN_at {m : Nat} {l : List Nat} (h : l.length ≤ m) {i : Nat} (hi : i < m) : (inN m l)[i]? = some (.int .i64 ((l.getD i 0 : Nat) : Int)) := by
  unfold inN
  rw [List.getElem?_toArray, List.getElem?_map, List.getD_eq_getElem?_getD]
  by_cases h1 : i < l.length
  · rw [List.getElem?_append_left h1, List.getElem?_eq_getElem h1]; rfl
  · rw [List.getElem?_append_right (by omega), List.getElem?_replicate, if_pos (by omega), List.getElem?_eq_none (by omega)]; rfl
theorem inN_set {m : Nat} {l : List Nat} (h : l.length < m) (v : Nat) : (inN m l).setIfInBounds l.length (.int .i64 (v : Int)) = inN m (l ++ [v]) := by
  unfold inN
  rw [List.setIfInBounds_toArray]
  congr 1
  have e : m - l.length = (m - (l ++ [v]).length) + 1 := by simp; omega
  rw [e, List.replicate_succ, List.map_append, List.map_append, List.map_append, List.map_cons, List.set_append_right _ _ (by simp)]
  simp
theorem inN_reset {m : Nat} {l : List Nat} (u v : Nat) : (inN m (l ++ [u])).setIfInBounds l.length (.int .i64 (v : Int)) = inN m (l ++ [v]) := by
  unfold inN
  rw [List.setIfInBounds_toArray]
  congr 1
  rw [List.append_assoc, List.append_assoc, List.map_append, List.map_append, List.set_append_right _ _ (by simp)]
  simp
theorem inN_old {m : Nat} {l : List Nat} (u : Nat) {i : Nat} (h : l.length < m) (hi : i < l.length) : (inN m (l ++ [u]))[i]? = some (.int .i64 ((l.getD i 0 : Nat) : Int)) := by
  rw [inN_at (by simp; omega) (by omega), List.getD_eq_getElem?_getD, List.getElem?_append_left hi, ← List.getD_eq_getElem?_getD]
theorem inN_new {m : Nat} {l : List Nat} (u : Nat) (h : l.length < m) : (inN m (l ++ [u]))[l.length]? = some (.int .i64 (u : Int)) := by
  rw [inN_at (by simp; omega) h, List.getD_eq_getElem?_getD, List.getElem?_append_right (Nat.le_refl _), Nat.sub_self]; rfl
theorem inN_all (l : List Nat) : inN l.length l = (l.map fun k => Value.int .i64 ((k : Nat) : Int)).toArray := by
  unfold inN; simp
theorem make_ints (m : Nat) (hm : m ≤ 1000000) : ∀ w, (Instr.makeSlice 69 (.int .i64 m) (.int .i64 m)).run Tryz.prog w = .ok (.slice (some ⟨w.heap.size, 0, none⟩) m m) (w.alloc (.cells (madeCells #[.int .i64 0] m) 3)) :=
  fun w => run_make_row' 69 3 (.int .i64 0) 8 Tryz.underlying69 Tryz.infoInt rfl .i64 .i64 m (by omega) (by omega) w
theorem inN_made (m : Nat) : madeCells #[.int .i64 0] m = inN m [] := by
  apply Array.toList_inj.1
  rw [toList_madeCells_one]; unfold inN; simp

set_option maxRecDepth 100000 in
set_option maxHeartbeats 4000000 in
theorem rsizes_c (x : Xpr) (hx : xprE x = 0) (hf : XprFew x) (sub : Nat → Option ET) (ls : List Nat) (hsub : ∀ s, s < 12 → subZ 1000 sub s = if s < ls.length then ls.getD s 0 else 1) (a : Option Addr) (n c : Nat) (la : Option Addr) (ln lc : Nat) (w : World) (h : XM w a n c x.nodes) (hl : Rd w la ln lc (ls.map fun k => Value.int .i64 ((k : Nat) : Int))) :
    Calls Tryz.prog 59 #[.agg #[.slice a n c, .int .i64 x.root], .slice la ln lc] w fun e w' => ∃ a', e = .returned (.slice a' n n) ∧ Rd w' a' n n ((szl 1000 x.nodes sub n).map fun k => Value.int .i64 ((k : Nat) : Int)) ∧ Below w.heap.size w w' := by
  have ok := xprE_ok hx
  have hle := h.le
  have hm := h.max
  have hn60 : n ≤ 60 := by have h1 := ok.most; have h2 := h.len; omega
  have hn0 : 0 < n := by have h1 := ok.pos; have h2 := h.len; omega
  unfold maxLen at hm
  have HX := Lib.hid h
  have HO := Lib.hid ok
  have HXX := Lib.hid hx
  have HN := Lib.hid h.len
  have HLS := Lib.hid hl
  have HSB := Lib.hid hsub
  have HFW := Lib.hid hf
  obtain ⟨RT, hRT⟩ : ∃ RT, x.root = RT := ⟨_, rfl⟩
  rw [hRT]
  clear h hx ok hl hsub hf hRT
  have hmk := make_ints n (by omega)
  obtain ⟨b, o, rfl, _⟩ := HX.out.at' hn0
  go_enter Tryz.func59, Tryz.ntmps59
  go_wp2_with fail
  generalize hWS : (w.alloc _).alloc _ = WS
  rw [inN_made] at hWS
  obtain ⟨g0, g1, hbS, hS⟩ := box2' hWS
  have HS := Lib.hid hS
  have HBS := Lib.hid hbS
  have G0 := Lib.hid g0
  have G1 := Lib.hid g1
  clear hWS hS hbS g0 g1 hmk
  go_loopw [6] (fun i wr => ∃ k : Nat, k ≤ n ∧ i = .int .i64 k ∧ wr.heap[w.heap.size + 1]? = some (.cells (inN n (szl 1000 x.nodes sub k)) 3 (0, 0)) ∧ wr.heap[w.heap.size]? = some (.cells #[.slice (some ⟨b, o, none⟩) n c, .int .i64 RT] 32 (0, 0)) ∧ w.heap.size + 2 ≤ wr.heap.size ∧ Below w.heap.size w wr) (fun i _ => n - (intOf i).toNat)
  case atStart => exact ⟨0, Nat.zero_le _, rfl, G1.out, G0.out, by rw [HS.out]; exact Nat.le_refl _, HBS.out⟩
  case round =>
    obtain ⟨k, hk, rfl, e1, e0, hsz, hb⟩ := hrel
    by_cases hlt : k < n
    · obtain ⟨nd, hnd⟩ : ∃ nd, x.nodes[k]? = some nd := ⟨_, List.getElem?_eq_getElem (by have := HN.out; omega)⟩
      obtain ⟨b', o', ha, hat⟩ := HX.out.at' (by omega)
      cases ha
      have hM := hat k nd hnd
      obtain ⟨a3, n3, c3, m3, r3⟩ := hM.ws
      obtain ⟨a4, n4, c4, m4, r4⟩ := hM.ks
      have m0 := cell_keep hb hM.c0
      have m1 := cell_keep hb hM.c1
      have m2 := cell_keep hb hM.c2
      have m3 := cell_keep hb m3
      have m4 := cell_keep hb m4
      obtain ⟨x0, x1⟩ := (open2 e0).1
      have HOK := Lib.hid (HO.out.node k nd hnd)
      have HST := Lib.hid (szl_succ 1000 x.nodes sub k)
      have HL := Lib.hid (szl_len 1000 x.nodes sub k)
      have hkk := Lib.hid (fun j kd hj => sz_kid HXX.out 1000 sub k nd hnd j kd hj)
      have hIb := Lib.hid (fun i (hi : i < k) => show (szl 1000 x.nodes sub k).getD i 0 ≤ 1000 from by rw [szl_get _ _ _ _ _ hi]; omega)
      obtain ⟨I, hI⟩ : ∃ I, szl 1000 x.nodes sub k = I := ⟨_, rfl⟩
      have hleaf := Lib.hid (fun hk1 => sz_leaf (x := x) 1000 (by omega) sub k nd hnd hk1)
      have hnode := Lib.hid (fun hk1 => sz_node HXX.out 1000 sub k nd hnd hk1)
      rw [hI] at e1 HST HL hkk hIb
      obtain ⟨kind, server, need, ws, ks⟩ := nd
      simp only at m0 m1 m2 r3 r4 hleaf hnode hkk
      have R4 := Lib.hid r4
      have HB := Lib.hid hb
      have hlk : ks.length = n4 := by have := R4.out.len; simp at this; omega
      have HLK := Lib.hid hlk
      clear hM r3 r4 hat hnd hI hb hlk
      have ea := heap_alloc_at e1 (Obj.cells #[.int .i64 kind, .int .i64 server, .int .i64 need, .slice a3 n3 c3, .slice a4 n4 c4] 71)
      have ea0 := heap_alloc_at e0 (Obj.cells #[.int .i64 kind, .int .i64 server, .int .i64 need, .slice a3 n3 c3, .slice a4 n4 c4] 71)
      have en := heap_alloc_new wr (Obj.cells #[.int .i64 kind, .int .i64 server, .int .i64 need, .slice a3 n3 c3, .slice a4 n4 c4] 71)
      have hbn : Below wr.heap.size wr (wr.alloc (Obj.cells #[.int .i64 kind, .int .i64 server, .int .i64 need, .slice a3 n3 c3, .slice a4 n4 c4] 71)) := (Below.refl _ wr).alloc (Nat.le_refl _) _
      have za := frozen_row ea k
      have zb := (cell_of_row _ _ k _ _ _ ea).trans (inN_at (by have := HL.out; omega) hlt)
      have EA := Lib.hid ea
      have EA0 := Lib.hid ea0
      have EN := Lib.hid en
      have HBN := Lib.hid hbn
      clear ea ea0 en hbn e1 e0
      go_upto_region 7 with fail
      generalize hW5 : (wr.alloc _).setCell _ _ = W5
      have e5 : W5.heap[w.heap.size + 1]? = some (.cells (inN n (I ++ [1])) 3 (0, 0)) := by
        rw [← hW5, heap_set_at EA.out]
        have := inN_set (m := n) (l := I) (by have := HL.out; omega) 1
        rw [HL.out] at this
        rw [← this]; rfl
      have e50 : W5.heap[w.heap.size]? = some (.cells #[.slice (some ⟨b, o, none⟩) n c, .int .i64 RT] 32 (0, 0)) := by rw [← hW5]; exact heap_set_other (by omega) _ _ EA0.out
      have en5 : W5.heap[wr.heap.size]? = some (.cells #[.int .i64 kind, .int .i64 server, .int .i64 need, .slice a3 n3 c3, .slice a4 n4 c4] 71 (0, 0)) := by rw [← hW5]; exact heap_set_other (by omega) _ _ EN.out
      have hb5 : Below w.heap.size w W5 := by rw [← hW5]; exact (HB.out.trans (HBN.out.mono HB.out.size)).setCell (p := ⟨w.heap.size + 1, k, none⟩) (Nat.le_succ _) _
      have hs5 : wr.heap.size < W5.heap.size := (Array.getElem?_eq_some_iff.1 en5).1
      have E5 := Lib.hid e5
      have E50 := Lib.hid e50
      have EN5 := Lib.hid en5
      have HB5 := Lib.hid hb5
      clear hW5 e5 e50 en5 hb5 za zb m0 m1 m2 m3 m4 x0 x1 EA EA0 EN HBN
      obtain ⟨q0, q1, q2, q3, q4⟩ := open5 EN5.out
      by_cases hkind : kind = 1
      · subst hkind
        obtain ⟨sv, rfl⟩ := Int.eq_ofNat_of_zero_le HOK.out.server.1
        have hsv12 := HOK.out.server.2
        simp only at hsv12
        obtain ⟨hnd0, hws0, hks⟩ := HOK.out.leaf rfl
        simp only at hks hnd0 hws0
        subst hks hnd0 hws0
        have hn0 : n4 = 0 := HLK.out.symm
        subst hn0
        have hsb := HSB.out sv (by omega)
        have hln := HLS.out.len
        rw [List.length_map] at hln
        have hlf := hleaf.out rfl
        rw [Int.toNat_natCast, hsb] at hlf
        by_cases hsl : sv < ls.length
        · rw [if_pos hsl] at hlf
          obtain ⟨b7, o7, ha7, hc7⟩ := HLS.out.at' (by omega)
          have r7 := cell_keep HB5.out (hc7 sv (.int .i64 ((ls.getD sv 0 : Nat) : Int)) (by rw [List.getElem?_map, List.getD_eq_getElem?_getD, List.getElem?_eq_getElem hsl]; rfl))
          have za := frozen_row E5.out k
          have zb := (cell_of_row _ _ k _ _ _ E5.out).trans (inN_at (by simp; have := HL.out; omega) hlt)
          have d1 : decide (sv < ln) = true := decide_eq_true (by omega)
          have d2 : decide ((sv : Int) < (ln : Int)) = true := decide_eq_true (by omega)
          have hsn : sv < ln := by omega
          have HLF := Lib.hid hlf
          subst ha7
          clear hlf hc7 hsb hln
          obtain ⟨VV, hVV⟩ : ∃ VV, ls.getD sv 0 = VV := ⟨_, rfl⟩
          rw [hVV] at r7 HLF
          clear hVV hsl
          obtain ⟨W6, hW6⟩ : ∃ u, u = W5.setCell ⟨w.heap.size + 1, k, none⟩ (.int .i64 (VV : Int)) := ⟨_, rfl⟩
          have EZ : Hid (W6.heap[w.heap.size + 1]? = some (.cells (inN n (szl 1000 x.nodes sub (k + 1))) 3 (0, 0))) := Lib.hid (by
            rw [hW6, heap_set_at E5.out, HST.out, HLF.out]
            have := inN_reset (m := n) (l := I) 1 VV
            rw [HL.out] at this
            exact congrArg (fun q => some (Obj.cells q 3 (0, 0))) this)
          have EZ0 := Lib.hid (show W6.heap[w.heap.size]? = some (.cells #[.slice (some ⟨b, o, none⟩) n c, .int .i64 RT] 32 (0, 0)) by rw [hW6]; exact heap_set_other (by omega) _ _ E50.out)
          have hen6 : W6.heap[wr.heap.size]? = some (.cells #[.int .i64 1, .int .i64 (sv : Int), .int .i64 0, .slice a3 n3 c3, .slice a4 0 c4] 71 (0, 0)) := by rw [hW6]; exact heap_set_other (by omega) _ _ EN5.out
          have HBZ : Hid (Below w.heap.size w W6) := Lib.hid (by rw [hW6]; exact HB5.out.setCell (p := ⟨w.heap.size + 1, k, none⟩) (Nat.le_succ _) _)
          have hs6 : W6.heap.size = W5.heap.size := by rw [hW6]; simp
          have n46 := (open5 hen6).2.2.2.2
          have hsi : w.heap.size + 2 ≤ W6.heap.size := by omega
          have HW6 := Lib.hid hW6
          clear hen6 hs6 hW6
          go_wp2_with fail
          rw [← HW6.out]
          clear za zb r7
          go_loopw [8] (fun i wq => i = .int .i64 ((0 : Nat) : Int) ∧ wq = W6) (fun _ _ => 0)
          case atStart => exact ⟨rfl, rfl⟩
          case round =>
            obtain ⟨rfl, hwq⟩ := hrel
            subst hwq
            go_wp2_with fail
            go_roundw
            case rel => exact ⟨k + 1, by omega, by go_num, EZ.out, EZ0.out, by omega, HBZ.out⟩
            case measure => simp [intOf] <;> omega
        · rw [if_neg hsl] at hlf
          have d1 : decide (sv < ln) = false := decide_eq_false (by omega)
          have d2 : decide ((sv : Int) < (ln : Int)) = false := decide_eq_false (by omega)
          have HLF := Lib.hid hlf
          clear hlf hsb hln hsl
          have EZ : Hid (W5.heap[w.heap.size + 1]? = some (.cells (inN n (szl 1000 x.nodes sub (k + 1))) 3 (0, 0))) := Lib.hid (by rw [HST.out, HLF.out]; exact E5.out)
          have EZ0 := E50
          have HBZ := HB5
          go_wp2_with fail
          go_loopw [8] (fun i wq => i = .int .i64 ((0 : Nat) : Int) ∧ wq = W5) (fun _ _ => 0)
          case atStart => exact ⟨rfl, rfl⟩
          case round =>
            obtain ⟨rfl, hwq⟩ := hrel
            subst hwq
            go_wp2_with fail
            go_roundw
            case rel => exact ⟨k + 1, by omega, by go_num, EZ.out, EZ0.out, by omega, HBZ.out⟩
            case measure => simp [intOf] <;> omega
      · have hk2 : (kind == 1) = false := by simpa using hkind
        obtain ⟨KT, hKT⟩ : ∃ KT, KT = kidT x.nodes sub k ks := ⟨_, rfl⟩
        rw [← hKT] at hkk hnode
        have HKl := Lib.hid (show KT.length = n4 by rw [hKT, kidT_len, HLK.out])
        have hn4m : n4 ≤ 9223372036854775807 := by have h1 := R4.out.le; have h2 := R4.out.max; unfold maxLen at h2; omega
        clear hKT
        go_wp2_with fail
        clear q0 q1 q2 q3 q4
        obtain ⟨W0, hW0⟩ : ∃ W0, W0 = wr := ⟨_, rfl⟩
        subst hW0
        go_loopw [8] (fun i wq => ∃ j : Nat, j ≤ n4 ∧ i = .int .i64 ((j : Nat) : Int) ∧ wq.heap[w.heap.size + 1]? = some (.cells (inN n (I ++ [min 1000 (1 + ETs.sz (KT.take j))])) 3 (0, 0)) ∧ wq.heap[w.heap.size]? = some (.cells #[.slice (some ⟨b, o, none⟩) n c, .int .i64 RT] 32 (0, 0)) ∧ wq.heap[W0.heap.size]? = some (.cells #[.int .i64 kind, .int .i64 server, .int .i64 need, .slice a3 n3 c3, .slice a4 n4 c4] 71 (0, 0)) ∧ W0.heap.size < wq.heap.size ∧ Below w.heap.size w wq) (fun i _ => n4 - (intOf i).toNat)
        case atStart => exact ⟨0, Nat.zero_le _, rfl, by simp only [List.take_zero, ETs.sz]; exact E5.out, E50.out, EN5.out, hs5, HB5.out⟩
        case round =>
          obtain ⟨j, hj, rfl, q1, q0, qn, hsq, hbq⟩ := hrel
          by_cases hltj : j < n4
          · obtain ⟨z, hz⟩ : ∃ z, ks[j]? = some z := ⟨_, List.getElem?_eq_getElem (by have := HLK.out; omega)⟩
            have hzr := HOK.out.kids z (List.mem_of_getElem? hz)
            obtain ⟨kd, rfl⟩ := Int.eq_ofNat_of_zero_le hzr.1
            have hkd2 : kd < k := by omega
            have hkdn : kd < n := by omega
            obtain ⟨b4, o4, ha4, hcell4⟩ := (R4.out.below hbq).at' (by omega)
            have r4 := hcell4 j (.int .i64 kd) (by rw [List.getElem?_map, hz]; rfl)
            have HKK := Lib.hid (hkk.out j kd hz)
            subst ha4
            have hI61 : I.getD kd 0 ≤ 1000 := hIb.out kd hkd2
            obtain ⟨u, hu⟩ : ∃ u, min 1000 (1 + ETs.sz (KT.take j)) = u := ⟨_, rfl⟩
            rw [hu] at q1 HKK
            have hu61 : u ≤ 1000 := by omega
            obtain ⟨d, hd⟩ : ∃ d, I.getD kd 0 = d := ⟨_, rfl⟩
            rw [hd] at hI61 HKK
            have KS : Hid (∀ y : World, Below wr.heap.size wr y → y.heap[w.heap.size + 1]? = some (.cells (inN n (I ++ [u])) 3 (0, 0)) ∧ y.cell? ⟨w.heap.size + 1, k, none⟩ = some (.int .i64 (u : Int)) ∧ y.cell? ⟨w.heap.size + 1, kd, none⟩ = some (.int .i64 (d : Int)) ∧ y.frozen? ⟨w.heap.size + 1, k, none⟩ = false ∧ y.cell? ⟨W0.heap.size, 4, none⟩ = some (.slice (some ⟨b4, o4, none⟩) n4 c4) ∧ y.cell? ⟨b4, o4 + j, none⟩ = some (.int .i64 (kd : Int))) := Lib.hid (fun y hy => by
              have h1 := heap_below hy q1
              refine ⟨h1, (cell_of_row _ _ k _ _ _ h1).trans ?_, (cell_of_row _ _ kd _ _ _ h1).trans ?_, frozen_row h1 k, (open5 (heap_below hy qn)).2.2.2.2, cell_keep hy r4⟩
              · have := inN_new (m := n) (l := I) u (by have := HL.out; omega)
                rw [HL.out] at this; exact this
              · rw [inN_old u (by have := HL.out; omega) (by have := HL.out; omega), hd])
            have n4c := (open5 qn).2.2.2.2
            have Q0 := Lib.hid q0
            have QN := Lib.hid qn
            have HBQ := Lib.hid hbq
            clear hcell4 hz hzr q1 q0 qn hbq hu hd r4
            go_wp2_with fail
            clear n4c
            refine wp_region_store (fun y => Below wr.heap.size wr y) (fun z => ∃ y, Below wr.heap.size wr y ∧ z = y.setCell ⟨w.heap.size + 1, k, none⟩ (.int .i64 ((min 1000 (u + d) : Nat) : Int))) [] 17 (by kernel_rfl) (by kernel_rfl) (by kernel_rfl) (below_drew (Below.refl _ _)) ?_
            simp only [List.take_succ_cons, List.take_zero]
            iterate 14 (refine wpT_step (fun K hK => ?_); go_simp; apply Exists.intro; refine ⟨fun y hy => ?_, ?_, hK _ ?_⟩; (first | exact rfl | (obtain ⟨_, k1, k2, k3, k4, k5⟩ := KS.out y hy; go_simp; first | exact rfl | exact ⟨rfl, hy⟩ | exact hy | exact ⟨rfl, rfl⟩ | (rw [if_pos (by omega)]; exact ⟨rfl, rfl⟩))); (first | exact late_not rfl | (focus (intro _ z hz; go_simp; done))); clear hK K)
            refine wpT_step (fun K hK => ?_)
            go_simp
            refine ⟨.int .i64 ((u : Int) + (d : Int)), fun y hy => ?_, late_not rfl, hK _ ?_⟩
            · rw [show IntKind.i64.wrap ((u : Int) + (d : Int)) = (u : Int) + (d : Int) by unfold IntKind.wrap; simp [IntKind.bits, IntKind.signed]; omega]
            clear hK K
            refine wpT_step (fun K hK => ?_)
            go_simp
            refine ⟨.int .i64 ((min 1000 (u + d) : Nat) : Int), fun y hy => ?_, late_not rfl, hK _ ?_⟩
            · congr 1; omega
            clear hK K
            (refine wpT_step (fun K hK => ?_); go_simp; apply Exists.intro; refine ⟨fun y hy => ?_, ?_, hK _ ?_⟩; (first | exact rfl | (obtain ⟨_, k1, k2, k3, k4, k5⟩ := KS.out y hy; go_simp; first | exact rfl | exact ⟨rfl, hy⟩ | exact hy | exact ⟨rfl, rfl⟩ | (rw [if_pos (by omega)]; exact ⟨rfl, rfl⟩))); (first | exact late_not rfl | (focus (intro _ z hz; go_simp; done))); clear hK K)
            refine wpT_nil ?_
            refine ⟨_, rfl, by go_simp, fun y hy => ?_, ?_⟩
            · obtain ⟨_, k1, k2, k3, k4, k5⟩ := KS.out y hy
              refine ⟨_, ?_, y, hy, rfl⟩
              go_simp
            · rintro z ⟨y, hy, rfl⟩
              obtain ⟨h1, _, _, _, _, _⟩ := KS.out y hy
              generalize hz : y.setCell _ _ = z
              have ez : z.heap[w.heap.size + 1]? = some (.cells (inN n (I ++ [min 1000 (1 + ETs.sz (KT.take (j + 1)))])) 3 (0, 0)) := by
                rw [← hz, heap_set_at h1, HKK.out]
                have := inN_reset (m := n) (l := I) u (min 1000 (u + d))
                rw [HL.out] at this
                exact congrArg (fun q => some (Obj.cells q 3 (0, 0))) this
              have ez0 : z.heap[w.heap.size]? = some (.cells #[.slice (some ⟨b, o, none⟩) n c, .int .i64 RT] 32 (0, 0)) := by
                rw [← hz]; exact heap_set_other (by omega) _ _ (heap_below hy Q0.out)
              have ezn : z.heap[W0.heap.size]? = some (.cells #[.int .i64 kind, .int .i64 server, .int .i64 need, .slice a3 n3 c3, .slice (some ⟨b4, o4, none⟩) n4 c4] 71 (0, 0)) := by
                rw [← hz]; exact heap_set_other (by omega) _ _ (heap_below hy QN.out)
              have hsz2 : W0.heap.size < z.heap.size := by
                have := hy.size
                rw [← hz]; simp; omega
              have hbz : Below w.heap.size w z := by
                rw [← hz]; exact (HBQ.out.trans (hy.mono HBQ.out.size)).setCell (p := ⟨w.heap.size + 1, k, none⟩) (Nat.le_succ _) _
              have EZ := Lib.hid ez
              have EZ0 := Lib.hid ez0
              have EZN := Lib.hid ezn
              have HBZ := Lib.hid hbz
              clear hz ez ez0 ezn hbz h1 hy
              go_simp
              go_wp2_with fail
              go_roundw
              case rel => exact ⟨j + 1, by omega, by go_num, EZ.out, EZ0.out, EZN.out, hsz2, HBZ.out⟩
              case measure => simp [intOf] <;> omega
          · obtain rfl : j = n4 := by omega
            have ez : wr.heap[w.heap.size + 1]? = some (.cells (inN n (szl 1000 x.nodes sub (k + 1))) 3 (0, 0)) := by
              rw [List.take_of_length_le (by have := HKl.out; omega), Nat.add_comm 1] at q1
              rw [HST.out, hnode.out hkind]
              exact q1
            have n4c := (open5 qn).2.2.2.2
            have EZ := Lib.hid ez
            have Q0 := Lib.hid q0
            have HBQ := Lib.hid hbq
            clear ez q1 q0 qn hbq
            go_wp2_with fail
            go_roundw
            case rel => exact ⟨k + 1, by omega, by go_num, EZ.out, Q0.out, by omega, HBQ.out⟩
            case measure => simp [intOf] <;> omega
    · obtain rfl : k = n := by omega
      have HE1 := Lib.hid e1
      have HB := Lib.hid hb
      clear e1 e0 hb
      go_wp2_with fail
      go_ret
      refine ⟨some ⟨w.heap.size + 1, 0, none⟩, rfl, ⟨by rw [List.length_map, szl_len], Nat.le_refl _, by unfold maxLen; omega, fun h => (by cases h), fun _ => ⟨_, 0, rfl, fun i v hv => ?_⟩⟩, HB.out⟩
      have hi : i < k := by
        have := (List.getElem?_eq_some_iff.1 hv).1
        rw [List.length_map, szl_len] at this; exact this
      rw [Nat.zero_add]
      refine ((cell_of_row _ _ i _ _ _ HE1.out).trans (inN_at (by rw [szl_len]; exact Nat.le_refl _) hi)).trans ?_
      rw [← hv, List.getElem?_map, List.getD_eq_getElem?_getD, List.getElem?_eq_getElem (by rw [szl_len]; exact hi)]
      rfl
end Go.Proofs.YtcojmmhclklpoaaGreatDoor
namespace Go.Proofs.YtcojmmhclklpoaaGreatDoor
open Go.RowKit Go.Shelf

theorem bef_cmp (x y : BitVec 16) : befB x y = decide (cmpS x y < 0) := by
  unfold befB
  rw [Bool.eq_iff_iff, decide_eq_true_iff, decide_eq_true_iff]
  exact (cmpS_key x y).2.symm

set_option maxRecDepth 100000 in
set_option maxHeartbeats 2000000 in
theorem valid8_c (l : List (BitVec 16)) (a : Option Addr) (n c : Nat) (w : World) (h : Rd w a n c (l.map setV2)) :
    Calls Tryz.prog 64 #[.slice a n c] w fun e w' => e = .returned (.int .i64 (valS l)) ∧ Below w.heap.size w w' := by
  have hnl : l.length = n := by have := h.len; simp at this; omega
  have hm := h.max
  have hle := h.le
  unfold maxLen at hm
  have HR := Lib.hid h
  have HN := Lib.hid hnl
  clear h hnl
  by_cases h400 : (400 : Int) < (n : Int)
  · have hV : Hid (valS l = 3) := by show _ = _; unfold valS; rw [if_pos (by have := HN.out; omega)]
    go_enter Tryz.func64, Tryz.ntmps64
    go_wp2_with fail
    go_ret
    exact ⟨by rw [hV.out]; rfl, Below.refl _ _⟩
  · have hd4 : decide ((400 : Int) < (n : Int)) = false := by simpa using h400
    have h400' : Hid (¬ 400 < l.length) := by show ¬ _; have := HN.out; omega
    clear h400
    go_enter Tryz.func64, Tryz.ntmps64
    go_wp2_with fail
    go_loopw [3] (fun i wr => ∃ k : Nat, k ≤ n ∧ i = .int .i64 k ∧ Hid (∀ j, j < k → e1 l j = 0) ∧ Below w.heap.size w wr) (fun i _ => n - (intOf i).toNat)
    case atStart => exact ⟨0, Nat.zero_le _, rfl, Lib.hid (fun j hj => by omega), Below.refl _ _⟩
    case round =>
      obtain ⟨k, hk, rfl, hno, hb⟩ := hrel
      by_cases hlt : k < n
      · obtain ⟨b, o, ha, hcell⟩ := (HR.out.below hb).at' (by omega)
        have hc := hcell k _ (at_cell (by have := HN.out; omega))
        have hlen : Hid (k < l.length) := by show k < _; have := HN.out; omega
        subst ha
        have HG := Lib.hid (range8_c (l.getD k 0#16) wr)
        by_cases ho : 4096 ≤ U (l.getD k 0#16)
        · have hV : Hid (valS l = 7) := by show _ = _; rw [valS_first h400'.out hlen.out hno.out (by rw [e1_out ho]; decide), e1_out ho]
          have ho1 : decide (U (l.getD k 0#16) < 4096) = false := decide_eq_false (by omega)
          obtain ⟨x, hx⟩ : ∃ x, l.getD k 0#16 = x := ⟨_, rfl⟩
          rw [hx] at ho ho1 hc HG
          rw [ho1] at HG
          clear hcell hx ho hno ho1
          go_wp2_with fail
          refine HG.out.mono ?_
          rintro e w1 ⟨rfl, rfl⟩
          go_wp2_with fail
          go_ret
          exact ⟨by rw [hV.out]; rfl, hb⟩
        · have ho1 : decide (U (l.getD k 0#16) < 4096) = true := decide_eq_true (by omega)
          rw [ho1] at HG
          clear ho1
          cases k with
          | zero =>
            have hno' : Hid (∀ j, j < 0 + 1 → e1 l j = 0) := Lib.hid (fun j hj => by obtain rfl : j = 0 := (by omega); exact e1_zero0 ho)
            obtain ⟨x, hx⟩ : ∃ x, l.getD 0 0#16 = x := ⟨_, rfl⟩
            rw [hx] at hc HG
            rw [Nat.add_zero] at hc
            clear hcell hx ho hno
            go_wp2_with fail
            refine HG.out.mono ?_
            rintro e w1 ⟨rfl, rfl⟩
            go_wp2_with fail
            go_quiet (fail)
            go_wp2_with fail
            go_roundw
            case rel => exact ⟨0 + 1, by omega, rfl, hno', below_drewN hb⟩
            case measure => simp [intOf]; omega
          | succ k =>
            have hc0 := hcell k _ (at_cell (by have := hlen.out; omega))
            have he := e1_next ho
            have hbc := bef_cmp (l.getD k 0#16) (l.getD (k + 1) 0#16)
            have q1 : IntKind.i64.wrap (((k + 1 : Nat) : Int) - 1) = (k : Int) := by rw [IntWalk.i64_in _ (by omega)]; omega
            by_cases hcmp : 0 ≤ cmpS (l.getD k 0#16) (l.getD (k + 1) 0#16)
            · rw [if_pos hcmp] at he
              have hV : Hid (valS l = 1) := by show _ = _; rw [valS_first h400'.out hlen.out hno.out (by rw [he]; decide), he]
              rw [decide_eq_false (by omega)] at hbc
              obtain ⟨x, hx⟩ : ∃ x, l.getD k 0#16 = x := ⟨_, rfl⟩
              obtain ⟨y, hy⟩ : ∃ y, l.getD (k + 1) 0#16 = y := ⟨_, rfl⟩
              have HC := Lib.hid (fun w => before8_c x y w)
              rw [hx, hy] at hbc
              rw [hbc] at HC
              rw [hx] at hc0
              rw [hy] at hc HG
              clear hcell hx hy ho hno he hcmp hbc
              go_wp2_with fail
              refine HG.out.mono ?_
              rintro e w1 ⟨rfl, rfl⟩
              go_wp2_with fail
              go_quiet ((go_at_call 92; exact Calls.quiet_of_same (HC.out _)))
              go_wp2_with fail
              go_ret
              exact ⟨by rw [hV.out]; rfl, below_drewN hb⟩
            · rw [if_neg hcmp] at he
              rw [decide_eq_true (by omega)] at hbc
              have hno' : Hid (∀ j, j < k + 1 + 1 → e1 l j = 0) := Lib.hid (fun j hj => by
                by_cases h1 : j < k + 1
                · exact hno.out j h1
                · obtain rfl : j = k + 1 := by omega
                  exact he)
              obtain ⟨x, hx⟩ : ∃ x, l.getD k 0#16 = x := ⟨_, rfl⟩
              obtain ⟨y, hy⟩ : ∃ y, l.getD (k + 1) 0#16 = y := ⟨_, rfl⟩
              have HC := Lib.hid (fun w => before8_c x y w)
              rw [hx, hy] at hbc
              rw [hbc] at HC
              rw [hx] at hc0
              rw [hy] at hc HG
              clear hcell hx hy ho hno he hcmp hbc
              go_wp2_with fail
              refine HG.out.mono ?_
              rintro e w1 ⟨rfl, rfl⟩
              go_wp2_with fail
              go_quiet ((go_at_call 92; exact Calls.quiet_of_same (HC.out _)))
              go_wp2_with fail
              go_roundw
              case rel => exact ⟨k + 1 + 1, by omega, by go_num, hno', below_drewN hb⟩
              case measure => simp [intOf]; omega
      · have hall : Hid (∀ j, j < l.length → e1 l j = 0) := Lib.hid (fun j hj => hno.out j (by have := HN.out; omega))
        clear hno
        go_wp2_with fail
        go_loopw [4] (fun i wr => ∃ k : Nat, k ≤ n ∧ i = .int .i64 k ∧ Hid (∀ i, i < k → ∀ j, j < l.length → i ≠ j → subB (l.getD i 0#16) (l.getD j 0#16) = false) ∧ Below w.heap.size w wr) (fun i _ => n - (intOf i).toNat)
        case atStart => exact ⟨0, Nat.zero_le _, rfl, Lib.hid (fun j hj => by omega), hb⟩
        case round =>
          clear hb
          obtain ⟨i, hi, rfl, hno, hb⟩ := hrel
          by_cases hlt2 : i < n
          · go_wp2_with fail
            go_loopw [5] (fun v wr => ∃ k : Nat, k ≤ n ∧ v = .int .i64 k ∧ Hid (∀ j, j < k → i ≠ j → subB (l.getD i 0#16) (l.getD j 0#16) = false) ∧ Below w.heap.size w wr) (fun v _ => n - (intOf v).toNat)
            case atStart => exact ⟨0, Nat.zero_le _, rfl, Lib.hid (fun j hj => by omega), hb⟩
            case round =>
              clear hb
              obtain ⟨j, hj, rfl, hno2, hb⟩ := hrel
              by_cases hlt3 : j < n
              · by_cases hij : i = j
                · subst hij
                  have hno3 : Hid (∀ j, j < i + 1 → i ≠ j → subB (l.getD i 0#16) (l.getD j 0#16) = false) := Lib.hid (fun j hj hne => hno2.out j (by omega) hne)
                  clear hno2
                  go_wp2_with fail
                  go_quiet (fail)
                  go_wp2_with fail
                  go_roundw
                  case rel => exact ⟨i + 1, by omega, by go_num, hno3, below_drewN hb⟩
                  case measure => simp [intOf]; omega
                · obtain ⟨b, o, ha, hcell⟩ := (HR.out.below hb).at' (by omega)
                  have hc := hcell i _ (at_cell (by have := HN.out; omega))
                  have hc2 := hcell j _ (at_cell (by have := HN.out; omega))
                  subst ha
                  have hne : ((i : Int) != (j : Int)) = true := by rw [bne_iff_ne]; omega
                  have HC := Lib.hid (fun w => contains8_c (l.getD i 0#16) (l.getD j 0#16) w)
                  cases hq : subB (l.getD i 0#16) (l.getD j 0#16)
                  · have hno3 : Hid (∀ j', j' < j + 1 → i ≠ j' → subB (l.getD i 0#16) (l.getD j' 0#16) = false) := Lib.hid (fun j' hj hne => by
                      by_cases h1 : j' < j
                      · exact hno2.out j' h1 hne
                      · obtain rfl : j' = j := by omega
                        exact hq)
                    rw [hq] at HC
                    obtain ⟨x, hx⟩ : ∃ x, l.getD i 0#16 = x := ⟨_, rfl⟩
                    obtain ⟨y, hy⟩ : ∃ y, l.getD j 0#16 = y := ⟨_, rfl⟩
                    rw [hx, hy] at HC
                    rw [hx] at hc
                    rw [hy] at hc2
                    clear hno2 hcell hq hx hy hij
                    go_wp2_with fail
                    go_quiet ((go_at_call 89; exact Calls.quiet_of_same (HC.out _)))
                    go_wp2_with fail
                    go_roundw
                    case rel => exact ⟨j + 1, by omega, by go_num, hno3, below_drewN hb⟩
                    case measure => simp [intOf]; omega
                  · have hV : Hid (valS l = 1) := by
                      show _ = _
                      rw [valS_over h400'.out hall.out, if_pos]
                      exact (overB_any hall.out).2 ⟨i, j, by have := HN.out; omega, by have := HN.out; omega, hij, hq⟩
                    rw [hq] at HC
                    obtain ⟨x, hx⟩ : ∃ x, l.getD i 0#16 = x := ⟨_, rfl⟩
                    obtain ⟨y, hy⟩ : ∃ y, l.getD j 0#16 = y := ⟨_, rfl⟩
                    rw [hx, hy] at HC
                    rw [hx] at hc
                    rw [hy] at hc2
                    clear hno2 hcell hq hx hy hij
                    go_wp2_with fail
                    go_quiet ((go_at_call 89; exact Calls.quiet_of_same (HC.out _)))
                    go_wp2_with fail
                    go_ret
                    exact ⟨by rw [hV.out]; rfl, below_drewN hb⟩
              · have hno3 : Hid (∀ i', i' < i + 1 → ∀ j, j < l.length → i' ≠ j → subB (l.getD i' 0#16) (l.getD j 0#16) = false) := Lib.hid (fun i' hi' j' hj' hne => by
                  by_cases h1 : i' < i
                  · exact hno.out i' h1 j' hj' hne
                  · obtain rfl : i' = i := by omega
                    exact hno2.out j' (by have := HN.out; omega) hne)
                clear hno hno2
                go_wp2_with fail
                go_roundw
                case rel => exact ⟨i + 1, by omega, by go_num, hno3, hb⟩
                case measure => simp [intOf]; omega
          · have hV : Hid (valS l = 0) := by
              show _ = _
              rw [valS_over h400'.out hall.out, if_neg]
              intro hc
              obtain ⟨i', j', h1, h2, h3, h4⟩ := (overB_any hall.out).1 hc
              rw [hno.out i' (by have := HN.out; omega) j' h2 h3] at h4; cases h4
            clear hno
            go_wp2_with fail
            go_ret
            exact ⟨by rw [hV.out]; rfl, hb⟩
end Go.Proofs.YtcojmmhclklpoaaGreatDoor
namespace Go.Proofs.YtcojmmhclklpoaaGreatDoor
open Go.RowKit Go.Shelf

/-- what grew from a world beyond grew from the world -/
theorem grown_from {w x y : World} {b : Option Nat} (hb : Below w.heap.size w x) (hg : x.grownBy y b) : w.grownBy y b := by
  have hx := hb.size
  exact ⟨hg.os.trans hb.os, hg.tape.trans hb.tape, hg.output.trans hb.output, Nat.le_trans hx hg.size, fun g g1 g2 => (hg.block g (by omega) g2).trans (hb.block g g1)⟩
theorem plA_made (mem : List Nat) : madeCells #[.int .i64 0] 12 = plA mem 0 := by
  rw [plA_zero]
  apply Array.toList_inj.1
  rw [toList_madeCells_one]; simp

set_option maxRecDepth 100000 in
set_option maxHeartbeats 16000000 in
theorem rof10_c (f : List (BitVec 16)) (a : Option Addr) (n c : Nat) (w : World) (h : Rd w a n c (f.map setV2)) :
    Calls Tryz.prog 25 #[.slice a n c] w fun e w' => RetX (ofE f).1 (ofE f).2 w e w' := by
  have H1 := Lib.hid (fun (u : World) (hb : Below w.heap.size w u) => valid8_c f a n c u (h.below hb))
  by_cases hE : valS f = 0
  · obtain ⟨hl4, _, _⟩ := valS_ok hE
    have hRR : ofE f = if 60 < (ofX f).nodes.length then (⟨[], 0⟩, 3) else (ofX f, 0) := by unfold ofE; rw [if_neg (by rw [hE]; simp)]
    have HRR := Lib.hid hRR
    have hfn : f.length = n := by have := h.len; simp at this; omega
    rw [hE] at H1
    have HH := Lib.hid h
    have HV := Lib.hid hE
    have H2 := Lib.hid (fun (u : World) (hb : Below w.heap.size w u) => support8_c f a n c u (h.below hb))
    have HM := Lib.hid (fun (s : BitVec 16) (u : World) (_ : Below w.heap.size w u) => rmembers_c s (U s) u rfl)
    have hm12 := memO_len hE
    have HM12 := Lib.hid (mem12 hE)
    have HMM := Lib.hid (fun (s : BitVec 16) (hs : s ∈ f) (m : Nat) (hm : m ∈ memS s) => memO_mem hE hs hm)
    have HK12 := Lib.hid (fun (s : BitVec 16) (hs : s ∈ f) => kids12 hE hs)
    have HFN := Lib.hid hfn
    have hn4 : n ≤ 400 := by omega
    obtain ⟨mem, hmem⟩ : ∃ mem, memO f = mem := ⟨_, rfl⟩
    have hms : memS (supS f) = mem := hmem
    have hnd := memO_nodup f
    rw [hmem] at hm12 HM12 HMM hnd
    obtain ⟨nm, hnm⟩ : ∃ nm, mem.length = nm := ⟨_, rfl⟩
    rw [hnm] at hm12
    have HNM := Lib.hid hnm
    have HND := Lib.hid hnd
    have HMS := Lib.hid hms
    have HME := Lib.hid hmem
    clear hRR h hE hl4 hfn hnm hnd hms hmem
    go_enter Tryz.func25, Tryz.ntmps25
    go_wp2_with fail
    generalize hW1 : w.alloc _ = w1
    have hb1 : Below w.heap.size w w1 := by rw [← hW1]; exact (Below.refl _ _).alloc (Nat.le_refl _) _
    have gR1 : w1.heap[w.heap.size]? = some (.cells #[.slice none 0 0, .int .i64 0] 32 (0, 0)) := by rw [← hW1]; exact heap_alloc_new _ _
    have hs1 : w1.heap.size = w.heap.size + 1 := by rw [← hW1]; simp
    clear hW1
    with_reducible refine (H1.out w1 hb1).mono ?_
    rintro e w4 ⟨rfl, hb4⟩
    have hs4 := hb4.size
    obtain ⟨X, hX⟩ : ∃ X, w4.heap.size = X := ⟨_, rfl⟩
    obtain ⟨w5, hw5⟩ : ∃ w5, w5 = (w4.alloc (.cells #[.slice none 0 0, .int .i64 0] 32)).alloc (.cells (plA mem 0) 3) := ⟨_, rfl⟩
    obtain ⟨gX, gP, hb5, hs5⟩ := box2 hw5.symm
    rw [hX] at gX gP hs5 hs4
    have hb05 := Below.next hb1 (Below.next hb4 hb5)
    have hX1 : w.heap.size + 1 ≤ X := by omega
    have GR5 := Lib.hid (heap_below (Below.next hb4 hb5) gR1)
    have GX5 := Lib.hid gX
    have GP5 := Lib.hid gP
    have HB05 := Lib.hid hb05
    have HH2 := Lib.hid (H2.out w5 hb05)
    have hmk : ∀ u, (Instr.makeSlice 69 (.int .i64 12) (.int .i64 12)).run Tryz.prog u = .ok (.slice (some ⟨u.heap.size, 0, none⟩) 12 12) (u.alloc (.cells (plA mem 0) 3)) := fun u => by
      rw [← plA_made mem]; exact make_ints 12 (by omega) u
    clear hb1 gR1 hs1 hb4 hb5 gX gP hb05 hs4 H1 H2
    go_wp2_with fail
    rw [← hw5]
    clear hw5 hX hmk
    with_reducible refine HH2.out.mono ?_
    rintro e w5' ⟨rfl, hweq⟩
    subst hweq
    have HHM := Lib.hid (HM.out (supS f) w5' HB05.out)
    rw [HMS.out] at HHM
    clear HH2
    go_wp2_with fail
    with_reducible refine HHM.out.mono ?_
    rintro e w6 ⟨mv, rfl, hown, hb6⟩
    have hown' : w6.ownsRow w5'.heap.size 3 1 mv nm (mem.map intV) := by
      have h9 := hown
      unfold Own at h9
      rw [List.length_map, HNM.out] at h9
      exact h9
    obtain ⟨am, cm, rfl, hrd⟩ := rd_of_row hown'
    have HOM := Lib.hid hown'
    have HB06 := Lib.hid (Below.next HB05.out hb6)
    have GR6 := Lib.hid (heap_below hb6 GR5.out)
    have GX6 := Lib.hid (heap_below hb6 GX5.out)
    have GP6 := Lib.hid (heap_below hb6 GP5.out)
    have hs6 := hb6.size
    have hX6 : X + 2 ≤ w6.heap.size := by omega
    have HS5 := Lib.hid hs5
    clear hown hown' hrd hb6 GR5 GX5 GP5 HHM HB05 hs6 hs5
    go_wp2_with fail
    go_loopw [9] (fun q wr => ∃ k v, k ≤ nm ∧ q = .int .i64 ((k : Nat) : Int) ∧ wr.heap[X]? = some (.cells #[v, .int .i64 0] 32 (0, 0)) ∧ wr.heap[X + 1]? = some (.cells (plA mem k) 3 (0, 0)) ∧ XB (fun _ => False) w6.heap.size wr v 71 (srvN (mem.take k)) ∧ (∀ g, g < w6.heap.size → g ≠ X → g ≠ X + 1 → wr.heap[g]? = w6.heap[g]?) ∧ Below w.heap.size w wr ∧ w6.heap.size ≤ wr.heap.size) (fun q _ => nm - (intOf q).toNat)
    case atStart => exact ⟨0, _, Nat.zero_le _, rfl, GX6.out, GP6.out, XB.nil _ _ _ _ (fun _ h => h.elim), fun _ _ _ _ => rfl, HB06.out, Nat.le_refl _⟩
    case round =>
      obtain ⟨k, v, hk, rfl, hXb, hPb, hxb, hbk, hbw, hsz⟩ := hrel
      by_cases hlt : k < nm
      · obtain ⟨m, hm⟩ : ∃ m, mem[k]? = some m := ⟨_, List.getElem?_eq_getElem (by have := HNM.out; omega)⟩
        have hm12' : m < 12 := HM12.out m (List.mem_of_getElem? hm)
        have HPS := Lib.hid (plA_step HND.out hm hm12')
        have HSS := Lib.hid (srvN_succ hm)
        obtain ⟨_, _, e9, hrd⟩ := rd_of_row (rowK_at HOM.out fun g hg => hbk g (HOM.out.lt g hg).2 (by have := HOM.out.lt g hg; have := HS5.out; omega) (by have := HOM.out.lt g hg; have := HS5.out; omega))
        cases e9
        obtain ⟨b, o, ha, hcell⟩ := hrd.at' (by omega)
        have hc : wr.cell? ⟨b, o + k, none⟩ = some (.int .i64 m) := hcell k (intV m) (by rw [List.getElem?_map, hm]; rfl)
        obtain ⟨V, hV1, hV2, hV3⟩ := hxb.row
        have hkl : (srvN (mem.take k)).length = k := by rw [srvN_len, List.length_take]; have := HNM.out; omega
        rw [hkl] at hV1 hV2
        obtain ⟨av, cv, rfl, _⟩ := rdK_of_row hV2
        have hpc := cell_of_row _ _ m _ _ _ hPb |>.trans (plA_at mem k m hm12')
        have hpf := frozen_row hPb m
        have hXc := cell_of_row _ _ 0 _ _ _ hXb
        have HXB := Lib.hid hxb
        have HXb := Lib.hid hXb
        have HPb := Lib.hid hPb
        have HBK := Lib.hid hbk
        have HBW := Lib.hid hbw
        have HV1 := Lib.hid hV1
        have HV2 := Lib.hid hV2
        have HV3 := Lib.hid hV3
        have HKL := Lib.hid hkl
        subst ha
        have HKS := Lib.hid (fun (u : World) (hu : u.heap[b]? = wr.heap[b]?) => (World.cell?_of_block (w := wr) (w' := u) (a := ⟨b, o + k, none⟩) hu).trans hc)
        have hbX : X + 2 ≤ b ∧ b < w6.heap.size := by
          have h1 := HOM.out.lt b (by simp [Value.ownBlock])
          have := HS5.out
          omega
        clear hrd hcell hxb hXb hPb hbk hbw hV1 hV2 hV3 hkl hm
        go_upto_region 12 with fail
        generalize hWp : wr.setCell _ _ = wp
        have hkp : ∀ g, g ≠ X + 1 → wp.heap[g]? = wr.heap[g]? := fun g hg => by rw [← hWp]; exact Below.heap_setCell _ ⟨X + 1, m, none⟩ _ g hg
        have gPp : wp.heap[X + 1]? = some (.cells (plA mem (k + 1)) 3 (0, 0)) := by rw [← hWp, heap_set_at HPb.out, HPS.out]
        have gXp : wp.heap[X]? = some (.cells #[.slice av k cv, .int .i64 0] 32 (0, 0)) := (hkp X (by omega)).trans HXb.out
        have hsp : wp.heap.size = wr.heap.size := by rw [← hWp]; simp
        have hbp : Below w.heap.size wr wp := by rw [← hWp]; exact (Below.refl _ _).setCell (p := ⟨X + 1, m, none⟩) (by show w.heap.size ≤ X + 1; omega) _
        have hrlt := HV2.out.lt
        have hrowp : wp.ownsRow w6.heap.size 71 5 (.slice av k cv) k (V.flatMap nodVC) := rowK_at HV2.out fun g hg => hkp g (by have := hrlt g hg; omega)
        have hxbp := HXB.out.move (w' := wp) (fun g hg => hg.elim) (fun g hg => hkp g (by have := hrlt g hg; omega)) (by omega)
        have HROWP := Lib.hid hrowp
        have HXBP := Lib.hid hxbp
        have GPP := Lib.hid gPp
        have GXP := Lib.hid gXp
        have HKP := Lib.hid hkp
        have HBP := Lib.hid hbp
        have hxc := cell_of_row _ _ 0 _ _ _ gXp
        have hsp1 : w6.heap.size ≤ wp.heap.size := by omega
        have HSP := Lib.hid hsp
        have hkp0 := hkp
        clear hWp hkp gPp gXp hbp hrowp hxbp hpc hpf hXc hc HV2 hsp
        have hrlt0 := hrlt
        have hcp : wp.cell? ⟨b, o + k, none⟩ = some (.int .i64 m) := HKS.out wp (hkp0 b (by omega))
        have hxc2 : ∀ ob, (wp.alloc ob).cell? ⟨X, 0, none⟩ = some (.slice av k cv) := fun ob => (World.cell?_alloc_lt _ _ _ (cell_lt hxc)).trans hxc
        have hbw : b < wp.heap.size := by omega
        obtain ⟨ii, hi0, hz0, hz1, hz2⟩ := info_parts Tryz.infoNod
        refine wp_region_noPanic ?_
        refine wp_region_takes (fun u => u.cell? ⟨b, o + k, none⟩ = some (.int .i64 m)) [0, 2, 3, 4, 5, 6] 5 (by kernel_rfl) (by kernel_rfl) (by kernel_rfl) (fun _ _ _ _ _ h => h) hcp ?_
        repeat (refine wpTk_cons rfl (fun K hK => ?_); go_simp; apply Exists.intro; refine ⟨fun u q1 => ?_, hK _ ?_⟩; (first | exact rfl | (go_simp; done) | (go_simp; exact rfl)); clear hK K)
        refine wpTk_nil ?_
        refine held_ready (rs := [1, 7]) (by kernel_rfl) (by simp) ?_
        refine AllReadyH.cons rfl (fun K hK => ?_) (AllReadyH.cons rfl (fun K hK => ?_) AllReadyH.nil)
        go_simp
        refine hK.out _ _ hcp (fun hh => ?_)
        clear hh hK K; try simp only [Act.put, List.setIfInBounds_toArray, List.set_cons_zero, List.set_cons_succ]
        refine held_ready (rs := [7]) (by kernel_rfl) (by simp) ?_
        refine AllReadyH.cons rfl (fun K hK => ?_) AllReadyH.nil
        go_simp
        refine hK.out _ _ (HKS.out _ ((Below.heap_alloc wp _ b hbw).trans (hkp0 b (by omega)))) (fun hh => ?_)
        clear hh hK K; try simp only [Act.put, List.setIfInBounds_toArray, List.set_cons_zero, List.set_cons_succ]
        rotate_left
        go_simp
        refine hK.out _ _ (HKS.out _ ((Below.heap_alloc wp _ b hbw).trans (hkp0 b (by omega)))) (fun hh => ?_)
        clear hh hK K; try simp only [Act.put, List.setIfInBounds_toArray, List.set_cons_zero, List.set_cons_succ]
        refine held_ready (rs := [1]) (by kernel_rfl) (by simp) ?_
        refine AllReadyH.cons rfl (fun K hK => ?_) AllReadyH.nil
        go_simp
        refine hK.out _ _ (HKS.out _ ((Below.heap_alloc wp _ b hbw).trans (hkp0 b (by omega)))) (fun hh => ?_)
        clear hh hK K; try simp only [Act.put, List.setIfInBounds_toArray, List.set_cons_zero, List.set_cons_succ]
        all_goals
          refine held_ready (rs := [8]) (by kernel_rfl) (by simp) ?_
          refine AllReadyH.cons rfl (fun K hK => ?_) AllReadyH.nil
          refine step_append_lies _ (by rfl) _ _ _ (by rfl) w6.heap.size 71 ii _ 5 72 Tryz.underlying30 hi0 hz0 hz1 hz2 rfl (by omega) (.slice av k cv) k _ (by rfl) ((HROWP.out.alloc _).drew) ⟨wp.heap.size, 0, none⟩ 1 1 [.int .i64 1, .int .i64 (m : Int), .int .i64 0, .slice none 0 0, .slice none 0 0] (by rfl) (by rfl) (World.news_of_block (cs := #[.int .i64 1, .int .i64 (m : Int), .int .i64 0, .slice none 0 0, .slice none 0 0]) (t := 71) (fr := (0, 0)) (heap_alloc_new wp _)) (by simp [Value.oneCell']) (by omega) (by unfold maxLen; omega) (by omega) (by simp; omega) (wp.heap.size + 1) (by simp) ?_
          intro gg cap w7 hown7 hgrow hat hlt2
          have hb7x : Below wp.heap.size wp ((wp.alloc (.cells #[.int .i64 1, .int .i64 (m : Int), .int .i64 0, .slice none 0 0, .slice none 0 0] 71)).drew) := below_drew ((Below.refl _ _).alloc (Nat.le_refl _) _)
          have hg7 : wp.grownBy w7 (Value.slice av k cv).ownBlock := grown_from hb7x hgrow
          have hv7 : ∀ g, (Value.slice (some ⟨gg, 0, none⟩) (k + 1) cap).ownBlock = some g → (Value.slice av k cv).ownBlock = some g ∨ wp.heap.size ≤ g := fun g hg => by
            have e2 : gg = g := by simpa [Value.ownBlock] using hg
            rcases hat with h1 | h1
            · exact .inl (e2 ▸ h1)
            · exact .inr (by omega)
          have hb7 : Below w6.heap.size wp w7 := (Below.refl _ _).grown hg7 (by omega) (fun g hg => (hrlt0 g hg).1)
          have hs7 := hg7.size
          have hV3 := fun (i : Nat) p nd hp hn => (HV3.out i p nd hp hn).move (w' := wp) (fun g hg => hg.elim)
          have hxb7 := HXBP.out.app (SW := fun _ => False) (p := ⟨1, (m : Int), 0, .slice none 0 0, .slice none 0 0⟩) (nd := ⟨1, (m : Int), 0, [], []⟩) (by rw [HV1.out, HKL.out]) hV3 (Below.refl _ _) hg7 (by rw [HKL.out]; exact hown7) hv7 (nodS_srv _ _ _ _) (fun g hg => hg.elim)
          rw [← HSS.out] at hxb7
          have hxb8 := hxb7.mono (S' := fun _ => False) (fun g hg => hg.elim id id) (fun g hg => hg.elim) (fun g e hg => hg.elim)
          have hblk : ∀ g, g < w6.heap.size → w7.heap[g]? = wp.heap[g]? := fun g hg => hg7.block g (by omega) (fun e => by have := hrlt0 g e.symm; omega)
          have hsp := HSP.out
          have gX7 := (hblk X (by omega)).trans GXP.out
          have gP7 := (hblk (X + 1) (by omega)).trans GPP.out
          have hx7 := cell_of_row _ _ 0 _ _ _ gX7
          have fx7 := frozen_row gX7 0
          have HXB8 := Lib.hid hxb8
          have GX7 := Lib.hid gX7
          have GP7 := Lib.hid gP7
          have HBLK := Lib.hid hblk
          have HB7 := Lib.hid (HBW.out.trans (HBP.out.trans (hb7.mono (by have := HB06.out.size; omega))))
          refine hK.out _ _ (HKS.out _ ((hblk b (by omega)).trans (hkp0 b (by omega)))) (fun hh => ?_)
          clear hh hK K hxb7 hxb8 hV3 hown7 hb7x hb7 hg7 hgrow hat hv7 gX7 gP7 hblk hxc hxc2; try simp only [Act.put, List.setIfInBounds_toArray, List.set_cons_zero, List.set_cons_succ]
          refine held_ready (rs := [9]) (by kernel_rfl) (by simp) ?_
          refine AllReadyH.cons rfl (fun K hK => ?_) AllReadyH.nil
          go_simp
          refine hK.out _ _ (HKS.out _ ((HBLK.out b (by omega)).trans (hkp0 b (by omega)))) (fun hh => ?_)
          clear hh hK K; try simp only [Act.put, List.setIfInBounds_toArray, List.set_cons_zero, List.set_cons_succ]
          refine held_ready (rs := [10]) (by kernel_rfl) (by simp) ?_
          refine AllReadyH.cons rfl (fun K hK => ?_) AllReadyH.nil
          go_simp
          refine hK.out _ _ (HKS.out _ ((Below.heap_setCell _ ⟨X, 0, none⟩ _ b (by show b ≠ X; omega)).trans ((HBLK.out b (by omega)).trans (hkp0 b (by omega))))) (fun hh => ?_)
          clear hh hK K; try simp only [Act.put, List.setIfInBounds_toArray, List.set_cons_zero, List.set_cons_succ]
          refine wpAnyH_done (by kernel_rfl) (NoPanic.normal ?_) _
          clear hx7 fx7
          go_wp2_with fail
          go_roundw
          case rel =>
            refine ⟨k + 1, .slice (some ⟨gg, 0, none⟩) (k + 1) cap, by omega, by go_num, by rw [heap_set_at GX7.out]; rfl, heap_set_other (by omega) _ _ GP7.out, HXB8.out.move (fun g hg => hg.elim) (fun g hg => ?_) (by simp), fun g h1 h2 h3 => ?_, ?_, by simp; omega⟩
            · exact Below.heap_setCell _ _ _ _ (by have := (HXB8.out.lt_own g hg).1; show g ≠ X; omega)
            · rw [Below.heap_setCell _ ⟨X, 0, none⟩ _ g h2, HBLK.out g h1, HKP.out g h3]
              exact HBK.out g h1 h2 h3
            · exact HB7.out.setCell (p := ⟨X, 0, none⟩) (by show w.heap.size ≤ X; omega) _
          case measure => simp [intOf] <;> omega
      · obtain rfl : k = nm := by omega
        rw [List.take_of_length_le (by have := HNM.out; omega)] at hxb
        have h0 : (ofT f 0).1 = srvN mem := by rw [ofT_zero, HME.out]
        rw [← h0] at hxb
        have HXB0 := Lib.hid hxb
        have HX0 := Lib.hid hXb
        have HP0 := Lib.hid hPb
        have HBK0 := Lib.hid hbk
        have HBW0 := Lib.hid hbw
        have HFT := Lib.hid (fun j hj => ofT_len f j hj)
        clear h0 hxb hXb hPb hbk hbw
        go_wp2_with fail
        go_loopw [6, 10] (fun a9 q wr => ∃ j v S, j ≤ n ∧ q = .int .i64 ((j : Nat) : Int) ∧ wr.heap[X]? = some (.cells #[v, .int .i64 0] 32 (0, 0)) ∧ wr.heap[X + 1]? = some (.cells (plA mem k) 3 (0, 0)) ∧ XB S w6.heap.size wr v 71 (ofT f j).1 ∧ wr.ownsRow w6.heap.size 3 1 a9 j ((ofT f j).2.map (Value.int .i64)) ∧ (∀ g, S g → w6.heap.size ≤ g) ∧ (∀ g, a9.ownBlock = some g → ¬ S g ∧ v.ownBlock ≠ some g) ∧ (∀ g, g < w6.heap.size → g ≠ X → g ≠ X + 1 → wr.heap[g]? = w6.heap[g]?) ∧ Below w.heap.size w wr ∧ w6.heap.size ≤ wr.heap.size) (fun _ q _ => n - (intOf q).toNat)
        case atStart => exact ⟨0, v, fun _ => False, Nat.zero_le _, rfl, HX0.out, HP0.out, HXB0.out, World.ownsRow_nil _ _ _ _, fun _ h => h.elim, (fun _ h => by cases h), HBK0.out, HBW0.out, hsz⟩
        case round =>
          clear HXB0 HX0 HP0 HBK0 HBW0 hsz
          obtain ⟨j, v, S, hj, rfl, hXb, hPb, hxb, hrow9, hS, hd9, hbk, hbw, hsz⟩ := hrel
          by_cases hlt : j < n
          · obtain ⟨s, hs⟩ : ∃ s, f[j]? = some s := ⟨_, List.getElem?_eq_getElem (by have := HFN.out; omega)⟩
            have hsm := List.mem_of_getElem? hs
            have HKS := Lib.hid (HK12.out s hsm)
            have HST := Lib.hid (ofT_succ hs)
            obtain ⟨b, o, ha, hcell⟩ := (HH.out.below hbw).at' (by omega)
            have hc : wr.cell? ⟨b, o + j, none⟩ = some (.int .u16 (U s)) := hcell j (setV2 s) (by rw [List.getElem?_map, hs]; rfl)
            have HMJ := Lib.hid (HM.out s wr hbw)
            have HMMS := Lib.hid (HMM.out s hsm)
            obtain ⟨nk, hnk⟩ : ∃ nk, (memS s).length = nk := ⟨_, rfl⟩
            have hnk12 : nk ≤ 12 := by rw [← hnk]; exact HKS.out
            have HNK := Lib.hid hnk
            have HXb := Lib.hid hXb
            have HPb := Lib.hid hPb
            have HXB := Lib.hid hxb
            have HR9 := Lib.hid hrow9
            have HSS := Lib.hid hS
            have HD9 := Lib.hid hd9
            have HBK := Lib.hid hbk
            have HBW := Lib.hid hbw
            subst ha
            clear hXb hPb hxb hrow9 hS hd9 hbk hbw hs hsm hcell hnk
            go_wp2_with fail
            with_reducible refine HMJ.out.mono ?_
            rintro e w7 ⟨kv, rfl, hown7, hb7⟩
            have hown7' : w7.ownsRow wr.heap.size 3 1 kv nk ((memS s).map intV) := by
              have h9 := hown7
              unfold Own at h9
              rw [List.length_map, HNK.out] at h9
              exact h9
            obtain ⟨a7, c7, rfl, hrd7⟩ := rd_of_row hown7'
            have HRD7 := Lib.hid hrd7
            have h9lt := HR9.out.lt
            have hr9q := rowK_below HR9.out hb7
            obtain ⟨a9, c9, rfl, _⟩ := rd_of_row hr9q
            have hxbq := HXB.out.below hb7
            have gXq := heap_below hb7 HXb.out
            have gPq := heap_below hb7 HPb.out
            have hbwq := Below.next HBW.out hb7
            have hbkq : ∀ g, g < w6.heap.size → g ≠ X → g ≠ X + 1 → w7.heap[g]? = w6.heap[g]? := fun g h1 h2 h3 => (hb7.block g (by omega)).trans (HBK.out g h1 h2 h3)
            have hvlt0 := HXB.out.lt_own
            have hSlt0 := HXB.out.lt
            have hs7 := hb7.size
            obtain ⟨KS, hKS⟩ : ∃ KS, kidsO mem s = KS := ⟨_, rfl⟩
            have hST : ofT f (j + 1) = if KS.length = 1 then ((ofT f j).1, (ofT f j).2 ++ KS) else ((ofT f j).1 ++ [⟨2, 0, (KS.length : Int), [], KS⟩], (ofT f j).2 ++ [((ofT f j).1.length : Int)]) := by
              rw [HST.out, HME.out]; unfold stepO; rw [hKS]
            have hklen : KS.length = nk := by rw [← hKS, kidsO_len, HNK.out]
            have hft := HFT.out j (by have := HFN.out; omega)
            rw [HME.out, HNM.out] at hft
            obtain ⟨NT, hNT⟩ : ∃ NT, ofT f j = NT := ⟨_, rfl⟩
            rw [hNT] at hST hft hxbq hr9q
            obtain ⟨NL, hNL⟩ : ∃ NL, NT.1.length = NL := ⟨_, rfl⟩
            rw [hNL] at hft
            have HRD7 := Lib.hid hrd7
            have HR9Q := Lib.hid hr9q
            have HXBQ := Lib.hid hxbq
            have HXQ := Lib.hid gXq
            have HPQ := Lib.hid gPq
            have HBWQ := Lib.hid hbwq
            have HBKQ := Lib.hid hbkq
            have HSTE := Lib.hid hST
            have HKLEN := Lib.hid hklen
            have HNLL := Lib.hid hNL
            have HKSE := Lib.hid hKS
            have HD9' := HD9.out
            have hSS := HSS.out
            have hft1 := hft.1
            clear hown7 hown7' hrd7 hb7 HMJ hc hr9q hxbq gXq gPq hbwq hbkq hST hklen hNL hft HXb HPb HXB HR9 HBK HBW HST hKS hNT
            by_cases h1 : nk = 1
            · have HST1 : Hid (ofT f (j + 1) = (NT.1, NT.2 ++ KS)) := Lib.hid (by rw [HSTE.out, if_pos (by rw [HKLEN.out, h1])])
              obtain ⟨m, hm⟩ : ∃ m, memS s = [m] := List.length_eq_one_iff.1 (by rw [HNK.out, h1])
              have hmm := HMMS.out m (by rw [hm]; simp)
              have hm12' : m < 12 := HM12.out m hmm
              obtain ⟨b3, o3, ha3, hcell3⟩ := HRD7.out.at' (by omega)
              have hc3 : w7.cell? ⟨b3, o3, none⟩ = some (.int .i64 m) := by
                have := hcell3 0 (intV m) (by rw [hm]; rfl)
                rwa [Nat.add_zero] at this
              have hpc : w7.cell? ⟨X + 1, m, none⟩ = some (.int .i64 ((mem.idxOf m : Nat) : Int)) := by
                rw [cell_of_row _ _ m _ _ _ HPQ.out, plA_at mem k m hm12', List.take_of_length_le (by have := HNM.out; omega), if_pos hmm]
              obtain ⟨IX, hIX⟩ : ∃ IX : Nat, mem.idxOf m = IX := ⟨_, rfl⟩
              have hz : KS = [((IX : Nat) : Int)] := by rw [← HKSE.out]; unfold kidsO; rw [hm, ← hIX]; rfl
              rw [hIX] at hpc
              have hi1 : ((nk : Int) == 1) = true := by rw [h1]; rfl
              have HZ := Lib.hid hz
              have hib : (0 : Nat) < nk := by omega
              subst ha3
              clear hz hcell3 h1 hm hmm hIX
              go_wp2_with (at_builtin; go_must (refine wpList_appK2 1 _ _ 69 8 (.int .i64 0) [.int .i64 (IX : Int)] _ Tryz.underlying69 Tryz.infoInt rfl (by decide) HR9Q.out (Below.refl w6.heap.size w7) (by omega) rfl rfl rfl rfl rfl (by intro u hu; simp at hu; subst hu; rfl) (by unfold maxLen; omega) (by omega) ?_))
              intro v8 w8 hown8 hb8 hg8 hs8 hv8
              have hblk : ∀ g, g < w7.heap.size → (Value.slice a9 j c9).ownBlock ≠ some g → w8.heap[g]? = w7.heap[g]? := fun g g1 g2 => hg8.block g g1 (fun e => g2 e.symm)
              have hxb8 := HXBQ.out.move (w' := w8) (fun g hg => hblk g (HXBQ.out.lt g hg) (fun e => (HD9' g e).1 hg)) (fun g hg => hblk g (HXBQ.out.lt_own g hg).2 (fun e => (HD9' g e).2 hg)) hg8.size
              have gX8 := (hblk X (by omega) (fun e => by have := h9lt X e; omega)).trans HXQ.out
              have gP8 := (hblk (X + 1) (by omega) (fun e => by have := h9lt (X + 1) e; omega)).trans HPQ.out
              have hown8' : w8.ownsRow w6.heap.size 3 1 v8 (j + 1) ((NT.2 ++ KS).map (Value.int .i64)) := by rw [HZ.out, List.map_append]; exact hown8
              have hbk8 : ∀ g, g < w6.heap.size → g ≠ X → g ≠ X + 1 → w8.heap[g]? = w6.heap[g]? := fun g g1 g2 g3 => (hblk g (by omega) (fun e => by have := h9lt g e; omega)).trans (HBKQ.out g g1 g2 g3)
              have HXB8 := Lib.hid hxb8
              have HX8 := Lib.hid gX8
              have HP8 := Lib.hid gP8
              have HO8 := Lib.hid hown8'
              have HBK8 := Lib.hid hbk8
              have HV8 := Lib.hid hv8
              have HBW8 := Lib.hid (HBWQ.out.trans (hb8.mono (by have := HB06.out.size; omega)))
              clear hblk hxb8 gX8 gP8 hown8' hbk8 hv8 hown8 hb8 hg8 hc3 hpc
              go_wp2_with fail
              go_roundw
              case rel =>
                refine ⟨j + 1, v, S, by omega, by go_num, HX8.out, HP8.out, by rw [HST1.out]; exact HXB8.out, by rw [HST1.out]; exact HO8.out, hSS, fun g hg => ?_, HBK8.out, HBW8.out, by omega⟩
                rcases HV8.out g hg with e | e
                · exact HD9' g e
                · exact ⟨fun hS => by have := hSlt0 g hS; omega, fun e2 => by have := hvlt0 g e2; omega⟩
              case measure => simp [intOf] <;> omega
            · have HST1 : Hid (ofT f (j + 1) = (NT.1 ++ [⟨2, 0, (nk : Int), [], KS⟩], NT.2 ++ [(NL : Int)])) := Lib.hid (by rw [HSTE.out, if_neg (by rw [HKLEN.out]; exact h1), HKLEN.out, HNLL.out])
              have hi1 : ((nk : Int) == 1) = false := by rw [beq_eq_false_iff_ne]; omega
              clear h1
              go_wp2_with fail
              generalize hW8 : w7.alloc _ = w8
              have gN8 : w8.heap[w7.heap.size]? = some (.cells #[.int .i64 2, .int .i64 0, .int .i64 (nk : Int), .slice none 0 0, .slice none 0 0] 71 (0, 0)) := by rw [← hW8]; exact heap_alloc_new _ _
              have hb8 : Below w7.heap.size w7 w8 := by rw [← hW8]; exact (Below.refl _ _).alloc (Nat.le_refl _) _
              have hz8 : w7.heap.size < w8.heap.size := by rw [← hW8]; simp
              have GN8 := Lib.hid gN8
              have HB8 := Lib.hid hb8
              clear hW8 gN8 hb8
              go_loopw [13] (fun q wq => ∃ i kv, i ≤ nk ∧ q = .int .i64 ((i : Nat) : Int) ∧ wq.heap[w7.heap.size]? = some (.cells #[.int .i64 2, .int .i64 0, .int .i64 (nk : Int), .slice none 0 0, kv] 71 (0, 0)) ∧ wq.ownsRow (w7.heap.size + 1) 3 1 kv i ((KS.take i).map (Value.int .i64)) ∧ Below w7.heap.size w7 wq ∧ w7.heap.size < wq.heap.size) (fun q _ => nk - (intOf q).toNat)
              case atStart => exact ⟨0, _, Nat.zero_le _, rfl, GN8.out, World.ownsRow_nil _ _ _ _, HB8.out, hz8⟩
              case round =>
                clear GN8 HB8 hz8
                obtain ⟨i, kv, hi, rfl, hnb, hrow12, hbq, hsq⟩ := hrel
                by_cases hlti : i < nk
                · obtain ⟨m, hm⟩ : ∃ m, (memS s)[i]? = some m := ⟨_, List.getElem?_eq_getElem (by have := HNK.out; omega)⟩
                  have hmm := HMMS.out m (List.mem_of_getElem? hm)
                  have hm12' : m < 12 := HM12.out m hmm
                  have HTK : Hid (KS.take (i + 1) = KS.take i ++ [((mem.idxOf m : Nat) : Int)]) := Lib.hid (by
                    rw [List.take_add_one, ← HKSE.out]
                    unfold kidsO
                    rw [List.getElem?_map, hm]; rfl)
                  obtain ⟨b3, o3, ha3, hcell3⟩ := HRD7.out.at' (by omega)
                  have hc7 : w7.cell? ⟨b3, o3 + i, none⟩ = some (.int .i64 m) := hcell3 i (intV m) (by rw [List.getElem?_map, hm]; rfl)
                  have hb3 : b3 < w7.heap.size := cell_lt hc7
                  have hpc7 : w7.cell? ⟨X + 1, m, none⟩ = some (.int .i64 ((mem.idxOf m : Nat) : Int)) := by
                    rw [cell_of_row _ _ m _ _ _ HPQ.out, plA_at mem k m hm12', List.take_of_length_le (by have := HNM.out; omega), if_pos hmm]
                  obtain ⟨IX, hIX⟩ : ∃ IX : Nat, mem.idxOf m = IX := ⟨_, rfl⟩
                  rw [hIX] at hpc7 HTK
                  have hXw7 : X + 1 < w7.heap.size := by omega
                  have HKS := Lib.hid (fun (u : World) (hu : Below w7.heap.size w7 u) => And.intro (cell_keep hu hc7) (cell_keep hu hpc7))
                  obtain ⟨a12, c12, rfl, _⟩ := rd_of_row hrow12
                  have hr12lt := hrow12.lt
                  have HR12 := Lib.hid hrow12
                  have HBQ := Lib.hid hbq
                  have HNB := Lib.hid hnb
                  have n4 := (open5 hnb).2.2.2.2
                  have n4b : ∀ ob, (wr.alloc ob).cell? ⟨w7.heap.size, 4, none⟩ = some (.slice a12 i c12) := fun ob => (World.cell?_alloc_lt _ _ _ (cell_lt n4)).trans n4
                  subst ha3
                  have hmi : (m : Int) < 12 := by omega
                  have hmi0 : (0 : Int) ≤ (m : Int) := by omega
                  have hii : (i : Int) < (nk : Int) := by omega
                  obtain ⟨ii, hi0, hz0, hz1, hz2⟩ := info_parts Tryz.infoInt
                  clear hm hmm hcell3 hrow12 hbq hnb hIX hc7 hpc7
                  go_upto_region 23 with fail
                  refine wp_region_noPanic ?_
                  refine wp_region_takes (fun u => u.cell? ⟨b3, o3 + i, none⟩ = some (.int .i64 m) ∧ u.cell? ⟨X + 1, m, none⟩ = some (.int .i64 (IX : Int))) [0, 2, 3, 4, 5, 6, 7, 8] 5 (by kernel_rfl) (by kernel_rfl) (by kernel_rfl) (fun _ _ _ _ _ h => h) (HKS.out _ (below_drewN HBQ.out)) ?_
                  repeat (refine wpTk_cons rfl (fun K hK => ?_); go_simp; apply Exists.intro; refine ⟨fun u q1 q2 => ?_, hK _ ?_⟩; (first | exact rfl | (go_simp; done) | (go_simp; exact rfl)); clear hK K)
                  refine wpTk_nil ?_
                  have hbqa : ∀ ob, Below w7.heap.size w7 ((wr.alloc ob).drew) := fun ob => below_drewN (HBQ.out.alloc (by omega) ob)
                  refine held_ready (rs := [1, 9]) (by kernel_rfl) (by simp) ?_
                  refine AllReadyH.cons rfl (fun K hK => ?_) (AllReadyH.cons rfl (fun K hK => ?_) AllReadyH.nil)
                  go_simp
                  refine hK.out _ _ (HKS.out _ (below_drewN HBQ.out)) (fun hh => ?_)
                  clear hh hK K; try simp only [Act.put, List.setIfInBounds_toArray, List.set_cons_zero, List.set_cons_succ]
                  refine held_ready (rs := [9]) (by kernel_rfl) (by simp) ?_
                  refine AllReadyH.cons rfl (fun K hK => ?_) AllReadyH.nil
                  go_simp
                  refine hK.out _ _ (HKS.out _ (hbqa _)) (fun hh => ?_)
                  clear hh hK K; try simp only [Act.put, List.setIfInBounds_toArray, List.set_cons_zero, List.set_cons_succ]
                  rotate_left
                  go_simp
                  refine hK.out _ _ (HKS.out _ (hbqa _)) (fun hh => ?_)
                  clear hh hK K; try simp only [Act.put, List.setIfInBounds_toArray, List.set_cons_zero, List.set_cons_succ]
                  refine held_ready (rs := [1]) (by kernel_rfl) (by simp) ?_
                  refine AllReadyH.cons rfl (fun K hK => ?_) AllReadyH.nil
                  go_simp
                  refine hK.out _ _ (HKS.out _ (hbqa _)) (fun hh => ?_)
                  clear hh hK K; try simp only [Act.put, List.setIfInBounds_toArray, List.set_cons_zero, List.set_cons_succ]
                  all_goals
                    refine held_ready (rs := [10]) (by kernel_rfl) (by simp) ?_
                    refine AllReadyH.cons rfl (fun K hK => ?_) AllReadyH.nil
                    refine step_append_lies _ (by rfl) _ _ _ (by rfl) (w7.heap.size + 1) 3 ii _ 1 8 Tryz.underlying69 hi0 hz0 hz1 hz2 rfl (by omega) (.slice a12 i c12) i _ (by rfl) ((HR12.out.alloc _).drew) ⟨wr.heap.size, 0, none⟩ 1 1 [.int .i64 (IX : Int)] (by rfl) (by rfl) (World.news_of_block (cs := #[.int .i64 (IX : Int)]) (t := 3) (fr := (0, 0)) (heap_alloc_new wr _)) (by simp [Value.oneCell']) (by omega) (by unfold maxLen; omega) (by omega) (by simp; omega) (wr.heap.size + 1) (by simp) ?_
                    intro gg cap wA hown8 hgrow hat hlt2
                    have hg8 : wr.grownBy wA (Value.slice a12 i c12).ownBlock := grown_from (below_drew ((Below.refl _ _).alloc (Nat.le_refl _) _)) hgrow
                    have hb8 : Below w7.heap.size w7 wA := HBQ.out.grown hg8 (by omega) (fun g hg => by have := (hr12lt g hg).1; omega)
                    have hnA : wA.heap[w7.heap.size]? = some (.cells #[.int .i64 2, .int .i64 0, .int .i64 (nk : Int), .slice none 0 0, .slice a12 i c12] 71 (0, 0)) := (hg8.block _ hsq (fun e => by have := (hr12lt _ e.symm).1; omega)).trans HNB.out
                    have m4 := (open5 hnA).2.2.2.2
                    have z4 := (frz5 hnA).2.2.2.2
                    have hown8' : wA.ownsRow (w7.heap.size + 1) 3 1 (.slice (some ⟨gg, 0, none⟩) (i + 1) cap) (i + 1) ((KS.take (i + 1)).map (Value.int .i64)) := by
                      rw [HTK.out, List.map_append]; exact hown8
                    have HO8 := Lib.hid hown8'
                    have HB8 := Lib.hid hb8
                    have HNA := Lib.hid hnA
                    have hsA := hg8.size
                    refine hK.out _ _ (HKS.out _ hb8) (fun hh => ?_)
                    clear hh hK K hown8 hown8' hb8 hg8 hgrow hat hnA n4 n4b hbqa; try simp only [Act.put, List.setIfInBounds_toArray, List.set_cons_zero, List.set_cons_succ]
                    refine held_ready (rs := [11]) (by kernel_rfl) (by simp) ?_
                    refine AllReadyH.cons rfl (fun K hK => ?_) AllReadyH.nil
                    go_simp
                    refine hK.out _ _ (HKS.out _ HB8.out) (fun hh => ?_)
                    clear hh hK K; try simp only [Act.put, List.setIfInBounds_toArray, List.set_cons_zero, List.set_cons_succ]
                    refine held_ready (rs := [12]) (by kernel_rfl) (by simp) ?_
                    refine AllReadyH.cons rfl (fun K hK => ?_) AllReadyH.nil
                    go_simp
                    have hb9 : Below w7.heap.size w7 (wA.setCell ⟨w7.heap.size, 4, none⟩ (.slice (some ⟨gg, 0, none⟩) (i + 1) cap)) := HB8.out.setCell (p := ⟨w7.heap.size, 4, none⟩) (Nat.le_refl _) _
                    refine hK.out _ _ (HKS.out _ hb9) (fun hh => ?_)
                    clear hh hK K; try simp only [Act.put, List.setIfInBounds_toArray, List.set_cons_zero, List.set_cons_succ]
                    refine wpAnyH_done (by kernel_rfl) (NoPanic.normal ?_) _
                    have HB9 := Lib.hid hb9
                    clear m4 z4 hb9
                    go_wp2_with fail
                    go_roundw
                    case rel => exact ⟨i + 1, .slice (some ⟨gg, 0, none⟩) (i + 1) cap, by omega, by go_num, by rw [heap_set_at HNA.out]; rfl, rowK_at HO8.out fun g hg => Below.heap_setCell _ _ _ _ (by have := (HO8.out.lt g hg).1; show g ≠ w7.heap.size; omega), HB9.out, by simp; omega⟩
                    case measure => simp [intOf] <;> omega
                · obtain rfl : i = nk := by omega
                  rw [List.take_of_length_le (by have := HKLEN.out; omega)] at hrow12
                  obtain ⟨a12, c12, rfl, _⟩ := rd_of_row hrow12
                  have hr12lt := hrow12.lt
                  have HNB := Lib.hid hnb
                  have HR12 := Lib.hid hrow12
                  have HR9W := Lib.hid (rowK_below HR9Q.out hbq)
                  have HXBW := Lib.hid (HXBQ.out.below hbq)
                  have HXW := Lib.hid (heap_below hbq HXQ.out)
                  have HPW := Lib.hid (heap_below hbq HPQ.out)
                  have HBWW := Lib.hid (Below.next HBWQ.out hbq)
                  have HBKW := Lib.hid (show ∀ g, g < w6.heap.size → g ≠ X → g ≠ X + 1 → wr.heap[g]? = w6.heap[g]? from fun g h1 h2 h3 => (hbq.block g (by omega)).trans (HBKQ.out g h1 h2 h3))
                  clear hnb hrow12 hbq HR9Q HXBQ HXQ HPQ HBWQ HBKQ HRD7 HSTE HKSE
                  obtain ⟨V, hV1, hV2, hV3⟩ := HXBW.out.row
                  rw [HNLL.out] at hV1 hV2
                  obtain ⟨av, cv, rfl, _⟩ := rdK_of_row hV2
                  have HV1 := Lib.hid hV1
                  have HV2 := Lib.hid hV2
                  have HV3 := Lib.hid hV3
                  have hx0 := cell_of_row _ _ 0 _ _ _ HXW.out
                  clear hV1 hV2 hV3
                  go_wp2_with (at_builtin; go_must (refine wpList_appK2 1 _ _ 69 8 (.int .i64 0) [.int .i64 (NL : Int)] _ Tryz.underlying69 Tryz.infoInt rfl (by decide) HR9W.out (Below.refl w6.heap.size wr) (by omega) rfl rfl rfl rfl rfl (by intro u hu; simp at hu; subst hu; rfl) (by unfold maxLen; omega) (by omega) ?_))
                  intro v8 w8 hown8 hb8 hg8 hs8 hv8
                  have hblk : ∀ g, g < wr.heap.size → (Value.slice a9 j c9).ownBlock ≠ some g → w8.heap[g]? = wr.heap[g]? := fun g g1 g2 => hg8.block g g1 (fun e => g2 e.symm)
                  have h9lt7 : ∀ g, (Value.slice a9 j c9).ownBlock = some g → w6.heap.size ≤ g ∧ g < w7.heap.size := fun g e => by have := h9lt g e; omega
                  have hxb8 := HXBW.out.move (w' := w8) (fun g hg => hblk g (HXBW.out.lt g hg) (fun e => (HD9' g e).1 hg)) (fun g hg => hblk g (HXBW.out.lt_own g hg).2 (fun e => (HD9' g e).2 hg)) hg8.size
                  have gX8 := (hblk X (by omega) (fun e => by have := h9lt X e; omega)).trans HXW.out
                  have gP8 := (hblk (X + 1) (by omega) (fun e => by have := h9lt (X + 1) e; omega)).trans HPW.out
                  have gN8 := (hblk w7.heap.size hsq (fun e => by have := h9lt7 _ e; omega)).trans HNB.out
                  have hown8' : w8.ownsRow w6.heap.size 3 1 v8 (j + 1) ((NT.2 ++ [(NL : Int)]).map (Value.int .i64)) := by rw [List.map_append]; exact hown8
                  have hbk8 : ∀ g, g < w6.heap.size → g ≠ X → g ≠ X + 1 → w8.heap[g]? = w6.heap[g]? := fun g g1 g2 g3 => (hblk g (by omega) (fun e => by have := h9lt g e; omega)).trans (HBKW.out g g1 g2 g3)
                  have hrow8 : w8.ownsRow w6.heap.size 71 5 (.slice av NL cv) NL (V.flatMap nodVC) := rowK_at HV2.out fun g hg => hblk g (HV2.out.lt g hg).2 (fun e => (HD9' g e).2 hg)
                  have hk12 : w8.ownsRow (w7.heap.size + 1) 3 1 (.slice a12 i c12) i (KS.map (Value.int .i64)) := rowK_at HR12.out fun g hg => hblk g (hr12lt g hg).2 (fun e => by have := h9lt7 g e; have := hr12lt g hg; omega)
                  have hV38 := fun (i : Nat) p nd hp hn => (HV3.out i p nd hp hn).move (w' := w8) (fun g hg => hblk g (HXBW.out.lt g hg) (fun e => (HD9' g e).1 hg))
                  obtain ⟨a8, c8, rfl, _⟩ := rd_of_row hown8'
                  have h8lt : ∀ g, (Value.slice a8 (j + 1) c8).ownBlock = some g → (Value.slice a9 j c9).ownBlock = some g ∨ wr.heap.size ≤ g := hv8
                  have HXB8 := Lib.hid hxb8
                  have HX8 := Lib.hid gX8
                  have HP8 := Lib.hid gP8
                  have HO8 := Lib.hid hown8'
                  have HBK8 := Lib.hid hbk8
                  have HR8 := Lib.hid hrow8
                  have HK8 := Lib.hid hk12
                  have HV38 := Lib.hid hV38
                  have HBW8 := Lib.hid (HBWW.out.trans (hb8.mono (by have := HB06.out.size; omega)))
                  have hx8 := cell_of_row _ _ 0 _ _ _ gX8
                  obtain ⟨n0, n1, n2, n3, n4⟩ := open5 gN8
                  have HVLT := Lib.hid HV2.out.lt
                  clear hblk hxb8 gX8 gP8 gN8 hown8' hbk8 hrow8 hk12 hV38 hv8 hown8 hb8 hg8 hx0 HV2 HV3
                  go_wp2_with (at_builtin; go_must (refine wpList_appK2 5 _ _ 30 72 (.agg #[.int .i64 0, .int .i64 0, .int .i64 0, .slice none 0 0, .slice none 0 0]) (nodVC ⟨2, 0, (i : Int), .slice none 0 0, .slice a12 i c12⟩) _ Tryz.underlying30 Tryz.infoNod rfl (by decide) HR8.out (Below.refl w6.heap.size w8) (by omega) rfl rfl rfl rfl rfl (by intro u hu; unfold nodVC at hu; simp at hu; rcases hu with rfl | rfl | rfl | rfl | rfl <;> rfl) (by unfold maxLen; omega) (by omega) ?_))
                  intro v10 w10 hown10 hb10 hg10 hs10 hv10
                  have hxb10 := HXB8.out.app (SW := fun g => (Value.slice a12 i c12).ownBlock = some g) (p := ⟨2, 0, (i : Int), .slice none 0 0, .slice a12 i c12⟩) (nd := ⟨2, 0, (i : Int), [], KS⟩) (by rw [HV1.out, HNLL.out]) HV38.out (Below.refl _ _) hg10 (by rw [HNLL.out]; exact hown10) hv10 (nodS_thr _ HK8.out (fun g hg => hg)) (fun g hg => ⟨(HK8.out.lt g hg).2, fun e => by have := hvlt0 g e; have := hr12lt g hg; omega⟩)
                  have hblk : ∀ g, g < w8.heap.size → (Value.slice av NL cv).ownBlock ≠ some g → w10.heap[g]? = w8.heap[g]? := fun g g1 g2 => hg10.block g g1 (fun e => g2 e.symm)
                  have hvl := hvlt0
                  have gX10 := (hblk X (by omega) (fun e => by have := hvl X e; omega)).trans HX8.out
                  have gP10 := (hblk (X + 1) (by omega) (fun e => by have := hvl (X + 1) e; omega)).trans HP8.out
                  have hr10 : w10.ownsRow w6.heap.size 3 1 (.slice a8 (j + 1) c8) (j + 1) ((NT.2 ++ [(NL : Int)]).map (Value.int .i64)) := rowK_at HO8.out fun g hg => hblk g (HO8.out.lt g hg).2 (fun e => by
                    rcases h8lt g hg with e2 | e2
                    · exact (HD9' g e2).2 e
                    · have := hvl g e; omega)
                  obtain ⟨a10, c10, rfl, _⟩ := rdK_of_row hown10
                  have hx10 := cell_of_row _ _ 0 _ _ _ gX10
                  have fx10 := frozen_row gX10 0
                  have HXB10 := Lib.hid hxb10
                  have HX10 := Lib.hid gX10
                  have HP10 := Lib.hid gP10
                  have HR10 := Lib.hid hr10
                  have HV10 := Lib.hid hv10
                  have HBLK := Lib.hid hblk
                  have HBW10 := Lib.hid (HBW8.out.trans (hb10.mono (by have := HB06.out.size; omega)))
                  have h10lt := hr10.lt
                  clear hxb10 gX10 gP10 hr10 hblk hown10 hb10 hg10 hx8 hv10
                  go_wp2_with fail
                  go_roundw
                  case rel =>
                    refine ⟨j + 1, _, (fun g => S g ∨ (Value.slice a12 i c12).ownBlock = some g), by omega, by go_num, by rw [heap_set_at HX10.out]; rfl, heap_set_other (by omega) _ _ HP10.out, ?_, ?_, fun g hg => ?_, fun g hg => ?_, fun g g1 g2 g3 => ?_, ?_, by simp; omega⟩
                    · rw [HST1.out]
                      exact HXB10.out.move (fun g hg => Below.heap_setCell _ _ _ _ (by
                        show g ≠ X
                        rcases hg with hg | hg
                        · have := hSS g hg; omega
                        · have := hr12lt g hg; omega)) (fun g hg => Below.heap_setCell _ _ _ _ (by have := (HXB10.out.lt_own g hg).1; show g ≠ X; omega)) (by simp)
                    · rw [HST1.out]
                      exact rowK_at HR10.out fun g hg => Below.heap_setCell _ _ _ _ (by have := h10lt g hg; show g ≠ X; omega)
                    · rcases hg with hg | hg
                      · exact hSS g hg
                      · have := hr12lt g hg; omega
                    · refine ⟨?_, fun e => ?_⟩
                      · rintro (h2 | h2)
                        · rcases h8lt g hg with e2 | e2
                          · exact (HD9' g e2).1 h2
                          · have := hSlt0 g h2; omega
                        · rcases h8lt g hg with e2 | e2
                          · have := h9lt g e2; have := hr12lt g h2; omega
                          · have := hr12lt g h2; omega
                      · rcases HV10.out g e with e3 | e3
                        · rcases h8lt g hg with e2 | e2
                          · exact (HD9' g e2).2 e3
                          · have := hvl g e3; omega
                        · have := (HO8.out.lt g hg).2; omega
                    · rw [Below.heap_setCell _ ⟨X, 0, none⟩ _ g g2, HBLK.out g (by omega) (fun e => by have := hvl g e; omega)]
                      exact HBK8.out g g1 g2 g3
                    · exact HBW10.out.setCell (p := ⟨X, 0, none⟩) (by show w.heap.size ≤ X; omega) _
                  case measure => simp [intOf] <;> omega
          · obtain rfl : j = n := by omega
            have hft := HFT.out j (by have := HFN.out; omega)
            rw [HME.out, HNM.out] at hft
            have hOX : ofX f = if (ofT f j).2.length = 1 then ⟨(ofT f j).1, (ofT f j).2.getD 0 0⟩ else ⟨(ofT f j).1 ++ [⟨2, 0, 1, [], (ofT f j).2⟩], ((ofT f j).1.length : Int)⟩ := by unfold ofX; rw [HFN.out]
            obtain ⟨NT, hNT⟩ : ∃ NT, ofT f j = NT := ⟨_, rfl⟩
            rw [hNT] at hft hxb hrow9 hOX
            obtain ⟨NL, hNL⟩ : ∃ NL, NT.1.length = NL := ⟨_, rfl⟩
            rw [hNL] at hft hOX
            obtain ⟨hft1, hft2⟩ := hft
            rw [hft2] at hOX
            obtain ⟨V, hV1, hV2, hV3⟩ := hxb.row
            rw [hNL] at hV1 hV2
            obtain ⟨av, cv, rfl, _⟩ := rdK_of_row hV2
            obtain ⟨a9, c9, rfl, hrd9⟩ := rd_of_row hrow9
            have gR := (hbk w.heap.size (by omega) (by omega) (by omega)).trans GR6.out
            have HXB := Lib.hid hxb
            have HR9 := Lib.hid hrow9
            have HRD9 := Lib.hid hrd9
            have HV1 := Lib.hid hV1
            have HV2 := Lib.hid hV2
            have HV3 := Lib.hid hV3
            have HXb := Lib.hid hXb
            have HGR := Lib.hid gR
            have HBW := Lib.hid hbw
            have HOX := Lib.hid hOX
            have HNLL := Lib.hid hNL
            have h9lt := hrow9.lt
            have hvlt := hxb.lt_own
            have x0 := cell_of_row _ _ 0 _ _ _ hXb
            have x1 := cell_of_row _ _ 1 _ _ _ hXb
            have y0 := frozen_row hXb 0
            have y1 := frozen_row hXb 1
            clear hxb hrow9 hrd9 hV1 hV2 hV3 hXb gR hbk hbw hOX hNL hNT hft2 hPb
            by_cases h1 : j = 1
            · have HOX1 : Hid (ofX f = ⟨NT.1, NT.2.getD 0 0⟩) := Lib.hid (by rw [HOX.out, if_pos h1])
              obtain ⟨b3, o3, ha3, hcell3⟩ := HRD9.out.at' (by omega)
              obtain ⟨z, hz⟩ : ∃ z, NT.2[0]? = some z := by
                have h2 := HRD9.out.len
                rw [List.length_map] at h2
                exact ⟨_, List.getElem?_eq_getElem (by omega)⟩
              have hc3 : wr.cell? ⟨b3, o3, none⟩ = some (.int .i64 z) := by
                have := hcell3 0 (.int .i64 z) (by rw [List.getElem?_map, hz]; rfl)
                rwa [Nat.add_zero] at this
              have hg0 : NT.2.getD 0 0 = z := by rw [List.getD_eq_getElem?_getD, hz]; rfl
              rw [hg0] at HOX1
              have hi1 : ((j : Int) != 1) = false := by rw [h1]; rfl
              have hib : (0 : Nat) < j := by omega
              subst ha3
              clear hz hcell3 h1 hg0
              go_upto_region 31 with fail
              generalize hWp : wr.setCell _ _ = wp
              have hkp : ∀ g, g ≠ X → wp.heap[g]? = wr.heap[g]? := fun g hg => by rw [← hWp]; exact Below.heap_setCell _ ⟨X, 1, none⟩ _ g hg
              have gXp : wp.heap[X]? = some (.cells #[.slice av NL cv, .int .i64 z] 32 (0, 0)) := by rw [← hWp, heap_set_at HXb.out]; rfl
              have hsp : wr.heap.size ≤ wp.heap.size := by rw [← hWp]; simp
              have HBp := Lib.hid (HBW.out.trans (show Below w.heap.size wr wp by rw [← hWp]; exact (Below.refl _ _).setCell (p := ⟨X, 1, none⟩) (by show w.heap.size ≤ X; omega) _))
              have gRp := (hkp w.heap.size (by omega)).trans HGR.out
              have HXBp := Lib.hid (HXB.out.move (w' := wp) (fun g hg => hkp g (by have := hS g hg; omega)) (fun g hg => hkp g (by have := hvlt g hg; omega)) hsp)
              have HGRp := Lib.hid gRp
              clear x0 x1 y0 y1 hc3
              have x0 := cell_of_row _ _ 0 _ _ _ gXp
              have x1 := cell_of_row _ _ 1 _ _ _ gXp
              have r0 := cell_of_row _ _ 0 _ _ _ gRp
              have r1 := cell_of_row _ _ 1 _ _ _ gRp
              have z0 := frozen_row gRp 0
              have z1 := frozen_row gRp 1
              clear hWp hkp gXp hsp gRp
              by_cases h60 : 60 < NL
              · have hR : ofE f = (⟨[], 0⟩, 3) := by rw [HRR.out, if_pos (by rw [HOX1.out]; show 60 < NT.1.length; rw [HNLL.out]; exact h60)]
                have HR := Lib.hid hR
                have hd : decide ((60 : Int) < ((NL : Nat) : Int)) = true := decide_eq_true (by omega)
                clear hR h60
                go_wp2_with fail
                clear r0 r1 z0 z1 x0 x1
                generalize hWF : (wp.setCell _ _).setCell _ _ = WF
                obtain ⟨e1, hbf⟩ := fin_box HGRp.out (by omega) HBp.out hWF
                have HBF := Lib.hid hbf
                have f0 := cell_of_row _ _ 0 _ _ _ e1
                have f1 := cell_of_row _ _ 1 _ _ _ e1
                clear hWF e1 hbf
                refine bodyPost_ret (v := .tuple #[.agg #[.slice none 0 0, .int .i64 0], .int .i64 3]) ?_ rfl (by rw [HR.out]; exact RetX.none_ rfl HBF.out)
                rw [results_cell_tmp rfl]
                go_simp
              · have hR : ofE f = (ofX f, 0) := by rw [HRR.out, if_neg (by rw [HOX1.out]; show ¬ 60 < NT.1.length; rw [HNLL.out]; exact h60)]
                have HR := Lib.hid hR
                have hd : decide ((60 : Int) < ((NL : Nat) : Int)) = false := decide_eq_false (by omega)
                clear hR h60
                go_wp2_with fail
                clear r0 r1 z0 z1 x0 x1
                generalize hWF : (wp.setCell _ _).setCell _ _ = WF
                obtain ⟨e1, hxm, hbf⟩ := retx_fin (w := w) (root := z) HXBp.out (by show NT.1.length = NL; exact HNLL.out) (Nat.le_refl _) (fun g hg => by have := hS g hg; omega) (by omega) HBp.out HGRp.out hWF
                have HXM := Lib.hid hxm
                have HBF := Lib.hid hbf
                have f0 := cell_of_row _ _ 0 _ _ _ e1
                have f1 := cell_of_row _ _ 1 _ _ _ e1
                clear hWF e1 hxm hbf
                refine bodyPost_ret (v := .tuple #[.agg #[.slice av (NL) cv, .int .i64 z], .int .i64 0]) ?_ rfl (by
                  rw [HR.out, HOX1.out]
                  refine ⟨av, cv, ?_, ?_, HBF.out⟩
                  · have e : (NT.1).length = NL := by show NT.1.length = NL; exact HNLL.out
                    show _ = Ending.returned (.tuple #[.agg #[.slice av (NT.1).length cv, .int .i64 z], .int .i64 0])
                    rw [e]
                  · have e : (NT.1).length = NL := by show NT.1.length = NL; exact HNLL.out
                    show XMR _ _ _ av (NT.1).length cv (NT.1)
                    rw [e]; exact HXM.out)
                rw [results_cell_tmp rfl]
                go_simp
            · have HOX1 : Hid (ofX f = ⟨NT.1 ++ [⟨2, 0, 1, [], NT.2⟩], (NL : Int)⟩) := Lib.hid (by rw [HOX.out, if_neg h1])
              have hi1 : ((j : Int) != 1) = true := by rw [bne_iff_ne]; omega
              clear h1
              go_upto_region 28 with (at_builtin; go_must (refine wpList_apps _ _ 69 8 (.int .i64 0) _ _ _ (NT.2.map (Value.int .i64)) Tryz.underlying69 Tryz.infoInt rfl (World.ownsRow_made wr #[] 0 (Nat.le_refl _) (Nat.zero_le _) rfl) ((Below.refl _ wr).alloc (Nat.le_refl _) _) (Nat.le_refl _) (HRD9.out.below ((Below.refl _ wr).alloc (Nat.le_refl _) _)) (by intro u hu; obtain ⟨_, _, rfl⟩ := List.mem_map.1 hu; rfl) rfl rfl rfl rfl (by unfold maxLen; simp; omega) (by simp; omega) ?_))
              intro v1 wp hown1 hb1 _
              have hown1' : wp.ownsRow wr.heap.size 3 1 v1 j (NT.2.map (Value.int .i64)) := by simpa using hown1
              obtain ⟨a1, c1, rfl, _⟩ := rd_of_row hown1'
              have hsp := hb1.size
              have gXp := heap_below hb1 HXb.out
              have gRp := heap_below hb1 HGR.out
              have HBp := Lib.hid (Below.next HBW.out hb1)
              have HXBp := Lib.hid (HXB.out.below hb1)
              have HROWp := Lib.hid (rowK_below HV2.out hb1)
              have hV3p := Lib.hid (fun (i : Nat) p nd hp hn => (HV3.out i p nd hp hn).move (w' := wp) (fun g hg => hb1.block g (HXB.out.lt g hg)))
              have HR9p := Lib.hid hown1'
              have h1lt := hown1'.lt
              have HGRp := Lib.hid gRp
              have HGXp := Lib.hid gXp
              clear x0 x1 y0 y1
              have x0 := cell_of_row _ _ 0 _ _ _ gXp
              have hwb : w6.heap.size ≤ wp.heap.size := by omega
              clear hown1 hown1' hb1 gXp gRp HV2 HV3
              go_wp2_with (at_builtin; go_must (refine wpList_appK2 5 _ _ 30 72 (.agg #[.int .i64 0, .int .i64 0, .int .i64 0, .slice none 0 0, .slice none 0 0]) (nodVC ⟨2, 0, 1, .slice none 0 0, .slice a1 j c1⟩) _ Tryz.underlying30 Tryz.infoNod rfl (by decide) HROWp.out (Below.refl w6.heap.size wp) hwb rfl rfl rfl rfl rfl (by intro u hu; unfold nodVC at hu; simp at hu; rcases hu with rfl | rfl | rfl | rfl | rfl <;> rfl) (by unfold maxLen; omega) (by omega) ?_))
              intro v10 w10 hown10 hb10 hg10 hs10 hv10
              have hxb10 := HXBp.out.app (SW := fun g => (Value.slice a1 j c1).ownBlock = some g) (p := ⟨2, 0, 1, .slice none 0 0, .slice a1 j c1⟩) (nd := ⟨2, 0, 1, [], NT.2⟩) (by rw [HV1.out, HNLL.out]) hV3p.out (Below.refl _ _) hg10 (by rw [HNLL.out]; exact hown10) hv10 (nodS_thr _ HR9p.out (fun g hg => hg)) (fun g hg => ⟨(h1lt g hg).2, fun e => by have := hvlt g e; have := (h1lt g hg).1; omega⟩)
              have hblk : ∀ g, g < wp.heap.size → (Value.slice av NL cv).ownBlock ≠ some g → w10.heap[g]? = wp.heap[g]? := fun g g1 g2 => hg10.block g g1 (fun e => g2 e.symm)
              have gX10 := (hblk X (by omega) (fun e => by have := hvlt X e; omega)).trans HGXp.out
              have gR10 := (hblk w.heap.size (by omega) (fun e => by have := hvlt w.heap.size e; omega)).trans HGRp.out
              obtain ⟨a10, c10, rfl, _⟩ := rdK_of_row hown10
              have HX10 := Lib.hid gX10
              have HGR10 := Lib.hid gR10
              have HXB10 := Lib.hid hxb10
              have HBW10 := Lib.hid (HBp.out.trans (hb10.mono (by have := HB06.out.size; omega)))
              clear x0 hxb10 hblk hown10 hb10 hg10 hv10
              have x0 := cell_of_row _ _ 0 _ _ _ gX10
              have y0 := frozen_row gX10 0
              have y1 := frozen_row gX10 1
              have x1 := cell_of_row _ _ 1 _ _ _ gX10
              clear gX10 gR10
              go_upto_region 31 with fail
              generalize hWq : (w10.setCell _ _).setCell _ _ = wq
              have hkq : ∀ g, g ≠ X → wq.heap[g]? = w10.heap[g]? := fun g hg => by rw [← hWq, Below.heap_setCell _ ⟨X, 1, none⟩ _ g hg, Below.heap_setCell _ ⟨X, 0, none⟩ _ g hg]
              have gXq : wq.heap[X]? = some (.cells #[.slice a10 (NL + 1) c10, .int .i64 (NL : Int)] 32 (0, 0)) := by
                have h5 : (w10.setCell ⟨X, 0, none⟩ (.slice a10 (NL + 1) c10)).heap[X]? = some (.cells #[.slice a10 (NL + 1) c10, .int .i64 0] 32 (0, 0)) := by rw [heap_set_at HX10.out]; rfl
                rw [← hWq, heap_set_at h5]; rfl
              have hsq : w10.heap.size ≤ wq.heap.size := by rw [← hWq]; simp
              have HBq := Lib.hid (HBW10.out.trans (show Below w.heap.size w10 wq by rw [← hWq]; exact ((Below.refl _ _).setCell (p := ⟨X, 0, none⟩) (by show w.heap.size ≤ X; omega) _).setCell (p := ⟨X, 1, none⟩) (by show w.heap.size ≤ X; omega) _))
              have gRq := (hkq w.heap.size (by omega)).trans HGR10.out
              have hS9 : ∀ g, (S g ∨ (Value.slice a1 j c1).ownBlock = some g) → w6.heap.size ≤ g := fun g hg => by
                rcases hg with hg | hg
                · exact hS g hg
                · have := (h1lt g hg).1; omega
              have HXBq := Lib.hid (HXB10.out.move (w' := wq) (fun g hg => hkq g (by have := hS9 g hg; omega)) (fun g hg => hkq g (by have := (HXB10.out.lt_own g hg).1; omega)) hsq)
              have HGRq := Lib.hid gRq
              have HNL1 : Hid ((NT.1 ++ [(⟨2, 0, 1, [], NT.2⟩ : Nod)]).length = NL + 1) := Lib.hid (by rw [List.length_append, HNLL.out]; rfl)
              clear x0 y0 x1 y1
              have x0 := cell_of_row _ _ 0 _ _ _ gXq
              have x1 := cell_of_row _ _ 1 _ _ _ gXq
              have r0 := cell_of_row _ _ 0 _ _ _ gRq
              have r1 := cell_of_row _ _ 1 _ _ _ gRq
              have z0 := frozen_row gRq 0
              have z1 := frozen_row gRq 1
              clear hWq hkq gXq hsq gRq
              by_cases h60 : 60 < NL + 1
              · have hR : ofE f = (⟨[], 0⟩, 3) := by rw [HRR.out, if_pos (by rw [HOX1.out]; show 60 < (NT.1 ++ [(⟨2, 0, 1, [], NT.2⟩ : Nod)]).length; rw [HNL1.out]; exact h60)]
                have HR := Lib.hid hR
                have hd : decide ((60 : Int) < (NL : Int) + 1) = true := decide_eq_true (by omega)
                clear hR h60
                go_wp2_with fail
                clear r0 r1 z0 z1 x0 x1
                generalize hWF : (wq.setCell _ _).setCell _ _ = WF
                obtain ⟨e1, hbf⟩ := fin_box HGRq.out (by omega) HBq.out hWF
                have HBF := Lib.hid hbf
                have f0 := cell_of_row _ _ 0 _ _ _ e1
                have f1 := cell_of_row _ _ 1 _ _ _ e1
                clear hWF e1 hbf
                refine bodyPost_ret (v := .tuple #[.agg #[.slice none 0 0, .int .i64 0], .int .i64 3]) ?_ rfl (by rw [HR.out]; exact RetX.none_ rfl HBF.out)
                rw [results_cell_tmp rfl]
                go_simp
              · have hR : ofE f = (ofX f, 0) := by rw [HRR.out, if_neg (by rw [HOX1.out]; show ¬ 60 < (NT.1 ++ [(⟨2, 0, 1, [], NT.2⟩ : Nod)]).length; rw [HNL1.out]; exact h60)]
                have HR := Lib.hid hR
                have hd : decide ((60 : Int) < (NL : Int) + 1) = false := decide_eq_false (by omega)
                clear hR h60
                go_wp2_with fail
                clear r0 r1 z0 z1 x0 x1
                generalize hWF : (wq.setCell _ _).setCell _ _ = WF
                obtain ⟨e1, hxm, hbf⟩ := retx_fin (w := w) (root := (NL : Int)) HXBq.out (by exact HNL1.out) (Nat.le_refl _) (fun g hg => by have := hS9 g hg; omega) (by omega) HBq.out HGRq.out hWF
                have HXM := Lib.hid hxm
                have HBF := Lib.hid hbf
                have f0 := cell_of_row _ _ 0 _ _ _ e1
                have f1 := cell_of_row _ _ 1 _ _ _ e1
                clear hWF e1 hxm hbf
                refine bodyPost_ret (v := .tuple #[.agg #[.slice a10 (NL + 1) c10, .int .i64 (NL : Int)], .int .i64 0]) ?_ rfl (by
                  rw [HR.out, HOX1.out]
                  refine ⟨a10, c10, ?_, ?_, HBF.out⟩
                  · have e : ((NT.1 ++ [(⟨2, 0, 1, [], NT.2⟩ : Nod)])).length = NL + 1 := by exact HNL1.out
                    show _ = Ending.returned (.tuple #[.agg #[.slice a10 ((NT.1 ++ [(⟨2, 0, 1, [], NT.2⟩ : Nod)])).length c10, .int .i64 (NL : Int)], .int .i64 0])
                    rw [e]
                  · have e : ((NT.1 ++ [(⟨2, 0, 1, [], NT.2⟩ : Nod)])).length = NL + 1 := by exact HNL1.out
                    show XMR _ _ _ a10 ((NT.1 ++ [(⟨2, 0, 1, [], NT.2⟩ : Nod)])).length c10 ((NT.1 ++ [(⟨2, 0, 1, [], NT.2⟩ : Nod)]))
                    rw [e]; exact HXM.out)
                rw [results_cell_tmp rfl]
                go_simp
  · have hRR : ofE f = (⟨[], 0⟩, valS f) := by unfold ofE; rw [if_pos hE]
    rw [hRR]
    obtain ⟨E, hEE⟩ : ∃ E, valS f = E := ⟨_, rfl⟩
    rw [hEE] at H1 hE ⊢
    have hne : (E != 0) = true := by simpa using hE
    clear hRR hEE hE h
    go_enter Tryz.func25, Tryz.ntmps25
    go_wp2_with fail
    generalize hW1 : w.alloc _ = w1
    have hb1 : Below w.heap.size w w1 := by rw [← hW1]; exact (Below.refl _ _).alloc (Nat.le_refl _) _
    have gR1 : w1.heap[w.heap.size]? = some (.cells #[.slice none 0 0, .int .i64 0] 32 (0, 0)) := by rw [← hW1]; exact heap_alloc_new _ _
    clear hW1
    with_reducible refine (H1.out w1 hb1).mono ?_
    rintro e w4 ⟨rfl, hb4⟩
    have gR4 := heap_below hb4 gR1
    have HB4 := Lib.hid (Below.next hb1 hb4)
    have HG4 := Lib.hid gR4
    have r0 := cell_of_row _ _ 0 _ _ _ gR4
    have r1 := cell_of_row _ _ 1 _ _ _ gR4
    have z0 := frozen_row gR4 0
    have z1 := frozen_row gR4 1
    clear hb1 gR1 hb4 gR4
    go_wp2_with fail
    clear r0 r1 z0 z1
    generalize hWF : (w4.setCell _ _).setCell _ _ = WF
    obtain ⟨e1, hbf⟩ := fin_box HG4.out (Nat.le_refl _) HB4.out hWF
    have HBF := Lib.hid hbf
    have f0 := cell_of_row _ _ 0 _ _ _ e1
    have f1 := cell_of_row _ _ 1 _ _ _ e1
    clear hWF e1 hbf
    refine bodyPost_ret (v := .tuple #[.agg #[.slice none 0 0, .int .i64 0], .int .i64 E]) ?_ rfl (RetX.none_ rfl HBF.out)
    rw [results_cell_tmp rfl]
    go_simp
end Go.Proofs.YtcojmmhclklpoaaGreatDoor
namespace Go.Proofs.YtcojmmhclklpoaaGreatDoor

def Rk (a b : BitVec 16) : Prop := keyS a < keyS b
def Rs (a b : BitVec 16) : Prop := keyS a < keyS b ∧ subB b a = false

theorem subs_asc (x : BitVec 16) : (subsS x).Pairwise Rk := by
  rw [subsM_dep, List.pairwise_flatMap]
  have hc : ∀ (k : Int) (n : Nat), n ∈ numsTo k (2 ^ cnt x) → n < 2 ^ cnt x ∧ ((cnt (dep (memS x) n) : Nat) : Int) = k := by
    intro k n hn
    have h1 := List.mem_filter.1 hn
    have h2 := List.mem_range.1 h1.1
    refine ⟨h2, ?_⟩
    rw [cnt_dep (memS x) (memS_16 x) (memS_sorted x) n]
    have h3 := eq_of_beq h1.2
    rw [popR_32 x n h2] at h3
    exact h3
  refine ⟨fun k _ => ?_, ?_⟩
  · rw [List.pairwise_map]
    refine List.Pairwise.imp_of_mem (fun {a b} ha hb hab => ?_) (numsTo_sorted (k : Int) (2 ^ cnt x))
    have hA := hc _ _ ha
    have hB := hc _ _ hb
    have := dep_mono (memS x) (memS_16 x) (memS_sorted x) a b hab hB.1
    unfold Rk keyS; omega
  · refine List.Pairwise.imp (fun {a b} hab s hs t ht => ?_) List.pairwise_lt_range
    obtain ⟨n, hn, rfl⟩ := List.mem_map.1 hs
    obtain ⟨m, hm, rfl⟩ := List.mem_map.1 ht
    have hA := hc _ _ hn
    have hB := hc _ _ hm
    unfold Rk keyS
    have := (dep (memS x) n).isLt
    omega
theorem famFold_good (x : Xpr) : ∀ (l o : List (BitVec 16)), l.Pairwise Rk → o.Pairwise Rs → (∀ a ∈ o, ∀ b ∈ l, keyS a < keyS b) → (l.foldl (famStep x) o).Pairwise Rs := by
  intro l
  induction l with
  | nil => intro o _ h2 _; exact h2
  | cons y l ih =>
    intro o h1 h2 h3
    rw [List.pairwise_cons] at h1
    rw [List.foldl_cons]
    have hsame : (l.foldl (famStep x) o).Pairwise Rs := ih o h1.2 h2 fun a ha b hb => h3 a ha b (List.mem_cons_of_mem _ hb)
    cases ha : accS o y
    · cases hh : holdX x y
      · have e : famStep x o y = o := by unfold famStep; rw [ha, hh]; simp
        rw [e]; exact hsame
      · have e : famStep x o y = o ++ [y] := by unfold famStep; rw [ha, hh]; simp
        rw [e]
        refine ih _ h1.2 ?_ ?_
        · rw [List.pairwise_append]
          refine ⟨h2, List.pairwise_singleton _ _, fun a ham b hb => ?_⟩
          rw [List.mem_singleton] at hb; subst hb
          refine ⟨h3 a ham b (List.mem_cons_self ..), ?_⟩
          cases hs : subB b a
          · rfl
          · have : accS o b = true := List.any_eq_true.2 ⟨a, ham, hs⟩
            rw [ha] at this; cases this
        · intro a ham b hb
          rcases List.mem_append.1 ham with h | h
          · exact h3 a h b (List.mem_cons_of_mem _ hb)
          · rw [List.mem_singleton] at h; subst h; exact h1.1 b hb
    · have e : famStep x o y = o := by unfold famStep; rw [ha]; simp
      rw [e]; exact hsame
theorem famS_good (x : Xpr) : (famS x).Pairwise Rs := famFold_good x _ [] (subs_asc _) List.Pairwise.nil (by simp)
theorem key_sub {a b : BitVec 16} (h : subB a b = true) : keyS b ≤ keyS a := by
  rcases Nat.lt_or_ge (cnt b) (cnt a) with hc | hc
  · unfold keyS; have := b.isLt; omega
  · rw [sub_eq h hc]; exact Nat.le_refl _
theorem good_eq {l : List (BitVec 16)} (hl : l.Pairwise Rs) {a b : BitVec 16} (ha : a ∈ l) (hb : b ∈ l) (h : subB a b = true) : a = b := by
  obtain ⟨i, hi, rfl⟩ := List.mem_iff_getElem.1 ha
  obtain ⟨j, hj, rfl⟩ := List.mem_iff_getElem.1 hb
  rcases Nat.lt_trichotomy i j with hij | rfl | hij
  · have h1 := (List.pairwise_iff_getElem.1 hl i j hi hj hij).1
    have := key_sub h
    omega
  · rfl
  · have h1 := (List.pairwise_iff_getElem.1 hl j i hj hi hij).2
    rw [h] at h1; cases h1
theorem good_sub {l m : List (BitVec 16)} (hl : l.Pairwise Rs) (h : ∀ s, accS l s = accS m s) : ∀ f ∈ l, f ∈ m := by
  intro f hf
  have h1 : accS l f = true := List.any_eq_true.2 ⟨f, hf, (subB_iff f f).2 fun _ h => h⟩
  rw [h] at h1
  obtain ⟨g, hg, hgf⟩ := List.any_eq_true.1 h1
  have h2 : accS m g = true := List.any_eq_true.2 ⟨g, hg, (subB_iff g g).2 fun _ h => h⟩
  rw [← h] at h2
  obtain ⟨f', hf', hfg⟩ := List.any_eq_true.1 h2
  have e : f = f' := good_eq hl hf hf' ((subB_iff _ _).2 fun i hi => (subB_iff _ _).1 hgf i ((subB_iff _ _).1 hfg i hi))
  subst e
  have : f = g := sub_eq hgf (by have := sub_cnt hfg; exact this)
  rw [this]; exact hg
/-- two lists in order, of which no set contains another: the same sets are accepted only if they are equal -/
theorem good_ext {l m : List (BitVec 16)} (hl : l.Pairwise Rs) (hm : m.Pairwise Rs) (h : ∀ s, accS l s = accS m s) : l = m :=
  ext_sorted keyS l m (hl.imp fun h => h.1) (hm.imp fun h => h.1) fun y => ⟨good_sub hl h y, good_sub hm (fun s => (h s).symm) y⟩
theorem valS_good {l : List (BitVec 16)} (h : valS l = 0) : l.Pairwise Rs := by
  obtain ⟨_, h1, h2⟩ := valS_ok h
  rw [List.pairwise_iff_getElem]
  intro i j hi hj hij
  have hm := sorted_mono h1 i j hij hj
  rw [getD_at hi, getD_at hj] at hm
  refine ⟨hm, ?_⟩
  cases hs : subB l[j] l[i]
  · rfl
  · have := (overB_iff l).2 ⟨j, i, hj, hij, by rw [getD_at hi, getD_at hj]; exact hs⟩
    rw [h2] at this; cases this

/-- do the same sets satisfy both -/
def eqvB (x y : Xpr) : Bool := (subsS (srvX x ||| srvX y)).all fun s => holdX x s == holdX y s
def eqvE (x y : Xpr) : Bool × Int := if xprE x ≠ 0 then (false, xprE x) else if xprE y ≠ 0 then (false, xprE y) else (eqvB x y, 0)
theorem eqv_iff {x y : Xpr} (hx : XprOk x) (hy : XprOk y) : eqvB x y = true ↔ ∀ s, holdX x s = holdX y s := by
  unfold eqvB
  rw [List.all_eq_true]
  constructor
  · intro h s
    have h1 := h (s &&& (srvX x ||| srvX y)) (mem_subs fun p hp => by rw [hasB_and, Bool.and_eq_true] at hp; exact hp.2)
    have e1 : holdX x (s &&& (srvX x ||| srvX y)) = holdX x s := holdX_only hx fun p hp => by rw [hasB_and, hasB_or, hp, Bool.true_or, Bool.and_true]
    have e2 : holdX y (s &&& (srvX x ||| srvX y)) = holdX y s := holdX_only hy fun p hp => by rw [hasB_and, hasB_or, hp, Bool.or_true, Bool.and_true]
    rw [e1, e2] at h1
    exact eq_of_beq h1
  · intro h s _
    rw [h s]; simp
theorem eqv_fam {x y : Xpr} (hx : XprOk x) (hy : XprOk y) : eqvB x y = decide (famS x = famS y) := by
  rw [Bool.eq_iff_iff, eqv_iff hx hy, decide_eq_true_iff]
  constructor
  · intro h
    exact good_ext (famS_good x) (famS_good y) fun s => by rw [famS_holds hx, famS_holds hy, h s]
  · intro h s
    rw [← famS_holds hx, ← famS_holds hy, h]
end Go.Proofs.YtcojmmhclklpoaaGreatDoor
namespace Go.Proofs.YtcojmmhclklpoaaGreatDoor

theorem holdTo_pre (l m : List Nod) (s : BitVec 16) : ∀ k, k ≤ l.length → holdTo (l ++ m) s k = holdTo l s k := by
  intro k
  induction k with
  | zero => intro _; rfl
  | succ k ih =>
    intro hk
    rw [holdTo, holdTo, ih (by omega)]
    congr 2
    have : (l ++ m).getD k nod0 = l.getD k nod0 := by
      rw [List.getD_eq_getElem?_getD, List.getElem?_append_left (by omega), ← List.getD_eq_getElem?_getD]
    rw [this]
theorem got_cntO {nd : Nod} (hw : nd.weights = []) (is : List Bool) : ∀ k, k ≤ nd.kids.length → gotTo nd is k = ((nd.kids.take k).countP (fun z => is.getD z.toNat false) : Int) := by
  intro k
  induction k with
  | zero => intro _; rfl
  | succ k ih =>
    intro hk
    rw [gotTo, ih (by omega), List.take_add_one, List.getElem?_eq_getElem (by omega), List.countP_append]
    have e : nd.kids.getD k 0 = nd.kids[k] := by rw [List.getD_eq_getElem?_getD, List.getElem?_eq_getElem (by omega)]; rfl
    have e2 : wgtN nd k = 1 := by unfold wgtN; rw [if_pos hw]
    rw [e, e2]
    show _ = ((_ + List.countP _ [nd.kids[k]] : Nat) : Int)
    rw [List.countP_singleton]
    split <;> simp
theorem val_all {need : Int} {ks : List Int} (hn : need = ks.length) (is : List Bool) (s : BitVec 16) : valN ⟨2, 0, need, [], ks⟩ is s = ks.all fun z => is.getD z.toNat false := by
  unfold valN
  rw [if_neg (show ¬ ((2 : Int) = 1) by decide), got_cntO rfl _ _ (Nat.le_refl _)]
  simp only [List.take_length]
  rw [Bool.eq_iff_iff, decide_eq_true_iff, List.all_eq_true, ← List.countP_eq_length, hn]
  have := List.countP_le_length (p := fun z => is.getD (z : Int).toNat false) (l := ks)
  omega
theorem val_any {ks : List Int} (is : List Bool) (s : BitVec 16) : valN ⟨2, 0, 1, [], ks⟩ is s = ks.any fun z => is.getD z.toNat false := by
  unfold valN
  rw [if_neg (show ¬ ((2 : Int) = 1) by decide), got_cntO rfl _ _ (Nat.le_refl _)]
  simp only [List.take_length]
  rw [Bool.eq_iff_iff, decide_eq_true_iff, List.any_eq_true]
  have := List.countP_pos_iff (p := fun z => is.getD (z : Int).toNat false) (l := ks)
  rw [← this]
  omega

/-- what is known of the nodes and of the list of indices when some sets have been taken -/
structure OfI (mem : List Nat) (fs : List (BitVec 16)) (st : List Nod × List Int) : Prop where
  srv : ∀ (k m : Nat), mem[k]? = some m → st.1[k]? = some (⟨1, (m : Int), 0, [], []⟩ : Nod)
  len : mem.length ≤ st.1.length
  ok : ∀ (k : Nat) (nd : Nod), st.1[k]? = some nd → nodE nd k = 0
  few : ∀ (k : Nat) (nd : Nod), st.1[k]? = some nd → nd.kids.length ≤ 12
  rng : ∀ z ∈ st.2, ∃ i : Nat, z = (i : Int) ∧ i < st.1.length
  val : ∀ s, st.2.map (fun z => (holdTo st.1 s st.1.length).getD z.toNat false) = fs.map (fun t => subB s t)

theorem ofI_srv {mem : List Nat} (h12 : ∀ m ∈ mem, m < 12) : OfI mem [] (srvN mem, []) where
  srv := fun k m h => by unfold srvN; rw [List.getElem?_map, h]; rfl
  len := by rw [srvN_len]; exact Nat.le_refl _
  ok := fun k nd h => by
    unfold srvN at h
    rw [List.getElem?_map] at h
    obtain ⟨m, hm, rfl⟩ := Option.map_eq_some_iff.1 h
    exact nodE_srv ⟨by omega, by have := h12 m (List.mem_of_getElem? hm); omega⟩
  few := fun k nd h => by
    unfold srvN at h
    rw [List.getElem?_map] at h
    obtain ⟨m, hm, rfl⟩ := Option.map_eq_some_iff.1 h
    simp
  rng := fun z hz => by cases hz
  val := fun s => rfl
theorem hold_app (l : List Nod) (nd : Nod) (s : BitVec 16) (i : Nat) (hi : i < l.length) : (holdTo (l ++ [nd]) s (l ++ [nd]).length).getD i false = (holdTo l s l.length).getD i false := by
  rw [holdTo_get _ (by rw [List.length_append]; simp; omega), holdTo_get _ hi, holdTo_pre _ _ _ _ (by omega)]
  congr 1
  rw [List.getD_eq_getElem?_getD, List.getElem?_append_left hi, ← List.getD_eq_getElem?_getD]
theorem hold_last (l : List Nod) (nd : Nod) (s : BitVec 16) : (holdTo (l ++ [nd]) s (l ++ [nd]).length).getD l.length false = valN nd (holdTo l s l.length) s := by
  rw [holdTo_get _ (by rw [List.length_append]; simp), holdTo_pre _ _ _ _ (Nat.le_refl _)]
  congr 1
  rw [List.getD_eq_getElem?_getD, List.getElem?_append_right (Nat.le_refl _)]; simp
/-- the value of a server's node -/
theorem ofI_at {mem : List Nat} {fs : List (BitVec 16)} {st : List Nod × List Int} (h : OfI mem fs st) (s : BitVec 16) {m : Nat} (hm : m ∈ mem) : (holdTo st.1 s st.1.length).getD (mem.idxOf m) false = hasB s m := by
  have hl : mem.idxOf m < mem.length := List.idxOf_lt_length_of_mem hm
  have hg : mem[mem.idxOf m]? = some m := by rw [List.getElem?_eq_getElem hl, List.getElem_idxOf]
  have hn := h.srv _ _ hg
  rw [holdTo_get _ (by have := h.len; omega)]
  rw [List.getD_eq_getElem?_getD, hn]
  unfold valN
  simp
theorem kids_all {mem : List Nat} {fs : List (BitVec 16)} {st : List Nod × List Int} (h : OfI mem fs st) (s t : BitVec 16) (ht : ∀ m ∈ memS t, m ∈ mem) : ((kidsO mem t).all fun z => (holdTo st.1 s st.1.length).getD z.toNat false) = subB s t := by
  rw [Bool.eq_iff_iff, List.all_eq_true, subB_iff]
  unfold kidsO
  constructor
  · intro h1 i hi
    have hm := mem_memS.2 hi
    have := h1 _ (List.mem_map_of_mem hm)
    rwa [Int.toNat_natCast, ofI_at h s (ht i hm)] at this
  · intro h1 z hz
    obtain ⟨m, hm, rfl⟩ := List.mem_map.1 hz
    rw [Int.toNat_natCast, ofI_at h s (ht m hm)]
    exact h1 m (mem_memS.1 hm)
theorem ofI_step {mem : List Nat} {fs : List (BitVec 16)} {st : List Nod × List Int} (h : OfI mem fs st) {t : BitVec 16} (ht : ∀ m ∈ memS t, m ∈ mem) (h12 : (memS t).length ≤ 12) : OfI mem (fs ++ [t]) (stepO mem st t) := by
  have hka := fun s => kids_all h s t ht
  have hkr : ∀ z ∈ kidsO mem t, ∃ i : Nat, z = (i : Int) ∧ i < st.1.length := fun z hz => by
    unfold kidsO at hz
    obtain ⟨m, hm, rfl⟩ := List.mem_map.1 hz
    exact ⟨_, rfl, Nat.lt_of_lt_of_le (List.idxOf_lt_length_of_mem (ht m hm)) h.len⟩
  have hkl := kidsO_len mem t
  unfold stepO
  split
  · rename_i h1
    obtain ⟨z, hz⟩ := List.length_eq_one_iff.1 h1
    rw [hz] at hka hkr ⊢
    refine ⟨h.srv, h.len, h.ok, h.few, fun y hy => ?_, fun s => ?_⟩
    · rcases List.mem_append.1 hy with hy | hy
      · exact h.rng y hy
      · exact hkr y hy
    · have := hka s
      rw [List.map_append, List.map_append, h.val s]
      simp at this ⊢
      exact this
  · have hok : nodE ⟨2, 0, ((kidsO mem t).length : Int), [], kidsO mem t⟩ st.1.length = 0 := nodE_thr (by omega) (fun w hw => by cases hw) (.inl rfl) fun k hk => by
      obtain ⟨i, rfl, hi⟩ := hkr k hk
      omega
    have hget : ∀ k nd, (st.1 ++ [(⟨2, 0, ((kidsO mem t).length : Int), [], kidsO mem t⟩ : Nod)])[k]? = some nd → (k = st.1.length ∧ nd = ⟨2, 0, ((kidsO mem t).length : Int), [], kidsO mem t⟩) ∨ st.1[k]? = some nd := fun k nd hn => by
      by_cases hk : k < st.1.length
      · rw [List.getElem?_append_left hk] at hn; exact .inr hn
      · have hl := (List.getElem?_eq_some_iff.1 hn).1
        rw [List.length_append, List.length_singleton] at hl
        have e : k = st.1.length := by omega
        subst e
        rw [List.getElem?_append_right (Nat.le_refl _)] at hn
        simp at hn
        exact .inl ⟨rfl, hn.symm⟩
    refine ⟨fun k m hm => ?_, ?_, fun k nd hn => ?_, fun k nd hn => ?_, fun z hz => ?_, fun s => ?_⟩
    · have := h.srv k m hm
      rw [List.getElem?_append_left (List.getElem?_eq_some_iff.1 this).1]; exact this
    · rw [List.length_append]; have := h.len; omega
    · rcases hget k nd hn with ⟨rfl, rfl⟩ | hn
      · exact hok
      · exact h.ok k nd hn
    · rcases hget k nd hn with ⟨rfl, rfl⟩ | hn
      · show (kidsO mem t).length ≤ 12; omega
      · exact h.few k nd hn
    · rw [List.length_append, List.length_singleton]
      rcases List.mem_append.1 hz with hz | hz
      · obtain ⟨i, e, hi⟩ := h.rng z hz
        exact ⟨i, e, by omega⟩
      · rw [List.mem_singleton] at hz
        exact ⟨_, hz, by omega⟩
    · rw [List.map_append, List.map_append, ← h.val s]
      congr 1
      · refine List.map_congr_left fun z hz => ?_
        obtain ⟨i, rfl, hi⟩ := h.rng z hz
        rw [Int.toNat_natCast]
        exact hold_app _ _ _ _ hi
      · simp only [List.map_cons, List.map_nil, Int.toNat_natCast]
        rw [hold_last, val_all rfl, hka s]
theorem ofI_top {f : List (BitVec 16)} (h : valS f = 0) : ∀ j, j ≤ f.length → OfI (memO f) (f.take j) (ofT f j) := by
  intro j
  induction j with
  | zero => intro _; rw [ofT_zero]; exact ofI_srv (mem12 h)
  | succ j ih =>
    intro hj
    have hg := List.getElem?_eq_getElem (show j < f.length by omega)
    rw [ofT_succ hg, List.take_add_one, hg]
    have hm : f[j] ∈ f := List.getElem_mem _
    exact ofI_step (ih (by omega)) (fun m hm' => memO_mem h hm hm') (kids12 h hm)
/-- the expression of a valid family, if it is not too large -/
theorem ofX_all {f : List (BitVec 16)} (h : valS f = 0) (h60 : ¬ 60 < (ofX f).nodes.length) : xprE (ofX f) = 0 ∧ XprFew (ofX f) ∧ ∀ s, holdX (ofX f) s = accS f s := by
  have H := ofI_top h f.length (Nat.le_refl _)
  have hl := ofT_len f f.length (Nat.le_refl _)
  rw [List.take_length] at H
  have hacc : ∀ s, ((ofT f f.length).2.any fun z => (holdTo (ofT f f.length).1 s (ofT f f.length).1.length).getD z.toNat false) = accS f s := fun s => by
    have h1 := congrArg (fun l => l.any id) (H.val s)
    simp only [List.any_map] at h1
    exact h1
  have h400 := (valS_ok h).1
  unfold ofX at h60 ⊢
  generalize ofT f f.length = st at *
  obtain ⟨ns, al⟩ := st
  simp only at *
  by_cases h1 : al.length = 1
  · rw [if_pos h1] at h60 ⊢
    obtain ⟨z, rfl⟩ := List.length_eq_one_iff.1 h1
    obtain ⟨i, rfl, hi⟩ := H.rng z (by simp)
    simp only [List.getD_cons_zero] at h60 ⊢
    have hi' : i < ns.length := hi
    refine ⟨?_, fun k nd hn => by have := H.few k nd hn; omega, fun s => ?_⟩
    · have hE : nodsE ns 0 = 0 := nodsE_zero _ _ fun k nd hk => by rw [Nat.zero_add]; exact H.ok k nd hk
      unfold xprE
      simp only
      rw [if_neg (by intro e; rw [e] at hi; simp at hi), if_neg h60, if_neg (by rw [hE]; simp), if_neg (by omega)]
    · have := hacc s
      simp only [List.any_cons, List.any_nil, Bool.or_false] at this
      exact this
  · rw [if_neg h1] at h60 ⊢
    simp only at h60 ⊢
    have hget : ∀ k nd, (ns ++ [(⟨2, 0, 1, [], al⟩ : Nod)])[k]? = some nd → (k = ns.length ∧ nd = ⟨2, 0, 1, [], al⟩) ∨ ns[k]? = some nd := fun k nd hn => by
      by_cases hk : k < ns.length
      · rw [List.getElem?_append_left hk] at hn; exact .inr hn
      · have hl := (List.getElem?_eq_some_iff.1 hn).1
        rw [List.length_append, List.length_singleton] at hl
        have e : k = ns.length := by omega
        subst e
        rw [List.getElem?_append_right (Nat.le_refl _)] at hn
        simp at hn
        exact .inl ⟨rfl, hn.symm⟩
    have hok : nodE ⟨2, 0, 1, [], al⟩ ns.length = 0 := nodE_thr (by omega) (fun w hw => by cases hw) (.inl rfl) fun k hk => by
      obtain ⟨i, rfl, hi⟩ := H.rng k hk
      have hi' : i < ns.length := hi
      omega
    refine ⟨?_, fun k nd hn => ?_, fun s => ?_⟩
    · have hE : nodsE (ns ++ [(⟨2, 0, 1, [], al⟩ : Nod)]) 0 = 0 := nodsE_zero _ _ fun k nd hk => by
        rw [Nat.zero_add]
        rcases hget k nd hk with ⟨rfl, rfl⟩ | hn
        · exact hok
        · exact H.ok k nd hn
      unfold xprE
      simp only
      rw [if_neg (by simp), if_neg h60, if_neg (by rw [hE]; simp), if_neg (by rw [List.length_append, List.length_singleton]; omega)]
    · rcases hget k nd hn with ⟨rfl, rfl⟩ | hn
      · show al.length ≤ 1000; omega
      · have := H.few k nd hn; omega
    · unfold holdX
      simp only [Int.toNat_natCast]
      rw [hold_last, val_any]
      exact hacc s
/-- Family leads back -/
theorem fam_of {f : List (BitVec 16)} (h : valS f = 0) (h60 : ¬ 60 < (ofX f).nodes.length) : famE (ofX f) = (f, 0) := by
  obtain ⟨hx, _, hh⟩ := ofX_all h h60
  have e : famS (ofX f) = f := good_ext (famS_good _) (valS_good h) fun s => by rw [famS_holds (xprE_ok hx), hh s]
  unfold famE
  rw [if_neg (by rw [hx]; simp), e, if_neg (by have := (valS_ok h).1; omega)]
end Go.Proofs.YtcojmmhclklpoaaGreatDoor
namespace Go.Proofs.YtcojmmhclklpoaaGreatDoor
open Go.RowKit Go.ChangeShapes Go.WideShapes Go.Deep

def XprRch (x : Xpr) : Prop := ∀ (k : Nat) nd, x.nodes[k]? = some nd → nd.weights.length ≤ 17592186044416 ∧ nd.kids.length ≤ 17592186044416
theorem Tryz.bytesInt : Tryz.prog.bytesOf 3 = 8 := by kernel_rfl
theorem ints64_rch {H : Type} {enc : TypeId × Value → H} {W : World} {base : Nat} {held : Bool} {fuel : Nat} {cs : List Value} {x : DataW H × List MemPlace} (h : DataW.trod enc Tryz.prog W base (fun _ => true) held fuel 69 cs = some x) (hw : ∀ n ∈ x.1.weights Tryz.prog 69, n ≤ reachBytes) :
    ∃ a n c z, cs = [.slice a n c] ∧ IsInts .i64 W a n c z ∧ z.length ≤ 17592186044416 := by
  rcases open_ints Tryz.underlying69 Tryz.underlying3 (by kernel_rfl) h with ⟨hcs, _⟩ | ⟨b, l, c, zs, hcs, _, hl, hm, hz, hx, hcell, hwz⟩
  · exact ⟨_, _, _, _, hcs, .nil, by simp⟩
  · refine ⟨_, _, _, _, hcs, .row hl hm (by simpa using hz) hcell hwz, ?_⟩
    have h1 := hw ((lits .i64 (zs.take l) : List (DataW H)).length * 8 + (lits .i64 (zs.drop l) : List (DataW H)).length * 8) (by
      rw [hx]
      simp only [DataW.weights, Tryz.underlying69, Tryz.bytesInt]
      rw [Nat.add_mul]
      exact List.mem_cons_self)
    simp only [lits, List.length_map, reachBytes] at h1
    omega
theorem open_nodesS {H : Type} {enc : TypeId × Value → H} {w : World} {base : Nat} {held : Bool} {fuel : Nat} {cs : List Value} {x : DataW H × List MemPlace} (h : DataW.trod enc Tryz.prog w base (fun _ => true) held fuel 30 cs = some x) (hw : ∀ n ∈ x.1.weights Tryz.prog 30, n ≤ reachBytes) :
    ∃ a n c ns, cs = [.slice a n c] ∧ XM w a n c ns ∧ ∀ nd ∈ ns, nd.weights.length ≤ 17592186044416 ∧ nd.kids.length ≤ 17592186044416 := by
  rcases open_slice_fields Tryz.underlying30 Tryz.underlying71 (by kernel_rfl) (by kernel_rfl) h with ⟨hcs, _⟩ | ⟨a, len, cap, m, D, Pl, hcs, _, hl, hm, hmm, hxx, hi⟩
  · exact ⟨none, 0, 0, [], hcs, XM.none_ _, fun nd h => by cases h⟩
  · have hlm : len ≤ m := by rw [hmm]; split <;> omega
    have hel : ∀ i, i < len → ∀ n ∈ (D i).weights Tryz.prog 71, n ≤ reachBytes := fun i hil n hn => by
      refine hw n ?_
      rw [hxx]
      simp only [DataW.weights, Tryz.underlying30]
      refine List.mem_cons_of_mem _ (List.mem_append_left _ ?_)
      have key : ∀ (l : List Nat), i ∈ l → n ∈ DataW.weightsAll Tryz.prog 71 (l.map D) := by
        intro l
        induction l with
        | nil => intro h; cases h
        | cons y l ih =>
          intro h
          rw [List.map_cons, DataW.weightsAll]
          rcases List.mem_cons.1 h with rfl | h
          · exact List.mem_append_left _ hn
          · exact List.mem_append_right _ (ih h)
      exact key _ (List.mem_range.2 hil)
    obtain ⟨L, hL1, hL2⟩ := list_of (α := Nod) (Q := fun i r => (w.cell? (a.add (i * 5 + 0)) = some (.int .i64 r.kind) ∧ w.cell? (a.add (i * 5 + 1)) = some (.int .i64 r.server) ∧ w.cell? (a.add (i * 5 + 2)) = some (.int .i64 r.need) ∧ (∃ a3 n3 c3, w.cell? (a.add (i * 5 + 3)) = some (.slice a3 n3 c3) ∧ Rd w a3 n3 c3 (r.weights.map (Value.int .i64))) ∧ ∃ a4 n4 c4, w.cell? (a.add (i * 5 + 4)) = some (.slice a4 n4 c4) ∧ Rd w a4 n4 c4 (r.kids.map (Value.int .i64))) ∧ r.weights.length ≤ 17592186044416 ∧ r.kids.length ≤ 17592186044416) len (fun i hil => by
      obtain ⟨ys, n, hD, _, hyl, hf⟩ := hi i (by omega)
      have hwi := hel i hil
      rw [hD] at hwi
      simp only [DataW.weights, Tryz.underlying71] at hwi
      obtain ⟨v0, y0, c0, _, t0⟩ := hf 0 _ rfl
      obtain ⟨v1, y1, c1, _, t1⟩ := hf 1 _ rfl
      obtain ⟨v2, y2, c2, _, t2⟩ := hf 2 _ rfl
      obtain ⟨v3, y3, c3, hy3, t3⟩ := hf 3 _ rfl
      obtain ⟨v4, y4, c4, hy4, t4⟩ := hf 4 _ rfl
      obtain ⟨z0, e0, _, _⟩ := DataW.trod_int Tryz.underlying3 t0
      obtain ⟨z1, e1, _, _⟩ := DataW.trod_int Tryz.underlying3 t1
      obtain ⟨z2, e2, _, _⟩ := DataW.trod_int Tryz.underlying3 t2
      obtain ⟨a3, n3, k3, z3, e3, i3, b3⟩ := ints64_rch t3 (fun n hn => hwi n (DataW.weights_mem_each (j := 3) rfl (by rw [List.getElem?_map, hy3]; rfl) n hn))
      obtain ⟨a4, n4, k4, z4, e4, i4, b4⟩ := ints64_rch t4 (fun n hn => hwi n (DataW.weights_mem_each (j := 4) rfl (by rw [List.getElem?_map, hy4]; rfl) n hn))
      cases e0; cases e1; cases e2; cases e3; cases e4
      exact ⟨⟨z0, z1, z2, z3, z4⟩, ⟨c0, c1, c2, ⟨a3, n3, k3, c3, i3.rd⟩, a4, n4, k4, c4, i4.rd⟩, b3, b4⟩)
    refine ⟨some a, len, cap, L, hcs, ⟨hL1, hl, hm, fun h => (by cases h), fun hn0 => ?_⟩, fun nd hnd => ?_⟩
    · obtain ⟨x0, hx0⟩ : ∃ x, L[0]? = some x := ⟨_, List.getElem?_eq_getElem (by omega)⟩
      have h0 := (hL2 0 x0 hx0).1.1
      rw [Nat.zero_mul, Nat.zero_add] at h0
      have ha := addr_plain h0
      refine ⟨a.block, a.off, by rw [← ha], fun i p hp => ?_⟩
      obtain ⟨⟨d0, d1, d2, ⟨a3, n3, c3, d3, r3⟩, a4, n4, c4, d4, r4⟩, _⟩ := hL2 i p hp
      rw [ha, Addr.add_lit] at d0 d1 d2 d3 d4
      exact ⟨d0, by rw [Nat.add_assoc]; exact d1, by rw [Nat.add_assoc]; exact d2, ⟨a3, n3, c3, by rw [Nat.add_assoc]; exact d3, r3⟩, a4, n4, c4, by rw [Nat.add_assoc]; exact d4, r4⟩
    · obtain ⟨i, hi⟩ := List.mem_iff_getElem?.1 hnd
      exact (hL2 i nd hi).2
set_option maxRecDepth 100000 in
theorem open_xprS {H : Type} {enc : TypeId × Value → H} {W : World} {base b0 : Nat} {held : Bool} {v : Value} {d : DataW H} {p : List MemPlace} {r : Reach}
    (hv : Value.okWide Tryz.prog W r b0 32 v) (h : DataW.Trod enc Tryz.prog W base (fun _ => true) held 32 v d p) (hw : ∀ n ∈ d.weights Tryz.prog 32, n ≤ reachBytes) : ∃ x, IsXpr W v x ∧ XprRch x := by
  obtain ⟨cs, rfl, hsz⟩ := okWide_struct Tryz.underlying32 hv
  rw [show Tryz.prog.cellsOf 32 = 2 by kernel_rfl] at hsz
  obtain ⟨l⟩ := cs
  obtain ⟨c0, c1, rfl⟩ := list2 l hsz
  obtain ⟨fuel, hf⟩ := h
  obtain ⟨xs, n, _, hdd, _, _, hfl⟩ := DataW.trod_struct Tryz.underlying32 hf
  have k8 : Tryz.prog.cellsOf 30 = 1 := by kernel_rfl
  have ku : Tryz.prog.cellsOf 3 = 1 := by kernel_rfl
  have h0 : DataW.trod enc Tryz.prog W base (fun _ => true) held n 30 (List.take (Tryz.prog.cellsOf 30) [c0, c1]) = xs[0]? := hfl 0 _ rfl
  have h1 : DataW.trod enc Tryz.prog W base (fun _ => true) held n 3 (List.take (Tryz.prog.cellsOf 3) [c1]) = xs[1]? := hfl 1 _ rfl
  rw [k8] at h0
  rw [ku] at h1
  have hxl : xs.length = 2 := by assumption
  have hx0 : xs[0]? = some (xs[0]'(by omega)) := List.getElem?_eq_getElem (by omega)
  rw [List.getElem?_eq_getElem (by omega)] at h0 h1
  simp only [Prod.mk.injEq] at hdd
  obtain ⟨rfl, _⟩ := hdd
  simp only [DataW.weights, Tryz.underlying32] at hw
  obtain ⟨a, n1, cc, ns, e0, i0, b0⟩ := open_nodesS h0 (fun n hn => hw n (DataW.weights_mem_each (j := 0) rfl (by rw [List.getElem?_map, hx0]; rfl) n hn))
  obtain ⟨z, e1, _, _⟩ := DataW.trod_int Tryz.underlying3 h1
  simp at e0 e1
  subst e0 e1
  exact ⟨⟨ns, z⟩, ⟨a, n1, cc, rfl, i0⟩, fun k nd hk => b0 nd (List.mem_of_getElem? hk)⟩
end Go.Proofs.YtcojmmhclklpoaaGreatDoor
namespace Go.Proofs.YtcojmmhclklpoaaGreatDoor
open Go.RowKit Go.Shelf

theorem sets10_of {W : World} {a : Option Addr} {n c : Nat} {l : List Int} (h : IsInts .u16 W a n c l) : ∃ L : List (BitVec 16), Rd W a n c (L.map setV2) ∧ L.length = n := by
  have hr := h.rd
  have hw := h.wf
  have : ∃ L : List (BitVec 16), l = L.map U := by
    clear hr h
    induction l with
    | nil => exact ⟨[], rfl⟩
    | cons z l ih =>
      obtain ⟨L, hL⟩ := ih (fun x hx => hw x (List.mem_cons_of_mem _ hx))
      obtain ⟨b, hb⟩ := U_of_wf' (hw z (List.mem_cons_self ..))
      exact ⟨b :: L, by rw [List.map_cons, hL, hb]⟩
  obtain ⟨L, rfl⟩ := this
  refine ⟨L, ?_, ?_⟩
  · rw [List.map_map] at hr; exact hr
  · have := hr.len; simp at this; omega
theorem ofE_ok {f : List (BitVec 16)} (h : (ofE f).2 = 0) : valS f = 0 ∧ (¬ 60 < (ofX f).nodes.length) ∧ (ofE f).1 = ofX f := by
  unfold ofE at h ⊢
  by_cases h1 : valS f ≠ 0
  · rw [if_pos h1] at h; exact absurd h h1
  · rw [if_neg h1] at h ⊢
    by_cases h2 : 60 < (ofX f).nodes.length
    · rw [if_pos h2] at h; cases h
    · rw [if_neg h2]; exact ⟨by simpa using h1, h2, rfl⟩

set_option maxRecDepth 100000 in
set_option maxHeartbeats 8000000 in
theorem ofs_w (a : Option Addr) (len cap : Nat) (z : List Int) (w : World) (ht : HasTab w) (hp : HasPow w) (hr : HasRng w) (hy : HasSyn w) (w0 : IsInts .u16 w a len cap z) :
    Calls Tryz.prog 6 #[.slice a len cap] w fun e w' => e = .returned (.bool true) ∧ Below w.heap.size w w' := by
  obtain ⟨L, hL, hlen⟩ := sets10_of w0
  have HA := Lib.hid (fun u (hb : Below w.heap.size w u) => awake10_c u (ht.below hb) (hp.below hb) (hr.below hb) (hy.below hb))
  by_cases h1 : (60 : Int) < (len : Int)
  · have d1 : decide ((60 : Int) < (len : Int)) = true := decide_eq_true h1
    clear h1 w0 hL hlen ht hp hr hy
    go_enter Tryz.func6, Tryz.ntmps6
    go_wp2_with fail
    with_reducible refine (HA.out w (Below.refl _ _)).mono ?_
    rintro e w1 ⟨rfl, b1⟩
    go_wp2_with fail
    with_reducible refine (HA.out w1 b1).mono ?_
    rintro e w2 ⟨rfl, b2⟩
    go_wp2_with fail
    go_ret
    exact ⟨rfl, Below.next b1 b2⟩
  have d1 : decide ((60 : Int) < (len : Int)) = false := decide_eq_false h1
  have HP := Lib.hid (fun u (hb : Below w.heap.size w u) => xof_c L a len cap u (ht.below hb) (hL.below hb))
  have HR := Lib.hid (fun u (hb : Below w.heap.size w u) => rof10_c L a len cap u (hL.below hb))
  have HSM := Lib.hid (fun a n c a2 n2 c2 u h h2 => same10_c (ofE L).1 a n c a2 n2 c2 u h h2)
  have HFA : Hid ((ofE L).2 = 0 → ∀ a n c u, Below w.heap.size w u → XM u a n c (ofE L).1.nodes → Calls Tryz.prog 14 #[.agg #[.slice a n c, .int .i64 (ofE L).1.root]] u fun e w' => ∃ a' c', e = .returned (.tuple #[.slice a' L.length c', .int .i64 0]) ∧ Rd w' a' L.length c' (L.map setV2) ∧ Below u.heap.size u w') := Lib.hid (fun h0 a n c u hb h => by
    obtain ⟨h1, h2, h3⟩ := ofE_ok h0
    rw [h3] at h ⊢
    obtain ⟨hx, hf, _⟩ := ofX_all h1 h2
    have := family_x (ofX L) hx hf a n c u (ht.below hb) h
    unfold FamR at this
    rw [fam_of h1 h2, setV_same] at this
    exact this)
  obtain ⟨Q, hQ⟩ : ∃ Q, ofE L = Q := ⟨_, rfl⟩
  rw [hQ] at HP HR HSM HFA
  obtain ⟨X, E⟩ := Q
  simp only at HP HR HSM HFA
  unfold RetX at HP HR
  obtain ⟨NL, hNL⟩ : ∃ NL, X.nodes.length = NL := ⟨_, rfl⟩
  obtain ⟨RR, hRR⟩ : ∃ RR, X.root = RR := ⟨_, rfl⟩
  rw [hNL, hRR] at HP HR
  rw [hRR] at HSM HFA
  have hee : (E == E) = true := by simp
  have hen : (E != E) = false := by rw [bne_eq_false_iff_eq]
  have HLL := Lib.hid (fun (u : World) (hb : Below w.heap.size w u) => (hL.below hb))
  have HLN := Lib.hid hlen
  clear h1 w0 hL hlen ht hp hr hy hQ hNL hRR
  go_enter Tryz.func6, Tryz.ntmps6
  go_wp2_with fail
  with_reducible refine (HA.out w (Below.refl _ _)).mono ?_
  rintro e w3 ⟨rfl, b3⟩
  have HB3 := Lib.hid b3
  clear b3 HA
  go_wp2_with fail
  with_reducible refine (HP.out w3 HB3.out).mono ?_
  rintro e w4 ⟨a4, c4, rfl, x4, b4⟩
  obtain ⟨W5, hW5⟩ : ∃ W5, W5 = w4.alloc (.cells #[.slice a4 NL c4, .int .i64 RR] 32) := ⟨_, rfl⟩
  have b5 : Below w4.heap.size w4 W5 := by rw [hW5]; exact (Below.refl _ _).alloc (Nat.le_refl _) _
  have g5 : W5.heap[w4.heap.size]? = some (.cells #[.slice a4 NL c4, .int .i64 RR] 32 (0, 0)) := by rw [hW5]; exact heap_alloc_new _ _
  have HB5 := Lib.hid (Below.next HB3.out (Below.next b4 b5))
  have HX5 := Lib.hid (x4.xm.below b5)
  have HKA := Lib.hid (fun (u : World) (hu : Below W5.heap.size W5 u) => (open2 (heap_below hu g5)).1)
  clear b4 b5 g5 x4 HP
  go_wp2_with fail
  rw [← hW5]
  clear hW5
  with_reducible refine (HR.out W5 HB5.out).mono ?_
  rintro e w6 ⟨a6, c6, rfl, x6, b6⟩
  obtain ⟨W7, hW7⟩ : ∃ W7, W7 = w6.alloc (.cells #[.slice a6 NL c6, .int .i64 RR] 32) := ⟨_, rfl⟩
  have b7 : Below w6.heap.size w6 W7 := by rw [hW7]; exact (Below.refl _ _).alloc (Nat.le_refl _) _
  have g7 : W7.heap[w6.heap.size]? = some (.cells #[.slice a6 NL c6, .int .i64 RR] 32 (0, 0)) := by rw [hW7]; exact heap_alloc_new _ _
  have b67 := Below.next b6 b7
  have HB7 := Lib.hid (Below.next HB5.out b67)
  have HX7 := Lib.hid (HX5.out.below b67)
  have HY7 := Lib.hid (x6.xm.below b7)
  have HKX := Lib.hid (fun (u : World) (hu : Below W7.heap.size W7 u) => HKA.out u (Below.next b67 hu))
  have HKY := Lib.hid (fun (u : World) (hu : Below W7.heap.size W7 u) => (open2 (heap_below hu g7)).1)
  have HS7 := Lib.hid (HSM.out a4 NL c4 a6 NL c6 W7 HX7.out HY7.out)
  obtain ⟨k0, k1⟩ := HKX.out W7 (Below.refl _ _)
  obtain ⟨l0, l1⟩ := HKY.out W7 (Below.refl _ _)
  rw [hW7] at k0 k1 l0 l1
  clear b6 b7 b67 g7 x6 HR HKA HX5
  go_wp2_with fail
  rw [← hW7]
  clear hW7 k0 k1 l0 l1
  with_reducible refine HS7.out.mono ?_
  rintro e w8 ⟨rfl, b8⟩
  have HK8 := Lib.hid b8
  have HB8 := Lib.hid (Below.next HB7.out b8)
  obtain ⟨k0, k1⟩ := HKX.out w8 HK8.out
  obtain ⟨l0, l1⟩ := HKY.out w8 HK8.out
  clear b8 HS7
  by_cases hE : E = 0
  · subst hE
    have HF8 := Lib.hid (HFA.out rfl a4 NL c4 w8 HB8.out (HX7.out.below HK8.out))
    clear hee hen
    go_wp2_with fail
    clear k0 k1 l0 l1
    with_reducible refine HF8.out.mono ?_
    rintro e w9 ⟨a9, c9, rfl, r9, b9⟩
    have HB9 := Lib.hid (Below.next HB8.out b9)
    have HR9 := Lib.hid r9
    clear r9 b9 HF8 HFA
    obtain ⟨LL, hLL⟩ : ∃ LL, L.length = LL := ⟨_, rfl⟩
    rw [hLL] at HR9 ⊢
    clear hLL
    go_wp2_with fail
    with_reducible refine (same8_c L a9 LL c9 a len cap w9 HR9.out (HLL.out w9 HB9.out)).mono ?_
    rintro e w10 ⟨rfl, b10⟩
    have HB10 := Lib.hid (Below.next HB9.out b10)
    clear b10
    go_wp2_with fail
    go_ret
    exact ⟨rfl, HB10.out⟩
  · have hne : (E != 0) = true := by simpa using hE
    have HS8 := Lib.hid (HSM.out a4 NL c4 a6 NL c6 w8 (HX7.out.below HK8.out) (HY7.out.below HK8.out))
    go_wp2_with fail
    clear k0 k1 l0 l1
    with_reducible refine HS8.out.mono ?_
    rintro e w9 ⟨rfl, b9⟩
    have HB9 := Lib.hid (Below.next HB8.out b9)
    clear b9
    go_wp2_with fail
    go_ret
    exact ⟨rfl, HB9.out⟩
end Go.Proofs.YtcojmmhclklpoaaGreatDoor
