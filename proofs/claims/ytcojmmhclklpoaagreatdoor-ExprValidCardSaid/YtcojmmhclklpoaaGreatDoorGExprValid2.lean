/- Texts laid together. ref10.sizes: the sizes of all nodes' trees, cut at 1000. The reference's Substitute, Tidy. The reference's text and Format. A handed expression with the reach of its lists, as a law's frame opens it. The reference's Few of layer 10. Layer 10: the law Texts, walked. The sets of a family that is found are in order; what the same sets satisfy has the same family. Plain Lean, no program. A region that draws its order, inside a fence (in a round of a loop over a function, too): quiet operations in any order, and behind them, in one forced order, a tail. Over any program. expr.Equivalent. expr.Family of an expression with an error. Layer 10: the law Valid, walked. -/
import Derived.Test.YtcojmmhclklpoaaGreatDoorGC2
import Derived.Test.YtcojmmhclklpoaaGreatDoorGC3
import Derived.Test.YtcojmmhclklpoaaGreatDoorGC4
import Derived.Test.YtcojmmhclklpoaaGreatDoorGC5
import Derived.Test.YtcojmmhclklpoaaGreatDoorGC6
import Derived.Test.YtcojmmhclklpoaaGreatDoorGC7
import Derived.Test.YtcojmmhclklpoaaGreatDoorGC8
import Derived.Test.YtcojmmhclklpoaaGreatDoorGC9
import Derived.Test.YtcojmmhclklpoaaGreatDoorGC10
import Derived.Test.YtcojmmhclklpoaaGreatDoorGExprValid1
import Derived.SizedLaws
import Derived.StillTail
import Derived.Sort.QuietThIn
import Derived.OwnWalkIn
import Derived.Sort.QuietTacIn
import Derived.Sort.CutIn
namespace Go.Proofs.YtcojmmhclklpoaaGreatDoor
open Go.RowKit Go.Shelf

/-- m places for numbers, the first ones filled -/
def inN (m : Nat) (l : List Nat) : Array Value := ((l ++ List.replicate (m - l.length) 0).map fun k => Value.int .i64 ((k : Nat) : Int)).toArray
theorem inN_at {m : Nat} {l : List Nat} (h : l.length ≤ m) {i : Nat} (hi : i < m) : (inN m l)[i]? = some (.int .i64 ((l.getD i 0 : Nat) : Int)) := by
  unfold inN
  rw [List.getElem?_toArray, List.getElem?_map, List.getD_eq_getElem?_getD]
  by_cases h1 : i < l.length
  · rw [List.getElem?_append_left h1, List.getElem?_eq_getElem h1]; rfl
  · rw [List.getElem?_append_right (by omega), List.getElem?_replicate, if_pos (by omega), List.getElem?_eq_none (by omega)]; rfl
theorem inN_set {m : Nat} {l : List Nat} (h : l.length < m) (v : Nat) : (inN m l).setIfInBounds l.length (.int .i64 (v : Int)) = inN m (l ++ [v]) := by
  unfold inN
  rw [List.setIfInBounds_toArray]
  congr 1
  have e : m - l.length = (m - (l ++ [v]).length) + 1 := by simp; omega
  rw [e, List.replicate_succ, List.map_append, List.map_append, List.map_append, List.map_cons, List.set_append_right _ _ (by simp)]
  simp
theorem inN_reset {m : Nat} {l : List Nat} (u v : Nat) : (inN m (l ++ [u])).setIfInBounds l.length (.int .i64 (v : Int)) = inN m (l ++ [v]) := by
  unfold inN
  rw [List.setIfInBounds_toArray]
  congr 1
  rw [List.append_assoc, List.append_assoc, List.map_append, List.map_append, List.set_append_right _ _ (by simp)]
  simp
theorem inN_old {m : Nat} {l : List Nat} (u : Nat) {i : Nat} (h : l.length < m) (hi : i < l.length) : (inN m (l ++ [u]))[i]? = some (.int .i64 ((l.getD i 0 : Nat) : Int)) := by
  rw [inN_at (by simp; omega) (by omega), List.getD_eq_getElem?_getD, List.getElem?_append_left hi, ← List.getD_eq_getElem?_getD]
theorem inN_new {m : Nat} {l : List Nat} (u : Nat) (h : l.length < m) : (inN m (l ++ [u]))[l.length]? = some (.int .i64 (u : Int)) := by
  rw [inN_at (by simp; omega) h, List.getD_eq_getElem?_getD, List.getElem?_append_right (Nat.le_refl _), Nat.sub_self]; rfl
theorem inN_all (l : List Nat) : inN l.length l = (l.map fun k => Value.int .i64 ((k : Nat) : Int)).toArray := by
  unfold inN; simp
theorem make_ints (m : Nat) (hm : m ≤ 1000000) : ∀ w, (Instr.makeSlice 69 (.int .i64 m) (.int .i64 m)).run Tryz.prog w = .ok (.slice (some ⟨w.heap.size, 0, none⟩) m m) (w.alloc (.cells (madeCells #[.int .i64 0] m) 3)) :=
  fun w => run_make_row' 69 3 (.int .i64 0) 8 Tryz.underlying69 Tryz.infoInt rfl .i64 .i64 m (by omega) (by omega) w
theorem inN_made (m : Nat) : madeCells #[.int .i64 0] m = inN m [] := by
  apply Array.toList_inj.1
  rw [toList_madeCells_one]; unfold inN; simp

set_option maxRecDepth 100000 in
set_option maxHeartbeats 4000000 in
theorem rsizes_c (x : Xpr) (hx : xprE x = 0) (hf : XprFew x) (sub : Nat → Option ET) (ls : List Nat) (hsub : ∀ s, s < 12 → subZ 1000 sub s = if s < ls.length then ls.getD s 0 else 1) (a : Option Addr) (n c : Nat) (la : Option Addr) (ln lc : Nat) (w : World) (h : XM w a n c x.nodes) (hl : Rd w la ln lc (ls.map fun k => Value.int .i64 ((k : Nat) : Int))) :
    Calls Tryz.prog 59 #[.agg #[.slice a n c, .int .i64 x.root], .slice la ln lc] w fun e w' => ∃ a', e = .returned (.slice a' n n) ∧ Rd w' a' n n ((szl 1000 x.nodes sub n).map fun k => Value.int .i64 ((k : Nat) : Int)) ∧ Below w.heap.size w w' := by
  have ok := xprE_ok hx
  have hle := h.le
  have hm := h.max
  have hn60 : n ≤ 60 := by have h1 := ok.most; have h2 := h.len; omega
  have hn0 : 0 < n := by have h1 := ok.pos; have h2 := h.len; omega
  unfold maxLen at hm
  have HX := Lib.hid h
  have HO := Lib.hid ok
  have HXX := Lib.hid hx
  have HN := Lib.hid h.len
  have HLS := Lib.hid hl
  have HSB := Lib.hid hsub
  have HFW := Lib.hid hf
  obtain ⟨RT, hRT⟩ : ∃ RT, x.root = RT := ⟨_, rfl⟩
  rw [hRT]
  clear h hx ok hl hsub hf hRT
  have hmk := make_ints n (by omega)
  obtain ⟨b, o, rfl, _⟩ := HX.out.at' hn0
  go_enter Tryz.func59, Tryz.ntmps59
  go_wp2_with fail
  generalize hWS : (w.alloc _).alloc _ = WS
  rw [inN_made] at hWS
  obtain ⟨g0, g1, hbS, hS⟩ := box2' hWS
  have HS := Lib.hid hS
  have HBS := Lib.hid hbS
  have G0 := Lib.hid g0
  have G1 := Lib.hid g1
  clear hWS hS hbS g0 g1 hmk
  go_loopw [6] (fun i wr => ∃ k : Nat, k ≤ n ∧ i = .int .i64 k ∧ wr.heap[w.heap.size + 1]? = some (.cells (inN n (szl 1000 x.nodes sub k)) 3 (0, 0)) ∧ wr.heap[w.heap.size]? = some (.cells #[.slice (some ⟨b, o, none⟩) n c, .int .i64 RT] 32 (0, 0)) ∧ w.heap.size + 2 ≤ wr.heap.size ∧ Below w.heap.size w wr) (fun i _ => n - (intOf i).toNat)
  case atStart => exact ⟨0, Nat.zero_le _, rfl, G1.out, G0.out, by rw [HS.out]; exact Nat.le_refl _, HBS.out⟩
  case round =>
    obtain ⟨k, hk, rfl, e1, e0, hsz, hb⟩ := hrel
    by_cases hlt : k < n
    · obtain ⟨nd, hnd⟩ : ∃ nd, x.nodes[k]? = some nd := ⟨_, List.getElem?_eq_getElem (by have := HN.out; omega)⟩
      obtain ⟨b', o', ha, hat⟩ := HX.out.at' (by omega)
      cases ha
      have hM := hat k nd hnd
      obtain ⟨a3, n3, c3, m3, r3⟩ := hM.ws
      obtain ⟨a4, n4, c4, m4, r4⟩ := hM.ks
      have m0 := cell_keep hb hM.c0
      have m1 := cell_keep hb hM.c1
      have m2 := cell_keep hb hM.c2
      have m3 := cell_keep hb m3
      have m4 := cell_keep hb m4
      obtain ⟨x0, x1⟩ := (open2 e0).1
      have HOK := Lib.hid (HO.out.node k nd hnd)
      have HST := Lib.hid (szl_succ 1000 x.nodes sub k)
      have HL := Lib.hid (szl_len 1000 x.nodes sub k)
      have hkk := Lib.hid (fun j kd hj => sz_kid HXX.out 1000 sub k nd hnd j kd hj)
      have hIb := Lib.hid (fun i (hi : i < k) => show (szl 1000 x.nodes sub k).getD i 0 ≤ 1000 from by rw [szl_get _ _ _ _ _ hi]; omega)
      obtain ⟨I, hI⟩ : ∃ I, szl 1000 x.nodes sub k = I := ⟨_, rfl⟩
      have hleaf := Lib.hid (fun hk1 => sz_leaf (x := x) 1000 (by omega) sub k nd hnd hk1)
      have hnode := Lib.hid (fun hk1 => sz_node HXX.out 1000 sub k nd hnd hk1)
      rw [hI] at e1 HST HL hkk hIb
      obtain ⟨kind, server, need, ws, ks⟩ := nd
      simp only at m0 m1 m2 r3 r4 hleaf hnode hkk
      have R4 := Lib.hid r4
      have HB := Lib.hid hb
      have hlk : ks.length = n4 := by have := R4.out.len; simp at this; omega
      have HLK := Lib.hid hlk
      clear hM r3 r4 hat hnd hI hb hlk
      have ea := heap_alloc_at e1 (Obj.cells #[.int .i64 kind, .int .i64 server, .int .i64 need, .slice a3 n3 c3, .slice a4 n4 c4] 71)
      have ea0 := heap_alloc_at e0 (Obj.cells #[.int .i64 kind, .int .i64 server, .int .i64 need, .slice a3 n3 c3, .slice a4 n4 c4] 71)
      have en := heap_alloc_new wr (Obj.cells #[.int .i64 kind, .int .i64 server, .int .i64 need, .slice a3 n3 c3, .slice a4 n4 c4] 71)
      have hbn : Below wr.heap.size wr (wr.alloc (Obj.cells #[.int .i64 kind, .int .i64 server, .int .i64 need, .slice a3 n3 c3, .slice a4 n4 c4] 71)) := (Below.refl _ wr).alloc (Nat.le_refl _) _
      have za := frozen_row ea k
      have zb := (cell_of_row _ _ k _ _ _ ea).trans (inN_at (by have := HL.out; omega) hlt)
      have EA := Lib.hid ea
      have EA0 := Lib.hid ea0
      have EN := Lib.hid en
      have HBN := Lib.hid hbn
      clear ea ea0 en hbn e1 e0
      go_upto_region 7 with fail
      generalize hW5 : (wr.alloc _).setCell _ _ = W5
      have e5 : W5.heap[w.heap.size + 1]? = some (.cells (inN n (I ++ [1])) 3 (0, 0)) := by
        rw [← hW5, heap_set_at EA.out]
        have := inN_set (m := n) (l := I) (by have := HL.out; omega) 1
        rw [HL.out] at this
        rw [← this]; rfl
      have e50 : W5.heap[w.heap.size]? = some (.cells #[.slice (some ⟨b, o, none⟩) n c, .int .i64 RT] 32 (0, 0)) := by rw [← hW5]; exact heap_set_other (by omega) _ _ EA0.out
      have en5 : W5.heap[wr.heap.size]? = some (.cells #[.int .i64 kind, .int .i64 server, .int .i64 need, .slice a3 n3 c3, .slice a4 n4 c4] 71 (0, 0)) := by rw [← hW5]; exact heap_set_other (by omega) _ _ EN.out
      have hb5 : Below w.heap.size w W5 := by rw [← hW5]; exact (HB.out.trans (HBN.out.mono HB.out.size)).setCell (p := ⟨w.heap.size + 1, k, none⟩) (Nat.le_succ _) _
      have hs5 : wr.heap.size < W5.heap.size := (Array.getElem?_eq_some_iff.1 en5).1
      have E5 := Lib.hid e5
      have E50 := Lib.hid e50
      have EN5 := Lib.hid en5
      have HB5 := Lib.hid hb5
      clear hW5 e5 e50 en5 hb5 za zb m0 m1 m2 m3 m4 x0 x1 EA EA0 EN HBN
      obtain ⟨q0, q1, q2, q3, q4⟩ := open5 EN5.out
      by_cases hkind : kind = 1
      · subst hkind
        obtain ⟨sv, rfl⟩ := Int.eq_ofNat_of_zero_le HOK.out.server.1
        have hsv12 := HOK.out.server.2
        simp only at hsv12
        obtain ⟨hnd0, hws0, hks⟩ := HOK.out.leaf rfl
        simp only at hks hnd0 hws0
        subst hks hnd0 hws0
        have hn0 : n4 = 0 := HLK.out.symm
        subst hn0
        have hsb := HSB.out sv (by omega)
        have hln := HLS.out.len
        rw [List.length_map] at hln
        have hlf := hleaf.out rfl
        rw [Int.toNat_natCast, hsb] at hlf
        by_cases hsl : sv < ls.length
        · rw [if_pos hsl] at hlf
          obtain ⟨b7, o7, ha7, hc7⟩ := HLS.out.at' (by omega)
          have r7 := cell_keep HB5.out (hc7 sv (.int .i64 ((ls.getD sv 0 : Nat) : Int)) (by rw [List.getElem?_map, List.getD_eq_getElem?_getD, List.getElem?_eq_getElem hsl]; rfl))
          have za := frozen_row E5.out k
          have zb := (cell_of_row _ _ k _ _ _ E5.out).trans (inN_at (by simp; have := HL.out; omega) hlt)
          have d1 : decide (sv < ln) = true := decide_eq_true (by omega)
          have d2 : decide ((sv : Int) < (ln : Int)) = true := decide_eq_true (by omega)
          have hsn : sv < ln := by omega
          have HLF := Lib.hid hlf
          subst ha7
          clear hlf hc7 hsb hln
          obtain ⟨VV, hVV⟩ : ∃ VV, ls.getD sv 0 = VV := ⟨_, rfl⟩
          rw [hVV] at r7 HLF
          clear hVV hsl
          obtain ⟨W6, hW6⟩ : ∃ u, u = W5.setCell ⟨w.heap.size + 1, k, none⟩ (.int .i64 (VV : Int)) := ⟨_, rfl⟩
          have EZ : Hid (W6.heap[w.heap.size + 1]? = some (.cells (inN n (szl 1000 x.nodes sub (k + 1))) 3 (0, 0))) := Lib.hid (by
            rw [hW6, heap_set_at E5.out, HST.out, HLF.out]
            have := inN_reset (m := n) (l := I) 1 VV
            rw [HL.out] at this
            exact congrArg (fun q => some (Obj.cells q 3 (0, 0))) this)
          have EZ0 := Lib.hid (show W6.heap[w.heap.size]? = some (.cells #[.slice (some ⟨b, o, none⟩) n c, .int .i64 RT] 32 (0, 0)) by rw [hW6]; exact heap_set_other (by omega) _ _ E50.out)
          have hen6 : W6.heap[wr.heap.size]? = some (.cells #[.int .i64 1, .int .i64 (sv : Int), .int .i64 0, .slice a3 n3 c3, .slice a4 0 c4] 71 (0, 0)) := by rw [hW6]; exact heap_set_other (by omega) _ _ EN5.out
          have HBZ : Hid (Below w.heap.size w W6) := Lib.hid (by rw [hW6]; exact HB5.out.setCell (p := ⟨w.heap.size + 1, k, none⟩) (Nat.le_succ _) _)
          have hs6 : W6.heap.size = W5.heap.size := by rw [hW6]; simp
          have n46 := (open5 hen6).2.2.2.2
          have hsi : w.heap.size + 2 ≤ W6.heap.size := by omega
          have HW6 := Lib.hid hW6
          clear hen6 hs6 hW6
          go_wp2_with fail
          rw [← HW6.out]
          clear za zb r7
          go_loopw [8] (fun i wq => i = .int .i64 ((0 : Nat) : Int) ∧ wq = W6) (fun _ _ => 0)
          case atStart => exact ⟨rfl, rfl⟩
          case round =>
            obtain ⟨rfl, hwq⟩ := hrel
            subst hwq
            go_wp2_with fail
            go_roundw
            case rel => exact ⟨k + 1, by omega, by go_num, EZ.out, EZ0.out, by omega, HBZ.out⟩
            case measure => simp [intOf] <;> omega
        · rw [if_neg hsl] at hlf
          have d1 : decide (sv < ln) = false := decide_eq_false (by omega)
          have d2 : decide ((sv : Int) < (ln : Int)) = false := decide_eq_false (by omega)
          have HLF := Lib.hid hlf
          clear hlf hsb hln hsl
          have EZ : Hid (W5.heap[w.heap.size + 1]? = some (.cells (inN n (szl 1000 x.nodes sub (k + 1))) 3 (0, 0))) := Lib.hid (by rw [HST.out, HLF.out]; exact E5.out)
          have EZ0 := E50
          have HBZ := HB5
          go_wp2_with fail
          go_loopw [8] (fun i wq => i = .int .i64 ((0 : Nat) : Int) ∧ wq = W5) (fun _ _ => 0)
          case atStart => exact ⟨rfl, rfl⟩
          case round =>
            obtain ⟨rfl, hwq⟩ := hrel
            subst hwq
            go_wp2_with fail
            go_roundw
            case rel => exact ⟨k + 1, by omega, by go_num, EZ.out, EZ0.out, by omega, HBZ.out⟩
            case measure => simp [intOf] <;> omega
      · have hk2 : (kind == 1) = false := by simpa using hkind
        obtain ⟨KT, hKT⟩ : ∃ KT, KT = kidT x.nodes sub k ks := ⟨_, rfl⟩
        rw [← hKT] at hkk hnode
        have HKl := Lib.hid (show KT.length = n4 by rw [hKT, kidT_len, HLK.out])
        have hn4m : n4 ≤ 9223372036854775807 := by have h1 := R4.out.le; have h2 := R4.out.max; unfold maxLen at h2; omega
        clear hKT
        go_wp2_with fail
        clear q0 q1 q2 q3 q4
        obtain ⟨W0, hW0⟩ : ∃ W0, W0 = wr := ⟨_, rfl⟩
        subst hW0
        go_loopw [8] (fun i wq => ∃ j : Nat, j ≤ n4 ∧ i = .int .i64 ((j : Nat) : Int) ∧ wq.heap[w.heap.size + 1]? = some (.cells (inN n (I ++ [min 1000 (1 + ETs.sz (KT.take j))])) 3 (0, 0)) ∧ wq.heap[w.heap.size]? = some (.cells #[.slice (some ⟨b, o, none⟩) n c, .int .i64 RT] 32 (0, 0)) ∧ wq.heap[W0.heap.size]? = some (.cells #[.int .i64 kind, .int .i64 server, .int .i64 need, .slice a3 n3 c3, .slice a4 n4 c4] 71 (0, 0)) ∧ W0.heap.size < wq.heap.size ∧ Below w.heap.size w wq) (fun i _ => n4 - (intOf i).toNat)
        case atStart => exact ⟨0, Nat.zero_le _, rfl, by simp only [List.take_zero, ETs.sz]; exact E5.out, E50.out, EN5.out, hs5, HB5.out⟩
        case round =>
          obtain ⟨j, hj, rfl, q1, q0, qn, hsq, hbq⟩ := hrel
          by_cases hltj : j < n4
          · obtain ⟨z, hz⟩ : ∃ z, ks[j]? = some z := ⟨_, List.getElem?_eq_getElem (by have := HLK.out; omega)⟩
            have hzr := HOK.out.kids z (List.mem_of_getElem? hz)
            obtain ⟨kd, rfl⟩ := Int.eq_ofNat_of_zero_le hzr.1
            have hkd2 : kd < k := by omega
            have hkdn : kd < n := by omega
            obtain ⟨b4, o4, ha4, hcell4⟩ := (R4.out.below hbq).at' (by omega)
            have r4 := hcell4 j (.int .i64 kd) (by rw [List.getElem?_map, hz]; rfl)
            have HKK := Lib.hid (hkk.out j kd hz)
            subst ha4
            have hI61 : I.getD kd 0 ≤ 1000 := hIb.out kd hkd2
            obtain ⟨u, hu⟩ : ∃ u, min 1000 (1 + ETs.sz (KT.take j)) = u := ⟨_, rfl⟩
            rw [hu] at q1 HKK
            have hu61 : u ≤ 1000 := by omega
            obtain ⟨d, hd⟩ : ∃ d, I.getD kd 0 = d := ⟨_, rfl⟩
            rw [hd] at hI61 HKK
            have KS : Hid (∀ y : World, Below wr.heap.size wr y → y.heap[w.heap.size + 1]? = some (.cells (inN n (I ++ [u])) 3 (0, 0)) ∧ y.cell? ⟨w.heap.size + 1, k, none⟩ = some (.int .i64 (u : Int)) ∧ y.cell? ⟨w.heap.size + 1, kd, none⟩ = some (.int .i64 (d : Int)) ∧ y.frozen? ⟨w.heap.size + 1, k, none⟩ = false ∧ y.cell? ⟨W0.heap.size, 4, none⟩ = some (.slice (some ⟨b4, o4, none⟩) n4 c4) ∧ y.cell? ⟨b4, o4 + j, none⟩ = some (.int .i64 (kd : Int))) := Lib.hid (fun y hy => by
              have h1 := heap_below hy q1
              refine ⟨h1, (cell_of_row _ _ k _ _ _ h1).trans ?_, (cell_of_row _ _ kd _ _ _ h1).trans ?_, frozen_row h1 k, (open5 (heap_below hy qn)).2.2.2.2, cell_keep hy r4⟩
              · have := inN_new (m := n) (l := I) u (by have := HL.out; omega)
                rw [HL.out] at this; exact this
              · rw [inN_old u (by have := HL.out; omega) (by have := HL.out; omega), hd])
            have n4c := (open5 qn).2.2.2.2
            have Q0 := Lib.hid q0
            have QN := Lib.hid qn
            have HBQ := Lib.hid hbq
            clear hcell4 hz hzr q1 q0 qn hbq hu hd r4
            go_wp2_with fail
            clear n4c
            refine wp_region_store (fun y => Below wr.heap.size wr y) (fun z => ∃ y, Below wr.heap.size wr y ∧ z = y.setCell ⟨w.heap.size + 1, k, none⟩ (.int .i64 ((min 1000 (u + d) : Nat) : Int))) [] 17 (by kernel_rfl) (by kernel_rfl) (by kernel_rfl) (below_drew (Below.refl _ _)) ?_
            simp only [List.take_succ_cons, List.take_zero]
            iterate 14 (refine wpT_step (fun K hK => ?_); go_simp; apply Exists.intro; refine ⟨fun y hy => ?_, ?_, hK _ ?_⟩; (first | exact rfl | (obtain ⟨_, k1, k2, k3, k4, k5⟩ := KS.out y hy; go_simp; first | exact rfl | exact ⟨rfl, hy⟩ | exact hy | exact ⟨rfl, rfl⟩ | (rw [if_pos (by omega)]; exact ⟨rfl, rfl⟩))); (first | exact late_not rfl | (focus (intro _ z hz; go_simp; done))); clear hK K)
            refine wpT_step (fun K hK => ?_)
            go_simp
            refine ⟨.int .i64 ((u : Int) + (d : Int)), fun y hy => ?_, late_not rfl, hK _ ?_⟩
            · rw [show IntKind.i64.wrap ((u : Int) + (d : Int)) = (u : Int) + (d : Int) by unfold IntKind.wrap; simp [IntKind.bits, IntKind.signed]; omega]
            clear hK K
            refine wpT_step (fun K hK => ?_)
            go_simp
            refine ⟨.int .i64 ((min 1000 (u + d) : Nat) : Int), fun y hy => ?_, late_not rfl, hK _ ?_⟩
            · congr 1; omega
            clear hK K
            (refine wpT_step (fun K hK => ?_); go_simp; apply Exists.intro; refine ⟨fun y hy => ?_, ?_, hK _ ?_⟩; (first | exact rfl | (obtain ⟨_, k1, k2, k3, k4, k5⟩ := KS.out y hy; go_simp; first | exact rfl | exact ⟨rfl, hy⟩ | exact hy | exact ⟨rfl, rfl⟩ | (rw [if_pos (by omega)]; exact ⟨rfl, rfl⟩))); (first | exact late_not rfl | (focus (intro _ z hz; go_simp; done))); clear hK K)
            refine wpT_nil ?_
            refine ⟨_, rfl, by go_simp, fun y hy => ?_, ?_⟩
            · obtain ⟨_, k1, k2, k3, k4, k5⟩ := KS.out y hy
              refine ⟨_, ?_, y, hy, rfl⟩
              go_simp
            · rintro z ⟨y, hy, rfl⟩
              obtain ⟨h1, _, _, _, _, _⟩ := KS.out y hy
              generalize hz : y.setCell _ _ = z
              have ez : z.heap[w.heap.size + 1]? = some (.cells (inN n (I ++ [min 1000 (1 + ETs.sz (KT.take (j + 1)))])) 3 (0, 0)) := by
                rw [← hz, heap_set_at h1, HKK.out]
                have := inN_reset (m := n) (l := I) u (min 1000 (u + d))
                rw [HL.out] at this
                exact congrArg (fun q => some (Obj.cells q 3 (0, 0))) this
              have ez0 : z.heap[w.heap.size]? = some (.cells #[.slice (some ⟨b, o, none⟩) n c, .int .i64 RT] 32 (0, 0)) := by
                rw [← hz]; exact heap_set_other (by omega) _ _ (heap_below hy Q0.out)
              have ezn : z.heap[W0.heap.size]? = some (.cells #[.int .i64 kind, .int .i64 server, .int .i64 need, .slice a3 n3 c3, .slice (some ⟨b4, o4, none⟩) n4 c4] 71 (0, 0)) := by
                rw [← hz]; exact heap_set_other (by omega) _ _ (heap_below hy QN.out)
              have hsz2 : W0.heap.size < z.heap.size := by
                have := hy.size
                rw [← hz]; simp; omega
              have hbz : Below w.heap.size w z := by
                rw [← hz]; exact (HBQ.out.trans (hy.mono HBQ.out.size)).setCell (p := ⟨w.heap.size + 1, k, none⟩) (Nat.le_succ _) _
              have EZ := Lib.hid ez
              have EZ0 := Lib.hid ez0
              have EZN := Lib.hid ezn
              have HBZ := Lib.hid hbz
              clear hz ez ez0 ezn hbz h1 hy
              go_simp
              go_wp2_with fail
              go_roundw
              case rel => exact ⟨j + 1, by omega, by go_num, EZ.out, EZ0.out, EZN.out, hsz2, HBZ.out⟩
              case measure => simp [intOf] <;> omega
          · obtain rfl : j = n4 := by omega
            have ez : wr.heap[w.heap.size + 1]? = some (.cells (inN n (szl 1000 x.nodes sub (k + 1))) 3 (0, 0)) := by
              rw [List.take_of_length_le (by have := HKl.out; omega), Nat.add_comm 1] at q1
              rw [HST.out, hnode.out hkind]
              exact q1
            have n4c := (open5 qn).2.2.2.2
            have EZ := Lib.hid ez
            have Q0 := Lib.hid q0
            have HBQ := Lib.hid hbq
            clear ez q1 q0 qn hbq
            go_wp2_with fail
            go_roundw
            case rel => exact ⟨k + 1, by omega, by go_num, EZ.out, Q0.out, by omega, HBQ.out⟩
            case measure => simp [intOf] <;> omega
    · obtain rfl : k = n := by omega
      have HE1 := Lib.hid e1
      have HB := Lib.hid hb
      clear e1 e0 hb
      go_wp2_with fail
      go_ret
      refine ⟨some ⟨w.heap.size + 1, 0, none⟩, rfl, ⟨by rw [List.length_map, szl_len], Nat.le_refl _, by unfold maxLen; omega, fun h => (by cases h), fun _ => ⟨_, 0, rfl, fun i v hv => ?_⟩⟩, HB.out⟩
      have hi : i < k := by
        have := (List.getElem?_eq_some_iff.1 hv).1
        rw [List.length_map, szl_len] at this; exact this
      rw [Nat.zero_add]
      refine ((cell_of_row _ _ i _ _ _ HE1.out).trans (inN_at (by rw [szl_len]; exact Nat.le_refl _) hi)).trans ?_
      rw [← hv, List.getElem?_map, List.getD_eq_getElem?_getD, List.getElem?_eq_getElem (by rw [szl_len]; exact hi)]
      rfl
end Go.Proofs.YtcojmmhclklpoaaGreatDoor
namespace Go.Proofs.YtcojmmhclklpoaaGreatDoor
open Go.RowKit Go.Shelf

/-- how many nodes the tidy expressions have, cut at 1000 -/
def els (ys : List Xpr) : List Nat := ys.map fun y => min 1000 (treY y noSub).sz
theorem els_len (ys : List Xpr) : (els ys).length = ys.length := List.length_map _
theorem els_take {ys : List Xpr} {k : Nat} {y : Xpr} (h : ys[k]? = some y) : (els ys).take (k + 1) = (els ys).take k ++ [min 1000 (treY y noSub).sz] := by
  rw [List.take_add_one, show (els ys)[k]? = some (min 1000 (treY y noSub).sz) by unfold els; rw [List.getElem?_map, h]; rfl]; rfl
theorem els_sub (ys : List Xpr) : ∀ s, s < 12 → subZ 1000 (subL ys) s = if s < (els ys).length then (els ys).getD s 0 else 1 := fun s _ => by
  rw [els_len]
  by_cases h : s < ys.length
  · rw [if_pos h]
    have hy : ys[s]? = some ys[s] := List.getElem?_eq_getElem h
    unfold subZ subL els
    rw [hy, List.getD_eq_getElem?_getD, List.getElem?_map, hy]; rfl
  · rw [if_neg h]
    unfold subZ subL
    rw [List.getElem?_eq_none (by omega)]; rfl
theorem root_sz {x : Xpr} (hx : xprE x = 0) (sub : Nat → Option ET) : ((szl 1000 x.nodes sub x.nodes.length).map fun k => Value.int .i64 ((k : Nat) : Int))[x.root.toNat]? = some (.int .i64 ((min 1000 (treY x sub).sz : Nat) : Int)) := by
  have hr := (xprE_ok hx).root
  have hlt : x.root.toNat < x.nodes.length := by omega
  have h1 := szl_get 1000 x.nodes sub x.nodes.length x.root.toNat hlt
  rw [List.getElem?_map]
  have h2 : (szl 1000 x.nodes sub x.nodes.length)[x.root.toNat]? = some (min 1000 (treY x sub).sz) := by
    rw [List.getD_eq_getElem?_getD] at h1
    have h3 : x.root.toNat < (szl 1000 x.nodes sub x.nodes.length).length := by rw [szl_len]; exact hlt
    rw [List.getElem?_eq_getElem h3] at h1 ⊢
    simp only [Option.getD_some] at h1
    rw [h1]; rfl
  rw [h2]; rfl

set_option maxRecDepth 100000 in
set_option maxHeartbeats 8000000 in
theorem rsubst_c (x : Xpr) (ys : List Xpr) (hsx : XprSum x) (hsy : ∀ y ∈ ys, XprSum y) (hf : XprFew x) (hfs : ∀ y ∈ ys, XprFew y) (a : Option Addr) (n c : Nat) (la : Option Addr) (ln lc : Nat) (w : World) (h : XM w a n c x.nodes) (hl : LM w la ln lc ys) (hln : ln ≤ 100000) :
    Calls Tryz.prog 23 #[.agg #[.slice a n c, .int .i64 x.root], .slice la ln lc] w fun e w' => RetX (subS x ys).1 (subS x ys).2 w e w' := by
  have HX := Lib.hid h
  have HL := Lib.hid hl
  have HV := Lib.hid (fun (u : World) (hu : Below w.heap.size w u) => rvalid10_c x hsx a n c u (h.below hu))
  have HFS := Lib.hid hfs
  have HSY := Lib.hid hsy
  clear h hl hfs hsy
  by_cases hx : xprE x = 0
  · rw [hx] at HV
    have HXX := Lib.hid hx
    have HLN := Lib.hid HL.out.len
    have HSS : Hid (subS x ys = if xprsE ys ≠ 0 then (⟨[], 0⟩, xprsE ys) else if 60 < (treY x (subL ys)).sz then (⟨[], 0⟩, 3) else ((treY x (subL ys)).xpr, 0)) := Lib.hid (by unfold subS; rw [if_neg (by rw [hx]; simp)])
    clear hx
    go_enter Tryz.func23, Tryz.ntmps23
    go_wp2_with fail
    generalize hW3 : (w.alloc _).alloc _ = W3
    obtain ⟨gX, gR, hb3, hs3⟩ := box2' hW3
    have GX := Lib.hid gX
    have GR := Lib.hid gR
    have HB3 := Lib.hid hb3
    have HS3 := Lib.hid hs3
    clear hW3 gX gR hb3 hs3
    with_reducible refine (HV.out W3 HB3.out).mono ?_
    rintro e w4 ⟨rfl, hb4⟩
    have HB4 := Lib.hid (Below.next HB3.out hb4)
    have GX4 := Lib.hid (heap_below hb4 GX.out)
    have GR4 := Lib.hid (heap_below hb4 GR.out)
    have hs4 : w.heap.size + 2 ≤ w4.heap.size := by have := hb4.size; have := HS3.out; omega
    clear GX GR HB3 HS3 hb4
    go_wp2_with fail
    go_loopw [7, 8] (fun eq i wr => ∃ (ev : Value) (k : Nat), ev = eq ∧ k ≤ ln ∧ i = .int .i64 ((k : Nat) : Int) ∧ Hid (xprsE ys = xprsE (ys.drop k)) ∧ Below w4.heap.size w4 wr ∧ Hid (wr.ownsRow w4.heap.size 3 1 ev k (((els ys).take k).map fun k => Value.int .i64 ((k : Nat) : Int)))) (fun _ i _ => ln - (intOf i).toNat)
    case atStart => exact ⟨_, 0, rfl, Nat.zero_le _, rfl, Lib.hid (by simp), Below.refl _ _, Lib.hid (World.ownsRow_nil _ _ _ _)⟩
    case round =>
      obtain ⟨ev, k, rfl, hk, rfl, hno, hb, HROW⟩ := hrel
      by_cases hlt : k < ln
      · obtain ⟨y, hy⟩ : ∃ y, ys[k]? = some y := ⟨_, List.getElem?_eq_getElem (by have := HLN.out; omega)⟩
        obtain ⟨b2, o2, ha2, hc2⟩ := (HL.out.below (Below.next HB4.out hb)).at' (by omega)
        obtain ⟨a3, n3, c3, y0, hxm, y1⟩ := hc2 k y hy
        subst ha2
        have hdr := xprsE_drop hy
        have hym := List.mem_of_getElem? hy
        have HVY := Lib.hid (fun (u : World) (hu : Below wr.heap.size wr u) => rvalid10_c y (HSY.out y hym) a3 n3 c3 u (hxm.below hu))
        have HXY := Lib.hid hxm
        have HYY := Lib.hid hy
        obtain ⟨E, hE⟩ : ∃ E, xprE y = E := ⟨_, rfl⟩
        rw [hE] at HVY hdr
        have HE := Lib.hid hE
        have HDR := Lib.hid hdr
        have HB := Lib.hid hb
        have HY0 := Lib.hid y0
        have HY1 := Lib.hid y1
        have hsr := hb.size
        clear hdr hE hxm hc2 hy hb hym
        go_wp2_with fail
        with_reducible refine (HVY.out _ (Below.refl _ _)).mono ?_
        rintro e w6 ⟨rfl, hb6⟩
        have HB6 := Lib.hid (Below.next HB.out hb6)
        have HBS := Lib.hid hb6
        clear hb6 y0 y1
        by_cases hE0 : E = 0
        · subst hE0
          have hno2 : Hid (xprsE ys = xprsE (ys.drop (k + 1))) := Lib.hid (by rw [hno.out, HDR.out, if_neg (by simp)])
          have HR6 := Lib.hid (rowK_below HROW.out HBS.out)
          have HSZ := Lib.hid (fun (u : World) (hu : Below w6.heap.size w6 u) => rsizes_c y HE.out (HFS.out y (List.mem_of_getElem? HYY.out)) noSub [] (fun s _ => rfl) a3 n3 c3 none 0 0 u ((HXY.out.below HBS.out).below hu) (Rd.none_ _))
          have HRT := Lib.hid (root_sz HE.out noSub)
          have HTK := Lib.hid (els_take HYY.out)
          obtain ⟨b9, o9, hb9, hc9⟩ := HL.out.at' (by omega)
          obtain ⟨rfl, rfl⟩ : b9 = b2 ∧ o9 = o2 := by injection hb9 with h1; injection h1 with h2 h3; exact ⟨h2.symm, h3.symm⟩
          obtain ⟨a8, n8, c8, l0, _, l1⟩ := hc9 k y HYY.out
          have e8 : Value.slice a8 n8 c8 = Value.slice a3 n3 c3 := Option.some.inj ((cell_keep (HB4.out.trans (HB.out.mono (by omega))) l0).symm.trans HY0.out)
          rw [e8] at l0
          have HKS := Lib.hid (fun (u : World) (hu : Below w4.heap.size w4 u) => And.intro (cell_keep (HB4.out.trans (hu.mono (by omega))) l0) (cell_keep (HB4.out.trans (hu.mono (by omega))) l1))
          clear l0 l1 e8 hb9 hc9
          obtain ⟨RT, hRT⟩ := Int.eq_ofNat_of_zero_le (xprE_ok HE.out).root.1
          have hrn : RT < n3 := by have h1 := (xprE_ok HE.out).root; have h2 := HXY.out.len; omega
          have hzz : min 1000 (treY y noSub).sz ≤ 1000 := Nat.min_le_left _ _
          rw [hRT, Int.toNat_natCast] at HRT
          rw [hRT] at HSZ HKS
          have hyl : y.nodes.length = n3 := HXY.out.len
          rw [hyl] at HRT
          obtain ⟨Z, hZ⟩ : ∃ Z, min 1000 (treY y noSub).sz = Z := ⟨_, rfl⟩
          rw [hZ] at HRT HTK hzz
          obtain ⟨ae, ce, rfl, _⟩ := rd_of_row HR6.out
          have hs6 : w4.heap.size ≤ w6.heap.size := HB6.out.size
          obtain ⟨ii, hi0, hz0, hz1, hz2⟩ := info_parts Tryz.infoInt
          clear HDR HVY hZ HXY HY0 HY1 HBS
          go_upto_region 11 with fail
          refine wp_region_noPanic ?_
          refine wp_region_takes (fun u => Below w4.heap.size w4 u) [0, 1, 2, 3, 4, 6, 7, 8, 9, 10] 6 (by kernel_rfl) (by kernel_rfl) (by kernel_rfl) (fun _ _ _ _ _ h => h) (below_drew HB6.out) ?_
          repeat (refine wpTk_cons rfl (fun K hK => ?_); go_simp; apply Exists.intro; refine ⟨fun u hu => ?_, hK _ ?_⟩; (first | exact rfl | (obtain ⟨q1, q2⟩ := HKS.out u hu; go_simp; done) | (obtain ⟨q1, q2⟩ := HKS.out u hu; go_simp; exact rfl)); clear hK K)
          refine wpTk_nil ?_
          refine held_ready (rs := [5]) (by kernel_rfl) (by simp) ?_
          refine AllReadyH.cons rfl (fun K hK => ?_) AllReadyH.nil
          go_simp
          with_reducible refine (HSZ.out _ (below_drew (Below.refl _ _))).mono ?_
          rintro e w7 ⟨a7, rfl, r7, b7⟩
          have HB7 := Lib.hid (below_undrew b7)
          have HB47 := Lib.hid (HB6.out.trans (HB7.out.mono hs6))
          obtain ⟨c7, o7, ha7, hc7⟩ := r7.at' (by omega)
          have t7 := hc7 RT _ HRT.out
          subst ha7
          clear b7 r7 hc7
          go_simp
          refine hK.out _ _ HB47.out (fun hh => ?_)
          clear hh hK K; try simp only [Act.put, List.setIfInBounds_toArray, List.set_cons_zero, List.set_cons_succ]
          refine held_ready (rs := [11]) (by kernel_rfl) (by simp) ?_
          refine AllReadyH.cons rfl (fun K hK => ?_) AllReadyH.nil
          go_simp
          refine hK.out _ _ HB47.out (fun hh => ?_)
          clear hh hK K; try simp only [Act.put, List.setIfInBounds_toArray, List.set_cons_zero, List.set_cons_succ]
          refine held_ready (rs := [12]) (by kernel_rfl) (by simp) ?_
          refine AllReadyH.cons rfl (fun K hK => ?_) AllReadyH.nil
          go_simp
          refine hK.out _ _ HB47.out (fun hh => ?_)
          clear hh hK K; try simp only [Act.put, List.setIfInBounds_toArray, List.set_cons_zero, List.set_cons_succ]
          clear t7
          refine held_ready (rs := [13]) (by kernel_rfl) (by simp) ?_
          refine AllReadyH.cons rfl (fun K hK => ?_) AllReadyH.nil
          go_simp
          have hs7 := HB7.out.size
          have HB8 := Lib.hid (HB47.out.alloc (by omega) (.cells #[.int .i64 (Z : Int)] 3))
          refine hK.out _ _ HB8.out (fun hh => ?_)
          clear hh hK K; try simp only [Act.put, List.setIfInBounds_toArray, List.set_cons_zero, List.set_cons_succ]
          refine held_ready (rs := [14]) (by kernel_rfl) (by simp) ?_
          refine AllReadyH.cons rfl (fun K hK => ?_) AllReadyH.nil
          have HR7 := Lib.hid (rowK_below HR6.out HB7.out)
          refine step_append_lies _ (by rfl) _ _ _ (by rfl) w4.heap.size 3 ii _ 1 8 Tryz.underlying69 hi0 hz0 hz1 hz2 rfl (by omega) (.slice ae k ce) k _ (by rfl) (HR7.out.alloc _) ⟨w7.heap.size, 0, none⟩ 1 1 [.int .i64 (Z : Int)] (by rfl) (by rfl) (World.news_of_block (cs := #[.int .i64 (Z : Int)]) (t := 3) (fr := (0, 0)) (heap_alloc_new w7 _)) (by simp [Value.oneCell']) (by omega) (by unfold maxLen; omega) (by omega) (by simp; omega) (w7.heap.size + 1) (by simp) ?_
          intro gg cap wA hownA hgrow hat hlt2
          have hbA : Below w4.heap.size w4 wA := HB8.out.grown hgrow (by simp; omega) (fun g hg => (HR7.out.lt g hg).1)
          refine hK.out _ _ hbA (fun hh => ?_)
          clear hh hK K; try simp only [Act.put, List.setIfInBounds_toArray, List.set_cons_zero, List.set_cons_succ]
          refine held_ready (rs := [15]) (by kernel_rfl) (by simp) ?_
          refine AllReadyH.cons rfl (fun K hK => ?_) AllReadyH.nil
          go_simp
          refine hK.out _ _ hbA (fun hh => ?_)
          clear hh hK K; try simp only [Act.put, List.setIfInBounds_toArray, List.set_cons_zero, List.set_cons_succ]
          refine wpAnyH_done (by kernel_rfl) (NoPanic.normal ?_) _
          have HRA := Lib.hid (show wA.ownsRow w4.heap.size 3 1 (.slice (some ⟨gg, 0, none⟩) (k + 1) cap) (k + 1) (((els ys).take (k + 1)).map fun k => Value.int .i64 ((k : Nat) : Int)) by rw [HTK.out, List.map_append]; exact hownA)
          have HBA := Lib.hid hbA
          clear hownA hgrow hat hlt2 hbA
          go_wp2_with fail
          go_roundw
          case rel => exact ⟨_, k + 1, rfl, by omega, by go_num, hno2, HBA.out, HRA⟩
          case measure => simp [intOf] <;> omega
        · have hne : (E != 0) = true := by simpa using hE0
          have hS : subS x ys = (⟨[], 0⟩, E) := by
            rw [HSS.out, hno.out, HDR.out, if_pos hE0, if_pos hE0]
          have HRS := Lib.hid hS
          have g4 := heap_below HB6.out GR4.out
          have t0 := cell_of_row _ _ 0 _ _ _ g4
          have t1 := cell_of_row _ _ 1 _ _ _ g4
          have z0 := frozen_row g4 0
          have z1 := frozen_row g4 1
          have G4 := Lib.hid g4
          clear g4 hS hE0 HDR HVY HSS
          go_wp2_with fail
          clear t0 t1 z0 z1
          generalize hWF : (w6.setCell _ _).setCell _ _ = WF
          obtain ⟨e1, hbf⟩ := fin_box G4.out (by omega) (Below.next HB4.out HB6.out) hWF
          have HBF := Lib.hid hbf
          have f0 := cell_of_row _ _ 0 _ _ _ e1
          have f1 := cell_of_row _ _ 1 _ _ _ e1
          clear hWF e1 hbf
          refine bodyPost_ret (v := .tuple #[.agg #[.slice none 0 0, .int .i64 0], .int .i64 E]) ?_ rfl (by rw [HRS.out]; exact RetX.none_ rfl HBF.out)
          rw [results_cell_tmp rfl]
          go_simp
      · obtain rfl : k = ln := by omega
        have hys : xprsE ys = 0 := by rw [hno.out, List.drop_of_length_le (by have := HLN.out; omega)]; rfl
        have HYS := Lib.hid (fun y hy => xprsE_ok hys y hy)
        have hS2 : Hid (subS x ys = if 60 < (treY x (subL ys)).sz then (⟨[], 0⟩, 3) else ((treY x (subL ys)).xpr, 0)) := Lib.hid (by rw [HSS.out, hys, if_neg (by simp)])
        have hsr := hb.size
        have hrow := HROW.out
        rw [List.take_of_length_le (by rw [els_len]; have := HLN.out; omega)] at hrow
        obtain ⟨ae, ce, rfl, hrd⟩ := rd_of_row hrow
        have gX := heap_below hb GX4.out
        have gR := heap_below hb GR4.out
        have hbw := Below.next HB4.out hb
        have HSZ := Lib.hid (fun (u : World) (hu : Below wr.heap.size wr u) => rsizes_c x HXX.out hf (subL ys) (els ys) (els_sub ys) a n c ae k ce u (HX.out.below (Below.next hbw hu)) (hrd.below hu))
        have HKS := Lib.hid (fun (u : World) (hu : Below wr.heap.size wr u) => (open2 (heap_below hu gX)).1)
        have HRT := Lib.hid (root_sz HXX.out (subL ys))
        obtain ⟨RT, hRT⟩ := Int.eq_ofNat_of_zero_le (xprE_ok HXX.out).root.1
        have hrn : RT < n := by have h1 := (xprE_ok HXX.out).root; have h2 := HX.out.len; omega
        have HRQ := Lib.hid hRT
        rw [hRT, Int.toNat_natCast] at HRT
        have hyl : x.nodes.length = n := HX.out.len
        rw [hyl] at HRT
        rw [hRT] at HSZ HKS ⊢
        have GX5 := Lib.hid gX
        have GR5 := Lib.hid gR
        have HBW := Lib.hid hbw
        clear hno hys HSS hb gX gR hbw hrow hrd HROW GX4 GR4
        obtain ⟨MZ, hMZ⟩ : ∃ MZ, min 1000 (treY x (subL ys)).sz = MZ := ⟨_, rfl⟩
        have HMZ : Hid (60 < MZ ↔ 60 < (treY x (subL ys)).sz) := Lib.hid (by omega)
        rw [hMZ] at HRT
        go_upto_region 12 with fail
        refine wp_region_noPanic ?_
        refine wp_region_takes (fun u => Below wr.heap.size wr u) [0, 1, 3, 4] 4 (by kernel_rfl) (by kernel_rfl) (by kernel_rfl) (fun _ _ _ _ _ h => h) (below_drew (Below.refl _ _)) ?_
        repeat (refine wpTk_cons rfl (fun K hK => ?_); go_simp; apply Exists.intro; refine ⟨fun u hu => ?_, hK _ ?_⟩; (first | exact rfl | (obtain ⟨q1, q2⟩ := HKS.out u hu; go_simp; done) | (obtain ⟨q1, q2⟩ := HKS.out u hu; go_simp; exact rfl)); clear hK K)
        refine wpTk_nil ?_
        refine held_ready (rs := [2]) (by kernel_rfl) (by simp) ?_
        refine AllReadyH.cons rfl (fun K hK => ?_) AllReadyH.nil
        go_simp
        with_reducible refine (HSZ.out _ (below_drew (Below.refl _ _))).mono ?_
        rintro e w7 ⟨a7, rfl, r7, b7⟩
        have HB7 := Lib.hid (below_undrew b7)
        obtain ⟨c7, o7, ha7, hc7⟩ := r7.at' (by omega)
        have t7 := hc7 RT _ HRT.out
        subst ha7
        clear b7 r7 hc7
        go_simp
        refine hK.out _ _ HB7.out (fun hh => ?_)
        clear hh hK K; try simp only [Act.put, List.setIfInBounds_toArray, List.set_cons_zero, List.set_cons_succ]
        refine held_ready (rs := [5]) (by kernel_rfl) (by simp) ?_
        refine AllReadyH.cons rfl (fun K hK => ?_) AllReadyH.nil
        go_simp
        refine hK.out _ _ HB7.out (fun hh => ?_)
        clear hh hK K; try simp only [Act.put, List.setIfInBounds_toArray, List.set_cons_zero, List.set_cons_succ]
        refine held_ready (rs := [6]) (by kernel_rfl) (by simp) ?_
        refine AllReadyH.cons rfl (fun K hK => ?_) AllReadyH.nil
        go_simp
        refine hK.out _ _ HB7.out (fun hh => ?_)
        clear hh hK K; try simp only [Act.put, List.setIfInBounds_toArray, List.set_cons_zero, List.set_cons_succ]
        clear t7
        refine held_ready (rs := [7]) (by kernel_rfl) (by simp) ?_
        refine AllReadyH.cons rfl (fun K hK => ?_) AllReadyH.nil
        go_simp
        refine hK.out _ _ HB7.out (fun hh => ?_)
        clear hh hK K; try simp only [Act.put, List.setIfInBounds_toArray, List.set_cons_zero, List.set_cons_succ]
        refine wpAnyH_done (by kernel_rfl) (NoPanic.normal ?_) _
        have GX7 := Lib.hid (heap_below HB7.out GX5.out)
        have GR7 := Lib.hid (heap_below HB7.out GR5.out)
        have HBF7 := Lib.hid (Below.next HBW.out HB7.out)
        have hs7 : w.heap.size + 2 ≤ w7.heap.size := by have := HB7.out.size; omega
        clear HSZ HRT hMZ HKS GX5 GR5 HB7
        by_cases hbig : 60 < (treY x (subL ys)).sz
        · have hd : decide ((60 : Int) < (MZ : Int)) = true := decide_eq_true (by have := HMZ.out.2 hbig; omega)
          have h60 : 60 < MZ := HMZ.out.2 hbig
          have hS : subS x ys = (⟨[], 0⟩, 3) := by rw [hS2.out, if_pos hbig]
          have HRS := Lib.hid hS
          have t0 := cell_of_row _ _ 0 _ _ _ GR7.out
          have t1 := cell_of_row _ _ 1 _ _ _ GR7.out
          have z0 := frozen_row GR7.out 0
          have z1 := frozen_row GR7.out 1
          clear hS hS2 hbig
          go_wp2_with fail
          clear t0 t1 z0 z1
          generalize hWF : (w7.setCell _ _).setCell _ _ = WF
          obtain ⟨e1, hbf⟩ := fin_box GR7.out (by omega) HBF7.out hWF
          have HBF := Lib.hid hbf
          have f0 := cell_of_row _ _ 0 _ _ _ e1
          have f1 := cell_of_row _ _ 1 _ _ _ e1
          clear hWF e1 hbf
          refine bodyPost_ret (v := .tuple #[.agg #[.slice none 0 0, .int .i64 0], .int .i64 3]) ?_ rfl (by rw [HRS.out]; exact RetX.none_ rfl HBF.out)
          rw [results_cell_tmp rfl]
          go_simp
        · have hd : decide ((60 : Int) < (MZ : Int)) = false := decide_eq_false (by have := HMZ.out; omega)
          have h60 : MZ ≤ 60 := by have := HMZ.out; omega
          have hS : subS x ys = ((treY x (subL ys)).xpr, 0) := by rw [hS2.out, if_neg hbig]
          have HRS := Lib.hid hS
          have HBIG := Lib.hid hbig
          have x0 := cell_of_row _ _ 0 _ _ _ GX7.out
          have x1 := cell_of_row _ _ 1 _ _ _ GX7.out
          have hT : treF x.nodes (subL ys) (x.root.toNat + 1) x.root.toNat = treY x (subL ys) := rfl
          have hWr := grow_c x HXX.out ys HYS.out w7 (x.root.toNat + 1) a n c la k lc (HX.out.below HBF7.out) (HL.out.below HBF7.out) x.root.toNat (Nat.lt_succ_self _) (by omega) w7 (fun _ => False) (.slice none 0 0) [] ⟨Below.refl _ _, XB.nil _ _ _ _ (fun _ h => h.elim)⟩ (by rw [hT]; simp; omega)
          rw [hT, hRT, Int.toNat_natCast] at hWr
          rw [hRT] at x1
          have HWR := Lib.hid hWr
          clear hS hS2 hbig hT hWr
          go_wp2_with fail
          clear x0 x1
          with_reducible refine HWR.out.mono ?_
          rintro e w9 ⟨v', S', rfl, k2, k3, k4, k5⟩
          obtain ⟨a', c', rfl, _⟩ := k2.shape
          have gR9 := (k3.blk (w.heap.size + 1) (by omega) (fun e => by cases e)).trans GR7.out
          have t0 := cell_of_row _ _ 0 _ _ _ gR9
          have t1 := cell_of_row _ _ 1 _ _ _ gR9
          have z0 := frozen_row gR9 0
          have z1 := frozen_row gR9 1
          have GR9 := Lib.hid gR9
          have HK2 := Lib.hid k2
          have HK5 := Lib.hid k5
          have HB9 := Lib.hid (HBF7.out.trans (k3.bel.mono (by omega)))
          have hs9 := k3.bel.size
          have hlp := (treY x (subL ys)).sz_pos
          have hln9 : ([] ++ (treY x (subL ys)).post 0).length = ((treY x (subL ys)).sz - 1) + 1 := by rw [List.nil_append, ET.post_len]; omega
          have hsz9 : (treY x (subL ys)).sz - 1 ≤ 60 := by have := HBIG.out; omega
          obtain ⟨RR, hRR⟩ : ∃ RR, (treY x (subL ys)).sz - 1 = RR := ⟨_, rfl⟩
          rw [hRR] at hln9 hsz9
          have HRR := Lib.hid hRR
          have HLN9 := Lib.hid hln9
          simp only [List.length_nil] at *
          rw [hln9]
          clear k2 k3 k4 k5 gR9 HWR hRR hln9 hlp
          go_wp2_with fail
          clear t0 t1 z0 z1
          generalize hWF : (w9.setCell _ _).setCell _ _ = WF
          obtain ⟨e1, hbf⟩ := fin_box GR9.out (by omega) HB9.out hWF
          have hkeep : ∀ g, g ≠ w.heap.size + 1 → WF.heap[g]? = w9.heap[g]? := fun g hg => by
            rw [← hWF, Below.heap_setCell _ ⟨w.heap.size + 1, 1, none⟩ _ g hg, Below.heap_setCell _ ⟨w.heap.size + 1, 0, none⟩ _ g hg]
          have hsF : WF.heap.size = w9.heap.size := by rw [← hWF]; simp
          have hS8 : ∀ g, S' g → w7.heap.size ≤ g := fun g hg => by
            rcases HK5.out g hg with h | h
            · exact h.elim
            · exact h
          have hxb := HK2.out.move (w' := WF) (fun g hg => hkeep g (by have := hS8 g hg; omega)) (fun g hg => hkeep g (by have := (HK2.out.lt_own g hg).1; omega)) (by omega)
          obtain ⟨a2, c2, e2, hxmr⟩ := hxb.xmr (lo := w.heap.size) (fun g hg => by have := hS8 g hg; omega) (by omega)
          cases e2
          have f0 := cell_of_row _ _ 0 _ _ _ e1
          have f1 := cell_of_row _ _ 1 _ _ _ e1
          have HXM := Lib.hid hxmr
          have HBF := Lib.hid hbf
          clear hWF e1 hkeep hS8 hxb hxmr hbf
          refine bodyPost_ret (v := .tuple #[.agg #[.slice a' (RR + 1) c', .int .i64 (RR : Int)], .int .i64 0]) ?_ rfl ?_
          · rw [results_cell_tmp rfl]
            go_simp
          · rw [HRS.out]
            have hx1 := HXM.out
            rw [List.nil_append] at hx1
            have hl1 := HLN9.out
            rw [List.nil_append] at hl1
            refine ⟨a', c', ?_, hx1, HBF.out⟩
            show _ = Ending.returned (.tuple #[.agg #[.slice a' ((treY x (subL ys)).post 0).length c', .int .i64 (((treY x (subL ys)).sz - 1 : Nat) : Int)], .int .i64 0])
            rw [hl1, HRR.out]
  · have hR : subS x ys = (⟨[], 0⟩, xprE x) := by unfold subS; rw [if_pos hx]
    obtain ⟨E, hE⟩ : ∃ E, xprE x = E := ⟨_, rfl⟩
    rw [hR, hE]
    rw [hE] at HV hx
    have hne : (E != 0) = true := by simpa using hx
    clear hR hE hx
    go_enter Tryz.func23, Tryz.ntmps23
    go_wp2_with fail
    generalize hW3 : (w.alloc _).alloc _ = W3
    obtain ⟨gX, gR, hb3, hs3⟩ := box2' hW3
    have GR := Lib.hid gR
    have HB3 := Lib.hid hb3
    have HS3 := Lib.hid hs3
    clear hW3 gX gR hb3 hs3
    with_reducible refine (HV.out W3 HB3.out).mono ?_
    rintro e w4 ⟨rfl, hb4⟩
    have g4 := heap_below hb4 GR.out
    have t0 := cell_of_row _ _ 0 _ _ _ g4
    have t1 := cell_of_row _ _ 1 _ _ _ g4
    have z0 := frozen_row g4 0
    have z1 := frozen_row g4 1
    have G4 := Lib.hid g4
    have HB4 := Lib.hid (Below.next HB3.out hb4)
    clear g4 hb4 GR HB3 HS3
    go_wp2_with fail
    clear t0 t1 z0 z1
    generalize hWF : (w4.setCell _ _).setCell _ _ = WF
    obtain ⟨e1, hbf⟩ := fin_box G4.out (by omega) HB4.out hWF
    have HBF := Lib.hid hbf
    have f0 := cell_of_row _ _ 0 _ _ _ e1
    have f1 := cell_of_row _ _ 1 _ _ _ e1
    clear hWF e1 hbf
    refine bodyPost_ret (v := .tuple #[.agg #[.slice none 0 0, .int .i64 0], .int .i64 E]) ?_ rfl (RetX.none_ rfl HBF.out)
    rw [results_cell_tmp rfl]
    go_simp

set_option maxRecDepth 100000 in
set_option maxHeartbeats 4000000 in
theorem rtidy_c (x : Xpr) (hsx : XprSum x) (hf : XprFew x) (a : Option Addr) (n c : Nat) (w : World) (h : XM w a n c x.nodes) :
    Calls Tryz.prog 28 #[.agg #[.slice a n c, .int .i64 x.root]] w fun e w' => RetX (tidS x).1 (tidS x).2 w e w' := by
  have HX := Lib.hid h
  have HS := Lib.hid (fun (u : World) (hb : Below w.heap.size w u) => rsubst_c x [] hsx (fun _ h => by cases h) hf (fun _ h => by cases h) a n c none 0 0 u (h.below hb) (LM.none_ _) (by omega))
  clear h
  rw [subS_nil] at HS
  obtain ⟨⟨X, E⟩, hQ⟩ : ∃ Q, tidS x = Q := ⟨_, rfl⟩
  rw [hQ] at HS ⊢
  simp only at HS
  clear hQ
  go_enter Tryz.func28, Tryz.ntmps28
  go_wp2_with fail
  generalize hW2 : (w.alloc _).alloc _ = W2
  obtain ⟨gX, gR, hb2, hs2⟩ := box2' hW2
  have GR := Lib.hid gR
  have HB2 := Lib.hid hb2
  have hw2 : w.heap.size + 2 ≤ W2.heap.size := by omega
  clear hW2 gX gR hb2 hs2
  with_reducible refine (HS.out W2 HB2.out).mono ?_
  rintro e w3 ⟨a3, c3, rfl, hx3, b3⟩
  have GR3 := Lib.hid (heap_below b3 GR.out)
  have HB3 := Lib.hid (Below.next HB2.out b3)
  have HX3 := Lib.hid hx3
  have t0 := cell_of_row _ _ 0 _ _ _ GR3.out
  have t1 := cell_of_row _ _ 1 _ _ _ GR3.out
  have z0 := frozen_row GR3.out 0
  have z1 := frozen_row GR3.out 1
  clear b3 hx3 HS GR
  go_wp2_with fail
  clear t0 t1 z0 z1
  generalize hWF : (w3.setCell _ _).setCell _ _ = WF
  obtain ⟨e1, hbf⟩ := fin_box GR3.out (by omega) HB3.out hWF
  have HBF := Lib.hid hbf
  have HXF := Lib.hid (xmr_box HX3.out (by omega) hWF)
  have f0 := cell_of_row _ _ 0 _ _ _ e1
  have f1 := cell_of_row _ _ 1 _ _ _ e1
  clear hWF e1 hbf
  refine bodyPost_ret (v := .tuple #[.agg #[.slice a3 X.nodes.length c3, .int .i64 X.root], .int .i64 E]) ?_ rfl ?_
  · rw [results_cell_tmp rfl]
    go_simp
  · exact ⟨a3, c3, rfl, fun w2 hg => HXF.out w2 fun g h1 h2 => hg g (by omega) h2, HBF.out⟩
end Go.Proofs.YtcojmmhclklpoaaGreatDoor
namespace Go.Proofs.YtcojmmhclklpoaaGreatDoor
open Go.RowKit Go.Shelf

def RtC (x : Xpr) (w0 : World) (f : Nat) : Prop :=
  ∀ (a : Option Addr) (n c : Nat), XM w0 a n c x.nodes → ∀ (i : Nat), i < f → i < x.nodes.length → ∀ (u : World), Below w0.heap.size w0 u → (treF x.nodes noSub f i).txt.length ≤ 1000000 →
    Calls Tryz.prog 69 #[.agg #[.slice a n c, .int .i64 x.root], .int .i64 i] u fun e w' => e = .returned (.string (mkB (treF x.nodes noSub f i).txt)) ∧ Below u.heap.size u w'

theorem txt_next {KT : List ET} {ws : List Int} {k : Nat} {t : ET} (h : KT.take (k + 1) = KT.take k ++ [t]) (hk : k ≤ KT.length) (P : Byts) :
    mkB (P ++ ETs.txt (KT.take k) ws 0) ++ mkB (if k = 0 then [] else [44, 32]) ++ mkB t.txt ++ mkB (if ws = [] then [] else 42 :: Lib.decDigits (ws.getD k 0).toNat) = mkB (P ++ ETs.txt (KT.take (k + 1)) ws 0) := by
  rw [h, txt_snoc, mkB_app, mkB_app, mkB_app, List.length_take, Nat.min_eq_left hk, Nat.zero_add]
  simp only [List.append_assoc]

set_option maxRecDepth 100000 in
set_option maxHeartbeats 16000000 in
theorem rtext_step (x : Xpr) (hx : xprE x = 0) (w0 : World) (hpow : HasPow w0) (f : Nat) (ih : RtC x w0 f) : RtC x w0 (f + 1) := by
  intro a n c h i hif hil u hb0 hl
  obtain ⟨nd, hnd⟩ : ∃ nd, x.nodes[i]? = some nd := ⟨_, List.getElem?_eq_getElem hil⟩
  have xok := xprE_ok hx
  have ok := xok.node i nd hnd
  have hthr := xprE_thr0 hx i nd hnd
  have hln := h.len
  obtain ⟨b, o, ha, hat⟩ := h.at' (by omega)
  have hM := hat i nd hnd
  obtain ⟨aw, nw, cw, m3, rw3⟩ := hM.ws
  obtain ⟨ak, nk, ck, m4, rk4⟩ := hM.ks
  have m00 := cell_keep hb0 hM.c0
  have m01 := cell_keep hb0 hM.c1
  have m02 := cell_keep hb0 hM.c2
  have m03 := cell_keep hb0 m3
  have m04 := cell_keep hb0 m4
  have hbl : b < u.heap.size := cell_lt m00
  have m0 : ∀ ob, (u.alloc ob).cell? ⟨b, o + i * 5, none⟩ = some (.int .i64 nd.kind) := fun ob => (World.cell?_alloc_lt _ _ _ hbl).trans m00
  have m1 : ∀ ob, (u.alloc ob).cell? ⟨b, o + i * 5 + 1, none⟩ = some (.int .i64 nd.server) := fun ob => (World.cell?_alloc_lt _ _ _ hbl).trans m01
  have m2 : ∀ ob, (u.alloc ob).cell? ⟨b, o + i * 5 + 2, none⟩ = some (.int .i64 nd.need) := fun ob => (World.cell?_alloc_lt _ _ _ hbl).trans m02
  have m3 : ∀ ob, (u.alloc ob).cell? ⟨b, o + i * 5 + 3, none⟩ = some (.slice aw nw cw) := fun ob => (World.cell?_alloc_lt _ _ _ hbl).trans m03
  have m4 : ∀ ob, (u.alloc ob).cell? ⟨b, o + i * 5 + 4, none⟩ = some (.slice ak nk ck) := fun ob => (World.cell?_alloc_lt _ _ _ hbl).trans m04
  have HPOW := Lib.hid (fun (v : World) (hv : Below w0.heap.size w0 v) => hpow.below hv)
  have hwl := rw3.len
  have hkl := rk4.len
  rw [List.length_map] at hwl hkl
  have hin : i < n := by omega
  have hbi : decide ((i : Int) < (n : Int)) = true := decide_eq_true (by omega)
  subst ha
  clear m00 m01 m02 m03 m04
  obtain ⟨kind, server, need, ws, ks⟩ := nd
  simp only at m0 m1 m2 rw3 rk4 hwl hkl hthr
  obtain ⟨U2, hU2⟩ : ∃ U2, U2 = (u.alloc (.cells #[.slice (some ⟨b, o, none⟩) n c, .int .i64 x.root] 32)).alloc (.cells #[.int .i64 kind, .int .i64 server, .int .i64 need, .slice aw nw cw, .slice ak nk ck] 71) := ⟨_, rfl⟩
  obtain ⟨gX, gN, hb2, hs2⟩ := box2 hU2.symm
  have HB2 := Lib.hid hb2
  have HB02 := Lib.hid (Below.next hb0 hb2)
  have GX := Lib.hid gX
  have GN := Lib.hid gN
  obtain ⟨n0, n1, n2, n3, n4⟩ := open5 gN
  by_cases hk1 : kind = 1
  · subst hk1
    have hT : treF x.nodes noSub (f + 1) i = .srv server := by
      have e : x.nodes.getD i nod0 = ⟨1, server, need, ws, ks⟩ := by rw [List.getD_eq_getElem?_getD, hnd]; rfl
      rw [treF, e, if_pos rfl]; rfl
    rw [hT, ET.txt]
    have hsr := ok.server
    simp only at hsr
    obtain ⟨sn, rfl⟩ := Int.eq_ofNat_of_zero_le hsr.1
    rw [Int.toNat_natCast]
    have HIT := Lib.hid (itoa_c sn (by omega) U2 (HPOW.out _ HB02.out))
    have hDl := dec_len6 sn (by omega)
    obtain ⟨D, hD⟩ : ∃ D, Lib.decDigits sn = D := ⟨_, rfl⟩
    rw [hD] at hDl HIT ⊢
    have HF : Hid ((⟨#[115]⟩ : ByteArray) ++ mkB D = mkB (115 :: D)) := Lib.hid (mkB_app [115] D)
    have hDs : (mkB D).size ≤ 6 := by have := mkB_size D; omega
    obtain ⟨DB, hDB⟩ : ∃ DB, mkB D = DB := ⟨_, rfl⟩
    rw [hDB] at HIT HF hDs
    rw [← HF.out]
    rw [hU2] at n0 n1
    clear hT hD hM hat hnd rw3 rk4 hwl hkl ok xok hthr h hl hb2 gX gN hs2 n2 n3 n4 ih hDB hb0
    go_enter Tryz.func69, Tryz.ntmps69
    go_wp2_with fail
    rw [← hU2]
    with_reducible refine HIT.out.mono ?_
    rintro e U3 ⟨rfl, hb3⟩
    have HB3 := Lib.hid (Below.next HB2.out hb3)
    clear hb3 n0 n1 HIT
    go_wp2_with fail
    go_ret
    exact ⟨rfl, HB3.out⟩
  · have hk2 : (kind == 1) = false := by simpa using hk1
    obtain rfl : server = 0 := hthr hk1
    have hT : treF x.nodes noSub (f + 1) i = .thr need ws (kidT x.nodes noSub f ks) := by
      have e : x.nodes.getD i nod0 = ⟨kind, 0, need, ws, ks⟩ := by rw [List.getD_eq_getElem?_getD, hnd]; rfl
      rw [treF, e, if_neg hk1]; rfl
    rw [hT, ET.txt] at hl ⊢
    have hneed := ok.need
    simp only at hneed
    obtain ⟨nd, rfl⟩ := Int.eq_ofNat_of_zero_le hneed.1
    rw [Int.toNat_natCast] at hl ⊢
    have HWW := Lib.hid ok.weights
    have HKR := Lib.hid ok.kids
    have HAR := Lib.hid ok.arity
    have HIT := Lib.hid (itoa_c nd (by omega) U2 (HPOW.out _ HB02.out))
    have hDl := dec_len6 nd (by omega)
    obtain ⟨D, hD⟩ : ∃ D, Lib.decDigits nd = D := ⟨_, rfl⟩
    obtain ⟨KT, hKT⟩ : ∃ KT, kidT x.nodes noSub f ks = KT := ⟨_, rfl⟩
    rw [hD] at hl hDl HIT ⊢
    rw [hKT] at hl ⊢
    have hKl : KT.length = nk := by rw [← hKT, kidT_len]; exact hkl.symm
    have HKT := Lib.hid hKT
    have HKL := Lib.hid hKl
    have HL : Hid (D.length + 1 + (ETs.txt KT ws 0).length + 1 ≤ 1000000) := Lib.hid (by
      simp only [List.length_append, List.length_cons, List.length_nil] at hl; omega)
    have HP0 : Hid (mkB D ++ (⟨#[40]⟩ : ByteArray) = mkB (D ++ [40])) := Lib.hid (mkB_app D [40])
    have HPZ : Hid (mkB (D ++ [40] ++ ETs.txt KT ws 0) ++ (⟨#[41]⟩ : ByteArray) = mkB (D ++ 40 :: (ETs.txt KT ws 0 ++ [41]))) := Lib.hid (by
      rw [show (⟨#[41]⟩ : ByteArray) = mkB [41] from rfl, mkB_app]; congr 1; simp)
    rw [← HPZ.out]
    have hDs : (mkB D).size ≤ 6 := by have := mkB_size D; omega
    obtain ⟨DB, hDB⟩ : ∃ DB, mkB D = DB := ⟨_, rfl⟩
    rw [hDB] at HIT HP0 hDs
    have HWL := Lib.hid hwl
    have HKS := Lib.hid hkl
    have HLN := Lib.hid hln
    have HIH := Lib.hid (ih (some ⟨b, o, none⟩) n c h)
    have HRW := Lib.hid rw3
    have HRK := Lib.hid rk4
    have hnkm : nk ≤ 9223372036854775807 := by have h1 := rk4.le; have h2 := rk4.max; unfold maxLen at h2; omega
    have hnwm : nw ≤ 9223372036854775807 := by have h1 := rw3.le; have h2 := rw3.max; unfold maxLen at h2; omega
    rw [hU2] at n0 n2
    clear hT hD hKT hM hat hnd rw3 rk4 hwl hkl ok xok hthr h hl hb2 gX gN hs2 n1 n3 n4 ih hKl hln hDB hb0
    go_enter Tryz.func69, Tryz.ntmps69
    go_wp2_with fail
    rw [← hU2]
    with_reducible refine HIT.out.mono ?_
    rintro e U3 ⟨rfl, hb3⟩
    have HB3 := Lib.hid hb3
    clear hb3 n0 n2 HIT m0 m1 m2 m3 m4 hU2
    go_wp2_with fail
    go_loopw [6, 7] (fun ob q wr => ∃ (OB : ByteArray) (k : Nat), Value.string OB = ob ∧ k ≤ nk ∧ q = .int .i64 ((k : Nat) : Int) ∧ Hid (OB = mkB (D ++ [40] ++ ETs.txt (KT.take k) ws 0)) ∧ Below U2.heap.size U2 wr) (fun _ q _ => nk - (intOf q).toNat)
    case atStart => exact ⟨_, 0, rfl, Nat.zero_le _, rfl, Lib.hid (by rw [HP0.out, List.take_zero, ETs.txt, List.append_nil]), HB3.out⟩
    case round =>
      obtain ⟨OB, k, rfl, hk, rfl, HOB, hb⟩ := hrel
      have gN3 := heap_below hb GN.out
      obtain ⟨_, _, _, p3, p4⟩ := open5 gN3
      have hobs : OB.size ≤ 1000000 := by
        have := txt_take ws KT k
        have h5 := HL.out
        rw [HOB.out, mkB_size]
        simp only [List.length_append, List.length_cons, List.length_nil]
        omega
      by_cases hlt : k < nk
      · obtain ⟨z, hz⟩ : ∃ z, ks[k]? = some z := ⟨_, List.getElem?_eq_getElem (by have := HKS.out; omega)⟩
        have hzr := HKR.out z (List.mem_of_getElem? hz)
        obtain ⟨zn, hzn⟩ := Int.eq_ofNat_of_zero_le hzr.1
        subst hzn
        obtain ⟨b4, o4, ha4, hc4⟩ := HRK.out.at' (by omega)
        have hc := hc4 k (.int .i64 zn) (by rw [List.getElem?_map, hz]; rfl)
        have hT := kidT_take x.nodes noSub f ks k zn hz
        rw [HKT.out, Int.toNat_natCast] at hT
        have hnx := txt_next (ws := ws) hT (by have := HKL.out; omega) (D ++ [40])
        have hle1 := txt_take ws KT (k + 1)
        have hsz1 : (mkB (D ++ [40] ++ ETs.txt (KT.take (k + 1)) ws 0)).size ≤ 1000000 := by
          have h5 := HL.out
          rw [mkB_size]
          simp only [List.length_append, List.length_cons, List.length_nil]
          omega
        have hbw := Below.next HB02.out hb
        obtain ⟨X, hX⟩ : ∃ X, (treF x.nodes noSub f zn).txt = X := ⟨_, rfl⟩
        have hxl : X.length ≤ 1000000 := by
          rw [← hX]
          rw [hT, txt_snoc] at hle1
          have h5 := HL.out
          simp only [List.length_append] at hle1
          omega
        have hCall := fun y (hy : Below wr.heap.size wr y) => HIH.out zn (by omega) (by have := HLN.out; omega) y (Below.next hbw hy) (by rw [hX]; exact hxl)
        rw [hX] at hCall hnx
        rw [← HOB.out] at hnx
        obtain ⟨XT, hXT⟩ : ∃ XT, mkB X = XT := ⟨_, rfl⟩
        have hxs : XT.size ≤ 1000000 := by rw [← hXT, mkB_size]; exact hxl
        rw [hXT] at hCall hnx
        have HCALL := Lib.hid hCall
        have HNX := Lib.hid hnx
        have HB := Lib.hid hb
        have HBW := Lib.hid hbw
        obtain ⟨NW, hNW⟩ : ∃ NW, mkB (D ++ [40] ++ ETs.txt (KT.take (k + 1)) ws 0) = NW := ⟨_, rfl⟩
        rw [hNW] at HNX hsz1
        have HNW := Lib.hid hNW
        subst ha4
        have KS : Hid (∀ y : World, Below wr.heap.size wr y → (y.cell? ⟨u.heap.size, 0, none⟩ = some (.slice (some ⟨b, o, none⟩) n c) ∧ y.cell? ⟨u.heap.size, 1, none⟩ = some (.int .i64 x.root)) ∧ y.cell? ⟨u.heap.size + 1, 4, none⟩ = some (.slice (some ⟨b4, o4, none⟩) nk ck) ∧ y.cell? ⟨b4, o4 + k, none⟩ = some (.int .i64 zn)) := Lib.hid (fun y hy => ⟨(open2 (heap_below hy (heap_below hb GX.out))).1, cell_of_row _ _ 4 _ _ _ (heap_below hy gN3), cell_keep (Below.next hbw hy) hc⟩)
        have GN3 := Lib.hid gN3
        clear hCall hnx hb hbw hT hle1 hX hXT hNW hc hc4 hzr gN3 hxl
        obtain ⟨O2, hO2⟩ : ∃ O2, OB ++ mkB (if k = 0 then [] else [44, 32]) = O2 := ⟨_, rfl⟩
        have hO2s : O2.size ≤ 1000002 := by
          rw [← hO2, ByteArray.size_append, mkB_size]; split <;> simp <;> omega
        rw [hO2] at HNX
        have hsel : (decide ((0 : Int) < (k : Int)) = true ∧ decide (0 < k) = true ∧ OB ++ (⟨#[44, 32]⟩ : ByteArray) = O2) ∨ (k = 0 ∧ OB = O2) := by
          rcases Nat.eq_zero_or_pos k with h9 | h9
          · refine .inr ⟨h9, ?_⟩
            rw [← hO2, if_pos h9]
            exact (ByteArray.append_empty (b := OB)).symm
          · refine .inl ⟨decide_eq_true (by omega), decide_eq_true h9, ?_⟩
            rw [← hO2, if_neg (by omega)]; rfl
        clear hO2
        have HWK : Hid (0 < nw → ∃ (wz b5 o5 : Nat), aw = some ⟨b5, o5, none⟩ ∧ k < nw ∧ wz ≤ 1000 ∧ (∀ y, Below w0.heap.size w0 y → y.cell? ⟨b5, o5 + k, none⟩ = some (.int .i64 (wz : Int))) ∧ (ws.getD k 0).toNat = wz ∧ ws ≠ []) := Lib.hid (fun hw0 => by
          have hws : ws ≠ [] := fun e => by have := HWL.out; rw [e] at this; simp at this; omega
          have hnwk : nw = nk := by
            rcases HAR.out with h9 | h9
            · exact absurd h9 hws
            · have := HWL.out; have := HKS.out; omega
          obtain ⟨wv, hwv⟩ : ∃ wv, ws[k]? = some wv := ⟨_, List.getElem?_eq_getElem (by have := HWL.out; omega)⟩
          have hwr := HWW.out wv (List.mem_of_getElem? hwv)
          obtain ⟨wz, hwz⟩ := Int.eq_ofNat_of_zero_le (show 0 ≤ wv by omega)
          subst hwz
          obtain ⟨b5, o5, ha5, hc5⟩ := HRW.out.at' (by omega)
          refine ⟨wz, b5, o5, ha5, by omega, by omega, fun y hy => cell_keep hy (hc5 k _ (by rw [List.getElem?_map, hwv]; rfl)), ?_, hws⟩
          rw [List.getD_eq_getElem?_getD, hwv]; rfl)
        rcases hsel with ⟨d1, d2, e2⟩ | ⟨e0, e2⟩
        all_goals
          first | (subst e0; simp only [Nat.add_zero] at KS) | skip
          go_upto_region 10 with fail
          subst e2
          clear p3 p4
          refine wp_region_quiet (C := fun y => Below wr.heap.size wr y) (by kernel_rfl) (by kernel_rfl) (below_drew (Below.refl _ _)) ?_
          repeat (refine wpQuiet_step (fun K hK => ?_); go_simp; (first | (refine hK _ ?_; clear hK K) | (apply Exists.intro; refine ⟨fun y hy => ?_, hK _ ?_⟩; (first | (rw [if_neg (by omega)]; exact ⟨rfl, rfl⟩) | with_reducible exact rfl | with_reducible exact ⟨rfl, hy⟩ | with_reducible exact ⟨rfl, rfl⟩ | ((with_reducible refine (HCALL.out y hy).mono ?_); (rintro e w3 ⟨rfl, h3⟩; exact ⟨rfl, Below.next hy h3⟩)) | (obtain ⟨⟨q1, q2⟩, q3, q4⟩ := KS.out y hy; go_simp; first | with_reducible exact rfl | with_reducible exact ⟨rfl, hy⟩ | with_reducible exact hy | exact rfl | exact ⟨rfl, hy⟩ | exact hy)); clear hK K)))
          refine wpQuiet_nil ?_
          intro wq hwq
          have HBQ := Lib.hid hwq
          have p3 := cell_of_row _ _ 3 _ _ _ (heap_below hwq GN3.out)
          clear hwq KS HCALL
          rcases Nat.eq_zero_or_pos nw with hw0 | hw0
          · have hws : ws = [] := List.length_eq_zero_iff.1 (by have := HWL.out; omega)
            have HN := HNX.out
            rw [if_pos hws, show mkB [] = ByteArray.empty from rfl, ByteArray.append_empty] at HN
            have HNQ := Lib.hid HN
            subst hw0
            clear HN HNX
            go_wp2_with fail
            go_roundw
            case rel => first | exact ⟨_, k + 1, rfl, by omega, by go_num, Lib.hid (by rw [HNQ.out, ← HNW.out]), HB.out.trans (HBQ.out.mono HB.out.size)⟩ | exact ⟨_, 1, rfl, by omega, by go_num, Lib.hid (by rw [HNQ.out, ← HNW.out]), HB.out.trans (HBQ.out.mono HB.out.size)⟩
            case measure => simp [intOf] <;> omega
          · obtain ⟨wz, b5, o5, rfl, hkw, hwz, hcw, hgd, hws⟩ := HWK.out hw0
            try simp only [Nat.add_zero] at hcw
            have hdw : decide ((0 : Int) < (nw : Int)) = true := decide_eq_true (by omega)
            have c5 := hcw wq (Below.next HBW.out HBQ.out)
            have HIW := Lib.hid (itoa_c wz (by omega) wq (HPOW.out wq (Below.next HBW.out HBQ.out)))
            have HN := HNX.out
            rw [if_neg hws, hgd] at HN
            have hDw := dec_len6 wz (by omega)
            have hWs : (mkB (Lib.decDigits wz)).size ≤ 6 := by rw [mkB_size]; exact hDw
            have h42 : mkB (42 :: Lib.decDigits wz) = (⟨#[42]⟩ : ByteArray) ++ mkB (Lib.decDigits wz) := (mkB_app [42] _).symm
            rw [h42] at HN
            obtain ⟨WB, hWB⟩ : ∃ WB, mkB (Lib.decDigits wz) = WB := ⟨_, rfl⟩
            rw [hWB] at HN HIW hWs
            rw [← ByteArray.append_assoc] at HN
            have HNQ := Lib.hid HN
            clear HN HNX h42 hgd hcw hWB
            go_wp2_with fail
            with_reducible refine HIW.out.mono ?_
            rintro e w8 ⟨rfl, h8⟩
            have HB8 := Lib.hid (Below.next HBQ.out h8)
            clear h8 c5 HIW p3
            go_wp2_with fail
            go_roundw
            case rel => first | exact ⟨_, k + 1, rfl, by omega, by go_num, Lib.hid (by rw [HNQ.out, ← HNW.out]), HB.out.trans (HB8.out.mono HB.out.size)⟩ | exact ⟨_, 1, rfl, by omega, by go_num, Lib.hid (by rw [HNQ.out, ← HNW.out]), HB.out.trans (HB8.out.mono HB.out.size)⟩
            case measure => simp [intOf] <;> omega
      · obtain rfl : k = nk := by omega
        have HE := HOB.out
        rw [List.take_of_length_le (by have := HKL.out; omega)] at HE
        have HEQ := Lib.hid HE
        have HBF := Lib.hid (Below.next HB2.out hb)
        clear HE hb gN3
        go_wp2_with fail
        go_ret
        exact ⟨by rw [HEQ.out]; rfl, HBF.out⟩
theorem rtext_c (x : Xpr) (hx : xprE x = 0) (w0 : World) (hpow : HasPow w0) : ∀ f, RtC x w0 f
  | 0 => fun a n c h i hi => by omega
  | f + 1 => rtext_step x hx w0 hpow f (rtext_c x hx w0 hpow f)

set_option maxRecDepth 100000 in
set_option maxHeartbeats 4000000 in
theorem rformat_c (x : Xpr) (hsx : XprSum x) (hf : XprFew x) (a : Option Addr) (n c : Nat) (w : World) (hp : HasPow w) (h : XM w a n c x.nodes) :
    Calls Tryz.prog 30 #[.agg #[.slice a n c, .int .i64 x.root]] w fun e w' => e = .returned (.tuple #[.string (mkB (fmtX x).1), .int .i64 (fmtX x).2]) ∧ Below w.heap.size w w' := by
  have HS := Lib.hid (fun (u : World) (hu : Below w.heap.size w u) => rtidy_c x hsx hf a n c u (h.below hu))
  have HP := Lib.hid hp
  clear h hp
  by_cases hE : (tidS x).2 = 0
  · obtain ⟨hx, hz, h1⟩ := tidS_ok hE
    have hR : fmtX x = ((treX x).txt, 0) := by unfold fmtX; rw [if_neg (by rw [hE]; simp)]
    rw [hR]
    have hok := treX_ok (xprE_ok hx)
    have hyx := treX_xpr (treX x)
    have hyE := xpr_ok hok hz
    have htx := txt_60 hok hz
    obtain ⟨T, hT⟩ : ∃ T, treX x = T := ⟨_, rfl⟩
    rw [hT] at h1 hz hok hyx hyE htx ⊢
    rw [h1, hE] at HS
    have HYX := Lib.hid hyx
    have HYE := Lib.hid hyE
    have hlen : (T.post 0).length = T.sz := T.post_len 0
    have hpos := T.sz_pos
    have HXR := Lib.hid (show T.xpr.root = ((T.sz - 1 : Nat) : Int) from rfl)
    have HXN := Lib.hid (show T.xpr.nodes.length = T.sz from hlen)
    have HTX := Lib.hid htx
    clear hR h1 hE hx hT hok hyx hyE hlen htx
    go_enter Tryz.func30, Tryz.ntmps30
    go_wp2_with fail
    generalize hW1 : w.alloc _ = W1
    have hb1 : Below w.heap.size w W1 := by rw [← hW1]; exact (Below.refl _ _).alloc (Nat.le_refl _) _
    have HB1 := Lib.hid hb1
    clear hW1
    with_reducible refine (HS.out W1 hb1).mono ?_
    rintro e w3 ⟨a', c', rfl, hxm, hb3⟩
    have hxm2 := hxm.xm
    obtain ⟨W4, hW4⟩ : ∃ W4, W4 = w3.alloc (.cells #[.slice a' T.xpr.nodes.length c', .int .i64 T.xpr.root] 32) := ⟨_, rfl⟩
    have hb4 : Below w3.heap.size w3 W4 := by rw [hW4]; exact (Below.refl _ _).alloc (Nat.le_refl _) _
    have g4 : W4.heap[w3.heap.size]? = some (.cells #[.slice a' T.xpr.nodes.length c', .int .i64 T.xpr.root] 32 (0, 0)) := by rw [hW4]; exact heap_alloc_new _ _
    have hbw := Below.next HB1.out (Below.next hb3 hb4)
    have hTT : treF T.xpr.nodes noSub (T.xpr.root.toNat + 1) T.xpr.root.toNat = T := HYX.out
    have hroot : T.xpr.root.toNat < T.xpr.nodes.length := by rw [HXR.out, HXN.out, Int.toNat_natCast]; omega
    have hC := rtext_c T.xpr HYE.out W4 (HP.out.below hbw) (T.xpr.root.toNat + 1) a' _ c' (hxm2.below hb4) T.xpr.root.toNat (Nat.lt_succ_self _) hroot W4 (Below.refl _ _) (by rw [hTT]; have := HTX.out; omega)
    rw [hTT, show ((T.xpr.root.toNat : Nat) : Int) = T.xpr.root from Int.toNat_of_nonneg (by rw [HXR.out]; omega)] at hC
    have HC := Lib.hid hC
    have HBW := Lib.hid hbw
    obtain ⟨⟨t0, t1⟩, _⟩ := open2 g4
    obtain ⟨NL, hNL⟩ : ∃ NL, T.xpr.nodes.length = NL := ⟨_, rfl⟩
    obtain ⟨RT, hRT⟩ : ∃ RT, T.xpr.root = RT := ⟨_, rfl⟩
    rw [hNL, hRT] at HC hW4
    rw [hNL] at t0
    rw [hRT] at t1
    rw [hNL, hRT]
    rw [hW4] at t0 t1
    clear hb3 hxm hxm2 hb4 g4 hbw hTT hroot hC HS
    go_wp2_with fail
    rw [← hW4]
    with_reducible refine HC.out.mono ?_
    rintro e w5 ⟨rfl, h5⟩
    have HB5 := Lib.hid (Below.next HBW.out h5)
    clear h5
    go_wp2_with fail
    go_ret2
    exact ⟨rfl, HB5.out⟩
  · have hR : fmtX x = ([], (tidS x).2) := by unfold fmtX; rw [if_pos hE]
    rw [hR]
    obtain ⟨R, hRR⟩ : ∃ R, tidS x = R := ⟨_, rfl⟩
    rw [hRR] at HS hE ⊢
    obtain ⟨y, er⟩ := R
    simp only at HS hE ⊢
    have hne : (er != 0) = true := by simpa using hE
    clear hR hRR hE
    go_enter Tryz.func30, Tryz.ntmps30
    go_wp2_with fail
    generalize hW1 : w.alloc _ = W1
    have hb1 : Below w.heap.size w W1 := by rw [← hW1]; exact (Below.refl _ _).alloc (Nat.le_refl _) _
    clear hW1
    with_reducible refine (HS.out W1 hb1).mono ?_
    rintro e w3 ⟨a', c', rfl, hxm, hb3⟩
    have HB3 := Lib.hid (Below.next hb1 (Below.next hb3 ((Below.refl _ _).alloc (Nat.le_refl _) (.cells #[.slice a' y.nodes.length c', .int .i64 y.root] 32))))
    clear hb3 hxm HS hb1
    go_wp2_with fail
    go_ret2
    exact ⟨rfl, HB3.out⟩
end Go.Proofs.YtcojmmhclklpoaaGreatDoor
namespace Go.Proofs.YtcojmmhclklpoaaGreatDoor
open Go.RowKit Go.ChangeShapes Go.WideShapes Go.Deep

def XprRch (x : Xpr) : Prop := ∀ (k : Nat) nd, x.nodes[k]? = some nd → nd.weights.length ≤ 17592186044416 ∧ nd.kids.length ≤ 17592186044416
theorem Tryz.bytesInt : Tryz.prog.bytesOf 3 = 8 := by kernel_rfl
theorem ints64_rch {H : Type} {enc : TypeId × Value → H} {W : World} {base : Nat} {held : Bool} {fuel : Nat} {cs : List Value} {x : DataW H × List MemPlace} (h : DataW.trod enc Tryz.prog W base (fun _ => true) held fuel 69 cs = some x) (hw : ∀ n ∈ x.1.weights Tryz.prog 69, n ≤ reachBytes) :
    ∃ a n c z, cs = [.slice a n c] ∧ IsInts .i64 W a n c z ∧ z.length ≤ 17592186044416 := by
  rcases open_ints Tryz.underlying69 Tryz.underlying3 (by kernel_rfl) h with ⟨hcs, _⟩ | ⟨b, l, c, zs, hcs, _, hl, hm, hz, hx, hcell, hwz⟩
  · exact ⟨_, _, _, _, hcs, .nil, by simp⟩
  · refine ⟨_, _, _, _, hcs, .row hl hm (by simpa using hz) hcell hwz, ?_⟩
    have h1 := hw ((lits .i64 (zs.take l) : List (DataW H)).length * 8 + (lits .i64 (zs.drop l) : List (DataW H)).length * 8) (by
      rw [hx]
      simp only [DataW.weights, Tryz.underlying69, Tryz.bytesInt]
      rw [Nat.add_mul]
      exact List.mem_cons_self)
    simp only [lits, List.length_map, reachBytes] at h1
    omega
theorem open_nodesS {H : Type} {enc : TypeId × Value → H} {w : World} {base : Nat} {held : Bool} {fuel : Nat} {cs : List Value} {x : DataW H × List MemPlace} (h : DataW.trod enc Tryz.prog w base (fun _ => true) held fuel 30 cs = some x) (hw : ∀ n ∈ x.1.weights Tryz.prog 30, n ≤ reachBytes) :
    ∃ a n c ns, cs = [.slice a n c] ∧ XM w a n c ns ∧ ∀ nd ∈ ns, nd.weights.length ≤ 17592186044416 ∧ nd.kids.length ≤ 17592186044416 := by
  rcases open_slice_fields Tryz.underlying30 Tryz.underlying71 (by kernel_rfl) (by kernel_rfl) h with ⟨hcs, _⟩ | ⟨a, len, cap, m, D, Pl, hcs, _, hl, hm, hmm, hxx, hi⟩
  · exact ⟨none, 0, 0, [], hcs, XM.none_ _, fun nd h => by cases h⟩
  · have hlm : len ≤ m := by rw [hmm]; split <;> omega
    have hel : ∀ i, i < len → ∀ n ∈ (D i).weights Tryz.prog 71, n ≤ reachBytes := fun i hil n hn => by
      refine hw n ?_
      rw [hxx]
      simp only [DataW.weights, Tryz.underlying30]
      refine List.mem_cons_of_mem _ (List.mem_append_left _ ?_)
      have key : ∀ (l : List Nat), i ∈ l → n ∈ DataW.weightsAll Tryz.prog 71 (l.map D) := by
        intro l
        induction l with
        | nil => intro h; cases h
        | cons y l ih =>
          intro h
          rw [List.map_cons, DataW.weightsAll]
          rcases List.mem_cons.1 h with rfl | h
          · exact List.mem_append_left _ hn
          · exact List.mem_append_right _ (ih h)
      exact key _ (List.mem_range.2 hil)
    obtain ⟨L, hL1, hL2⟩ := list_of (α := Nod) (Q := fun i r => (w.cell? (a.add (i * 5 + 0)) = some (.int .i64 r.kind) ∧ w.cell? (a.add (i * 5 + 1)) = some (.int .i64 r.server) ∧ w.cell? (a.add (i * 5 + 2)) = some (.int .i64 r.need) ∧ (∃ a3 n3 c3, w.cell? (a.add (i * 5 + 3)) = some (.slice a3 n3 c3) ∧ Rd w a3 n3 c3 (r.weights.map (Value.int .i64))) ∧ ∃ a4 n4 c4, w.cell? (a.add (i * 5 + 4)) = some (.slice a4 n4 c4) ∧ Rd w a4 n4 c4 (r.kids.map (Value.int .i64))) ∧ r.weights.length ≤ 17592186044416 ∧ r.kids.length ≤ 17592186044416) len (fun i hil => by
      obtain ⟨ys, n, hD, _, hyl, hf⟩ := hi i (by omega)
      have hwi := hel i hil
      rw [hD] at hwi
      simp only [DataW.weights, Tryz.underlying71] at hwi
      obtain ⟨v0, y0, c0, _, t0⟩ := hf 0 _ rfl
      obtain ⟨v1, y1, c1, _, t1⟩ := hf 1 _ rfl
      obtain ⟨v2, y2, c2, _, t2⟩ := hf 2 _ rfl
      obtain ⟨v3, y3, c3, hy3, t3⟩ := hf 3 _ rfl
      obtain ⟨v4, y4, c4, hy4, t4⟩ := hf 4 _ rfl
      obtain ⟨z0, e0, _, _⟩ := DataW.trod_int Tryz.underlying3 t0
      obtain ⟨z1, e1, _, _⟩ := DataW.trod_int Tryz.underlying3 t1
      obtain ⟨z2, e2, _, _⟩ := DataW.trod_int Tryz.underlying3 t2
      obtain ⟨a3, n3, k3, z3, e3, i3, b3⟩ := ints64_rch t3 (fun n hn => hwi n (DataW.weights_mem_each (j := 3) rfl (by rw [List.getElem?_map, hy3]; rfl) n hn))
      obtain ⟨a4, n4, k4, z4, e4, i4, b4⟩ := ints64_rch t4 (fun n hn => hwi n (DataW.weights_mem_each (j := 4) rfl (by rw [List.getElem?_map, hy4]; rfl) n hn))
      cases e0; cases e1; cases e2; cases e3; cases e4
      exact ⟨⟨z0, z1, z2, z3, z4⟩, ⟨c0, c1, c2, ⟨a3, n3, k3, c3, i3.rd⟩, a4, n4, k4, c4, i4.rd⟩, b3, b4⟩)
    refine ⟨some a, len, cap, L, hcs, ⟨hL1, hl, hm, fun h => (by cases h), fun hn0 => ?_⟩, fun nd hnd => ?_⟩
    · obtain ⟨x0, hx0⟩ : ∃ x, L[0]? = some x := ⟨_, List.getElem?_eq_getElem (by omega)⟩
      have h0 := (hL2 0 x0 hx0).1.1
      rw [Nat.zero_mul, Nat.zero_add] at h0
      have ha := addr_plain h0
      refine ⟨a.block, a.off, by rw [← ha], fun i p hp => ?_⟩
      obtain ⟨⟨d0, d1, d2, ⟨a3, n3, c3, d3, r3⟩, a4, n4, c4, d4, r4⟩, _⟩ := hL2 i p hp
      rw [ha, Addr.add_lit] at d0 d1 d2 d3 d4
      exact ⟨d0, by rw [Nat.add_assoc]; exact d1, by rw [Nat.add_assoc]; exact d2, ⟨a3, n3, c3, by rw [Nat.add_assoc]; exact d3, r3⟩, a4, n4, c4, by rw [Nat.add_assoc]; exact d4, r4⟩
    · obtain ⟨i, hi⟩ := List.mem_iff_getElem?.1 hnd
      exact (hL2 i nd hi).2
set_option maxRecDepth 100000 in
theorem open_xprS {H : Type} {enc : TypeId × Value → H} {W : World} {base b0 : Nat} {held : Bool} {v : Value} {d : DataW H} {p : List MemPlace} {r : Reach}
    (hv : Value.okWide Tryz.prog W r b0 32 v) (h : DataW.Trod enc Tryz.prog W base (fun _ => true) held 32 v d p) (hw : ∀ n ∈ d.weights Tryz.prog 32, n ≤ reachBytes) : ∃ x, IsXpr W v x ∧ XprRch x := by
  obtain ⟨cs, rfl, hsz⟩ := okWide_struct Tryz.underlying32 hv
  rw [show Tryz.prog.cellsOf 32 = 2 by kernel_rfl] at hsz
  obtain ⟨l⟩ := cs
  obtain ⟨c0, c1, rfl⟩ := list2 l hsz
  obtain ⟨fuel, hf⟩ := h
  obtain ⟨xs, n, _, hdd, _, _, hfl⟩ := DataW.trod_struct Tryz.underlying32 hf
  have k8 : Tryz.prog.cellsOf 30 = 1 := by kernel_rfl
  have ku : Tryz.prog.cellsOf 3 = 1 := by kernel_rfl
  have h0 : DataW.trod enc Tryz.prog W base (fun _ => true) held n 30 (List.take (Tryz.prog.cellsOf 30) [c0, c1]) = xs[0]? := hfl 0 _ rfl
  have h1 : DataW.trod enc Tryz.prog W base (fun _ => true) held n 3 (List.take (Tryz.prog.cellsOf 3) [c1]) = xs[1]? := hfl 1 _ rfl
  rw [k8] at h0
  rw [ku] at h1
  have hxl : xs.length = 2 := by assumption
  have hx0 : xs[0]? = some (xs[0]'(by omega)) := List.getElem?_eq_getElem (by omega)
  rw [List.getElem?_eq_getElem (by omega)] at h0 h1
  simp only [Prod.mk.injEq] at hdd
  obtain ⟨rfl, _⟩ := hdd
  simp only [DataW.weights, Tryz.underlying32] at hw
  obtain ⟨a, n1, cc, ns, e0, i0, b0⟩ := open_nodesS h0 (fun n hn => hw n (DataW.weights_mem_each (j := 0) rfl (by rw [List.getElem?_map, hx0]; rfl) n hn))
  obtain ⟨z, e1, _, _⟩ := DataW.trod_int Tryz.underlying3 h1
  simp at e0 e1
  subst e0 e1
  exact ⟨⟨ns, z⟩, ⟨a, n1, cc, rfl, i0⟩, fun k nd hk => b0 nd (List.mem_of_getElem? hk)⟩
end Go.Proofs.YtcojmmhclklpoaaGreatDoor
namespace Go.Proofs.YtcojmmhclklpoaaGreatDoor
open Go.RowKit Go.Shelf

/-- kids and weights of the first nodes -/
def cntN (nodes : List Nod) : Nat → Nat
  | 0 => 0
  | k + 1 => cntN nodes k + ((nodes.getD k nod0).kids.length + (nodes.getD k nod0).weights.length)
def fewX (x : Xpr) : Bool := decide (x.nodes.length ≤ 70) && decide (cntN x.nodes x.nodes.length ≤ 400)
theorem cntN_bd {x : Xpr} (h : XprRch x) : ∀ k, k ≤ x.nodes.length → cntN x.nodes k ≤ k * 35184372088832 := by
  intro k
  induction k with
  | zero => intro _; simp [cntN]
  | succ k ih =>
    intro hk
    have h1 := ih (by omega)
    have h2 := h k (x.nodes[k]'(by omega)) (List.getElem?_eq_getElem (by omega))
    have e : x.nodes.getD k nod0 = x.nodes[k]'(by omega) := by rw [List.getD_eq_getElem?_getD, List.getElem?_eq_getElem (by omega)]; rfl
    rw [cntN, e]
    omega
/-- the sum as the code reckons it: it may wrap beyond 70 nodes -/
def cntW (nodes : List Nod) : Nat → Int
  | 0 => 0
  | k + 1 => wrap64 (wrap64 (cntW nodes k + ((nodes.getD k nod0).kids.length : Int)) + ((nodes.getD k nod0).weights.length : Int))
theorem cntW_eq {x : Xpr} (h : XprRch x) : ∀ k, k ≤ x.nodes.length → k ≤ 70 → cntW x.nodes k = (cntN x.nodes k : Int) := by
  intro k
  induction k with
  | zero => intro _ _; rfl
  | succ k ih =>
    intro hk h70
    have h1 := ih (by omega) (by omega)
    have h3 := cntN_bd h (k + 1) hk
    rw [cntN] at h3
    rw [cntW, cntN, h1]
    unfold wrap64
    omega

set_option maxRecDepth 100000 in
set_option maxHeartbeats 4000000 in
theorem few10_c (x : Xpr) (hr : XprRch x) (a : Option Addr) (n c : Nat) (w : World) (h : XM w a n c x.nodes) :
    Calls Tryz.prog 26 #[.agg #[.slice a n c, .int .i64 x.root]] w fun e w' => e = .returned (.bool (fewX x)) ∧ Below w.heap.size w w' := by
  obtain ⟨W2, hW2⟩ : ∃ W2, W2 = w.alloc (.cells #[.slice a n c, .int .i64 x.root] 32) := ⟨_, rfl⟩
  have hb2 : Below w.heap.size w W2 := by rw [hW2]; exact (Below.refl _ w).alloc (Nat.le_refl _) _
  have g2 : W2.heap[w.heap.size]? = some (.cells #[.slice a n c, .int .i64 x.root] 32 (0, 0)) := by rw [hW2]; exact heap_alloc_new _ _
  have HX := Lib.hid (h.below hb2)
  have HR := Lib.hid hr
  have HN := Lib.hid h.len
  have hle := h.le
  have hm := h.max
  unfold maxLen at hm
  have HB2 := Lib.hid hb2
  have HG2 := Lib.hid g2
  clear h hb2 hr g2
  go_enter Tryz.func26, Tryz.ntmps26
  go_wp2_with fail
  rw [← hW2]
  clear hW2
  go_loopw [3, 4] (fun v i wr => ∃ k : Nat, k ≤ n ∧ i = .int .i64 k ∧ v = .int .i64 (cntW x.nodes k) ∧ Below W2.heap.size W2 wr) (fun _ i _ => n - (intOf i).toNat)
  case atStart => exact ⟨0, Nat.zero_le _, rfl, rfl, Below.refl _ _⟩
  case round =>
    obtain ⟨k, hk, rfl, rfl, hb⟩ := hrel
    obtain ⟨⟨q0, q1⟩, _⟩ := open2 (heap_below hb HG2.out)
    by_cases hlt : k < n
    · obtain ⟨nd, hnd⟩ : ∃ nd, x.nodes[k]? = some nd := ⟨_, List.getElem?_eq_getElem (by have := HN.out; omega)⟩
      obtain ⟨b, o, ha, hat⟩ := (HX.out.below hb).at' (by omega)
      have hM := hat k nd hnd
      obtain ⟨a3, n3, c3, m3, r3⟩ := hM.ws
      obtain ⟨a4, n4, c4, m4, r4⟩ := hM.ks
      have h3 : nd.weights.length = n3 := by have := r3.len; simp at this; omega
      have h4 : nd.kids.length = n4 := by have := r4.len; simp at this; omega
      have hst : cntW x.nodes (k + 1) = wrap64 (wrap64 (cntW x.nodes k + (n4 : Int)) + (n3 : Int)) := by
        rw [cntW, show x.nodes.getD k nod0 = nd by rw [List.getD_eq_getElem?_getD, hnd]; rfl, h3, h4]
      obtain ⟨S, hS⟩ : ∃ S, cntW x.nodes k = S := ⟨_, rfl⟩
      rw [hS] at hst ⊢
      have HST := Lib.hid hst
      have HB := Lib.hid hb
      have q0d : wr.drew.cell? ⟨w.heap.size, 0, none⟩ = some (.slice a n c) := q0
      subst ha
      have m3d : wr.drew.cell? ⟨b, o + k * 5 + 3, none⟩ = some (.slice a3 n3 c3) := m3
      have m4d : wr.drew.cell? ⟨b, o + k * 5 + 4, none⟩ = some (.slice a4 n4 c4) := m4
      clear hM hat hnd hS r3 r4 h3 h4 hst hb
      go_wp2_with fail
      go_region
      all_goals
        go_wp2_with fail
        go_roundw
      case rel => exact ⟨k + 1, by omega, by go_num, by rw [HST.out], below_drew HB.out⟩
      case measure => simp [intOf]; omega
    · obtain rfl : k = n := by omega
      have HV : Hid (fewX x = (decide (k ≤ 70) && decide (cntN x.nodes k ≤ 400))) := Lib.hid (by unfold fewX; rw [HN.out])
      have HE : Hid (k ≤ 70 → cntW x.nodes k = (cntN x.nodes k : Int)) := Lib.hid (fun h => cntW_eq HR.out k (by rw [HN.out]; exact Nat.le_refl _) h)
      obtain ⟨S, hS⟩ : ∃ S, cntW x.nodes k = S := ⟨_, rfl⟩
      rw [hS] at HE ⊢
      by_cases h70 : k ≤ 70
      · have e := HE.out h70
        have d1 : decide ((k : Int) ≤ 70) = true := decide_eq_true (by omega)
        by_cases h4 : S ≤ 400
        · have d2 : decide (S ≤ 400) = true := decide_eq_true h4
          have HF : Hid (fewX x = true) := Lib.hid (by rw [HV.out, decide_eq_true h70, decide_eq_true (show cntN x.nodes k ≤ 400 by omega)]; rfl)
          clear e hS h4 h70
          go_wp2_with fail
          go_ret
          exact ⟨ret_bool HF.out.symm, Below.next HB2.out hb⟩
        · have d2 : decide (S ≤ 400) = false := decide_eq_false h4
          have HF : Hid (fewX x = false) := Lib.hid (by rw [HV.out, decide_eq_false (show ¬ cntN x.nodes k ≤ 400 by omega)]; simp)
          clear e hS h4 h70
          go_wp2_with fail
          go_ret
          exact ⟨ret_bool HF.out.symm, Below.next HB2.out hb⟩
      · have d1 : decide ((k : Int) ≤ 70) = false := decide_eq_false (by omega)
        have HF : Hid (fewX x = false) := Lib.hid (by rw [HV.out, decide_eq_false h70]; rfl)
        clear hS h70
        go_wp2_with fail
        go_ret
        exact ⟨ret_bool HF.out.symm, Below.next HB2.out hb⟩
end Go.Proofs.YtcojmmhclklpoaaGreatDoor
namespace Go.Proofs.YtcojmmhclklpoaaGreatDoor
open Go.RowKit Go.Shelf

theorem cntN_ge {x : Xpr} : ∀ k, k ≤ x.nodes.length → ∀ (j : Nat) nd, j < k → x.nodes[j]? = some nd → nd.kids.length + nd.weights.length ≤ cntN x.nodes k
  | 0, _, j, _, hj, _ => by omega
  | k + 1, hk, j, nd, hj, hn => by
    unfold cntN
    by_cases e : j = k
    · subst e
      rw [List.getD_eq_getElem?_getD, hn]
      simp only [Option.getD_some]
      omega
    · have := cntN_ge k (by omega) j nd (by omega) hn
      omega
theorem few_of {x : Xpr} (h : fewX x = true) : XprFew x := fun k nd hk => by
  unfold fewX at h
  simp only [Bool.and_eq_true, decide_eq_true_eq] at h
  have := cntN_ge x.nodes.length (Nat.le_refl _) k nd (List.getElem?_eq_some_iff.1 hk).1 hk
  omega
theorem sum_of {x : Xpr} (h : XprRch x) : XprSum x := fun k nd hk => by have := h k nd hk; omega
/-- what is written is read back -/
theorem par_txt {T : ET} (h : T.ok) (hz : T.sz ≤ 60) : parX T.txt = (T.xpr, 0) := by
  have hl := txt_60 h hz
  have h1 := pE_txt (full := fl60) numX_rd (fun n hn => by unfold fl60; simp; omega) T h (T.txt.length + 1) [] [] (by omega) nonD_nil (by simp; omega)
  rw [List.append_nil, List.nil_append] at h1
  have h2 := par_ok (by omega) h1 ⟨rfl, by
    have : T.xpr = ⟨T.post 0, (((T.post 0).length - 1 : Nat) : Int)⟩ := by rw [ET.post_len]; rfl
    have hx := xpr_ok h hz
    rw [this] at hx
    exact hx⟩
  rw [h2]
  have : T.xpr = ⟨T.post 0, (((T.post 0).length - 1 : Nat) : Int)⟩ := by rw [ET.post_len]; rfl
  rw [this]
  rfl
theorem fmt_err (x : Xpr) : (fmtX x).2 = (tidS x).2 := by
  unfold fmtX
  split
  · rfl
  · rename_i h; exact (Classical.not_not.1 h).symm
theorem fmt_back {x : Xpr} (h : (tidS x).2 = 0) : parX (fmtX x).1 = ((tidS x).1, 0) := by
  obtain ⟨hx, hz, h1⟩ := tidS_ok h
  unfold fmtX
  rw [if_neg (by rw [h]; simp), h1]
  exact par_txt (treX_ok (xprE_ok hx)) hz

set_option maxRecDepth 100000 in
set_option maxHeartbeats 8000000 in
theorem texts_w (v : Value) (x : Xpr) (w : World) (ht : HasTab w) (hp : HasPow w) (hr : HasRng w) (hy : HasSyn w) (w0 : IsXpr w v x ∧ XprRch x) :
    Calls Tryz.prog 7 #[v] w fun e w' => e = .returned (.bool true) ∧ Below w.heap.size w w' := by
  have HA := Lib.hid (fun u (hb : Below w.heap.size w u) => awake10_c u (ht.below hb) (hp.below hb) (hr.below hb) (hy.below hb))
  obtain ⟨a1, n1, c1, rfl, hx1⟩ := w0.1.val
  have HF1 := Lib.hid (fun u (hb : Below w.heap.size w u) => few10_c x w0.2 a1 n1 c1 u (hx1.below hb))
  have HT := Lib.hid (fun u (hb : Below w.heap.size w u) => tidy_c x a1 n1 c1 u (hx1.below hb))
  have HRT := Lib.hid (fun (hf : fewX x = true) u (hb : Below w.heap.size w u) => rtidy_c x (sum_of w0.2) (few_of hf) a1 n1 c1 u (hx1.below hb))
  have HFM := Lib.hid (fun u (hb : Below w.heap.size w u) => formatx_c x a1 n1 c1 u (hp.below hb) (hx1.below hb))
  have HRF := Lib.hid (fun (hf : fewX x = true) u (hb : Below w.heap.size w u) => rformat_c x (sum_of w0.2) (few_of hf) a1 n1 c1 u (hp.below hb) (hx1.below hb))
  have HBK : Hid ((tidS x).2 = 0 → parX (fmtX x).1 = ((tidS x).1, 0)) := Lib.hid fmt_back
  have hfe := fmt_err x
  have HPR := Lib.hid (fun s u (hb : Below w.heap.size w u) => parse_c s u (hp.below hb) (hr.below hb) (hy.below hb))
  obtain ⟨⟨X, E0⟩, hTD⟩ : ∃ Q, tidS x = Q := ⟨_, rfl⟩
  obtain ⟨⟨S, E⟩, hFX⟩ : ∃ Q, fmtX x = Q := ⟨_, rfl⟩
  rw [hTD] at HT HRT HBK hfe
  rw [hFX] at HFM HRF HBK hfe
  simp only at HT HRT HBK hfe HFM HRF
  subst hfe
  obtain ⟨SB, hSB⟩ : ∃ SB, mkB S = SB := ⟨_, rfl⟩
  have HPS := Lib.hid (HPR.out S)
  rw [hSB] at HFM HRF HPS
  have HSM := Lib.hid (fun a n c a2 n2 c2 u h h2 => same10_c X a n c a2 n2 c2 u h h2)
  obtain ⟨F1, hF1⟩ : ∃ F, fewX x = F := ⟨_, rfl⟩
  rw [hF1] at HF1 HRT HRF
  obtain ⟨NL, hNL⟩ : ∃ NL, X.nodes.length = NL := ⟨_, rfl⟩
  obtain ⟨RR, hRR⟩ : ∃ RR, X.root = RR := ⟨_, rfl⟩
  unfold RetX at HT HRT HPS
  rw [hNL, hRR] at HT HRT
  rw [hRR] at HSM
  obtain ⟨W2, hW2⟩ : ∃ W2, W2 = w.alloc (.cells #[.slice a1 n1 c1, .int .i64 x.root] 32) := ⟨_, rfl⟩
  have hb2 : Below w.heap.size w W2 := by rw [hW2]; exact (Below.refl _ _).alloc (Nat.le_refl _) _
  have g2 : W2.heap[w.heap.size]? = some (.cells #[.slice a1 n1 c1, .int .i64 x.root] 32 (0, 0)) := by rw [hW2]; exact heap_alloc_new _ _
  have HB2 := Lib.hid hb2
  have HK := Lib.hid (fun (u : World) (hu : Below W2.heap.size W2 u) => (open2 (heap_below hu g2)).1)
  have HNL := Lib.hid hNL
  have HRR := Lib.hid hRR
  have hee : (E == E) = true := by simp
  have hen : (E != E) = false := by rw [bne_eq_false_iff_eq]
  clear ht hp hr hy w0 hx1 hb2 g2 hTD hFX hSB hF1 hNL hRR HPR
  go_enter Tryz.func7, Tryz.ntmps7
  go_wp2_with fail
  rw [← hW2]
  with_reducible refine (HA.out W2 HB2.out).mono ?_
  rintro e w1 ⟨rfl, b1⟩
  obtain ⟨k0, k1⟩ := HK.out w1 b1
  have HB1 := Lib.hid (Below.next HB2.out b1)
  have HK1 := Lib.hid b1
  clear b1 hW2
  go_wp2_with fail
  with_reducible refine (HF1.out w1 HB1.out).mono ?_
  rintro e w3 ⟨rfl, b3⟩
  have HB3 := Lib.hid (Below.next HB1.out b3)
  have HK3 := Lib.hid (Below.next HK1.out b3)
  obtain ⟨k0, k1⟩ := HK.out w3 HK3.out
  clear b3
  cases F1
  · go_wp2_with fail
    with_reducible refine (HA.out w3 HB3.out).mono ?_
    rintro e w4 ⟨rfl, b4⟩
    have HB4 := Lib.hid (Below.next HB3.out b4)
    clear b4
    go_wp2_with fail
    go_ret
    exact ⟨rfl, HB4.out⟩
  go_wp2_with fail
  with_reducible refine (HT.out w3 HB3.out).mono ?_
  rintro e w4 ⟨a4, c4, rfl, x4, b4⟩
  obtain ⟨W5, hW5⟩ : ∃ W5, W5 = w4.alloc (.cells #[.slice a4 NL c4, .int .i64 RR] 32) := ⟨_, rfl⟩
  have b5 : Below w4.heap.size w4 W5 := by rw [hW5]; exact (Below.refl _ _).alloc (Nat.le_refl _) _
  have g5 : W5.heap[w4.heap.size]? = some (.cells #[.slice a4 NL c4, .int .i64 RR] 32 (0, 0)) := by rw [hW5]; exact heap_alloc_new _ _
  have HB5 := Lib.hid (Below.next HB3.out (Below.next b4 b5))
  have HK5 := Lib.hid (Below.next HK3.out (Below.next b4 b5))
  have HX5 := Lib.hid (x4.xm.below b5)
  have HKA := Lib.hid (fun (u : World) (hu : Below W5.heap.size W5 u) => (open2 (heap_below hu g5)).1)
  obtain ⟨k0, k1⟩ := HK.out W5 HK5.out
  rw [hW5] at k0 k1
  clear b4 b5 g5 x4 HT
  go_wp2_with fail
  rw [← hW5]
  clear hW5 k0 k1
  with_reducible refine (HRT.out trivial W5 HB5.out).mono ?_
  rintro e w6 ⟨a6, c6, rfl, x6, b6⟩
  obtain ⟨W7, hW7⟩ : ∃ W7, W7 = w6.alloc (.cells #[.slice a6 NL c6, .int .i64 RR] 32) := ⟨_, rfl⟩
  have b7 : Below w6.heap.size w6 W7 := by rw [hW7]; exact (Below.refl _ _).alloc (Nat.le_refl _) _
  have g7 : W7.heap[w6.heap.size]? = some (.cells #[.slice a6 NL c6, .int .i64 RR] 32 (0, 0)) := by rw [hW7]; exact heap_alloc_new _ _
  have b67 := Below.next b6 b7
  have HB7 := Lib.hid (Below.next HB5.out b67)
  have HK7 := Lib.hid (Below.next HK5.out b67)
  have HX7 := Lib.hid (HX5.out.below b67)
  have HY7 := Lib.hid (x6.xm.below b7)
  have HKX := Lib.hid (fun (u : World) (hu : Below W7.heap.size W7 u) => HKA.out u (Below.next b67 hu))
  have HKY := Lib.hid (fun (u : World) (hu : Below W7.heap.size W7 u) => (open2 (heap_below hu g7)).1)
  obtain ⟨k0, k1⟩ := HK.out W7 HK7.out
  rw [hW7] at k0 k1
  clear b6 b7 b67 g7 x6 HRT HKA HX5
  go_wp2_with fail
  rw [← hW7]
  clear hW7 k0 k1
  with_reducible refine (HFM.out W7 HB7.out).mono ?_
  rintro e w8 ⟨rfl, b8⟩
  have HB8 := Lib.hid (Below.next HB7.out b8)
  have HK8 := Lib.hid b8
  obtain ⟨k0, k1⟩ := HK.out w8 (Below.next HK7.out b8)
  clear b8
  go_wp2_with fail
  clear k0 k1
  with_reducible refine (HRF.out trivial w8 HB8.out).mono ?_
  rintro e w9 ⟨rfl, b9⟩
  have HB9 := Lib.hid (Below.next HB8.out b9)
  have HK9 := Lib.hid (Below.next HK8.out b9)
  have HS9 := Lib.hid (HSM.out a4 NL c4 a6 NL c6 w9 (HX7.out.below HK9.out) (HY7.out.below HK9.out))
  obtain ⟨k0, k1⟩ := HKX.out w9 HK9.out
  obtain ⟨l0, l1⟩ := HKY.out w9 HK9.out
  clear b9
  go_wp2_with fail
  clear k0 k1 l0 l1
  with_reducible refine HS9.out.mono ?_
  rintro e w10 ⟨rfl, b10⟩
  have HB10 := Lib.hid (Below.next HB9.out b10)
  have HK10 := Lib.hid (Below.next HK9.out b10)
  have HS10 := Lib.hid (HSM.out a4 NL c4 a6 NL c6 w10 (HX7.out.below HK10.out) (HY7.out.below HK10.out))
  obtain ⟨k0, k1⟩ := HKX.out w10 HK10.out
  obtain ⟨l0, l1⟩ := HKY.out w10 HK10.out
  clear b10 HS9
  by_cases hE : E = 0
  · subst hE
    have hpb := HBK.out rfl
    rw [hpb] at HPS
    simp only [HNL.out, HRR.out] at HPS
    clear hpb hee hen
    go_wp2_with fail
    clear k0 k1 l0 l1
    with_reducible refine (HPS.out w10 HB10.out).mono ?_
    rintro e w11 ⟨a11, c11, rfl, x11, b11⟩
    obtain ⟨W12, hW12⟩ : ∃ W12, W12 = w11.alloc (.cells #[.slice a11 NL c11, .int .i64 RR] 32) := ⟨_, rfl⟩
    have b12 : Below w11.heap.size w11 W12 := by rw [hW12]; exact (Below.refl _ _).alloc (Nat.le_refl _) _
    have b1112 := Below.next b11 b12
    have HK12 := Lib.hid (Below.next HK10.out b1112)
    have HB12 := Lib.hid (Below.next HB10.out b1112)
    have HS12 := Lib.hid (HSM.out a11 NL c11 a4 NL c4 W12 (x11.xm.below b12) (HX7.out.below HK12.out))
    obtain ⟨k0, k1⟩ := HKX.out W12 HK12.out
    rw [hW12] at k0 k1
    clear b11 b12 b1112 x11 HPS
    go_wp2_with fail
    rw [← hW12]
    with_reducible refine HS12.out.mono ?_
    rintro e w13 ⟨rfl, b13⟩
    have HB13 := Lib.hid (Below.next HB12.out b13)
    clear b13 k0 k1 hW12
    go_wp2_with fail
    go_ret
    exact ⟨rfl, HB13.out⟩
  · have hne : (E != 0) = true := by simpa using hE
    have hnz : (E == 0) = false := by simpa using hE
    go_wp2_with fail
    clear k0 k1 l0 l1
    with_reducible refine HS10.out.mono ?_
    rintro e w11 ⟨rfl, b11⟩
    have HB11 := Lib.hid (Below.next HB10.out b11)
    clear b11
    go_wp2_with fail
    go_ret
    exact ⟨rfl, HB11.out⟩
end Go.Proofs.YtcojmmhclklpoaaGreatDoor
namespace Go.Proofs.YtcojmmhclklpoaaGreatDoor

def Rk (a b : BitVec 16) : Prop := keyS a < keyS b
def Rs (a b : BitVec 16) : Prop := keyS a < keyS b ∧ subB b a = false

theorem subs_asc (x : BitVec 16) : (subsS x).Pairwise Rk := by
  rw [subsM_dep, List.pairwise_flatMap]
  have hc : ∀ (k : Int) (n : Nat), n ∈ numsTo k (2 ^ cnt x) → n < 2 ^ cnt x ∧ ((cnt (dep (memS x) n) : Nat) : Int) = k := by
    intro k n hn
    have h1 := List.mem_filter.1 hn
    have h2 := List.mem_range.1 h1.1
    refine ⟨h2, ?_⟩
    rw [cnt_dep (memS x) (memS_16 x) (memS_sorted x) n]
    have h3 := eq_of_beq h1.2
    rw [popR_32 x n h2] at h3
    exact h3
  refine ⟨fun k _ => ?_, ?_⟩
  · rw [List.pairwise_map]
    refine List.Pairwise.imp_of_mem (fun {a b} ha hb hab => ?_) (numsTo_sorted (k : Int) (2 ^ cnt x))
    have hA := hc _ _ ha
    have hB := hc _ _ hb
    have := dep_mono (memS x) (memS_16 x) (memS_sorted x) a b hab hB.1
    unfold Rk keyS; omega
  · refine List.Pairwise.imp (fun {a b} hab s hs t ht => ?_) List.pairwise_lt_range
    obtain ⟨n, hn, rfl⟩ := List.mem_map.1 hs
    obtain ⟨m, hm, rfl⟩ := List.mem_map.1 ht
    have hA := hc _ _ hn
    have hB := hc _ _ hm
    unfold Rk keyS
    have := (dep (memS x) n).isLt
    omega
theorem famFold_good (x : Xpr) : ∀ (l o : List (BitVec 16)), l.Pairwise Rk → o.Pairwise Rs → (∀ a ∈ o, ∀ b ∈ l, keyS a < keyS b) → (l.foldl (famStep x) o).Pairwise Rs := by
  intro l
  induction l with
  | nil => intro o _ h2 _; exact h2
  | cons y l ih =>
    intro o h1 h2 h3
    rw [List.pairwise_cons] at h1
    rw [List.foldl_cons]
    have hsame : (l.foldl (famStep x) o).Pairwise Rs := ih o h1.2 h2 fun a ha b hb => h3 a ha b (List.mem_cons_of_mem _ hb)
    cases ha : accS o y
    · cases hh : holdX x y
      · have e : famStep x o y = o := by unfold famStep; rw [ha, hh]; simp
        rw [e]; exact hsame
      · have e : famStep x o y = o ++ [y] := by unfold famStep; rw [ha, hh]; simp
        rw [e]
        refine ih _ h1.2 ?_ ?_
        · rw [List.pairwise_append]
          refine ⟨h2, List.pairwise_singleton _ _, fun a ham b hb => ?_⟩
          rw [List.mem_singleton] at hb; subst hb
          refine ⟨h3 a ham b (List.mem_cons_self ..), ?_⟩
          cases hs : subB b a
          · rfl
          · have : accS o b = true := List.any_eq_true.2 ⟨a, ham, hs⟩
            rw [ha] at this; cases this
        · intro a ham b hb
          rcases List.mem_append.1 ham with h | h
          · exact h3 a h b (List.mem_cons_of_mem _ hb)
          · rw [List.mem_singleton] at h; subst h; exact h1.1 b hb
    · have e : famStep x o y = o := by unfold famStep; rw [ha]; simp
      rw [e]; exact hsame
theorem famS_good (x : Xpr) : (famS x).Pairwise Rs := famFold_good x _ [] (subs_asc _) List.Pairwise.nil (by simp)
theorem key_sub {a b : BitVec 16} (h : subB a b = true) : keyS b ≤ keyS a := by
  rcases Nat.lt_or_ge (cnt b) (cnt a) with hc | hc
  · unfold keyS; have := b.isLt; omega
  · rw [sub_eq h hc]; exact Nat.le_refl _
theorem good_eq {l : List (BitVec 16)} (hl : l.Pairwise Rs) {a b : BitVec 16} (ha : a ∈ l) (hb : b ∈ l) (h : subB a b = true) : a = b := by
  obtain ⟨i, hi, rfl⟩ := List.mem_iff_getElem.1 ha
  obtain ⟨j, hj, rfl⟩ := List.mem_iff_getElem.1 hb
  rcases Nat.lt_trichotomy i j with hij | rfl | hij
  · have h1 := (List.pairwise_iff_getElem.1 hl i j hi hj hij).1
    have := key_sub h
    omega
  · rfl
  · have h1 := (List.pairwise_iff_getElem.1 hl j i hj hi hij).2
    rw [h] at h1; cases h1
theorem good_sub {l m : List (BitVec 16)} (hl : l.Pairwise Rs) (h : ∀ s, accS l s = accS m s) : ∀ f ∈ l, f ∈ m := by
  intro f hf
  have h1 : accS l f = true := List.any_eq_true.2 ⟨f, hf, (subB_iff f f).2 fun _ h => h⟩
  rw [h] at h1
  obtain ⟨g, hg, hgf⟩ := List.any_eq_true.1 h1
  have h2 : accS m g = true := List.any_eq_true.2 ⟨g, hg, (subB_iff g g).2 fun _ h => h⟩
  rw [← h] at h2
  obtain ⟨f', hf', hfg⟩ := List.any_eq_true.1 h2
  have e : f = f' := good_eq hl hf hf' ((subB_iff _ _).2 fun i hi => (subB_iff _ _).1 hgf i ((subB_iff _ _).1 hfg i hi))
  subst e
  have : f = g := sub_eq hgf (by have := sub_cnt hfg; exact this)
  rw [this]; exact hg
/-- two lists in order, of which no set contains another: the same sets are accepted only if they are equal -/
theorem good_ext {l m : List (BitVec 16)} (hl : l.Pairwise Rs) (hm : m.Pairwise Rs) (h : ∀ s, accS l s = accS m s) : l = m :=
  ext_sorted keyS l m (hl.imp fun h => h.1) (hm.imp fun h => h.1) fun y => ⟨good_sub hl h y, good_sub hm (fun s => (h s).symm) y⟩
theorem valS_good {l : List (BitVec 16)} (h : valS l = 0) : l.Pairwise Rs := by
  obtain ⟨_, h1, h2⟩ := valS_ok h
  rw [List.pairwise_iff_getElem]
  intro i j hi hj hij
  have hm := sorted_mono h1 i j hij hj
  rw [getD_at hi, getD_at hj] at hm
  refine ⟨hm, ?_⟩
  cases hs : subB l[j] l[i]
  · rfl
  · have := (overB_iff l).2 ⟨j, i, hj, hij, by rw [getD_at hi, getD_at hj]; exact hs⟩
    rw [h2] at this; cases this

/-- do the same sets satisfy both -/
def eqvB (x y : Xpr) : Bool := (subsS (srvX x ||| srvX y)).all fun s => holdX x s == holdX y s
def eqvE (x y : Xpr) : Bool × Int := if xprE x ≠ 0 then (false, xprE x) else if xprE y ≠ 0 then (false, xprE y) else (eqvB x y, 0)
theorem eqv_iff {x y : Xpr} (hx : XprOk x) (hy : XprOk y) : eqvB x y = true ↔ ∀ s, holdX x s = holdX y s := by
  unfold eqvB
  rw [List.all_eq_true]
  constructor
  · intro h s
    have h1 := h (s &&& (srvX x ||| srvX y)) (mem_subs fun p hp => by rw [hasB_and, Bool.and_eq_true] at hp; exact hp.2)
    have e1 : holdX x (s &&& (srvX x ||| srvX y)) = holdX x s := holdX_only hx fun p hp => by rw [hasB_and, hasB_or, hp, Bool.true_or, Bool.and_true]
    have e2 : holdX y (s &&& (srvX x ||| srvX y)) = holdX y s := holdX_only hy fun p hp => by rw [hasB_and, hasB_or, hp, Bool.or_true, Bool.and_true]
    rw [e1, e2] at h1
    exact eq_of_beq h1
  · intro h s _
    rw [h s]; simp
theorem eqv_fam {x y : Xpr} (hx : XprOk x) (hy : XprOk y) : eqvB x y = decide (famS x = famS y) := by
  rw [Bool.eq_iff_iff, eqv_iff hx hy, decide_eq_true_iff]
  constructor
  · intro h
    exact good_ext (famS_good x) (famS_good y) fun s => by rw [famS_holds hx, famS_holds hy, h s]
  · intro h s
    rw [← famS_holds hx, ← famS_holds hy, h]
end Go.Proofs.YtcojmmhclklpoaaGreatDoor
namespace Go.Proofs.YtcojmmhclklpoaaGreatDoor
open Go.RowKit
section
variable {F : Fence} {d : Nat} {P : Program} {ops : Array Oper} {md : Region.Mode} {C : World → Prop}

def noDefer (ops : Array Oper) : Bool := ops.all fun o => match o.op with | .defer _ => false | _ => true
theorem noDefer_at {ops : Array Oper} (h : noDefer ops = true) {i : Nat} {o : Oper} (hi : ops[i]? = some o) : ∀ c, o.op ≠ .defer c := fun c hc => by
  unfold noDefer at h
  obtain ⟨hlt, e⟩ := Array.getElem?_eq_some_iff.1 hi
  have := Array.all_eq_true.1 h i hlt
  rw [e, hc] at this
  cases this
theorem wpIn_of_quiet_r {o : Oper} {a : Act} {K : Act → Prop} {K' : Act → World → Prop} {Q' : Exit → Act → World → Prop} {w : World} (hnd : ∀ c, o.op ≠ .defer c) (hw : C w) (h : ∀ a w', C w' → K a → K' a w')
    (ha : o.askedIn F P a C) (hh : o.quietIn F d P a C K) : o.wpIn F d P a w K' Q' := by
  obtain ⟨v, h1, h2⟩ := hh
  have h3 := h1 w hw
  unfold Oper.quietAtIn at h3
  unfold Oper.wpIn
  refine ⟨ha w hw, ?_⟩
  rw [Oper.semAt_plain F _ _ hnd]
  generalize (execOp a.eval o).run P w = r at *
  cases r with
  | ok x w' =>
    cases x <;> simp only [Oper.quietUponIn] at h3 <;> simp only [Oper.uponIn]
    case value u =>
      obtain ⟨e1, e2⟩ := h3
      rw [e1, e2]
      exact h _ _ hw h2
    case skip =>
      obtain ⟨e1, e2⟩ := h3
      rw [e1, ← e2]
      exact h _ _ hw h2
    case enter f args =>
      obtain ⟨e1, hd, hc⟩ := h3
      rw [e1]
      exact ⟨hd, hc.mono fun e w'' ⟨he, hw''⟩ => by subst he; exact h _ _ hw'' h2⟩
  | halt x w' => simp only [Oper.quietUponIn] at h3
theorem wpOpIn_of_qOpIn_r {i : Nat} {a : Act} {K : Act → Prop} {K' : Act → World → Prop} {Q' : Exit → Act → World → Prop} {w : World} (hnd : noDefer ops = true) (hC : C w) (h : ∀ a w', C w' → K a → K' a w')
    (hh : qOpIn F d P ops C i K a) : wpOpIn F d P ops Q' i K' a w := by
  unfold qOpIn at hh
  unfold wpOpIn
  split
  · rename_i ho; simp only [ho] at hh; exact h _ _ hC hh
  · rename_i o ho
    simp only [ho] at hh
    obtain ⟨ha, hh⟩ := hh
    split
    · rename_i hw; simp only [hw, if_true] at hh; exact wpIn_of_quiet_r (noDefer_at hnd ho) hC h ha hh
    · rename_i hw; simp only [hw] at hh; exact ⟨ha w hC, h _ _ hC hh⟩
theorem wpAnyIn_of_quiet_r {Q : Act → Prop} {Q' : Exit → Act → World → Prop} (hnd : noDefer ops = true) (hQ : ∀ a w, C w → Q a → Q' .normal a w) : ∀ (fuel : Nat) (listed : Array Bool) (a : Act) (w : World), C w →
    wpAnyQIn F d P md ops C Q fuel listed a → wpAnyIn F d P md ops Q' fuel listed a w
  | 0, _, _, _, hw, h => ⟨h.1, hQ _ _ hw h.2⟩
  | fuel + 1, _, _, _, hw, h => ⟨fun h0 => hQ _ _ hw (h.1 h0), fun i hi => wpOpIn_of_qOpIn_r hnd hw (fun a' w' hw' => wpAnyIn_of_quiet_r hnd hQ fuel _ a' w' hw') (h.2 i hi)⟩
/-- one walk of the order of the text serves every order, in a round too -/
theorem wpIn_region_quiet_r {id : Nat} {Q : Exit → Act → World → Prop} {a : Act} {w : World} {l : List Oper} (C : World → Prop) (hm : P.follows .mixedOrders = true) (hB : (noDefer l.toArray && Region.lexB .any l.toArray) = true) (hC : C { w with drawn := w.drawn + 1 })
    (h : wpQuietIn F d P l.toArray C (fun a' => ∀ w', C w' → Q .normal a' w') l a) : (Code.region id l.toArray true).wpIn F d P Q a w := by
  simp only [Region.lexB, Bool.and_eq_true] at hB
  refine wpIn_region_any hm (wpAnyIn_of_quiet_r (Q := fun a' => ∀ w', C w' → Q .normal a' w') hB.1 (fun _ w' hw' h => h w' hw') _ _ _ _ hC ?_)
  have := wpAnyQIn_lex (F := F) (n := d) (C := C) (md := .any) hB.2.1 l 0 (Array.replicate l.length false) a (by simp) (by simpa using hB.2.2) h
  simpa using this

def headQIn (F : Fence) (d : Nat) (P : Program) (md : Region.Mode) (ops : Array Oper) (C : World → Prop) (n : Nat) (L : Array Bool → Act → Prop) : Nat → Array Bool → Act → Prop
  | 0, listed, a => L listed a
  | f + 1, listed, a => Region.ready md ops listed ≠ [] ∧ ∀ i ∈ Region.ready md ops listed, i < n ∧ qOpIn F d P ops C i (headQIn F d P md ops C n L f (listed.setIfInBounds i true)) a

theorem any_of_headQIn {n g : Nat} {L : Array Bool → Act → Prop} {Q' : Exit → Act → World → Prop} (hnd : noDefer ops = true) (hL : ∀ listed a w, C w → L listed a → wpAnyIn F d P md ops Q' g listed a w) :
    ∀ (f : Nat) (listed : Array Bool) (a : Act) (w : World), C w → headQIn F d P md ops C n L f listed a → wpAnyIn F d P md ops Q' (f + g) listed a w
  | 0, listed, a, w, hw, h => by rw [Nat.zero_add]; exact hL _ _ _ hw h
  | f + 1, listed, a, w, hw, h => by
    rw [show f + 1 + g = (f + g) + 1 by omega]
    exact ⟨fun h0 => absurd h0 h.1, fun i hi => wpOpIn_of_qOpIn_r hnd hw (fun a' w' hw' h' => any_of_headQIn hnd hL f _ a' w' hw' h') (h.2 i hi).2⟩

theorem headQIn_first {n i : Nat} {oi : Oper} {v : Value} {L : Array Bool → Act → Prop} (hi : ops[i]? = some oi) (hsel : ∀ (j : Nat) (o : Oper) cs b, ops[j]? = some o → o.op ≠ .select cs b)
    (hs : Region.sinkB md ops n = true) (hc : Region.chainB md ops n = true) (hn : n < ops.size) (hin : i < n)
    (hdone : ∀ listed a, L listed a → ∀ j ∈ Region.ready md ops listed, n ≤ j) :
    ∀ (f : Nat) (listed : Array Bool) (a : Act), HeadInv md ops n listed →
      (∀ j oj, ops[j]? = some oj → j ≠ i → listed.getD j true = false → (∀ e ∈ oj.after, Region.binds md e = true → e.on ≠ i) → oi.apart ops oj = true) →
      i ∈ Region.ready md ops listed → YieldsQuiet F d P ops C oi v a →
      headQIn F d P md ops C n L f (listed.setIfInBounds i true) (a.put oi.dst v) → headQIn F d P md ops C n L (f + 1) listed a := by
  intro f
  induction f with
  | zero =>
    intro listed a inv _ hr hy H
    have hun := (mem_ready.1 hr).1
    refine ⟨fun h => (by rw [h] at hr; cases hr), fun j hj => ?_⟩
    have hjn : j < n := by
      rcases Nat.lt_or_ge j n with h | h
      · exact h
      · exact absurd hj (tail_waits hs hc hn inv _ i rfl hin hun j h)
    refine ⟨hjn, ?_⟩
    by_cases hji : j = i
    · subst hji; exact hy.qOpIn hi H
    · have := hdone _ _ H j (ready_mono hj hji)
      omega
  | succ f ih =>
    intro listed a inv hfree hr hy H
    have hun := (mem_ready.1 hr).1
    refine ⟨fun h => (by rw [h] at hr; cases hr), fun j hj => ?_⟩
    have hjn : j < n := by
      rcases Nat.lt_or_ge j n with h | h
      · exact h
      · exact absurd hj (tail_waits hs hc hn inv _ i rfl hin hun j h)
    refine ⟨hjn, ?_⟩
    by_cases hji : j = i
    · subst hji; exact hy.qOpIn hi H
    · have h1 := (H.2 j (ready_mono hj hji)).2
      obtain ⟨hjun, oj, hoj, hall⟩ := mem_ready.1 hj
      have hnot : ∀ e ∈ oj.after, Region.binds md e = true → e.on ≠ i := fun e he hb heq => by
        have h1 := hall e he hb
        rw [heq, getD_both hun] at h1
        cases h1
      have h2 := qOpIn_put hoj (hfree j oj hoj hji hjun hnot) (fun cs b => hsel i oi cs b hi) (fun cs b => hsel j oj cs b hoj) hy h1
      have hfree' : ∀ k ok, ops[k]? = some ok → k ≠ i → (listed.setIfInBounds j true).getD k true = false →
          (∀ e ∈ ok.after, Region.binds md e = true → e.on ≠ i) → oi.apart ops ok = true := fun k ok hk hki hun hno => by
        refine hfree k ok hk hki ?_ hno
        by_cases hjk : j = k
        · subst hjk; exact hjun
        · rw [getD_set_ne true hjk] at hun; exact hun
      refine qOpIn_mono (fun a' h3 => ih (listed.setIfInBounds j true) a' (inv.set hj hjn) hfree' (ready_mono hr (Ne.symm hji)) h3.1 ?_) h2
      rw [Array.setIfInBounds_comm _ _ hji]
      exact h3.2

theorem headQIn_lex {n g : Nat} {Lq : Act → Prop} (hsel : Region.noSelect ops = true) (hs : Region.sinkB md ops n = true) (hc : Region.chainB md ops n = true) (hn : n < ops.size) :
    ∀ (l : List Oper) (k : Nat) (listed : Array Bool) (a : Act), (∀ j, j < l.length → l[j]? = ops[k + j]?) → k + l.length = n → HeadInv md ops n listed →
    Region.lexHead md ops g l.length k listed = true → wpQuietIn F d P ops C Lq l a →
    headQIn F d P md ops C n (fun listed' a' => Region.seqB md ops g n listed' = true ∧ Lq a') l.length listed a
  | [], k, listed, a, _, hk, _, hB, h => by
    have : k = n := by simpa using hk
    subst this
    exact ⟨by simpa [Region.lexHead] using hB, h⟩
  | o :: l, k, listed, a, hl, hk, inv, hB, h => by
    have h0 : ops[k]? = some o := by simpa using (hl 0 (by simp)).symm
    simp only [List.length_cons, Region.lexHead, Bool.and_eq_true] at hB
    obtain ⟨⟨hr, hf⟩, hB'⟩ := hB
    have hkn : k < n := by simp only [List.length_cons] at hk; omega
    have hr' : k ∈ Region.ready md ops listed := by simpa using hr
    have hst : qOpIn F d P ops C k (wpQuietIn F d P ops C Lq l) a := by unfold qOpIn; simp only [h0]; exact h
    obtain ⟨v, hy, hK⟩ := yieldsQuiet_of_qOpIn h0 hst
    exact headQIn_first h0 (Region.noSelect_spec hsel) hs hc hn hkn (fun listed' a' hL => seqB_ready hL.1) l.length listed a inv (Region.free_spec h0 hf) hr' hy
      (headQIn_lex hsel hs hc hn l (k + 1) _ _ (fun j hj => by have := hl (j + 1) (by simp; omega); simpa [Nat.add_assoc, Nat.add_comm 1 j] using this) (by simp only [List.length_cons] at hk; omega) (inv.set hr' hkn) hB' hK)

theorem wpAnyIn_of_seq {Q' : Exit → Act → World → Prop} : ∀ (l : List Oper) (k : Nat) (listed : Array Bool) (a : Act) (w : World), (∀ j, l[j]? = ops[k + j]?) →
    Region.seqB md ops l.length k listed = true → wpListIn F d P ops Q' l a w → wpAnyIn F d P md ops Q' l.length listed a w
  | [], _, _, _, _, _, hB, h => ⟨by simpa [Region.seqB] using hB, h⟩
  | o :: l, k, listed, a, w, hl, hB, h => by
    have h0 : ops[k]? = some o := by simpa using (hl 0).symm
    simp only [List.length_cons, Region.seqB, Bool.and_eq_true, decide_eq_true_eq] at hB
    refine ⟨fun h1 => (by rw [hB.1] at h1; cases h1), fun i hi => ?_⟩
    rw [hB.1] at hi
    have hik : i = k := by simpa using hi
    subst hik
    have hw : wpOpIn F d P ops Q' i (wpListIn F d P ops Q' l) a w := by unfold wpOpIn; simp only [h0]; exact h
    exact wpOpIn_mono (fun a' w' h' => wpAnyIn_of_seq l (i + 1) _ a' w' (fun j => by have := hl (j + 1); simpa [Nat.add_assoc, Nat.add_comm 1 j] using this) hB.2 h') hw
/-- one walk in the order of the text serves every order; the tail stands behind, in any world of the class -/
theorem wpIn_region_quiet_tail {id : Nat} {Q : Exit → Act → World → Prop} {a : Act} {w : World} {l : List Oper} (C : World → Prop) (n : Nat) (hm : P.follows .mixedOrders = true) (hB : (noDefer l.toArray && Region.lexTailB .any l.toArray n) = true) (hC : C { w with drawn := w.drawn + 1 })
    (h : wpQuietIn F d P l.toArray C (fun a' => ∀ w', C w' → wpListIn F d P l.toArray Q (l.drop n) a' w') (l.take n) a) : (Code.region id l.toArray true).wpIn F d P Q a w := by
  simp only [Region.lexTailB, Bool.and_eq_true, decide_eq_true_eq] at hB
  obtain ⟨hnd, ⟨⟨⟨hsel, hn⟩, hs⟩, hc⟩, hlex⟩ := hB
  have hn' : n < l.length := by simpa using hn
  have htl : (l.take n).length = n := by simp; omega
  have hdl : (l.drop n).length = l.toArray.size - n := by simp
  have inv0 : HeadInv .any l.toArray n (Array.replicate l.toArray.size false) :=
    ⟨by simp, fun j oj _ hl => (by rw [getD_replicate_false] at hl; cases hl), fun t _ ht => getD_in (by simpa using ht) (getD_replicate_false _ _)⟩
  have H := headQIn_lex (md := .any) (C := C) (g := l.toArray.size - n) hsel hs hc hn (l.take n) 0 _ a (fun j hj => by
    have hj' : j < n := by rw [htl] at hj; exact hj
    simp [hj']) (by simpa using htl) inv0 (by rw [htl]; exact hlex) h
  refine wpIn_region_any hm ?_
  have := any_of_headQIn (Q' := Q) (g := l.toArray.size - n) hnd (fun listed a' w' hw' hL => by
    have := wpAnyIn_of_seq (md := .any) (Q' := Q) (l.drop n) n listed a' w' (fun j => by simp [List.getElem?_drop]) (by rw [hdl]; exact hL.1) (hL.2 w' hw')
    rwa [hdl] at this) _ _ _ _ hC H
  rw [htl, show n + (l.toArray.size - n) = l.toArray.size by omega] at this
  exact this
end
end Go.Proofs.YtcojmmhclklpoaaGreatDoor
namespace Go.Proofs.YtcojmmhclklpoaaGreatDoor
open Go.RowKit Go.Shelf
attribute [local go_sem] Oper.semAt_some
attribute [local simp] wide_fnx

theorem box5 {w W5 : World} {c0 c1 c2 c3 c4 : Array Value} {t0 t1 t2 t3 t4 : TypeId} (h : ((((w.alloc (.cells c0 t0)).alloc (.cells c1 t1)).alloc (.cells c2 t2)).alloc (.cells c3 t3)).alloc (.cells c4 t4) = W5) :
    W5.heap[w.heap.size]? = some (.cells c0 t0 (0, 0)) ∧ W5.heap[w.heap.size + 1]? = some (.cells c1 t1 (0, 0)) ∧ W5.heap[w.heap.size + 1 + 1]? = some (.cells c2 t2 (0, 0)) ∧ W5.heap[w.heap.size + 1 + 1 + 1]? = some (.cells c3 t3 (0, 0)) ∧ W5.heap[w.heap.size + 1 + 1 + 1 + 1]? = some (.cells c4 t4 (0, 0)) ∧ Below w.heap.size w W5 ∧ W5.heap.size = w.heap.size + 5 := by
  obtain ⟨W3, hW3⟩ : ∃ W3, ((w.alloc (.cells c0 t0)).alloc (.cells c1 t1)).alloc (.cells c2 t2) = W3 := ⟨_, rfl⟩
  rw [hW3] at h
  obtain ⟨g0, g1, g2, hb, hs⟩ := box3 hW3
  obtain ⟨g3, g4, hb2, hs2⟩ := box2' h
  have e : w.heap.size + 1 + 1 + 1 = W3.heap.size := by omega
  rw [e]
  exact ⟨heap_below hb2 g0, heap_below hb2 g1, heap_below hb2 g2, g3, g4, hb.trans (hb2.mono (by omega)), by omega⟩
theorem fin2 {w w4 WF : World} {R E : Nat} {p u q z : Value} {t t' : TypeId} (hR : w4.heap[R]? = some (.cells #[p] t (0, 0))) (hE : w4.heap[E]? = some (.cells #[q] t' (0, 0))) (hne : R ≠ E) (hRb : w.heap.size ≤ R) (hEb : w.heap.size ≤ E) (hb : Below w.heap.size w w4) (hW : (w4.setCell ⟨R, 0, none⟩ u).setCell ⟨E, 0, none⟩ z = WF) :
    WF.heap[R]? = some (.cells #[u] t (0, 0)) ∧ WF.heap[E]? = some (.cells #[z] t' (0, 0)) ∧ Below w.heap.size w WF ∧ (∀ g, g ≠ R → g ≠ E → WF.heap[g]? = w4.heap[g]?) ∧ WF.heap.size = w4.heap.size := by
  subst hW
  have h1 : (w4.setCell ⟨R, 0, none⟩ u).heap[R]? = some (.cells #[u] t (0, 0)) := by rw [heap_set_at hR]; rfl
  have h2 : (w4.setCell ⟨R, 0, none⟩ u).heap[E]? = some (.cells #[q] t' (0, 0)) := heap_set_other (Ne.symm hne) _ _ hE
  refine ⟨heap_set_other hne _ _ h1, by rw [heap_set_at h2]; rfl, (hb.setCell (p := ⟨R, 0, none⟩) hRb _).setCell (p := ⟨E, 0, none⟩) hEb _, fun g h3 h4 => ?_, by simp⟩
  rw [Below.heap_setCell _ ⟨E, 0, none⟩ _ g h4, Below.heap_setCell _ ⟨R, 0, none⟩ _ g h3]
set_option maxRecDepth 100000 in
set_option maxHeartbeats 8000000 in
theorem equiv_in (x y : Xpr) (hfx : XprFew x) (hfy : XprFew y) (a : Option Addr) (n c : Nat) (a2 : Option Addr) (n2 c2 : Nat) (w : World) (ht : HasTab w) (h : XM w a n c x.nodes) (h2 : XM w a2 n2 c2 y.nodes) :
    CallsIn Fence.wide 5 Tryz.prog 37 #[.agg #[.slice a n c, .int .i64 x.root], .agg #[.slice a2 n2 c2, .int .i64 y.root]] w fun e w' => e = .returned (.tuple #[.bool (eqvE x y).1, .int .i64 (eqvE x y).2]) ∧ Below w.heap.size w w' := by
  have HT := Lib.hid ht
  have HX := Lib.hid (fun (u : World) (hb : Below w.heap.size w u) => xpr_c x a n c u (h.below hb))
  have HY := Lib.hid (fun (u : World) (hb : Below w.heap.size w u) => xpr_c y a2 n2 c2 u (h2.below hb))
  have HSX := Lib.hid (fun (hx : XprOk x) (u : World) (hb : Below w.heap.size w u) => servers_x x hx a n c u (h.below hb))
  have HSY := Lib.hid (fun (hx : XprOk y) (u : World) (hb : Below w.heap.size w u) => servers_x y hx a2 n2 c2 u (h2.below hb))
  have HHX := Lib.hid (fun (hx : XprOk x) (s : BitVec 16) (u : World) (hb : Below w.heap.size w u) => holds_c x hx hfx s a n c u (h.below hb))
  have HHY := Lib.hid (fun (hx : XprOk y) (s : BitVec 16) (u : World) (hb : Below w.heap.size w u) => holds_c y hx hfy s a2 n2 c2 u (h2.below hb))
  have HOX : Hid (xprE x = 0 → XprOk x) := Lib.hid xprE_ok
  have HOY : Hid (xprE y = 0 → XprOk y) := Lib.hid xprE_ok
  have HE : Hid (eqvE x y = if xprE x ≠ 0 then (false, xprE x) else if xprE y ≠ 0 then (false, xprE y) else (eqvB x y, 0)) := Lib.hid rfl
  obtain ⟨EX, hEX⟩ : ∃ EX, xprE x = EX := ⟨_, rfl⟩
  obtain ⟨EY, hEY⟩ : ∃ EY, xprE y = EY := ⟨_, rfl⟩
  rw [hEX] at HX HOX HE
  rw [hEY] at HY HOY HE
  obtain ⟨EV, hEV⟩ : ∃ EV, eqvE x y = EV := ⟨_, rfl⟩
  rw [hEV] at HE ⊢
  clear ht h h2 hfx hfy hEX hEY hEV
  refine callsIn_of_wp_marks Tryz.func37 rfl trivial ?_ rfl
  simp only [Tryz.ntmps37, List.size_toArray, List.length_cons, List.length_nil, Nat.reduceAdd, Nat.reduceSub, Array.replicate_succ, Array.replicate_zero, List.push_toArray, List.append_toArray, List.nil_append, List.cons_append]
  gi_wp2_with fail
  generalize hW5 : ((((w.alloc _).alloc _).alloc _).alloc _).alloc _ = w5
  obtain ⟨gX, gY, gR, gE, gL, hb5, hs5⟩ := box5 hW5
  have GX := Lib.hid gX
  have GY := Lib.hid gY
  have GR := Lib.hid gR
  have GE := Lib.hid gE
  have GL := Lib.hid gL
  have HB5 := Lib.hid hb5
  clear hW5 gX gY gR gE gL hb5
  gi_loopw [14] (fun i wr => ∃ k : Nat, k ≤ 2 ∧ i = .int .i64 ((k : Nat) : Int) ∧ Hid (0 < k → EX = 0) ∧ Hid (1 < k → EY = 0) ∧ Below w5.heap.size w5 wr) (fun i _ => 2 - (intOf i).toNat)
  case atStart => exact ⟨0, by omega, rfl, Lib.hid (fun h => by omega), Lib.hid (fun h => by omega), Below.refl _ _⟩
  case round =>
    obtain ⟨k, hk, rfl, h0, h1, hb⟩ := hrel
    have HB := Lib.hid hb
    have gl := heap_below hb GL.out
    have l0 := cell_of_row _ _ 0 _ _ _ gl
    have l1 := cell_of_row _ _ 1 _ _ _ gl
    have l2 := cell_of_row _ _ 2 _ _ _ gl
    have l3 := cell_of_row _ _ 3 _ _ _ gl
    have hsr := hb.size
    clear hb gl
    by_cases k0 : k = 0
    · subst k0
      clear l2 l3
      gi_wp2_with fail
      refine (callsIn_wide.2 (HX.out _ (Below.next HB5.out (HB.out.trans (((Below.refl _ wr).alloc (Nat.le_refl _) _).mono hsr))))).mono ?_
      rintro e w6 ⟨rfl, hb6⟩
      have hb6 := HB.out.trans ((Below.next ((Below.refl _ wr).alloc (Nat.le_refl _) _) hb6).mono hsr)
      by_cases hE : EX = 0
      · subst hE
        have HB6 := Lib.hid hb6
        clear hb6 l0 l1
        gi_wp2_with fail
        go_roundw
        case rel => exact ⟨1, by omega, by go_num, Lib.hid (fun _ => trivial), Lib.hid (fun h => by omega), HB6.out⟩
        case measure => simp [intOf]
      · have hne : (EX != 0) = true := by simpa using hE
        have hV : EV = (false, EX) := by rw [HE.out, if_pos hE]
        have gr := heap_below hb6 GR.out
        have ge := heap_below hb6 GE.out
        have t0 := cell_of_row _ _ 0 _ _ _ gr
        have t1 := cell_of_row _ _ 0 _ _ _ ge
        have z0 := frozen_row gr 0
        have z1 := frozen_row ge 0
        have HGR := Lib.hid gr
        have HGE := Lib.hid ge
        have HB6 := Lib.hid (HB5.out.trans (hb6.mono (by omega)))
        clear hb6 gr ge l0 l1 hE HE
        gi_wp2_with fail
        clear t0 t1 z0 z1
        generalize hWF : (w6.setCell _ _).setCell _ _ = WF
        obtain ⟨e1, e2, hbf, _, _⟩ := fin2 HGR.out HGE.out (by omega) (by omega) (by omega) HB6.out hWF
        have HBF := Lib.hid hbf
        have f0 := cell_of_row _ _ 0 _ _ _ e1
        have f1 := cell_of_row _ _ 0 _ _ _ e2
        clear hWF e1 e2 hbf
        refine ⟨.tuple #[.bool false, .int .i64 EX], ?_, ?_⟩
        · rw [results_cell_cell rfl]
          go_simp
        · rw [hV]; exact ⟨rfl, HBF.out⟩
    · by_cases k1 : k = 1
      · subst k1
        obtain rfl : EX = 0 := h0.out (by omega)
        clear l0 l1
        gi_wp2_with fail
        refine (callsIn_wide.2 (HY.out _ (Below.next HB5.out (HB.out.trans (((Below.refl _ wr).alloc (Nat.le_refl _) _).mono hsr))))).mono ?_
        rintro e w6 ⟨rfl, hb6⟩
        have hb6 := HB.out.trans ((Below.next ((Below.refl _ wr).alloc (Nat.le_refl _) _) hb6).mono hsr)
        by_cases hE : EY = 0
        · subst hE
          have HB6 := Lib.hid hb6
          clear hb6 l2 l3
          gi_wp2_with fail
          go_roundw
          case rel => exact ⟨2, by omega, by go_num, Lib.hid (fun _ => trivial), Lib.hid (fun _ => trivial), HB6.out⟩
          case measure => simp [intOf]
        · have hne : (EY != 0) = true := by simpa using hE
          have hV : EV = (false, EY) := by rw [HE.out, if_neg (by simp), if_pos hE]
          have gr := heap_below hb6 GR.out
          have ge := heap_below hb6 GE.out
          have t0 := cell_of_row _ _ 0 _ _ _ gr
          have t1 := cell_of_row _ _ 0 _ _ _ ge
          have z0 := frozen_row gr 0
          have z1 := frozen_row ge 0
          have HGR := Lib.hid gr
          have HGE := Lib.hid ge
          have HB6 := Lib.hid (HB5.out.trans (hb6.mono (by omega)))
          clear hb6 gr ge l2 l3 hE HE
          gi_wp2_with fail
          clear t0 t1 z0 z1
          generalize hWF : (w6.setCell _ _).setCell _ _ = WF
          obtain ⟨e1, e2, hbf, _, _⟩ := fin2 HGR.out HGE.out (by omega) (by omega) (by omega) HB6.out hWF
          have HBF := Lib.hid hbf
          have f0 := cell_of_row _ _ 0 _ _ _ e1
          have f1 := cell_of_row _ _ 0 _ _ _ e2
          clear hWF e1 e2 hbf
          refine ⟨.tuple #[.bool false, .int .i64 EY], ?_, ?_⟩
          · rw [results_cell_cell rfl]
            go_simp
          · rw [hV]; exact ⟨rfl, HBF.out⟩
      · obtain rfl : k = 2 := by omega
        obtain rfl : EX = 0 := h0.out (by omega)
        obtain rfl : EY = 0 := h1.out (by omega)
        have hok := HOX.out rfl
        have hoy := HOY.out rfl
        have HH1 := Lib.hid (HHX.out hok)
        have HH2 := Lib.hid (HHY.out hoy)
        have HS1 := Lib.hid (HSX.out hok)
        have HS2 := Lib.hid (HSY.out hoy)
        have hV : Hid (EV = (eqvB x y, 0)) := Lib.hid (by rw [HE.out, if_neg (by simp), if_neg (by simp)])
        have HBW := Lib.hid (Below.next HB5.out (HB.out.trans ((Below.refl _ wr).mono hsr)))
        have hbw : Below w.heap.size w wr := HB5.out.trans (HB.out.mono (by omega))
        have HBW := Lib.hid hbw
        have KS := Lib.hid (fun (u : World) (hu : Below wr.heap.size wr u) => And.intro (open2 (heap_below (HB.out.trans (hu.mono hsr)) GX.out)).1 (open2 (heap_below (HB.out.trans (hu.mono hsr)) GY.out)).1)
        clear hok hoy HHX HHY HSX HSY HOX HOY HE h0 h1 l0 l1 l2 l3 hbw HX HY k0 k1
        gi_upto_region 8 with fail
        refine wpIn_region_quiet_tail (fun u => Below wr.heap.size wr u) 5 (by kernel_rfl) (by kernel_rfl) (below_drew (Below.refl _ _)) ?_
        repeat (refine wpQuietIn_step (by quiet_asked_in) (fun K hK => ?_); go_simp; (first | (refine hK _ ?_; clear hK K) | (apply Exists.intro; refine ⟨fun u hu => ?_, hK _ ?_⟩; (first | with_reducible exact rfl | with_reducible exact ⟨rfl, hu⟩ | ((with_reducible refine (callsIn_wide.2 (HS1.out u (Below.next HBW.out hu))).mono ?_); (rintro e w3 ⟨rfl, h3⟩; exact ⟨rfl, Below.next hu h3⟩)) | ((with_reducible refine (callsIn_wide.2 (HS2.out u (Below.next HBW.out hu))).mono ?_); (rintro e w3 ⟨rfl, h3⟩; exact ⟨rfl, Below.next hu h3⟩)) | (obtain ⟨⟨q1, q2⟩, ⟨q3, q4⟩⟩ := KS.out u hu; go_simp; first | exact rfl | exact ⟨rfl, hu⟩ | exact hu)); clear hK K)))
        refine wpQuietIn_nil ?_
        intro wq hwq
        simp only [List.drop_succ_cons, List.drop_zero]
        have HBQ := Lib.hid (Below.next HBW.out hwq)
        have GRQ := Lib.hid (heap_below (HB.out.trans (hwq.mono hsr)) GR.out)
        have GEQ := Lib.hid (heap_below (HB.out.trans (hwq.mono hsr)) GE.out)
        have GXQ := Lib.hid (heap_below (HB.out.trans (hwq.mono hsr)) GX.out)
        have GYQ := Lib.hid (heap_below (HB.out.trans (hwq.mono hsr)) GY.out)
        have hsq : w.heap.size + 5 ≤ wq.heap.size := by have := hwq.size; omega
        clear hwq HB KS HS1 HS2 GL GR GE GX GY hs5 hsr
        gi_wp2_with fail
        refine (callsIn_wide.2 (subsets_c (srvX x ||| srvX y) _ _ rfl)).mono ?_
        rintro e w6 ⟨rfl, hw6⟩
        have hb6 : Below wq.heap.size wq w6 := by rw [hw6]; exact (Below.refl _ _).alloc (Nat.le_refl _) _
        have gS6 : w6.cell? ⟨wq.heap.size, 0, none⟩ = some (.int .u16 (U (srvX x ||| srvX y))) := by rw [hw6]; exact cell_new _ _ _ 0 _ rfl
        have hs6 : w6.heap.size = wq.heap.size + 1 := by rw [hw6]; simp
        have HB6 := Lib.hid (Below.next HBQ.out hb6)
        have GX6 := Lib.hid (heap_below hb6 GXQ.out)
        have GY6 := Lib.hid (heap_below hb6 GYQ.out)
        have GR6 := Lib.hid (heap_below hb6 GRQ.out)
        have GE6 := Lib.hid (heap_below hb6 GEQ.out)
        have hBs : wq.heap.size < w6.heap.size := by omega
        obtain ⟨SU, hSU⟩ : ∃ SU, srvX x ||| srvX y = SU := ⟨_, rfl⟩
        have HVE : Hid (eqvB x y = (subsS SU).all fun s => holdX x s == holdX y s) := Lib.hid (by rw [← hSU]; rfl)
        rw [hSU] at gS6 ⊢
        have HSQ := Lib.hid (fun m => subsets1_stops m wq.heap.size (CBox w6.heap.size w6.heap.size) (fun k => .inr ⟨by decide, by decide⟩) (fun t => .inl ⟨Nat.lt_of_lt_of_le (cell_lt (HT.out 0 (by decide))) HB6.out.size, by have := cell_lt (HT.out 0 (by decide)); have := HB6.out.size; omega⟩) (fun t => .inl ⟨hBs, by omega⟩) SU w6 (HT.out.below HB6.out) gS6)
        clear hb6 gS6 hw6 HBQ GRQ GEQ GXQ GYQ hs6 hSU
        gi_wp2_with fail
        refine rangeFunc_x rfl (by decide) rfl trivial (enters_of Tryz.func81 (by kernel_rfl) rfl) (HSQ.out _) KeepC.trans kT_b (Below.refl _ _) (fun _ => rfl)
          (fun pre Wr => (pre.all fun s => holdX x s == holdX y s) = true ∧ BelX w6.heap.size w6 w6.heap.size Wr)
          (fun c ys Wr => c = .ret ∧ (ys.all fun s => holdX x s == holdX y s) = false ∧ BelX w.heap.size w6 w6.heap.size Wr ∧ Wr.heap[w.heap.size + 1 + 1]? = some (.cells #[.bool false] 4 (0, 0)) ∧ Wr.heap[w.heap.size + 1 + 1 + 1]? = some (.cells #[.int .i64 0] 27 (0, 0)))
          ?hI ?hIx ?h0 ?done ?stop ?A
        case hI => exact OwnFrom.and (purex_own (p := fun pre => (pre.all fun s => holdX x s == holdX y s) = true) _) (belx_own (Nat.le_refl _) (Nat.le_refl _))
        case hIx =>
          intro c
          exact OwnFrom.and (purex_own (p := fun _ => c = .ret) _) (OwnFrom.and (purex_own (p := fun ys => (ys.all fun s => holdX x s == holdX y s) = false) _) (OwnFrom.and (belx_own (by omega) (by omega)) (OwnFrom.and (blkx_own (by omega)) (blkx_own (by omega)))))
        case h0 => exact ⟨rfl, Below.refl _ _, Nat.le_refl _⟩
        case done =>
          rintro D ys W hD rfl ⟨hall, hB⟩ hK
          have HR : Hid (EV = (true, 0)) := Lib.hid (by rw [hV.out, HVE.out, hall])
          have gR := (hB.1.block (w.heap.size + 1 + 1) (by omega)).trans GR6.out
          have gE := (hB.1.block (w.heap.size + 1 + 1 + 1) (by omega)).trans GE6.out
          have r0 := cell_of_row _ _ 0 _ _ _ gR
          have r1 := cell_of_row _ _ 0 _ _ _ gE
          have z0 := frozen_row gR 0
          have z1 := frozen_row gE 0
          have HGR := Lib.hid gR
          have HGE := Lib.hid gE
          have HB := Lib.hid hB
          have hBs2 := hB.2
          clear hB gR gE hall
          gi_wp2_with fail
          clear r0 r1 z0 z1
          generalize hWZ : (W.setCell _ _).setCell _ _ = WZ
          obtain ⟨gRZ, gEZ, hbZ, hoZ, hsZ⟩ := fin2 (w := w) HGR.out HGE.out (by omega) (by omega) (by omega) (HB6.out.trans (HB.out.1.mono (by omega))) hWZ
          have hKZ : WZ.heap[D]? = some (.deferred (some [])) := (hoZ D (by omega) (by omega)).trans hK
          refine ⟨by simp, .inl ⟨_, _, rfl, run_takeDeferred hKZ, ?_⟩⟩
          have gR2 : (WZ.putObj D (.deferred none)).heap[w.heap.size + 1 + 1]? = some (.cells #[.bool true] 4 (0, 0)) := (World.putObj_heap_other (by omega)).trans gRZ
          have gE2 : (WZ.putObj D (.deferred none)).heap[w.heap.size + 1 + 1 + 1]? = some (.cells #[.int .i64 0] 27 (0, 0)) := (World.putObj_heap_other (by omega)).trans gEZ
          have f0 := cell_of_row _ _ 0 _ _ _ gR2
          have f1 := cell_of_row _ _ 0 _ _ _ gE2
          have HBF := Lib.hid (hbZ.grown (grownBy_putObj' WZ D (.deferred none)) (by omega) (fun k hk => by injection hk with hk; omega))
          clear gR2 gE2 hWZ gRZ gEZ hbZ hoZ hsZ hKZ
          refine ⟨.tuple #[.bool true, .int .i64 0], ?_, ?_⟩
          · rw [results_cell_cell rfl]
            go_simp
          · rw [HR.out]; exact ⟨rfl, HBF.out⟩
        case stop =>
          rintro D c ys W hD hp ⟨rfl, hl, hB, hr2, hr3⟩ hK
          have hAll : ((subsS SU).all fun s => holdX x s == holdX y s) = false := by
            cases hc : (subsS SU).all fun s => holdX x s == holdX y s
            · rfl
            · rw [List.all_eq_true] at hc
              have : (ys.all fun s => holdX x s == holdX y s) = true := List.all_eq_true.2 fun s hs => hc s (hp.subset hs)
              rw [hl] at this; cases this
          have HR : Hid (EV = (false, 0)) := Lib.hid (by rw [hV.out, HVE.out, hAll])
          have r0 := cell_of_row _ _ 0 _ _ _ hr2
          have r1 := cell_of_row _ _ 0 _ _ _ hr3
          have hDr := hB.2
          clear hAll hl
          gi_wp2_with fail
          refine ⟨by simp, .inl ⟨_, _, rfl, run_takeDeferred hK, ?_⟩⟩
          have gR2 : (W.putObj D (.deferred none)).heap[w.heap.size + 1 + 1]? = some (.cells #[.bool false] 4 (0, 0)) := (World.putObj_heap_other (by omega)).trans hr2
          have gE2 : (W.putObj D (.deferred none)).heap[w.heap.size + 1 + 1 + 1]? = some (.cells #[.int .i64 0] 27 (0, 0)) := (World.putObj_heap_other (by omega)).trans hr3
          have f0 := cell_of_row _ _ 0 _ _ _ gR2
          have f1 := cell_of_row _ _ 0 _ _ _ gE2
          have hbF : Below w.heap.size w (W.putObj D (.deferred none)) := (HB6.out.trans hB.1).grown (grownBy_putObj' W D _) (by have := HB6.out.size; omega) (fun k hk => by injection hk with hk; omega)
          have HBF := Lib.hid hbF
          clear gR2 gE2 hbF r0 r1
          refine ⟨.tuple #[.bool false, .int .i64 0], ?_, ?_⟩
          · rw [results_cell_cell rfl]
            go_simp
          · rw [HR.out]; exact ⟨rfl, HBF.out⟩
        case A =>
          refine ⟨fun s => { tmps := #[.agg #[.slice a n c, .int .i64 x.root], .agg #[.slice a2 n2 c2, .int .i64 y.root], .pointer (some ⟨w.heap.size, 0, none⟩), .pointer (some ⟨w.heap.size + 1, 0, none⟩), .pointer (some ⟨w.heap.size + 1 + 1, 0, none⟩), .pointer (some ⟨w.heap.size + 1 + 1 + 1, 0, none⟩), undef, u7, u8, .int .u16 (U s), .agg #[.slice a n c, .int .i64 x.root], .agg #[.slice a2 n2 c2, .int .i64 y.root], .slice (some ⟨w.heap.size + 1 + 1 + 1 + 1, 0, none⟩) 2 2, .int .i64 2, .int .i64 2, .bool false, u16, u17, u18, u19, u20, u21, u22, u23, .agg #[.slice a n c, .int .i64 x.root], .int .u16 (U (srvX x)), .agg #[.slice a2 n2 c2, .int .i64 y.root], .int .u16 (U (srvX y)), .int .u16 (U SU), .func (.func 81) #[] #[.pointer (some ⟨wq.heap.size, 0, none⟩)], .int .u16 (U s), undef, undef, undef, undef, undef, undef, undef], defers := [] }, ?_, ?_⟩
          · intro l s Wr K hK
            gi_wp2_with fail
            exact hK
          · rintro l pre s Wr ⟨hall, hB⟩ hlt
            have hbw : Below w.heap.size w Wr := HB6.out.trans (hB.1.mono (by omega))
            have HB := Lib.hid hB
            have HBW := Lib.hid hbw
            have HH1s := Lib.hid (HH1.out s)
            have HH2s := Lib.hid (HH2.out s)
            have KS := Lib.hid (fun (u : World) (hu : Below Wr.heap.size Wr u) => And.intro (open2 (heap_below (hB.1.trans (hu.mono hB.2)) GX6.out)).1 (open2 (heap_below (hB.1.trans (hu.mono hB.2)) GY6.out)).1)
            have HAL : Hid ((pre ++ [s]).all (fun s => holdX x s == holdX y s) = (holdX x s == holdX y s)) := Lib.hid (by rw [List.all_append, hall]; simp)
            obtain ⟨BX, hBX⟩ : ∃ BX, holdX x s = BX := ⟨_, rfl⟩
            obtain ⟨BY, hBY⟩ : ∃ BY, holdX y s = BY := ⟨_, rfl⟩
            rw [hBX] at HH1s HAL
            rw [hBY] at HH2s HAL
            have HALL := Lib.hid hall
            clear hB hbw hlt hBX hBY hall
            gi_upto_region 10 with fail
            refine wpIn_region_quiet_r (fun u => Below Wr.heap.size Wr u) (by kernel_rfl) (by kernel_rfl) (below_drew (Below.refl _ _)) ?_
            repeat (refine wpQuietIn_step (by quiet_asked_in) (fun K hK => ?_); go_simp; (first | (refine hK _ ?_; clear hK K) | (apply Exists.intro; refine ⟨fun u hu => ?_, hK _ ?_⟩; (first | with_reducible exact rfl | with_reducible exact ⟨rfl, hu⟩ | ((with_reducible refine (CallsIn.inRound l (callsIn_wide.2 (HH1s.out u (Below.next HBW.out hu)))).mono ?_); (rintro e w3 ⟨rfl, h3⟩; exact ⟨rfl, Below.next hu h3⟩)) | ((with_reducible refine (CallsIn.inRound l (callsIn_wide.2 (HH2s.out u (Below.next HBW.out hu)))).mono ?_); (rintro e w3 ⟨rfl, h3⟩; exact ⟨rfl, Below.next hu h3⟩)) | (obtain ⟨⟨q1, q2⟩, ⟨q3, q4⟩⟩ := KS.out u hu; go_simp; first | exact rfl | exact ⟨rfl, hu⟩ | exact hu)); clear hK K)))
            refine wpQuietIn_nil ?_
            intro W2 hb2
            have hB2 : BelX w6.heap.size w6 w6.heap.size W2 := ⟨HB.out.1.trans (hb2.mono HB.out.2), Nat.le_trans HB.out.2 hb2.size⟩
            have HB2 := Lib.hid hB2
            have HKF := Lib.hid (keepsFrom_below (B := w6.heap.size) hb2)
            have HKC := Lib.hid (KeepC.of_below (CBox w6.heap.size w6.heap.size) hb2)
            have hs2 := hB2.2
            clear hb2 KS HH1s HH2s
            by_cases hq : BX = BY
            · have hne : (!BX == BY) = false := by rw [hq]; simp
              have hal : (BX == BY) = true := by rw [hq]; simp
              rw [hal] at HAL
              rw [hne]
              clear hq hne hal
              gi_wp2_with fail
              exact ⟨HKF.out, HKC.out, HAL.out, HB2.out⟩
            · have hal : (BX == BY) = false := by simpa using hq
              have hne : (!BX == BY) = true := by rw [hal]; rfl
              rw [hal] at HAL
              rw [hne]
              have gR := (hB2.1.block (w.heap.size + 1 + 1) (by omega)).trans GR6.out
              have gE := (hB2.1.block (w.heap.size + 1 + 1 + 1) (by omega)).trans GE6.out
              have r0 := cell_of_row _ _ 0 _ _ _ gR
              have r1 := cell_of_row _ _ 0 _ _ _ gE
              have z0 := frozen_row gR 0
              have z1 := frozen_row gE 0
              have HGR := Lib.hid gR
              have HGE := Lib.hid gE
              clear gR gE hq hne hal hB2
              gi_wp2_with fail
              have hkA := grownBy_setCell' W2 (w.heap.size + 1 + 1) (.bool false)
              have hkZ := grownBy_setCell' (W2.setCell ⟨w.heap.size + 1 + 1, 0, none⟩ (.bool false)) (w.heap.size + 1 + 1 + 1) (.int .i64 0)
              obtain ⟨gRZ, gEZ, _, hoZ, hsZ⟩ := fin2 (w := w) HGR.out HGE.out (by omega) (by omega) (by omega) (HB6.out.trans (HB2.out.1.mono (by omega))) rfl
              refine ⟨HKF.out.trans ((KeepsFrom.of_grownBy hkA (fun j hj => by injection hj with hj; omega)).trans (KeepsFrom.of_grownBy hkZ (fun j hj => by injection hj with hj; omega))), rfl, HAL.out, ⟨?_, ?_⟩, gRZ, gEZ⟩
              · exact ((HB2.out.1.mono (by omega)).setCell (p := ⟨w.heap.size + 1 + 1, 0, none⟩) (by show w.heap.size ≤ w.heap.size + 1 + 1; omega) _).setCell (p := ⟨w.heap.size + 1 + 1 + 1, 0, none⟩) (by show w.heap.size ≤ w.heap.size + 1 + 1 + 1; omega) _
              · rw [hsZ]; exact hs2
theorem equiv_c (x y : Xpr) (hfx : XprFew x) (hfy : XprFew y) (a : Option Addr) (n c : Nat) (a2 : Option Addr) (n2 c2 : Nat) (w : World) (ht : HasTab w) (h : XM w a n c x.nodes) (h2 : XM w a2 n2 c2 y.nodes) :
    Calls Tryz.prog 37 #[.agg #[.slice a n c, .int .i64 x.root], .agg #[.slice a2 n2 c2, .int .i64 y.root]] w fun e w' => e = .returned (.tuple #[.bool (eqvE x y).1, .int .i64 (eqvE x y).2]) ∧ Below w.heap.size w w' := callsIn_wide.1 (equiv_in x y hfx hfy a n c a2 n2 c2 w ht h h2)
end Go.Proofs.YtcojmmhclklpoaaGreatDoor
namespace Go.Proofs.YtcojmmhclklpoaaGreatDoor
open Go.RowKit Go.Shelf
attribute [local go_sem] Oper.semAt_some
attribute [local simp] wide_fnx

set_option maxRecDepth 100000 in
set_option maxHeartbeats 4000000 in
theorem family_err (x : Xpr) (hx : xprE x ≠ 0) (a : Option Addr) (n c : Nat) (w : World) (h : XM w a n c x.nodes) :
    Calls Tryz.prog 14 #[.agg #[.slice a n c, .int .i64 x.root]] w fun e w' => e = .returned (.tuple #[.slice none 0 0, .int .i64 (xprE x)]) ∧ Below w.heap.size w w' := by
  refine (callsIn_wide (n := 5)).1 ?_
  have HX := Lib.hid (fun (u : World) (hb : Below w.heap.size w u) => xpr_c x a n c u (h.below hb))
  obtain ⟨E, hE⟩ : ∃ E, xprE x = E := ⟨_, rfl⟩
  rw [hE] at HX hx ⊢
  have hne : (E != 0) = true := by simpa using hx
  clear h hE hx
  refine callsIn_of_wp_marks Tryz.func14 rfl trivial ?_ rfl
  simp only [Tryz.ntmps14, List.size_toArray, List.length_cons, List.length_nil, Nat.reduceAdd, Nat.reduceSub, Array.replicate_succ, Array.replicate_zero, List.push_toArray, List.append_toArray, List.nil_append, List.cons_append]
  gi_wp2_with fail
  generalize hW3 : ((w.alloc _).alloc _).alloc _ = w3
  obtain ⟨gX, gR, gE, hb3, hs3⟩ := box3 hW3
  have GR := Lib.hid gR
  have GE := Lib.hid gE
  have HB3 := Lib.hid hb3
  clear hW3 gX gR gE hb3
  refine (callsIn_wide.2 (HX.out w3 HB3.out)).mono ?_
  rintro e w4 ⟨rfl, hb4⟩
  have gr := heap_below hb4 GR.out
  have ge := heap_below hb4 GE.out
  have t0 := cell_of_row _ _ 0 _ _ _ gr
  have t1 := cell_of_row _ _ 0 _ _ _ ge
  have z0 := frozen_row gr 0
  have z1 := frozen_row ge 0
  have HGR := Lib.hid gr
  have HGE := Lib.hid ge
  have HB4 := Lib.hid (Below.next HB3.out hb4)
  clear hb4 gr ge
  gi_wp2_with fail
  clear t0 t1 z0 z1
  generalize hWF : (w4.setCell _ _).setCell _ _ = WF
  obtain ⟨e1, e2, hbf, _, _⟩ := fin2 HGR.out HGE.out (by omega) (by omega) (by omega) HB4.out hWF
  have HBF := Lib.hid hbf
  have f0 := cell_of_row _ _ 0 _ _ _ e1
  have f1 := cell_of_row _ _ 0 _ _ _ e2
  clear hWF e1 e2 hbf
  refine ⟨.tuple #[.slice none 0 0, .int .i64 E], ?_, ?_⟩
  · rw [results_cell_cell rfl]
    go_simp
  · exact ⟨rfl, HBF.out⟩
end Go.Proofs.YtcojmmhclklpoaaGreatDoor
namespace Go.Proofs.YtcojmmhclklpoaaGreatDoor
open Go.RowKit Go.Shelf

theorem eight (E : Value) (k : Nat) (h : k < 8) : (#[E, E, E, E, E, E, E, E] : Array Value)[k]? = some E := by
  have e : (#[E, E, E, E, E, E, E, E] : Array Value) = Array.replicate 8 E := rfl
  rw [e, Array.getElem?_replicate, if_pos h]
theorem fmtX_errE {x : Xpr} (h : xprE x ≠ 0) : fmtX x = ([], xprE x) := by
  have ht : tidS x = (⟨[], 0⟩, xprE x) := by unfold tidS; rw [if_pos h]
  unfold fmtX
  rw [ht, if_pos h]

set_option maxRecDepth 100000 in
set_option maxHeartbeats 8000000 in
theorem valids_w (v : Value) (x : Xpr) (w : World) (ht : HasTab w) (hp : HasPow w) (hr : HasRng w) (hy : HasSyn w) (w0 : IsXpr w v x ∧ XprRch x) :
    Calls Tryz.prog 12 #[v] w fun e w' => e = .returned (.bool true) ∧ Below w.heap.size w w' := by
  have HA := Lib.hid (fun u (hb : Below w.heap.size w u) => awake10_c u (ht.below hb) (hp.below hb) (hr.below hb) (hy.below hb))
  obtain ⟨a1, n1, c1, rfl, hx1⟩ := w0.1.val
  have HF1 := Lib.hid (fun u (hb : Below w.heap.size w u) => few10_c x w0.2 a1 n1 c1 u (hx1.below hb))
  have HV := Lib.hid (fun u (hb : Below w.heap.size w u) => xpr_c x a1 n1 c1 u (hx1.below hb))
  have HRV := Lib.hid (fun u (hb : Below w.heap.size w u) => rvalid10_c x (sum_of w0.2) a1 n1 c1 u (hx1.below hb))
  have H1 := Lib.hid (fun (hf : fewX x = true) u (hb : Below w.heap.size w u) => evalx_c x (few_of hf) 32768#16 a1 n1 c1 u (hx1.below hb))
  rw [show U 32768#16 = (32768 : Int) from rfl] at H1
  have H2 := Lib.hid (fun (hE : xprE x ≠ 0) u (hb : Below w.heap.size w u) => family_err x hE a1 n1 c1 u (hx1.below hb))
  have H3 := Lib.hid (fun (hf : fewX x = true) u (hb : Below w.heap.size w u) => dual_c x (few_of hf) a1 n1 c1 u (hx1.below hb))
  have H4 := Lib.hid (fun u (hb : Below w.heap.size w u) => subst_c x [] a1 n1 c1 none 0 0 u (hx1.below hb) (LM.none_ _))
  have H5 := Lib.hid (fun u (hb : Below w.heap.size w u) => simplify_c x a1 n1 c1 u (hx1.below hb))
  have H6 := Lib.hid (fun (hf : fewX x = true) u (hb : Below w.heap.size w u) => equiv_c x x (few_of hf) (few_of hf) a1 n1 c1 a1 n1 c1 u (ht.below hb) (hx1.below hb) (hx1.below hb))
  have H7 := Lib.hid (fun u (hb : Below w.heap.size w u) => tidy_c x a1 n1 c1 u (hx1.below hb))
  have H8 := Lib.hid (fun u (hb : Below w.heap.size w u) => formatx_c x a1 n1 c1 u (hp.below hb) (hx1.below hb))
  have HQ : Hid (xprE x ≠ 0 → evalS x 32768#16 = (false, xprE x) ∧ dualS x = (⟨[], 0⟩, xprE x) ∧ subS x [] = (⟨[], 0⟩, xprE x) ∧ smpS x = (⟨[], 0⟩, xprE x) ∧ eqvE x x = (false, xprE x) ∧ tidS x = (⟨[], 0⟩, xprE x) ∧ fmtX x = ([], xprE x)) := Lib.hid (fun h => by
    have ht : tidS x = (⟨[], 0⟩, xprE x) := by unfold tidS; rw [if_pos h]
    refine ⟨by unfold evalS; rw [if_pos h], by unfold dualS; rw [if_pos h], by rw [subS_nil]; exact ht, ?_, by unfold eqvE; rw [if_pos h], ht, fmtX_errE h⟩
    unfold smpS; rw [ht, if_pos h])
  obtain ⟨W2, hW2⟩ : ∃ W2, W2 = w.alloc (.cells #[.slice a1 n1 c1, .int .i64 x.root] 32) := ⟨_, rfl⟩
  have hb2 : Below w.heap.size w W2 := by rw [hW2]; exact (Below.refl _ _).alloc (Nat.le_refl _) _
  have g2 : W2.heap[w.heap.size]? = some (.cells #[.slice a1 n1 c1, .int .i64 x.root] 32 (0, 0)) := by rw [hW2]; exact heap_alloc_new _ _
  have HB2 := Lib.hid hb2
  have HK := Lib.hid (fun (u : World) (hu : Below W2.heap.size W2 u) => (open2 (heap_below hu g2)).1)
  obtain ⟨F1, hF1⟩ : ∃ F, fewX x = F := ⟨_, rfl⟩
  rw [hF1] at HF1 H1 H3 H6
  clear ht hp hr hy w0 hx1 hb2 g2 hF1
  unfold RetX at H3 H4 H5 H7
  obtain ⟨E, hE⟩ : ∃ E, xprE x = E := ⟨_, rfl⟩
  rw [hE] at HV HRV HQ H2
  have hee : (E == E) = true := by simp
  have hen : (E != E) = false := by rw [bne_eq_false_iff_eq]
  clear hE
  go_enter Tryz.func12, Tryz.ntmps12
  go_wp2_with fail
  rw [← hW2]
  with_reducible refine (HA.out W2 HB2.out).mono ?_
  rintro e w1 ⟨rfl, b1⟩
  obtain ⟨k0, k1⟩ := HK.out w1 b1
  have HB1 := Lib.hid (Below.next HB2.out b1)
  have HK1 := Lib.hid b1
  clear b1 hW2
  go_wp2_with fail
  with_reducible refine (HF1.out w1 HB1.out).mono ?_
  rintro e w3 ⟨rfl, b3⟩
  have HB3 := Lib.hid (Below.next HB1.out b3)
  have HK3 := Lib.hid (Below.next HK1.out b3)
  obtain ⟨k0, k1⟩ := HK.out w3 HK3.out
  clear b3
  cases F1
  · go_wp2_with fail
    with_reducible refine (HA.out w3 HB3.out).mono ?_
    rintro e w4 ⟨rfl, b4⟩
    have HB4 := Lib.hid (Below.next HB3.out b4)
    clear b4
    go_wp2_with fail
    go_ret
    exact ⟨rfl, HB4.out⟩
  go_wp2_with fail
  with_reducible refine (HRV.out w3 HB3.out).mono ?_
  rintro e w4 ⟨rfl, b4⟩
  have HB4 := Lib.hid (Below.next HB3.out b4)
  have HK4 := Lib.hid (Below.next HK3.out b4)
  obtain ⟨k0, k1⟩ := HK.out w4 HK4.out
  clear b4
  go_wp2_with fail
  with_reducible refine (HV.out w4 HB4.out).mono ?_
  rintro e w5 ⟨rfl, b5⟩
  have HB5 := Lib.hid (Below.next HB4.out b5)
  have HK5 := Lib.hid (Below.next HK4.out b5)
  obtain ⟨k0, k1⟩ := HK.out w5 HK5.out
  clear b5
  by_cases hE : E = 0
  · subst hE
    go_wp2_with fail
    with_reducible refine (HV.out w5 HB5.out).mono ?_
    rintro e w6 ⟨rfl, b6⟩
    have HB6 := Lib.hid (Below.next HB5.out b6)
    clear b6
    go_wp2_with fail
    go_ret
    exact ⟨rfl, HB6.out⟩
  have hnz : (E == 0) = false := by simpa using hE
  obtain ⟨q1, q3, q4, q5, q6, q7, q8⟩ := HQ.out hE
  have H2 := Lib.hid (H2.out hE)
  rw [q1] at H1
  rw [q3] at H3
  rw [q4] at H4
  rw [q5] at H5
  rw [q6] at H6
  rw [q7] at H7
  rw [q8] at H8
  clear q1 q3 q4 q5 q6 q7 q8 HQ hE HA HF1 HV HRV
  go_wp2_with fail
  clear k0 k1
  with_reducible refine (H1.out trivial w5 HB5.out).mono ?_
  rintro e w10 ⟨rfl, b10⟩
  have HB10 := Lib.hid (Below.next HB5.out b10)
  have HK10 := Lib.hid (Below.next HK5.out b10)
  obtain ⟨k0, k1⟩ := HK.out w10 HK10.out
  clear b10
  go_wp2_with fail
  clear k0 k1
  with_reducible refine (H2.out w10 HB10.out).mono ?_
  rintro e w11 ⟨rfl, b11⟩
  have HB11 := Lib.hid (Below.next HB10.out b11)
  have HK11 := Lib.hid (Below.next HK10.out b11)
  obtain ⟨k0, k1⟩ := HK.out w11 HK11.out
  clear b11
  go_wp2_with fail
  clear k0 k1
  with_reducible refine (H3.out trivial w11 HB11.out).mono ?_
  rintro e w12 ⟨a12, c12, rfl, -, b12⟩
  obtain ⟨U12, hU12⟩ : ∃ U, U = w12.alloc (.cells #[.slice a12 0 c12, .int .i64 0] 32) := ⟨_, rfl⟩
  have d12 : Below w12.heap.size w12 U12 := by rw [hU12]; exact (Below.refl _ _).alloc (Nat.le_refl _) _
  have HB12 := Lib.hid (Below.next HB11.out (Below.next b12 d12))
  have HK12 := Lib.hid (Below.next HK11.out (Below.next b12 d12))
  obtain ⟨k0, k1⟩ := HK.out U12 HK12.out
  rw [hU12] at k0 k1
  simp only [List.length_nil]
  clear b12 d12
  go_wp2_with fail
  rw [← hU12]
  clear hU12
  clear k0 k1
  with_reducible refine (H4.out U12 HB12.out).mono ?_
  rintro e w13 ⟨a13, c13, rfl, -, b13⟩
  obtain ⟨U13, hU13⟩ : ∃ U, U = w13.alloc (.cells #[.slice a13 0 c13, .int .i64 0] 32) := ⟨_, rfl⟩
  have d13 : Below w13.heap.size w13 U13 := by rw [hU13]; exact (Below.refl _ _).alloc (Nat.le_refl _) _
  have HB13 := Lib.hid (Below.next HB12.out (Below.next b13 d13))
  have HK13 := Lib.hid (Below.next HK12.out (Below.next b13 d13))
  obtain ⟨k0, k1⟩ := HK.out U13 HK13.out
  rw [hU13] at k0 k1
  simp only [List.length_nil]
  clear b13 d13
  go_wp2_with fail
  rw [← hU13]
  clear hU13
  clear k0 k1
  with_reducible refine (H5.out U13 HB13.out).mono ?_
  rintro e w14 ⟨a14, c14, rfl, -, b14⟩
  obtain ⟨U14, hU14⟩ : ∃ U, U = w14.alloc (.cells #[.slice a14 0 c14, .int .i64 0] 32) := ⟨_, rfl⟩
  have d14 : Below w14.heap.size w14 U14 := by rw [hU14]; exact (Below.refl _ _).alloc (Nat.le_refl _) _
  have HB14 := Lib.hid (Below.next HB13.out (Below.next b14 d14))
  have HK14 := Lib.hid (Below.next HK13.out (Below.next b14 d14))
  obtain ⟨k0, k1⟩ := HK.out U14 HK14.out
  rw [hU14] at k0 k1
  simp only [List.length_nil]
  clear b14 d14
  go_wp2_with fail
  rw [← hU14]
  clear hU14
  clear k0 k1
  with_reducible refine (H6.out trivial U14 HB14.out).mono ?_
  rintro e w15 ⟨rfl, b15⟩
  have HB15 := Lib.hid (Below.next HB14.out b15)
  have HK15 := Lib.hid (Below.next HK14.out b15)
  obtain ⟨k0, k1⟩ := HK.out w15 HK15.out
  clear b15
  go_wp2_with fail
  clear k0 k1
  with_reducible refine (H7.out w15 HB15.out).mono ?_
  rintro e w16 ⟨a16, c16, rfl, -, b16⟩
  obtain ⟨U16, hU16⟩ : ∃ U, U = w16.alloc (.cells #[.slice a16 0 c16, .int .i64 0] 32) := ⟨_, rfl⟩
  have d16 : Below w16.heap.size w16 U16 := by rw [hU16]; exact (Below.refl _ _).alloc (Nat.le_refl _) _
  have HB16 := Lib.hid (Below.next HB15.out (Below.next b16 d16))
  have HK16 := Lib.hid (Below.next HK15.out (Below.next b16 d16))
  obtain ⟨k0, k1⟩ := HK.out U16 HK16.out
  rw [hU16] at k0 k1
  simp only [List.length_nil]
  clear b16 d16
  go_wp2_with fail
  rw [← hU16]
  clear hU16
  clear k0 k1
  with_reducible refine (H8.out U16 HB16.out).mono ?_
  rintro e w17 ⟨rfl, b17⟩
  have HB17 := Lib.hid (Below.next HB16.out b17)
  have HK17 := Lib.hid (Below.next HK16.out b17)
  obtain ⟨k0, k1⟩ := HK.out w17 HK17.out
  clear b17
  go_wp2_with fail
  clear k0 k1
  obtain ⟨V, hV⟩ : ∃ V, V = w17.alloc (.cells #[.int .i64 E, .int .i64 E, .int .i64 E, .int .i64 E, .int .i64 E, .int .i64 E, .int .i64 E, .int .i64 E] 27) := ⟨_, rfl⟩
  rw [← hV]
  have gV : V.heap[w17.heap.size]? = some (.cells #[.int .i64 E, .int .i64 E, .int .i64 E, .int .i64 E, .int .i64 E, .int .i64 E, .int .i64 E, .int .i64 E] 27 (0, 0)) := by rw [hV]; exact heap_alloc_new _ _
  have HVB := Lib.hid (show Below w.heap.size w V by rw [hV]; exact HB17.out.alloc HB17.out.size _)
  have HGV := Lib.hid (fun (u : World) (hu : Below V.heap.size V u) (k : Nat) (hk : k < 8) => (show u.cell? ⟨w17.heap.size, k, none⟩ = some (.int .i64 E) from (cell_of_row _ _ k _ _ _ (heap_below hu gV)).trans (eight _ k hk)))
  clear gV hV
  go_loopw [95] (fun i wr => ∃ k : Nat, k ≤ 8 ∧ i = .int .i64 ((k : Nat) : Int) ∧ Below V.heap.size V wr) (fun i _ => 8 - (intOf i).toNat)
  case atStart => exact ⟨0, by omega, rfl, Below.refl _ _⟩
  case round =>
    obtain ⟨k, hk, rfl, hb⟩ := hrel
    by_cases hlt : k < 8
    · have hc := HGV.out wr hb k hlt
      have HBQ := Lib.hid hb
      clear hb
      go_wp2_with fail
      go_roundw
      case rel => exact ⟨k + 1, by omega, by go_num, HBQ.out⟩
      case measure => simp [intOf] <;> omega
    · obtain rfl : k = 8 := by omega
      have HBF := Lib.hid (Below.next HVB.out hb)
      clear hb
      go_wp2_with fail
      go_ret
      exact ⟨rfl, HBF.out⟩
end Go.Proofs.YtcojmmhclklpoaaGreatDoor
