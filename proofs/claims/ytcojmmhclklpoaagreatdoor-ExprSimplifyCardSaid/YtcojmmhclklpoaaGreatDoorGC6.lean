/- Texts laid together. expr.Substitute, Tidy. expr.Tidy. Two expressions made into boxes of their own, in whatever order. Plain lemmas over the model. A call, a box made and filled, in whatever order. Plain lemmas over the model, no program. expr.plant: the tree of a node. Trees: constant, anyOf, allOf, part, as they answer. slices.Min and slices.Max of ints; light. The kids of a tree that reads by a set of blocks. Plain lemmas over the model. merged: kids of a form replaced by their kids. Simplifying, plain: the fold step by step, light. -/
import Derived.Test.YtcojmmhclklpoaaGreatDoorGC3
import Derived.Test.YtcojmmhclklpoaaGreatDoorGC4
import Derived.Test.YtcojmmhclklpoaaGreatDoorGC5
import Derived.Test.YtcojmmhclklpoaaGreatDoorProg
import Derived.Laws.EntriesVeiled
import Derived.Deep.AppendLies
import Derived.Deep.RegionLaw
import Derived.Deep.DeepCutAuto
import Derived.RangeFuncRecord
namespace Go.Proofs.YtcojmmhclklpoaaGreatDoor
open Go.RowKit Go.Shelf

/-! plain: what Substitute answers -/
def xprsE : List Xpr → Int
  | [] => 0
  | y :: l => if xprE y ≠ 0 then xprE y else xprsE l
theorem xprsE_ok : ∀ {l : List Xpr}, xprsE l = 0 → ∀ y ∈ l, xprE y = 0
  | [], _, y, hy => by cases hy
  | z :: l, h, y, hy => by
    unfold xprsE at h
    split at h
    · rename_i h1; exact absurd h h1
    · rename_i h1
      rcases List.mem_cons.1 hy with rfl | hy
      · simpa using h1
      · exact xprsE_ok h y hy
theorem xprsE_drop {l : List Xpr} {k : Nat} {y : Xpr} (h : l[k]? = some y) : xprsE (l.drop k) = if xprE y ≠ 0 then xprE y else xprsE (l.drop (k + 1)) := by
  have hk := (List.getElem?_eq_some_iff.1 h).1
  rw [List.drop_eq_getElem_cons hk]
  have : l[k] = y := (List.getElem?_eq_some_iff.1 h).2
  rw [this]; rfl
def subS (x : Xpr) (ys : List Xpr) : Xpr × Int :=
  if xprE x ≠ 0 then (⟨[], 0⟩, xprE x) else if xprsE ys ≠ 0 then (⟨[], 0⟩, xprsE ys) else if 60 < (treY x (subL ys)).sz then (⟨[], 0⟩, 3) else ((treY x (subL ys)).xpr, 0)

theorem one_at (w : World) : OfAt w 55 #[] (subZ 61 noSub) := fun s hs W _ => by
  show Calls Tryz.prog 55 #[.int .i64 (s : Int)] W _
  go_enter Tryz.func55, Tryz.ntmps55
  go_wp2_with fail
  go_ret
  exact ⟨rfl, Below.refl _ _⟩
theorem subZ_le (sub : Nat → Option ET) (s : Nat) : subZ 61 sub s ≤ 61 := by
  unfold subZ
  split <;> omega

set_option maxRecDepth 100000 in
set_option maxHeartbeats 4000000 in
theorem sub2_at (ys : List Xpr) (hys : ∀ y ∈ ys, xprE y = 0) (la : Option Addr) (ln lc LB FB : Nat) (w : World) (h : LM w la ln lc ys) (h1 : w.heap[LB]? = some (.cells #[.slice la ln lc] 44 (0, 0))) (h2 : w.heap[FB]? = some (.cells #[.func (.func 55) #[] #[]] 80 (0, 0))) :
    OfAt w 57 #[.pointer (some ⟨LB, 0, none⟩), .pointer (some ⟨FB, 0, none⟩)] (subZ 61 (subL ys)) := fun s hs W hb => by
  show Calls Tryz.prog 57 #[.int .i64 (s : Int), .pointer (some ⟨LB, 0, none⟩), .pointer (some ⟨FB, 0, none⟩)] W _
  have p1 := cell_of_row _ _ 0 _ _ _ (heap_below hb h1)
  have p2 := cell_of_row _ _ 0 _ _ _ (heap_below hb h2)
  have hln := h.len
  by_cases hlt : s < ln
  · have hd : decide ((s : Int) < (ln : Int)) = true := decide_eq_true (by omega)
    obtain ⟨y, hy⟩ : ∃ y, ys[s]? = some y := ⟨_, List.getElem?_eq_getElem (by omega)⟩
    obtain ⟨b, o, ha, hc⟩ := h.at' (by omega)
    obtain ⟨a3, n3, c3, y0, hxm, y1⟩ := hc s y hy
    subst ha
    have hz : subZ 61 (subL ys) s = min 61 (treY y noSub).sz := by unfold subZ subL; rw [hy]; rfl
    have y0 := cell_keep hb y0
    have y1 := cell_keep hb y1
    have hxw := hxm.below hb
    have HX : Hid (∀ u : World, Below W.heap.size W u → Calls Tryz.prog 56 #[.agg #[.slice a3 n3 c3, .int .i64 y.root], .func (.func 55) #[] #[]] u fun e w' => e = .returned (.int .i64 ((min 61 (treY y noSub).sz : Nat) : Int)) ∧ Below W.heap.size W w') := Lib.hid (fun u hu =>
      (size_c y (hys y (List.mem_of_getElem? hy)) noSub _ _ (enters_of Tryz.func55 (by kernel_rfl) rfl) u (one_at u) (subZ_le _) a3 n3 c3 (hxw.below hu)).mono fun e w' h => ⟨h.1, Below.next hu h.2⟩)
    have KS : Hid (∀ u : World, Below W.heap.size W u → u.cell? ⟨LB, 0, none⟩ = some (.slice (some ⟨b, o, none⟩) ln lc) ∧ u.cell? ⟨FB, 0, none⟩ = some (.func (.func 55) #[] #[]) ∧ u.cell? ⟨b, o + s * 2, none⟩ = some (.slice a3 n3 c3) ∧ u.cell? ⟨b, o + s * 2 + 1, none⟩ = some (.int .i64 y.root)) := Lib.hid (fun u hu => ⟨cell_keep hu p1, cell_keep hu p2, cell_keep hu y0, cell_keep hu y1⟩)
    have HZ := Lib.hid hz
    clear h h1 h2 hb hxm hxw hc hy hz hys hln p2 y0 y1
    go_enter Tryz.func57, Tryz.ntmps57
    go_wp2_with fail
    refine wp_region_quiet (C := fun u => Below W.heap.size W u) (by kernel_rfl) (by kernel_rfl) (below_drew (Below.refl _ _)) ?_
    repeat (refine wpQuiet_step (fun K hK => ?_); go_simp; (first | (refine hK _ ?_; clear hK K) | (apply Exists.intro; refine ⟨fun u hu => ?_, hK _ ?_⟩; (first | with_reducible exact rfl | with_reducible exact ⟨rfl, hu⟩ | ((with_reducible refine (HX.out u hu).mono ?_); (rintro e w3 ⟨rfl, h3⟩; exact ⟨rfl, h3⟩)) | (obtain ⟨q1, q2, q3, q4⟩ := KS.out u hu; go_simp; first | exact rfl | exact ⟨rfl, hu⟩ | exact hu)); clear hK K)))
    refine wpQuiet_nil ?_
    intro wq hwq
    have HBQ := Lib.hid hwq
    clear hwq
    go_wp2_with fail
    go_ret
    rw [HZ.out]
    exact ⟨rfl, HBQ.out⟩
  · have hd : decide ((s : Int) < (ln : Int)) = false := decide_eq_false (by omega)
    have hz : subZ 61 (subL ys) s = 1 := by unfold subZ subL; rw [List.getElem?_eq_none (by omega)]; rfl
    have HZ := Lib.hid hz
    clear h h1 h2 hb hys hln hz
    go_enter Tryz.func57, Tryz.ntmps57
    go_wp2_with fail
    go_ret
    rw [HZ.out]
    exact ⟨rfl, Below.refl _ _⟩
/-- an expression that a call returns, with an error -/
def RetX (x : Xpr) (er : Int) (w : World) (e : Ending) (w' : World) : Prop :=
  ∃ a' c', e = .returned (.tuple #[.agg #[.slice a' x.nodes.length c', .int .i64 x.root], .int .i64 er]) ∧ XMR w.heap.size w'.heap.size w' a' x.nodes.length c' x.nodes ∧ Below w.heap.size w w'
theorem RetX.none_ {er : Int} {w w' : World} {e : Ending} (he : e = .returned (.tuple #[.agg #[.slice none 0 0, .int .i64 0], .int .i64 er])) (hb : Below w.heap.size w w') : RetX ⟨[], 0⟩ er w e w' :=
  ⟨none, 0, he, fun _ _ => XM.none_ _, hb⟩

theorem box3 {w W3 : World} {c0 c1 c2 : Array Value} {t0 t1 t2 : TypeId} (h : ((w.alloc (.cells c0 t0)).alloc (.cells c1 t1)).alloc (.cells c2 t2) = W3) :
    W3.heap[w.heap.size]? = some (.cells c0 t0 (0, 0)) ∧ W3.heap[w.heap.size + 1]? = some (.cells c1 t1 (0, 0)) ∧ W3.heap[w.heap.size + 1 + 1]? = some (.cells c2 t2 (0, 0)) ∧ Below w.heap.size w W3 ∧ W3.heap.size = w.heap.size + 3 := by
  subst h
  have h1 := heap_alloc_new (w.alloc (.cells c0 t0)) (.cells c1 t1)
  have h2 := heap_alloc_new ((w.alloc (.cells c0 t0)).alloc (.cells c1 t1)) (.cells c2 t2)
  rw [World.size_alloc] at h1
  rw [World.size_alloc, World.size_alloc] at h2
  exact ⟨heap_alloc_at (heap_alloc_at (heap_alloc_new _ _) _) _, heap_alloc_at h1 _, h2, (((Below.refl _ w).alloc (Nat.le_refl _) _).alloc (by simp) _).alloc (by simp; omega) _, by simp⟩
theorem fin_box {w w4 WF : World} {R : Nat} {p q u0 u1 : Value} {t : TypeId} (h : w4.heap[R]? = some (.cells #[p, q] t (0, 0))) (hR : w.heap.size ≤ R) (hb : Below w.heap.size w w4) (hW : (w4.setCell ⟨R, 0, none⟩ u0).setCell ⟨R, 1, none⟩ u1 = WF) :
    WF.heap[R]? = some (.cells #[u0, u1] t (0, 0)) ∧ Below w.heap.size w WF := by
  subst hW
  exact ⟨heap_set_at (heap_set_at h 0 _) 1 _, (hb.setCell (p := ⟨R, 0, none⟩) hR _).setCell (p := ⟨R, 1, none⟩) hR _⟩

set_option maxRecDepth 100000 in
set_option maxHeartbeats 8000000 in
theorem subst_c (x : Xpr) (ys : List Xpr) (a : Option Addr) (n c : Nat) (la : Option Addr) (ln lc : Nat) (w : World) (h : XM w a n c x.nodes) (hl : LM w la ln lc ys) :
    Calls Tryz.prog 22 #[.agg #[.slice a n c, .int .i64 x.root], .slice la ln lc] w fun e w' => RetX (subS x ys).1 (subS x ys).2 w e w' := by
  have HX := Lib.hid h
  have HL := Lib.hid hl
  have HV := Lib.hid (fun (u : World) (hu : Below w.heap.size w u) => xpr_c x a n c u (h.below hu))
  clear h hl
  by_cases hx : xprE x = 0
  · rw [hx] at HV
    have HXX := Lib.hid hx
    have HLN := Lib.hid HL.out.len
    have hlm : ln ≤ 9223372036854775807 := by have h1 := HL.out.le; have h2 := HL.out.max; unfold maxLen at h2; omega
    have HSS : Hid (subS x ys = if xprsE ys ≠ 0 then (⟨[], 0⟩, xprsE ys) else if 60 < (treY x (subL ys)).sz then (⟨[], 0⟩, 3) else ((treY x (subL ys)).xpr, 0)) := Lib.hid (by unfold subS; rw [if_neg (by rw [hx]; simp)])
    clear hx
    go_enter Tryz.func22, Tryz.ntmps22
    go_wp2_with fail
    generalize hW3 : ((w.alloc _).alloc _).alloc _ = W3
    obtain ⟨gX, gL, gR, hb3, hs3⟩ := box3 hW3
    have GX := Lib.hid gX
    have GL := Lib.hid gL
    have GR := Lib.hid gR
    have HB3 := Lib.hid hb3
    have HS3 := Lib.hid hs3
    clear hW3 gX gL gR hb3 hs3
    with_reducible refine (HV.out W3 HB3.out).mono ?_
    rintro e w4 ⟨rfl, hb4⟩
    have HB4 := Lib.hid (Below.next HB3.out hb4)
    have GX4 := Lib.hid (heap_below hb4 GX.out)
    have GL4 := Lib.hid (heap_below hb4 GL.out)
    have GR4 := Lib.hid (heap_below hb4 GR.out)
    have l4 := cell_of_row _ _ 0 _ _ _ GL4.out
    have hs4 : w.heap.size + 3 ≤ w4.heap.size := by have := hb4.size; have := HS3.out; omega
    clear GX GL GR HB3 HS3 hb4
    go_wp2_with fail
    go_loopw [20] (fun i wr => ∃ k : Nat, k ≤ ln ∧ i = .int .i64 ((k : Nat) : Int) ∧ Hid (xprsE ys = xprsE (ys.drop k)) ∧ Below w4.heap.size w4 wr) (fun i _ => ln - (intOf i).toNat)
    case atStart => exact ⟨0, Nat.zero_le _, rfl, Lib.hid (by simp), Below.refl _ _⟩
    case round =>
      obtain ⟨k, hk, rfl, hno, hb⟩ := hrel
      by_cases hlt : k < ln
      · obtain ⟨y, hy⟩ : ∃ y, ys[k]? = some y := ⟨_, List.getElem?_eq_getElem (by have := HLN.out; omega)⟩
        obtain ⟨b2, o2, ha2, hc2⟩ := (HL.out.below (Below.next HB4.out hb)).at' (by omega)
        obtain ⟨a3, n3, c3, y0, hxm, y1⟩ := hc2 k y hy
        subst ha2
        have hdr := xprsE_drop hy
        have HVY := Lib.hid (fun (u : World) (hu : Below wr.heap.size wr u) => xpr_c y a3 n3 c3 u (hxm.below hu))
        obtain ⟨E, hE⟩ : ∃ E, xprE y = E := ⟨_, rfl⟩
        rw [hE] at HVY hdr
        have HDR := Lib.hid hdr
        have HB := Lib.hid hb
        have hsr := hb.size
        clear hdr hE hxm hc2 hy hb
        go_wp2_with fail
        with_reducible refine (HVY.out _ ((Below.refl _ _).alloc (Nat.le_refl _) _)).mono ?_
        rintro e w6 ⟨rfl, hb6⟩
        have HB6 := Lib.hid (Below.next HB.out (Below.next ((Below.refl _ _).alloc (Nat.le_refl _) _) hb6))
        clear hb6 y0 y1
        by_cases hE0 : E = 0
        · subst hE0
          have hno2 : Hid (xprsE ys = xprsE (ys.drop (k + 1))) := Lib.hid (by rw [hno.out, HDR.out, if_neg (by simp)])
          clear HDR HVY
          go_wp2_with fail
          go_roundw
          case rel => exact ⟨k + 1, by omega, by go_num, hno2, HB6.out⟩
          case measure => simp [intOf] <;> omega
        · have hne : (E != 0) = true := by simpa using hE0
          have hS : subS x ys = (⟨[], 0⟩, E) := by
            rw [HSS.out, hno.out, HDR.out, if_pos hE0, if_pos hE0]
          have HRS := Lib.hid hS
          have g4 := heap_below HB6.out GR4.out
          have t0 := cell_of_row _ _ 0 _ _ _ g4
          have t1 := cell_of_row _ _ 1 _ _ _ g4
          have z0 := frozen_row g4 0
          have z1 := frozen_row g4 1
          have G4 := Lib.hid g4
          clear g4 hS hE0 HDR HVY HSS
          go_wp2_with fail
          clear t0 t1 z0 z1
          generalize hWF : (w6.setCell _ _).setCell _ _ = WF
          obtain ⟨e1, hbf⟩ := fin_box G4.out (by omega) (Below.next HB4.out HB6.out) hWF
          have HBF := Lib.hid hbf
          have f0 := cell_of_row _ _ 0 _ _ _ e1
          have f1 := cell_of_row _ _ 1 _ _ _ e1
          clear hWF e1 hbf
          refine bodyPost_ret (v := .tuple #[.agg #[.slice none 0 0, .int .i64 0], .int .i64 E]) ?_ rfl (by rw [HRS.out]; exact RetX.none_ rfl HBF.out)
          rw [results_cell_tmp rfl]
          go_simp
      · obtain rfl : k = ln := by omega
        have hys : xprsE ys = 0 := by rw [hno.out, List.drop_of_length_le (by have := HLN.out; omega)]; rfl
        have HYS := Lib.hid (fun y hy => xprsE_ok hys y hy)
        have hS2 : Hid (subS x ys = if 60 < (treY x (subL ys)).sz then (⟨[], 0⟩, 3) else ((treY x (subL ys)).xpr, 0)) := Lib.hid (by rw [HSS.out, hys, if_neg (by simp)])
        have hsr := hb.size
        obtain ⟨WA, hWA⟩ : ∃ WA, WA = wr.alloc (.cells #[.func (.func 55) #[] #[]] 80) := ⟨_, rfl⟩
        have hbA : Below wr.heap.size wr WA := by rw [hWA]; exact (Below.refl _ _).alloc (Nat.le_refl _) _
        have gF : WA.heap[wr.heap.size]? = some (.cells #[.func (.func 55) #[] #[]] 80 (0, 0)) := by rw [hWA]; exact heap_alloc_new _ _
        have hsA : WA.heap.size = wr.heap.size + 1 := by rw [hWA]; simp
        have gX := heap_below (Below.next hb hbA) GX4.out
        have gL := heap_below (Below.next hb hbA) GL4.out
        have gR := heap_below (Below.next hb hbA) GR4.out
        have hba := Below.next HB4.out (Below.next hb hbA)
        have x0 := cell_of_row _ _ 0 _ _ _ gX
        have x1 := cell_of_row _ _ 1 _ _ _ gX
        have HSZ := Lib.hid (size_c x HXX.out (subL ys) 57 #[.pointer (some ⟨w.heap.size + 1, 0, none⟩), .pointer (some ⟨wr.heap.size, 0, none⟩)] (enters_of Tryz.func57 (by kernel_rfl) rfl) WA (sub2_at ys HYS.out la k lc _ _ WA (HL.out.below hba) gL gF) (subZ_le _) a n c (HX.out.below hba))
        have GXA := Lib.hid gX
        have GLA := Lib.hid gL
        have GRA := Lib.hid gR
        have HBA := Lib.hid hba
        rw [hWA] at x0 x1
        clear hno hys HSS hb hbA gF gX gL gR hba GX4 GL4 GR4 HB4 l4
        go_wp2_with fail
        rw [← hWA]
        have hwaz : wr.heap.size + 1 = WA.heap.size := hsA.symm
        clear x0 x1 hWA hsA
        with_reducible refine HSZ.out.mono ?_
        rintro e w7 ⟨rfl, hb7⟩
        have GX7 := Lib.hid (heap_below hb7 GXA.out)
        have GL7 := Lib.hid (heap_below hb7 GLA.out)
        have GR7 := Lib.hid (heap_below hb7 GRA.out)
        have HB7 := Lib.hid (Below.next HBA.out hb7)
        have hs7 : w.heap.size + 3 ≤ w7.heap.size := by have := hb7.size; omega
        clear hb7 HSZ GXA GLA GRA HBA
        by_cases hbig : 60 < (treY x (subL ys)).sz
        · have hd : decide ((61 : Int) ≤ ((min 61 (treY x (subL ys)).sz : Nat) : Int)) = true := decide_eq_true (by omega)
          have hS : subS x ys = (⟨[], 0⟩, 3) := by rw [hS2.out, if_pos hbig]
          have HRS := Lib.hid hS
          have t0 := cell_of_row _ _ 0 _ _ _ GR7.out
          have t1 := cell_of_row _ _ 1 _ _ _ GR7.out
          have z0 := frozen_row GR7.out 0
          have z1 := frozen_row GR7.out 1
          obtain ⟨MZ, hMZ⟩ : ∃ MZ, min 61 (treY x (subL ys)).sz = MZ := ⟨_, rfl⟩
          rw [hMZ] at hd ⊢
          clear hS hS2 hMZ hbig
          go_wp2_with fail
          clear t0 t1 z0 z1
          generalize hWF : (w7.setCell _ _).setCell _ _ = WF
          obtain ⟨e1, hbf⟩ := fin_box GR7.out (by omega) HB7.out hWF
          have HBF := Lib.hid hbf
          have f0 := cell_of_row _ _ 0 _ _ _ e1
          have f1 := cell_of_row _ _ 1 _ _ _ e1
          clear hWF e1 hbf
          refine bodyPost_ret (v := .tuple #[.agg #[.slice none 0 0, .int .i64 0], .int .i64 3]) ?_ rfl (by rw [HRS.out]; exact RetX.none_ rfl HBF.out)
          rw [results_cell_tmp rfl]
          go_simp
        · have hd : decide ((61 : Int) ≤ ((min 61 (treY x (subL ys)).sz : Nat) : Int)) = false := decide_eq_false (by omega)
          have hS : subS x ys = ((treY x (subL ys)).xpr, 0) := by rw [hS2.out, if_neg hbig]
          have HRS := Lib.hid hS
          obtain ⟨MZ, hMZ⟩ : ∃ MZ, min 61 (treY x (subL ys)).sz = MZ := ⟨_, rfl⟩
          rw [hMZ] at hd ⊢
          have HBIG := Lib.hid hbig
          clear hS hS2 hMZ hbig
          obtain ⟨W8, hW8⟩ : ∃ W8, W8 = w7.alloc (.cells #[.slice none 0 0, .int .i64 0] 32) := ⟨_, rfl⟩
          have hb8 : Below w7.heap.size w7 W8 := by rw [hW8]; exact (Below.refl _ _).alloc (Nat.le_refl _) _
          have gO : W8.heap[w7.heap.size]? = some (.cells #[.slice none 0 0, .int .i64 0] 32 (0, 0)) := by rw [hW8]; exact heap_alloc_new _ _
          have hs8 : W8.heap.size = w7.heap.size + 1 := by rw [hW8]; simp
          have gX := heap_below hb8 GX7.out
          have gL := heap_below hb8 GL7.out
          have gR := heap_below hb8 GR7.out
          have x0 := cell_of_row _ _ 0 _ _ _ gX
          have x1 := cell_of_row _ _ 1 _ _ _ gX
          have l0 := cell_of_row _ _ 0 _ _ _ gL
          have ok := xprE_ok HXX.out
          have hroot := ok.root
          have hT : treF x.nodes (subL ys) (x.root.toNat + 1) x.root.toNat = treY x (subL ys) := rfl
          have hWr := write_c x HXX.out ys HYS.out w7 w7.heap.size w7.heap.size (Nat.le_refl _) (Nat.le_refl _) (x.root.toNat + 1) a n c la k lc (HX.out.below HB7.out) (HL.out.below HB7.out) x.root.toNat (Nat.lt_succ_self _) (by omega) W8 (fun _ => False) (.slice none 0 0) [] ⟨hb8, ⟨_, gO⟩, XB.nil _ _ _ _ (fun _ h => h.elim), id, (fun e => by cases e), fun _ h => h.elim⟩ (by rw [hT]; have := HBIG.out; show 0 + _ ≤ 1000; omega)
          rw [hT, Int.toNat_of_nonneg hroot.1] at hWr
          have HWR := Lib.hid hWr
          have GRO := Lib.hid gR
          have HB8 := Lib.hid (Below.next HB7.out hb8)
          rw [hW8] at x0 x1 l0
          clear gX gL gR gO hb8 ok hroot hT hWr
          go_wp2_with fail
          rw [← hW8]
          clear x0 x1 l0 hW8
          with_reducible refine HWR.out.mono ?_
          rintro e w9 ⟨rfl, v', S', k1, k2, k3, k4, k5⟩
          obtain ⟨a', c', rfl, _⟩ := k2.shape
          have gR9 := (k3.blk (w.heap.size + 1 + 1) (by omega) (by omega) (fun e => by cases e)).trans GRO.out
          have o0 := cell_of_row _ _ 0 _ _ _ k1
          have o1 := cell_of_row _ _ 1 _ _ _ k1
          have t0 := cell_of_row _ _ 0 _ _ _ gR9
          have t1 := cell_of_row _ _ 1 _ _ _ gR9
          have z0 := frozen_row gR9 0
          have z1 := frozen_row gR9 1
          have GR9 := Lib.hid gR9
          have HK2 := Lib.hid k2
          have HK5 := Lib.hid k5
          have HB9 := Lib.hid (HB8.out.trans (k3.bel.mono (by omega)))
          have hs9 := k3.bel.size
          rw [List.nil_append] at o0 o1
          clear k1 k2 k3 k4 k5 gR9 HWR GRO HB8
          go_wp2_with fail
          clear t0 t1 z0 z1 o0 o1
          generalize hWF : (w9.setCell _ _).setCell _ _ = WF
          obtain ⟨e1, hbf⟩ := fin_box GR9.out (by omega) HB9.out hWF
          have hkeep : ∀ g, g ≠ w.heap.size + 1 + 1 → WF.heap[g]? = w9.heap[g]? := fun g hg => by
            rw [← hWF, Below.heap_setCell _ ⟨w.heap.size + 1 + 1, 1, none⟩ _ g hg, Below.heap_setCell _ ⟨w.heap.size + 1 + 1, 0, none⟩ _ g hg]
          have hsF : WF.heap.size = w9.heap.size := by rw [← hWF]; simp
          have hS8 : ∀ g, S' g → W8.heap.size ≤ g := fun g hg => by
            rcases HK5.out g hg with h | h | h
            · exact h.elim
            · exact h.elim
            · exact h
          have hxb := HK2.out.move (w' := WF) (fun g hg => hkeep g (by have := hS8 g hg; omega)) (fun g hg => hkeep g (by have := (HK2.out.lt_own g hg).1; omega)) (by omega)
          obtain ⟨a2, c2, e2, hxmr⟩ := hxb.xmr (lo := w.heap.size) (fun g hg => by have := hS8 g hg; omega) (by omega)
          rw [List.nil_append] at hxmr e2
          cases e2
          have f0 := cell_of_row _ _ 0 _ _ _ e1
          have f1 := cell_of_row _ _ 1 _ _ _ e1
          have hlen : (((treY x (subL ys)).post 0).length : Int) - 1 = (treY x (subL ys)).xpr.root := by
            have := (treY x (subL ys)).sz_pos
            rw [ET.post_len]
            show _ = (((treY x (subL ys)).sz - 1 : Nat) : Int)
            omega
          have HXM := Lib.hid hxmr
          have HBF := Lib.hid hbf
          have HLEN := Lib.hid hlen
          clear hWF e1 hkeep hS8 hxb hxmr hbf hlen
          refine bodyPost_ret (v := .tuple #[.agg #[.slice a' ((treY x (subL ys)).post 0).length c', .int .i64 (treY x (subL ys)).xpr.root], .int .i64 0]) ?_ rfl ?_
          · rw [results_cell_tmp rfl]
            go_simp
            exact HLEN.out
          · rw [HRS.out]
            exact ⟨a', c', rfl, HXM.out, HBF.out⟩
  · have hR : subS x ys = (⟨[], 0⟩, xprE x) := by unfold subS; rw [if_pos hx]
    obtain ⟨E, hE⟩ : ∃ E, xprE x = E := ⟨_, rfl⟩
    rw [hR, hE]
    rw [hE] at HV hx
    have hne : (E != 0) = true := by simpa using hx
    clear hR hE hx
    go_enter Tryz.func22, Tryz.ntmps22
    go_wp2_with fail
    generalize hW3 : ((w.alloc _).alloc _).alloc _ = W3
    obtain ⟨gX, gL, gR, hb3, hs3⟩ := box3 hW3
    have GX := Lib.hid gX
    have GL := Lib.hid gL
    have GR := Lib.hid gR
    have HB3 := Lib.hid hb3
    have HS3 := Lib.hid hs3
    clear hW3 gX gL gR hb3 hs3
    with_reducible refine (HV.out W3 HB3.out).mono ?_
    rintro e w4 ⟨rfl, hb4⟩
    have g4 := heap_below hb4 GR.out
    have t0 := cell_of_row _ _ 0 _ _ _ g4
    have t1 := cell_of_row _ _ 1 _ _ _ g4
    have z0 := frozen_row g4 0
    have z1 := frozen_row g4 1
    have G4 := Lib.hid g4
    have HB4 := Lib.hid (Below.next HB3.out hb4)
    clear g4 hb4 GX GL GR HB3 HS3
    go_wp2_with fail
    clear t0 t1 z0 z1
    generalize hWF : (w4.setCell _ _).setCell _ _ = WF
    obtain ⟨e1, hbf⟩ := fin_box G4.out (by omega) HB4.out hWF
    have HBF := Lib.hid hbf
    have f0 := cell_of_row _ _ 0 _ _ _ e1
    have f1 := cell_of_row _ _ 1 _ _ _ e1
    clear hWF e1 hbf
    refine bodyPost_ret (v := .tuple #[.agg #[.slice none 0 0, .int .i64 0], .int .i64 E]) ?_ rfl (RetX.none_ rfl HBF.out)
    rw [results_cell_tmp rfl]
    go_simp
end Go.Proofs.YtcojmmhclklpoaaGreatDoor
namespace Go.Proofs.YtcojmmhclklpoaaGreatDoor
open Go.RowKit Go.Shelf

/-- what Tidy answers -/
def tidS (x : Xpr) : Xpr × Int := if xprE x ≠ 0 then (⟨[], 0⟩, xprE x) else if 60 < (treX x).sz then (⟨[], 0⟩, 3) else ((treX x).xpr, 0)
theorem subS_nil (x : Xpr) : subS x [] = tidS x := rfl
theorem box2 {w W2 : World} {c0 c1 : Array Value} {t0 t1 : TypeId} (h : (w.alloc (.cells c0 t0)).alloc (.cells c1 t1) = W2) :
    W2.heap[w.heap.size]? = some (.cells c0 t0 (0, 0)) ∧ W2.heap[w.heap.size + 1]? = some (.cells c1 t1 (0, 0)) ∧ Below w.heap.size w W2 ∧ W2.heap.size = w.heap.size + 2 := by
  subst h
  have h1 := heap_alloc_new (w.alloc (.cells c0 t0)) (.cells c1 t1)
  rw [World.size_alloc] at h1
  exact ⟨heap_alloc_at (heap_alloc_new _ _) _, h1, ((Below.refl _ w).alloc (Nat.le_refl _) _).alloc (by simp) _, by simp⟩
/-- an expression that was returned, put into a box: the slice still reads -/
theorem xmr_box {lo R : Nat} {w WF : World} {a : Option Addr} {n c : Nat} {nodes : List Nod} {u0 u1 : Value} (h : XMR lo w.heap.size w a n c nodes) (hR : R < lo) (hW : (w.setCell ⟨R, 0, none⟩ u0).setCell ⟨R, 1, none⟩ u1 = WF) : XMR lo WF.heap.size WF a n c nodes := by
  have hs : WF.heap.size = w.heap.size := by rw [← hW]; simp
  rw [hs]
  refine h.agree fun g g1 g2 => ?_
  rw [← hW, Below.heap_setCell _ ⟨R, 1, none⟩ _ g (by show g ≠ R; omega), Below.heap_setCell _ ⟨R, 0, none⟩ _ g (by show g ≠ R; omega)]

set_option maxRecDepth 100000 in
set_option maxHeartbeats 2000000 in
theorem tidy_c (x : Xpr) (a : Option Addr) (n c : Nat) (w : World) (h : XM w a n c x.nodes) :
    Calls Tryz.prog 27 #[.agg #[.slice a n c, .int .i64 x.root]] w fun e w' => RetX (tidS x).1 (tidS x).2 w e w' := by
  have HS := Lib.hid (fun (u : World) (hu : Below w.heap.size w u) => subst_c x [] a n c none 0 0 u (h.below hu) (LM.none_ _))
  rw [subS_nil] at HS
  obtain ⟨R, hR⟩ : ∃ R, tidS x = R := ⟨_, rfl⟩
  rw [hR] at HS ⊢
  obtain ⟨y, er⟩ := R
  simp only at HS ⊢
  clear h hR
  go_enter Tryz.func27, Tryz.ntmps27
  go_wp2_with fail
  generalize hW2 : (w.alloc _).alloc _ = W2
  obtain ⟨gX, gR, hb2, hs2⟩ := box2 hW2
  have GR := Lib.hid gR
  have HB2 := Lib.hid hb2
  clear hW2 gX gR hb2
  with_reducible refine (HS.out W2 HB2.out).mono ?_
  rintro e w3 ⟨a', c', rfl, hxm, hb3⟩
  have gR3 := heap_below hb3 GR.out
  have t0 := cell_of_row _ _ 0 _ _ _ gR3
  have t1 := cell_of_row _ _ 1 _ _ _ gR3
  have z0 := frozen_row gR3 0
  have z1 := frozen_row gR3 1
  have GR3 := Lib.hid gR3
  have HB3 := Lib.hid (Below.next HB2.out hb3)
  have HXM := Lib.hid hxm
  clear gR3 hb3 hxm HS GR HB2
  go_wp2_with fail
  clear t0 t1 z0 z1
  generalize hWF : (w3.setCell _ _).setCell _ _ = WF
  obtain ⟨e1, hbf⟩ := fin_box GR3.out (by omega) HB3.out hWF
  have hx2 := (xmr_box HXM.out (by omega) hWF).mono (lo' := w.heap.size) (by omega) (Nat.le_refl _)
  have HX2 := Lib.hid hx2
  have HBF := Lib.hid hbf
  have f0 := cell_of_row _ _ 0 _ _ _ e1
  have f1 := cell_of_row _ _ 1 _ _ _ e1
  clear hWF e1 hbf hx2
  refine bodyPost_ret (v := .tuple #[.agg #[.slice a' y.nodes.length c', .int .i64 y.root], .int .i64 er]) ?_ rfl ⟨a', c', rfl, HX2.out, HBF.out⟩
  rw [results_cell_tmp rfl]
  go_simp
end Go.Proofs.YtcojmmhclklpoaaGreatDoor
namespace Go.Proofs.YtcojmmhclklpoaaGreatDoor
open Go.RowKit

/-- two expressions made, in boxes of their own -/
structure TwoB (x y : Xpr) (w0 W : World) (p5 p6 : Value) : Prop where
  ex : ∃ b5 b6 a1 c1 a2 c2, p5 = .pointer (some ⟨b5, 0, none⟩) ∧ p6 = .pointer (some ⟨b6, 0, none⟩) ∧ W.heap[b5]? = some (.cells #[.slice a1 x.nodes.length c1, .int .i64 x.root] 32 (0, 0)) ∧ W.heap[b6]? = some (.cells #[.slice a2 y.nodes.length c2, .int .i64 y.root] 32 (0, 0)) ∧ XM W a1 x.nodes.length c1 x.nodes ∧ XM W a2 y.nodes.length c2 y.nodes
  bel : Below w0.heap.size w0 W

abbrev zEx : Obj := .cells #[.slice none 0 0, .int .i64 0] 32
structure TS (x y : Xpr) (w0 W : World) (o5 o6 : Option Nat) (r1 r2 : Option (Option Addr × Nat)) : Prop where
  bel : Below w0.heap.size w0 W
  b5 : ∀ b, o5 = some b → W.heap[b]? = some zEx ∧ w0.heap.size ≤ b
  b6 : ∀ b, o6 = some b → W.heap[b]? = some zEx ∧ w0.heap.size ≤ b
  ne : ∀ b b', o5 = some b → o6 = some b' → b ≠ b'
  x1 : ∀ p, r1 = some p → ∃ lo hi, XMR lo hi W p.1 x.nodes.length p.2 x.nodes ∧ hi ≤ W.heap.size ∧ ∀ b, (o5 = some b ∨ o6 = some b) → b < lo ∨ hi ≤ b
  x2 : ∀ p, r2 = some p → ∃ lo hi, XMR lo hi W p.1 y.nodes.length p.2 y.nodes ∧ hi ≤ W.heap.size ∧ ∀ b, (o5 = some b ∨ o6 = some b) → b < lo ∨ hi ≤ b
theorem heap_some_lt {w : World} {b : Nat} {o : Obj} (h : w.heap[b]? = some o) : b < w.heap.size := (Array.getElem?_eq_some_iff.1 h).1
section
variable {x y : Xpr} {w0 W W' : World} {o5 o6 : Option Nat} {r1 r2 : Option (Option Addr × Nat)}
theorem TS.start (x y : Xpr) (w0 : World) : TS x y w0 w0.drew none none none none :=
  ⟨below_drew (Below.refl _ _), (fun _ h => by cases h), (fun _ h => by cases h), (fun _ _ h => by cases h), (fun _ h => by cases h), (fun _ h => by cases h)⟩
theorem TS.lt (h : TS x y w0 W o5 o6 r1 r2) {b : Nat} (hb : o5 = some b ∨ o6 = some b) : b < W.heap.size := by
  rcases hb with e | e
  · exact heap_some_lt (h.b5 b e).1
  · exact heap_some_lt (h.b6 b e).1
theorem TS.call2 (h : TS x y w0 W o5 o6 r1 none) (hb : Below W.heap.size W W') {a : Option Addr} {c : Nat} (hx : XMR W.heap.size W'.heap.size W' a y.nodes.length c y.nodes) : TS x y w0 W' o5 o6 r1 (some (a, c)) :=
  { bel := Below.next h.bel hb
    b5 := fun b e => ⟨heap_below hb (h.b5 b e).1, (h.b5 b e).2⟩
    b6 := fun b e => ⟨heap_below hb (h.b6 b e).1, (h.b6 b e).2⟩
    ne := h.ne
    x2 := fun p e => by cases e; exact ⟨_, _, hx, Nat.le_refl _, fun b hb' => .inl (h.lt hb')⟩
    x1 := fun p e => by
      obtain ⟨lo, hi, h1, h2, h3⟩ := h.x1 p e
      exact ⟨lo, hi, h1.agree fun g _ hg => hb.block g (by omega), Nat.le_trans h2 hb.size, h3⟩ }
theorem open2 {w : World} {B : Nat} {p q : Value} {t : TypeId} (h : w.heap[B]? = some (.cells #[p, q] t (0, 0))) :
    (w.cell? ⟨B, 0, none⟩ = some p ∧ w.cell? ⟨B, 1, none⟩ = some q) ∧ w.frozen? ⟨B, 0, none⟩ = false ∧ w.frozen? ⟨B, 1, none⟩ = false :=
  ⟨⟨cell_of_row _ _ 0 _ _ _ h, cell_of_row _ _ 1 _ _ _ h⟩, frozen_row h 0, frozen_row h 1⟩
theorem TS.fin {b5 b6 : Nat} {a1 a2 : Option Addr} {c1 c2 : Nat} (h : TS x y w0 W (some b5) (some b6) (some (a1, c1)) (some (a2, c2))) {W1 W2 : World} (h1 : W1 = (W.setCell ⟨b5, 0, none⟩ (.slice a1 x.nodes.length c1)).setCell ⟨b5, 1, none⟩ (.int .i64 x.root)) (h2 : W2 = (W1.setCell ⟨b6, 0, none⟩ (.slice a2 y.nodes.length c2)).setCell ⟨b6, 1, none⟩ (.int .i64 y.root)) :
    (W1.heap[b6]? = some zEx ∧ Below w0.heap.size w0 W1) ∧ TwoB x y w0 W2 (.pointer (some ⟨b5, 0, none⟩)) (.pointer (some ⟨b6, 0, none⟩)) := by
  have hne := h.ne b5 b6 rfl rfl
  obtain ⟨e5, l5⟩ := h.b5 b5 rfl
  obtain ⟨e6, l6⟩ := h.b6 b6 rfl
  obtain ⟨lo1, hi1, x1, _, y1⟩ := h.x1 _ rfl
  obtain ⟨lo2, hi2, x2, _, y2⟩ := h.x2 _ rfl
  have H : ∀ g, g ≠ b5 → W1.heap[g]? = W.heap[g]? := fun g hg => by
    rw [h1, Below.heap_setCell _ ⟨b5, 1, none⟩ _ g hg, Below.heap_setCell _ ⟨b5, 0, none⟩ _ g hg]
  have K : ∀ g, g ≠ b6 → W2.heap[g]? = W1.heap[g]? := fun g hg => by
    rw [h2, Below.heap_setCell _ ⟨b6, 1, none⟩ _ g hg, Below.heap_setCell _ ⟨b6, 0, none⟩ _ g hg]
  have k6 : W1.heap[b6]? = some zEx := (H b6 (fun e => hne e.symm)).trans e6
  have B1 : Below w0.heap.size w0 W1 := by rw [h1]; exact (h.bel.setCell (p := ⟨b5, 0, none⟩) l5 _).setCell (p := ⟨b5, 1, none⟩) l5 _
  have B2 : Below w0.heap.size w0 W2 := by rw [h2]; exact (B1.setCell (p := ⟨b6, 0, none⟩) l6 _).setCell (p := ⟨b6, 1, none⟩) l6 _
  refine ⟨⟨k6, B1⟩, ⟨b5, b6, a1, c1, a2, c2, rfl, rfl, ?_, ?_, ?_, ?_⟩, B2⟩
  · rw [K b5 hne, h1, heap_set_at (heap_set_at e5 0 _) 1 _]; rfl
  · rw [h2, heap_set_at (heap_set_at k6 0 _) 1 _]; rfl
  · exact x1 W2 fun g g1 g2 => (K g (fun e => by have := y1 b6 (.inr rfl); omega)).trans (H g (fun e => by have := y1 b5 (.inl rfl); omega))
  · exact x2 W2 fun g g1 g2 => (K g (fun e => by have := y2 b6 (.inr rfl); omega)).trans (H g (fun e => by have := y2 b5 (.inl rfl); omega))
end
end Go.Proofs.YtcojmmhclklpoaaGreatDoor
namespace Go.Proofs.YtcojmmhclklpoaaGreatDoor
open Go.RowKit

/-- on the way: a box made (or not yet), a call's result (or not yet), the latter read by the blocks of S0 and by blocks of its own -/
structure CS (S0 : Nat → Prop) (W0 z : World) (box : Option (Nat × Obj)) (q : Option (World → Prop)) : Prop where
  bel : Below W0.heap.size W0 z
  b : ∀ B ob, box = some (B, ob) → z.heap[B]? = some ob ∧ W0.heap.size ≤ B
  s0 : ∀ g, S0 g → g < W0.heap.size
  r : ∀ Q, q = some Q → ∃ lo hi, (∀ w2 : World, (∀ g, S0 g ∨ (lo ≤ g ∧ g < hi) → w2.heap[g]? = z.heap[g]?) → Q w2) ∧ hi ≤ z.heap.size ∧ W0.heap.size ≤ lo ∧ ∀ B ob, box = some (B, ob) → B < lo ∨ hi ≤ B
section
variable {S0 : Nat → Prop} {W0 z z' : World} {box : Option (Nat × Obj)} {q : Option (World → Prop)}
theorem CS.start (h : ∀ g, S0 g → g < W0.heap.size) : CS S0 W0 W0.drew none none :=
  ⟨below_drew (Below.refl _ _), (fun _ _ h => by cases h), h, (fun _ h => by cases h)⟩
theorem CS.lt (h : CS S0 W0 z box q) {B : Nat} {ob : Obj} (hb : box = some (B, ob)) : B < z.heap.size := heap_some_lt (h.b B ob hb).1
theorem CS.quiet (h : CS S0 W0 z box q) (hb : Below z.heap.size z z') : CS S0 W0 z' box q :=
  { bel := Below.next h.bel hb
    b := fun B ob e => ⟨heap_below hb (h.b B ob e).1, (h.b B ob e).2⟩
    s0 := h.s0
    r := fun Q e => by
      obtain ⟨lo, hi, h1, h2, h3, h4⟩ := h.r Q e
      refine ⟨lo, hi, fun w2 hw => h1 w2 fun g hg => (hw g hg).trans (hb.block g ?_), Nat.le_trans h2 hb.size, h3, h4⟩
      rcases hg with hg | hg
      · have := h.s0 g hg; have := h.bel.size; omega
      · omega }
theorem CS.call {Q : World → Prop} (h : CS S0 W0 z box none) (hb : Below z.heap.size z z') (hq : ∀ w2 : World, (∀ g, S0 g ∨ (z.heap.size ≤ g ∧ g < z'.heap.size) → w2.heap[g]? = z'.heap[g]?) → Q w2) : CS S0 W0 z' box (some Q) :=
  { bel := Below.next h.bel hb
    b := fun B ob e => ⟨heap_below hb (h.b B ob e).1, (h.b B ob e).2⟩
    s0 := h.s0
    r := fun Q' e => by
      cases e
      exact ⟨z.heap.size, z'.heap.size, hq, Nat.le_refl _, h.bel.size, fun B ob e => .inl (h.lt e)⟩ }
theorem CS.alloc (h : CS S0 W0 z none q) (ob : Obj) : CS S0 W0 (z.alloc ob) (some (z.heap.size, ob)) q :=
  { bel := h.bel.alloc h.bel.size _
    b := fun B ob' e => by cases e; exact ⟨heap_alloc_new _ _, h.bel.size⟩
    s0 := h.s0
    r := fun Q e => by
      obtain ⟨lo, hi, h1, h2, h3, h4⟩ := h.r Q e
      refine ⟨lo, hi, fun w2 hw => h1 w2 fun g hg => (hw g hg).trans (Below.heap_alloc z ob g ?_), by rw [World.size_alloc]; omega, h3, fun B ob' e => ?_⟩
      · rcases hg with hg | hg
        · have := h.s0 g hg; have := h.bel.size; omega
        · omega
      · cases e; exact .inr h2 }
/-- the box filled -/
structure CF (S0 : Nat → Prop) (W0 V : World) (B : Nat) (ob : Obj) (Q : World → Prop) : Prop where
  bel : Below W0.heap.size W0 V
  b : V.heap[B]? = some ob
  le : W0.heap.size ≤ B
  r : ∃ S' : Nat → Prop, ¬ S' B ∧ (∀ g, S' g → S0 g ∨ (W0.heap.size ≤ g ∧ g < V.heap.size)) ∧ ∀ w2 : World, Ag S' V w2 → Q w2
theorem CS.fin {B : Nat} {ob ob' : Obj} {Q : World → Prop} {V : World} (h : CS S0 W0 z (some (B, ob)) (some Q)) (h1 : V.heap[B]? = some ob') (h2 : ∀ g, g ≠ B → V.heap[g]? = z.heap[g]?) (h3 : ∀ B', B' ≤ B → Below B' z V) : CF S0 W0 V B ob' Q := by
  obtain ⟨lo, hi, r1, r2, r3, r4⟩ := h.r Q rfl
  have hB := (h.b B ob rfl).2
  have hlt := h.lt rfl
  have hz := (h3 B (Nat.le_refl _)).size
  refine ⟨h.bel.trans (h3 _ hB), h1, hB, fun g => S0 g ∨ (lo ≤ g ∧ g < hi), ?_, fun g hg => ?_, fun w2 hw => r1 w2 fun g hg => (hw g hg).trans (h2 g ?_)⟩
  · rintro (hg | hg)
    · have := h.s0 B hg; omega
    · have := r4 B ob rfl; omega
  · rcases hg with hg | hg
    · exact .inl hg
    · exact .inr ⟨by omega, by omega⟩
  · intro e
    subst e
    rcases hg with hg | hg
    · have := h.s0 g hg; omega
    · have := r4 g ob rfl; omega
end
theorem fin2w {w WF : World} {R : Nat} {v0 v1 u0 u1 : Value} {t : TypeId} (h : w.heap[R]? = some (.cells #[v0, v1] t (0, 0))) (hW : (w.setCell ⟨R, 0, none⟩ u0).setCell ⟨R, 1, none⟩ u1 = WF) :
    WF.heap[R]? = some (.cells #[u0, u1] t (0, 0)) ∧ (∀ g, g ≠ R → WF.heap[g]? = w.heap[g]?) ∧ WF.heap.size = w.heap.size ∧ (∀ B, B ≤ R → Below B w WF) := by
  subst hW
  refine ⟨heap_set_at (heap_set_at h 0 _) 1 _, fun g hg => ?_, by simp, fun B hB => ?_⟩
  · rw [Below.heap_setCell _ ⟨R, 1, none⟩ _ g hg, Below.heap_setCell _ ⟨R, 0, none⟩ _ g hg]
  · exact ((Below.refl B w).setCell (p := ⟨R, 0, none⟩) hB _).setCell (p := ⟨R, 1, none⟩) hB _
/-- five cells of a box stored -/
theorem fin5 {w WF : World} {R : Nat} {v0 v1 v2 v3 v4 u0 u1 u2 u3 u4 : Value} {t : TypeId} (h : w.heap[R]? = some (.cells #[v0, v1, v2, v3, v4] t (0, 0))) (hW : ((((w.setCell ⟨R, 0, none⟩ u0).setCell ⟨R, 1, none⟩ u1).setCell ⟨R, 2, none⟩ u2).setCell ⟨R, 3, none⟩ u3).setCell ⟨R, 4, none⟩ u4 = WF) :
    WF.heap[R]? = some (.cells #[u0, u1, u2, u3, u4] t (0, 0)) ∧ (∀ g, g ≠ R → WF.heap[g]? = w.heap[g]?) ∧ WF.heap.size = w.heap.size ∧ (∀ B, B ≤ R → Below B w WF) := by
  subst hW
  refine ⟨heap_set_at (heap_set_at (heap_set_at (heap_set_at (heap_set_at h 0 _) 1 _) 2 _) 3 _) 4 _, fun g hg => ?_, by simp, fun B hB => ?_⟩
  · rw [Below.heap_setCell _ ⟨R, 4, none⟩ _ g hg, Below.heap_setCell _ ⟨R, 3, none⟩ _ g hg, Below.heap_setCell _ ⟨R, 2, none⟩ _ g hg, Below.heap_setCell _ ⟨R, 1, none⟩ _ g hg, Below.heap_setCell _ ⟨R, 0, none⟩ _ g hg]
  · exact (((((Below.refl B w).setCell (p := ⟨R, 0, none⟩) hB _).setCell (p := ⟨R, 1, none⟩) hB _).setCell (p := ⟨R, 2, none⟩) hB _).setCell (p := ⟨R, 3, none⟩) hB _).setCell (p := ⟨R, 4, none⟩) hB _
theorem open5 {w : World} {B : Nat} {v0 v1 v2 v3 v4 : Value} {t : TypeId} (h : w.heap[B]? = some (.cells #[v0, v1, v2, v3, v4] t (0, 0))) :
    w.cell? ⟨B, 0, none⟩ = some v0 ∧ w.cell? ⟨B, 1, none⟩ = some v1 ∧ w.cell? ⟨B, 2, none⟩ = some v2 ∧ w.cell? ⟨B, 3, none⟩ = some v3 ∧ w.cell? ⟨B, 4, none⟩ = some v4 :=
  ⟨cell_of_row _ _ 0 _ _ _ h, cell_of_row _ _ 1 _ _ _ h, cell_of_row _ _ 2 _ _ _ h, cell_of_row _ _ 3 _ _ _ h, cell_of_row _ _ 4 _ _ _ h⟩
theorem frz5 {w : World} {B : Nat} {v0 v1 v2 v3 v4 : Value} {t : TypeId} (h : w.heap[B]? = some (.cells #[v0, v1, v2, v3, v4] t (0, 0))) :
    w.frozen? ⟨B, 0, none⟩ = false ∧ w.frozen? ⟨B, 1, none⟩ = false ∧ w.frozen? ⟨B, 2, none⟩ = false ∧ w.frozen? ⟨B, 3, none⟩ = false ∧ w.frozen? ⟨B, 4, none⟩ = false :=
  ⟨frozen_row h 0, frozen_row h 1, frozen_row h 2, frozen_row h 3, frozen_row h 4⟩
end Go.Proofs.YtcojmmhclklpoaaGreatDoor
namespace Go.Proofs.YtcojmmhclklpoaaGreatDoor
open Go.RowKit Go.Shelf

theorem Tryz.infoTre : (Tryz.prog.info? 106).map (fun i => (i.zero, i.size, i.bytes)) = some (some (.agg #[.bool false, .int .i64 0, .int .i64 0, .slice none 0 0, .slice none 0 0]), 5, 72) := by kernel_rfl
/-- a tree comes back: what it reads by lies in a set or is the call's own -/
def RetT (S : Nat → Prop) (t : ET) (w : World) (e : Ending) (w' : World) : Prop :=
  ∃ lf sv nd aw nw cw ak nk ck, e = .returned (.agg #[.bool lf, .int .i64 sv, .int .i64 nd, .slice aw nw cw, .slice ak nk ck]) ∧ TrS (fun g => S g ∨ (w.heap.size ≤ g ∧ g < w'.heap.size)) w' ⟨lf, sv, nd, .slice aw nw cw, .slice ak nk ck⟩ t ∧ Below w.heap.size w w'
abbrev zTre : Array Value := #[.bool false, .int .i64 0, .int .i64 0, .slice none 0 0, .slice none 0 0]
def PlC (x : Xpr) (f : Nat) : Prop := ∀ (i : Nat), i < f → i < x.nodes.length → ∀ (a : Option Addr) (n c : Nat) (w : World), XM w a n c x.nodes → (treF x.nodes noSub f i).sz ≤ 1000 →
  Calls Tryz.prog 74 #[.agg #[.slice a n c, .int .i64 x.root], .int .i64 i] w fun e w' => RetT (fun _ => False) (treF x.nodes noSub f i) w e w'

set_option maxRecDepth 100000 in
set_option maxHeartbeats 8000000 in
theorem plant_step (x : Xpr) (hx : xprE x = 0) (f : Nat) (ih : PlC x f) : PlC x (f + 1) := by
  intro i hif hil a n c w h hsz
  obtain ⟨nd, hnd⟩ : ∃ nd, x.nodes[i]? = some nd := ⟨_, List.getElem?_eq_getElem hil⟩
  have xok := xprE_ok hx
  have ok := xok.node i nd hnd
  have hthr := xprE_thr0 hx i nd hnd
  have hl := h.len
  obtain ⟨b, o, ha, hat⟩ := h.at' (by omega)
  have hM := hat i nd hnd
  obtain ⟨aw, nw, cw, m3, rw3⟩ := hM.ws
  obtain ⟨ak, nk, ck, m4, rk4⟩ := hM.ks
  have hbl : b < w.heap.size := cell_lt hM.c0
  have m0 := hM.c0
  have m1 := hM.c1
  have m2 := hM.c2
  have HX := Lib.hid h
  have hwl := rw3.len
  have hkl := rk4.len
  rw [List.length_map] at hwl hkl
  subst ha
  obtain ⟨kind, server, need, ws, ks⟩ := nd
  simp only at m0 m1 m2 m3 rw3 m4 rk4 hwl hkl hthr
  have hin : i < n := by omega
  have hbi : decide ((i : Int) < (n : Int)) = true := decide_eq_true (by omega)
  by_cases hk1 : kind = 1
  · subst hk1
    have hT : treF x.nodes noSub (f + 1) i = .srv server := by
      have e : x.nodes.getD i nod0 = ⟨1, server, need, ws, ks⟩ := by rw [List.getD_eq_getElem?_getD, hnd]; rfl
      rw [treF, e, if_pos rfl]; rfl
    rw [hT]
    clear hM hat hnd hwl hkl rw3 rk4 ok h hT ih hthr xok hl hsz
    go_enter Tryz.func74, Tryz.ntmps74
    go_wp2_with fail
    refine bodyPost_ret (v := .agg #[.bool true, .int .i64 server, .int .i64 0, .slice none 0 0, .slice none 0 0]) ?_ rfl ⟨true, server, 0, none, 0, 0, none, 0, 0, rfl, TrS.srv _ _ _, (((Below.refl _ _).alloc (Nat.le_refl _) _).alloc (by simp) _).alloc (by simp; omega) _⟩
    have hR := heap_alloc_new (w.alloc (.cells #[.slice (some ⟨b, o, none⟩) n c, .int .i64 x.root] 32)) (.cells #[.bool true, .int .i64 server, .int .i64 0, .slice none 0 0, .slice none 0 0] 106)
    rw [World.size_alloc] at hR
    exact results_cell_row rfl _ _ _ _ _ _ _ rfl (heap_alloc_at hR _) Tryz.underlying106 rfl (by kernel_rfl)
  · have hk2 : (kind == 1) = false := by simpa using hk1
    obtain ⟨rfl⟩ : server = 0 := hthr hk1
    have hT : treF x.nodes noSub (f + 1) i = .thr need ws (kidT x.nodes noSub f ks) := by
      have e : x.nodes.getD i nod0 = ⟨kind, 0, need, ws, ks⟩ := by rw [List.getD_eq_getElem?_getD, hnd]; rfl
      rw [treF, e, if_neg hk1]; rfl
    rw [hT] at hsz ⊢
    rw [ET.sz] at hsz
    obtain ⟨KT, hKT⟩ : ∃ KT, KT = kidT x.nodes noSub f ks := ⟨_, rfl⟩
    rw [← hKT] at hsz ⊢
    have hKl : KT.length = nk := by rw [hKT, kidT_len]; exact hkl.symm
    have hnk : nk ≤ 1000 := by have := ETs.sz_ge KT; omega
    have hnw : nw ≤ 1000 := by
      rcases ok.arity with h5 | h5 <;> simp only at h5
      · rw [h5] at hwl; simp at hwl; omega
      · omega
    have HKT := Lib.hid hKT
    have HKL := Lib.hid hKl
    have HNW := Lib.hid hnw
    have HNK := Lib.hid hnk
    have HKR := Lib.hid ok.kids
    have HW3 := Lib.hid rw3
    have HK4 := Lib.hid rk4
    have HHL := Lib.hid hl
    have HWL := Lib.hid hwl
    have HIH := Lib.hid ih
    have HSZ := Lib.hid hsz
    clear hsz hT hKT hKl hnw hnk hkl hwl hM hat hnd rw3 rk4 h ok ih hthr xok hl
    go_enter Tryz.func74, Tryz.ntmps74
    go_upto_region 4 with fail
    generalize hW3 : ((w.alloc _).alloc _).alloc _ = w3
    obtain ⟨gX, gR, gN, hb3, hs3⟩ := box3 hW3
    have GX := Lib.hid gX
    have GR := Lib.hid gR
    have GN := Lib.hid gN
    have HB3 := Lib.hid hb3
    have HS3 := Lib.hid hs3
    have HC := Lib.hid (fun (u : World) (hu : Below w3.heap.size w3 u) => clone_c ws aw nw cw u (HW3.out.below (Below.next hb3 hu)) (Nat.le_trans HNW.out (by decide)))
    clear hW3 gX gR gN hb3 hs3 m0 m1 m2 m3 m4
    go_cut [6] (fun p6 wx => ∃ T a2 c2, p6 = .pointer (some ⟨T, 0, none⟩) ∧ CF (fun _ => False) w3 wx T (.cells #[.bool false, .int .i64 0, .int .i64 need, .slice a2 nw c2, .slice none 0 0] 106) (fun u => Rd u a2 nw c2 (ws.map (Value.int .i64))))
    case first =>
      obtain ⟨n0, n1, n2, n3, n4⟩ := open5 GN.out
      rename_i k0 h0 j0 k1 h1 h2
      clear h0
      have HKS := Lib.hid (fun (u : World) (hu : Below w3.heap.size w3 u) => And.intro (cell_keep hu n2) (cell_keep hu n3))
      refine wp_region_noPanic ?_
      refine wp_region_takes (fun u => Below w3.heap.size w3 u) [0, 1, 2, 3] 4 (by kernel_rfl) (by kernel_rfl) (by kernel_rfl) (fun _ _ _ _ _ h => h) (below_drew (Below.refl _ _)) ?_
      repeat (refine wpTk_cons rfl (fun K hK => ?_); go_simp; apply Exists.intro; refine ⟨fun u hu => ?_, hK _ ?_⟩; (first | exact rfl | (obtain ⟨r0, r1⟩ := HKS.out u hu; go_simp; done) | (obtain ⟨r0, r1⟩ := HKS.out u hu; go_simp; exact rfl)); clear hK K)
      refine wpTk_nil ?_
      have HZ0 : Hid (CS (fun _ => False) w3 w3.drew none none) := Lib.hid (CS.start (fun _ h => h.elim))
      generalize w3.drew = z0 at HZ0 ⊢
      clear HKS
      refine held_ready (rs := [4, 6]) (by kernel_rfl) (by simp) ?_
      refine (AllReadyH.cons rfl (fun K hK => ?_) (AllReadyH.cons rfl (fun K hK => ?_) AllReadyH.nil))
      · go_simp
        with_reducible refine (HC.out z0 HZ0.out.bel).mono ?_
        rintro e z1 ⟨wv, rfl, hr7, hb7⟩
        obtain ⟨aw2, cw2, rfl, _⟩ := rd_of_row hr7
        have HZ1 : Hid (CS (fun _ => False) w3 z1 none (some fun u => Rd u aw2 nw cw2 (ws.map (Value.int .i64)))) := Lib.hid (HZ0.out.call hb7 fun w2 hw2 => by
          obtain ⟨_, _, e, r⟩ := row_alone hr7 w2 (fun g hg => hw2 g (.inr (hr7.lt g hg)))
          cases e
          exact r)
        clear hr7 hb7
        go_simp
        refine hK.out _ _ HZ1.out.bel (fun hh => ?_)
        clear hh hK K; try simp only [Act.put, List.setIfInBounds_toArray, List.set_cons_zero, List.set_cons_succ]
        refine held_takes (f := 2) (by kernel_rfl) (fun _ _ _ _ _ h => h) HZ1.out.bel [5] _ _ (by kernel_rfl) ?_
        refine wpTk_cons rfl (fun K hK => ?_)
        go_simp
        apply Exists.intro
        refine ⟨fun y hy => rfl, hK _ ?_⟩
        clear hK K
        refine wpTk_nil ?_
        refine held_ready (rs := [6]) (by kernel_rfl) (by simp) ?_
        refine (AllReadyH.cons rfl (fun K hK => ?_) AllReadyH.nil)
        · go_simp
          have HZ2 := Lib.hid (HZ1.out.alloc (.cells zTre 106))
          refine hK.out _ _ HZ2.out.bel (fun hh => ?_)
          clear hh hK K; try simp only [Act.put, List.setIfInBounds_toArray, List.set_cons_zero, List.set_cons_succ]
          generalize z1.heap.size = B2 at HZ2 ⊢
          generalize z1.alloc _ = z2 at HZ2 ⊢
          refine held_ready (rs := [7]) (by kernel_rfl) (by simp) ?_
          refine (AllReadyH.cons rfl (fun K hK => ?_) AllReadyH.nil)
          · skip
            obtain ⟨gB, hBl⟩ := HZ2.out.b _ _ rfl
            obtain ⟨c0, c1, c2, c3, c4⟩ := open5 gB
            obtain ⟨f0, f1, f2, f3, f4⟩ := frz5 gB
            go_simp
            clear c0 c1 c2 c3 c4 f0 f1 f2 f3 f4
            generalize hV : World.setCell (World.setCell (World.setCell (World.setCell (World.setCell z2 _ _) _ _) _ _) _ _) _ _ = V
            obtain ⟨k1', k2', k3', k4'⟩ := fin5 gB hV
            have hCF := HZ2.out.fin k1' k2' k4'
            clear k1' k2' k3' k4' hV gB hBl
            refine hK.out _ _ hCF.bel (fun hh => ?_)
            clear hh hK K; try simp only [Act.put, List.setIfInBounds_toArray, List.set_cons_zero, List.set_cons_succ]
            refine wpAnyH_done (by kernel_rfl) (NoPanic.normal ?_) _
            refine h2 _ _ ?_
            go_meet
            exact ⟨B2, aw2, cw2, rfl, hCF⟩
      · go_simp
        have HZ4 := Lib.hid (HZ0.out.alloc (.cells zTre 106))
        refine hK.out _ _ HZ4.out.bel (fun hh => ?_)
        clear hh hK K; try simp only [Act.put, List.setIfInBounds_toArray, List.set_cons_zero, List.set_cons_succ]
        generalize z0.heap.size = B4 at HZ4 ⊢
        generalize z0.alloc _ = z4 at HZ4 ⊢
        refine held_ready (rs := [4]) (by kernel_rfl) (by simp) ?_
        refine (AllReadyH.cons rfl (fun K hK => ?_) AllReadyH.nil)
        · go_simp
          with_reducible refine (HC.out z4 HZ4.out.bel).mono ?_
          rintro e z5 ⟨wv, rfl, hr7, hb7⟩
          obtain ⟨aw2, cw2, rfl, _⟩ := rd_of_row hr7
          have HZ5 : Hid (CS (fun _ => False) w3 z5 (some (B4, .cells zTre 106)) (some fun u => Rd u aw2 nw cw2 (ws.map (Value.int .i64)))) := Lib.hid (HZ4.out.call hb7 fun w2 hw2 => by
            obtain ⟨_, _, e, r⟩ := row_alone hr7 w2 (fun g hg => hw2 g (.inr (hr7.lt g hg)))
            cases e
            exact r)
          clear hr7 hb7
          go_simp
          refine hK.out _ _ HZ5.out.bel (fun hh => ?_)
          clear hh hK K; try simp only [Act.put, List.setIfInBounds_toArray, List.set_cons_zero, List.set_cons_succ]
          refine held_takes (f := 1) (by kernel_rfl) (fun _ _ _ _ _ h => h) HZ5.out.bel [5] _ _ (by kernel_rfl) ?_
          refine wpTk_cons rfl (fun K hK => ?_)
          go_simp
          apply Exists.intro
          refine ⟨fun y hy => rfl, hK _ ?_⟩
          clear hK K
          refine wpTk_nil ?_
          refine held_ready (rs := [7]) (by kernel_rfl) (by simp) ?_
          refine (AllReadyH.cons rfl (fun K hK => ?_) AllReadyH.nil)
          · skip
            obtain ⟨gB, hBl⟩ := HZ5.out.b _ _ rfl
            obtain ⟨c0, c1, c2, c3, c4⟩ := open5 gB
            obtain ⟨f0, f1, f2, f3, f4⟩ := frz5 gB
            go_simp
            clear c0 c1 c2 c3 c4 f0 f1 f2 f3 f4
            generalize hV : World.setCell (World.setCell (World.setCell (World.setCell (World.setCell z5 _ _) _ _) _ _) _ _) _ _ = V
            obtain ⟨k1', k2', k3', k4'⟩ := fin5 gB hV
            have hCF := HZ5.out.fin k1' k2' k4'
            clear k1' k2' k3' k4' hV gB hBl
            refine hK.out _ _ hCF.bel (fun hh => ?_)
            clear hh hK K; try simp only [Act.put, List.setIfInBounds_toArray, List.set_cons_zero, List.set_cons_succ]
            refine wpAnyH_done (by kernel_rfl) (NoPanic.normal ?_) _
            refine h2 _ _ ?_
            go_meet
            exact ⟨B4, aw2, cw2, rfl, hCF⟩
    case rest =>
      obtain ⟨T, a2, c2, rfl, hCF⟩ := hcut
      obtain ⟨SW, hSW1, hSW2, hQ⟩ := hCF.r
      have gN := heap_below hCF.bel GN.out
      have n4 := (open5 gN).2.2.2.2
      have HSW : Hid (SlS SW wc (.slice a2 nw c2) ws) := Lib.hid (fun w2 ha => ⟨a2, c2, by rw [← HWL.out], by rw [← HWL.out]; exact hQ w2 ha⟩)
      have HSW1 := Lib.hid hSW1
      have HSW2 : Hid (∀ g, SW g → w3.heap.size ≤ g ∧ g < wc.heap.size) := Lib.hid (fun g hg => (hSW2 g hg).resolve_left id)
      have HCF := Lib.hid hCF
      have hsc := hCF.bel.size
      have hTc : T < wc.heap.size := heap_some_lt hCF.b
      have hT3 := hCF.le
      have hs3' := HS3.out
      have HBC := Lib.hid (Below.next HB3.out hCF.bel)
      clear hCF hSW1 hSW2 hQ gN
      go_wp2_with fail
      clear n4
      go_loopw [29] (fun q wr => ∃ k kv S', k ≤ nk ∧ q = .int .i64 ((k : Nat) : Int) ∧ wr.heap[T]? = some (.cells #[.bool false, .int .i64 0, .int .i64 need, .slice a2 nw c2, kv] 106 (0, 0)) ∧ TB S' wc.heap.size wr kv (KT.take k) ∧ (∀ g, S' g → wc.heap.size ≤ g) ∧ (∀ g, g < wc.heap.size → g ≠ T → wr.heap[g]? = wc.heap[g]?) ∧ Below w.heap.size w wr ∧ wc.heap.size ≤ wr.heap.size) (fun q _ => nk - (intOf q).toNat)
      case atStart => exact ⟨0, _, fun _ => False, Nat.zero_le _, rfl, HCF.out.b, GB.nil _ _ _ _ (fun _ h => h.elim), fun _ h => h.elim, fun _ _ _ => rfl, HBC.out, Nat.le_refl _⟩
      case round =>
        obtain ⟨k, kv, S', hk, rfl, hTb, hTB, hS', hbk, hbw, hsz⟩ := hrel
        have hnk9 := HNK.out
        by_cases hlt : k < nk
        · obtain ⟨V, hV1, hV2, hV3⟩ := hTB.row
          have hkl : (KT.take k).length = k := by rw [List.length_take]; have := HKL.out; omega
          rw [hkl] at hV2
          obtain ⟨ak2, ck2, rfl, _⟩ := rdK_of_row hV2
          obtain ⟨z, hz⟩ : ∃ z, ks[k]? = some z := ⟨_, List.getElem?_eq_getElem (by have := HKT.out; have := HKL.out; rw [HKT.out, kidT_len] at this; omega)⟩
          have hzr := HKR.out z (List.mem_of_getElem? hz)
          obtain ⟨zn, hzn⟩ := Int.eq_ofNat_of_zero_le hzr.1
          subst hzn
          have hTT := kidT_take x.nodes noSub f ks k zn hz
          rw [← HKT.out, Int.toNat_natCast] at hTT
          obtain ⟨b4, o4, ha4, hc4⟩ := HK4.out.at' (by omega)
          have hc := cell_keep hbw (hc4 k (.int .i64 zn) (by rw [List.getElem?_map, hz]; rfl))
          have gx := (hbk w.heap.size (by omega) (by omega)).trans (heap_below HCF.out.bel GX.out)
          obtain ⟨⟨x0, x1⟩, _⟩ := open2 gx
          have p4 := (open5 hTb).2.2.2.2
          have hszk : (treF x.nodes noSub f zn).sz ≤ 1000 := by
            have h1 := sz_take KT (k + 1)
            rw [hTT, ETs.sz_app] at h1
            have := HSZ.out
            simp only [ETs.sz] at h1; omega
          have HCALL := Lib.hid (fun (u : World) (hu : Below wr.heap.size wr u) => HIH.out zn (by omega) (by have := HHL.out; omega) (some ⟨b, o, none⟩) n c u (HX.out.below (Below.next hbw hu)) hszk)
          obtain ⟨TK, hTK⟩ : ∃ TK, treF x.nodes noSub f zn = TK := ⟨_, rfl⟩
          rw [hTK] at HCALL hTT
          have HTT := Lib.hid hTT
          have HTB := Lib.hid hTB
          have HTb := Lib.hid hTb
          have HV1 := Lib.hid hV1
          have HV2 := Lib.hid hV2
          have HV3 := Lib.hid hV3
          have HS' := Lib.hid hS'
          have HBK := Lib.hid hbk
          have HBW := Lib.hid hbw
          have HKK := Lib.hid hkl
          have hTr : T < wr.heap.size := heap_some_lt hTb
          have HRE : Hid (∀ u : World, Below wr.heap.size wr u → u.heap[T]? = some (.cells #[.bool false, .int .i64 0, .int .i64 need, .slice a2 nw c2, .slice ak2 k ck2] 106 (0, 0))) := Lib.hid (fun u hu => heap_below hu hTb)
          obtain ⟨ii, hi0, hz0, hz1, hz2⟩ := info_parts Tryz.infoTre
          subst ha4
          clear hTK hTT hTB hTb hV1 hV2 hV3 hS' hbk hbw hkl hz hc4 gx hzr hszk
          go_wp2_with fail
          go_region_law (first
            | (go_simp; go_at_call 74; (with_reducible refine (HCALL.out wr.drew (below_drew (Below.refl _ _))).mono ?_); rintro e w5 ⟨lf, sv, nd5, aw5, nw5, cw5, ak5, nk5, ck5, rfl, hTS, hb5⟩; have hb5' := below_undrew hb5; have g5 := HRE.out w5 hb5'; have p45 := (open5 g5).2.2.2.2; have p45b : ∀ ob, (w5.alloc ob).cell? ⟨T, 4, none⟩ = some (.slice ak2 k ck2) := (fun ob => (World.cell?_alloc_lt _ _ _ (cell_lt p45)).trans p45); have z45 := (frz5 g5).2.2.2.2; have HROW := Lib.hid (rowK_below HV2.out hb5'); have HTS := Lib.hid hTS; have HB5 := Lib.hid hb5'; have G5 := Lib.hid g5; clear hTS hb5 hb5' g5)
            | (refine step_append_lies _ (by rfl) _ _ _ (by rfl) wc.heap.size 106 ii _ 5 72 Tryz.underlying104 hi0 hz0 hz1 hz2 rfl (by omega) (.slice ak2 k ck2) k _ (by rfl) (HROW.out.alloc _) ⟨w5.heap.size, 0, none⟩ 1 1 (trVC ⟨lf, sv, nd5, .slice aw5 nw5 cw5, .slice ak5 nk5 ck5⟩) (by rfl) (by rfl) (World.news_of_block (cs := (trVC ⟨lf, sv, nd5, .slice aw5 nw5 cw5, .slice ak5 nk5 ck5⟩).toArray) (t := 106) (fr := (0, 0)) (heap_alloc_new w5 _)) (by simp [trVC, Value.oneCell']) (by omega) (by unfold maxLen; have := HNK.out; omega) (by have := HNK.out; omega) (by have := HB5.out.size; simp; omega) (w5.heap.size + 1) (by simp) ?_; intro gg cap wA hownA hgrow hat hlt; have hA := (hgrow.block T (by have := HB5.out.size; simp; omega) (fun e => by have := (HROW.out.lt _ e.symm).1; omega)).trans ((Below.heap_alloc w5 _ T (by have := HB5.out.size; omega)).trans G5.out); have pA := (open5 hA).2.2.2.2; have zA := (frz5 hA).2.2.2.2; have HA := Lib.hid hA; have HOA := Lib.hid hownA; have HGA := Lib.hid hgrow; have HAT := Lib.hid hat; clear hA hownA hgrow hat))
          all_goals
            have hb5s := HB5.out.size
            have hV3 := fun (i : Nat) p nd hp hn => RS.below (HV3.out i p nd hp hn) HB5.out HTB.out.lt
            have hTB2 := GB.pushes (M := [TK]) (U := [⟨lf, sv, nd5, .slice aw5 nw5 cw5, .slice ak5 nk5 ck5⟩]) (SW := fun g => False ∨ (wr.heap.size ≤ g ∧ g < w5.heap.size)) (x := w5.alloc (.cells (trVC ⟨lf, sv, nd5, .slice aw5 nw5 cw5, .slice ak5 nk5 ck5⟩).toArray 106)) (u := .slice (some ⟨gg, 0, none⟩) (k + 1) cap) (y := wA) (HTB.out.below HB5.out) HV1.out hV3 ((Below.refl _ _).alloc (Nat.le_refl _) _) HGA.out rfl (by rw [HKK.out]; exact HOA.out) (fun g hg => by
              have e2 : gg = g := by simpa [Value.ownBlock] using hg
              rcases HAT.out with h1 | h1
              · exact .inl (e2 ▸ h1)
              · exact .inr (by omega)) (fun i p nd hp hn => by
              cases i with
              | zero => simp at hp hn; subst hp hn; exact HTS.out
              | succ i => simp at hp) (fun g hg => by
              rcases hg with hg | hg
              · exact hg.elim
              · exact ⟨hg.2, fun e => by have := (HV2.out.lt g e).2; omega⟩)
            rw [← HTT.out] at hTB2
            have HTB2 := Lib.hid hTB2
            have hsA : w5.heap.size + 1 ≤ wA.heap.size := by have := HGA.out.size; simpa using this
            have hko : ∀ g, (Value.slice ak2 k ck2).ownBlock = some g → wc.heap.size ≤ g ∧ g < wr.heap.size := fun g hg => HV2.out.lt g hg
            have HBLK : Hid (∀ g, g < wc.heap.size → wA.heap[g]? = wr.heap[g]?) := Lib.hid (fun g hg => by
              rw [HGA.out.block g (by simp; omega) (fun e => by have := hko g e.symm; omega), Below.heap_alloc w5 _ g (by omega)]
              exact HB5.out.block g (by omega))
            have HBA : Hid (Below wc.heap.size wr wA) := Lib.hid (((HB5.out.mono hsz).alloc (by omega) _).grown HGA.out (by simp; omega) (fun g hg => (hko g hg).1))
            clear hTB2 hV3 HV3 HGA HOA HCALL
            go_wp2_with fail
            go_roundw
            case rel =>
              refine ⟨k + 1, .slice (some ⟨gg, 0, none⟩) (k + 1) cap, _, by omega, by go_num, by rw [heap_set_at HA.out]; rfl, HTB2.out.move (fun g hg => ?_) (fun g hg => ?_) (by simp), fun g hg => ?_, fun g hg hne => ?_, ?_, by simp; omega⟩
              · refine Below.heap_setCell _ _ _ _ ?_
                show g ≠ T
                rcases hg with hg | hg | hg
                · have := HS'.out g hg; omega
                · exact hg.elim
                · omega
              · refine Below.heap_setCell _ _ _ _ ?_
                show g ≠ T
                have := (HTB2.out.lt_own g hg).1; omega
              · rcases hg with hg | hg | hg
                · exact HS'.out g hg
                · exact hg.elim
                · omega
              · rw [Below.heap_setCell _ ⟨T, 4, none⟩ _ g hne, HBLK.out g hg]
                exact HBK.out g hg hne
              · exact (HBW.out.trans (HBA.out.mono (by have := HBC.out.size; omega))).setCell (p := ⟨T, 4, none⟩) (by show w.heap.size ≤ T; omega) _
            case measure => simp [intOf] <;> omega
        · obtain rfl : k = nk := by omega
          rw [List.take_of_length_le (by have := HKL.out; omega)] at hTB
          have hr := hTB.row
          obtain ⟨V, hV1, hV2, hV3⟩ := hr
          rw [HKL.out] at hV2
          obtain ⟨ak2, ck2, rfl, _⟩ := rdK_of_row hV2
          obtain ⟨t0, t1, t2, t3, t4⟩ := open5 hTb
          have gR := (hbk (w.heap.size + 1) (by omega) (by omega)).trans (heap_below HCF.out.bel GR.out)
          obtain ⟨r0, r1, r2, r3, r4⟩ := open5 gR
          obtain ⟨z0, z1, z2, z3, z4⟩ := frz5 gR
          have hTR := TB.thr (S' := fun g => w.heap.size + 2 ≤ g ∧ g < wr.heap.size) need hTB (HSW.out.move (w' := wr) fun g hg => hbk g (HSW2.out g hg).2 (fun e => HSW1.out (e ▸ hg))) (fun g hg => ⟨by have := hS' g hg; omega, hTB.lt g hg⟩) (fun g hg => by have := HSW2.out g hg; omega) (fun g hg => by have := hTB.lt_own g hg; omega)
          have HTR := Lib.hid hTR
          have HGR := Lib.hid gR
          have HBW := Lib.hid hbw
          clear hTR gR hTB hV1 hV2 hV3 hTb hS' hbk hbw
          go_wp2_with fail
          clear t0 t1 t2 t3 t4 r0 r1 r2 r3 r4 z0 z1 z2 z3 z4
          generalize hWF : ((((wr.setCell _ _).setCell _ _).setCell _ _).setCell _ _).setCell _ _ = WF
          obtain ⟨e1, e2, e3, e4⟩ := fin5 HGR.out hWF
          refine bodyPost_ret (v := .agg #[.bool false, .int .i64 0, .int .i64 need, .slice a2 nw c2, .slice ak2 k ck2]) ?_ rfl ⟨false, 0, need, a2, nw, c2, ak2, k, ck2, rfl, ?_, ?_⟩
          · exact results_cell_row rfl _ _ _ _ _ _ _ rfl e1 Tryz.underlying106 rfl (by kernel_rfl)
          · exact (HTR.out.move fun g hg => e2 g (by omega)).mono fun g hg => .inr ⟨by omega, by omega⟩
          · exact HBW.out.trans (e4 _ (by omega))
theorem plant_c (x : Xpr) (hx : xprE x = 0) : ∀ f, PlC x f
  | 0 => fun i hi => by omega
  | f + 1 => plant_step x hx f (plant_c x hx f)
end Go.Proofs.YtcojmmhclklpoaaGreatDoor
namespace Go.Proofs.YtcojmmhclklpoaaGreatDoor
open Go.RowKit Go.Shelf

/-- a tree's value, opened -/
theorem TrM.shape {w : World} {p : TrV} {t : ET} (h : TrM w p t) : ∃ nw aw cw ak nk ck, p = ⟨p.leaf, p.server, p.need, .slice aw nw cw, .slice ak nk ck⟩ ∧ t.kidsOf.length = nk := by
  cases h with
  | srv s => exact ⟨0, none, 0, none, 0, 0, rfl, rfl⟩
  | thr n ws ks aw nw cw ak nk ck V hw hl hk hr =>
    refine ⟨nw, aw, cw, ak, nk, ck, rfl, ?_⟩
    have h1 := hk.len
    rw [flat_len 5 trVC trVC_len] at h1
    show ks.length = nk
    omega
/-- what the methods of a tree are told -/
def trA (p : TrV) : Value := .agg #[.bool p.leaf, .int .i64 p.server, .int .i64 p.need, p.wv, p.kv]
theorem nil_emp {α : Type} {l : List α} {n : Nat} (h : n = l.length) : ((n : Int) == 0) = l.isEmpty := by
  subst h; cases l <;> simp <;> omega

set_option maxRecDepth 100000 in
set_option maxHeartbeats 4000000 in
theorem const_c (p : TrV) (t : ET) (w : World) (h : TrM w p t) :
    Calls Tryz.prog 100 #[trA p] w fun e w' => e = .returned (.bool t.constB) ∧ Below w.heap.size w w' := by
  unfold trA
  cases h with
  | srv s =>
    go_enter Tryz.func100, Tryz.ntmps100
    go_wp2_with fail
    go_ret
    exact ⟨rfl, (Below.refl _ _).alloc (Nat.le_refl _) _⟩
  | thr n ws ks aw nw cw ak nk ck V hw hl hk hr =>
    have h1 := hk.len
    rw [flat_len 5 trVC trVC_len] at h1
    have hn : ((nk : Int) == 0) = ks.isEmpty := nil_emp (by omega)
    clear hw hl hk hr h1
    go_enter Tryz.func100, Tryz.ntmps100
    go_wp2_with fail
    go_ret
    exact ⟨rfl, (Below.refl _ _).alloc (Nat.le_refl _) _⟩


set_option maxRecDepth 100000 in
set_option maxHeartbeats 4000000 in
theorem anyOf_c (p : TrV) (t : ET) (w : World) (h : TrM w p t) :
    Calls Tryz.prog 102 #[trA p] w fun e w' => e = .returned (.bool t.anyB) ∧ Below w.heap.size w w' := by
  unfold trA
  cases h with
  | srv s =>
    go_enter Tryz.func102, Tryz.ntmps102
    go_wp2_with fail
    go_ret
    exact ⟨rfl, (Below.refl _ _).alloc (Nat.le_refl _) _⟩
  | thr n ws ks aw nw cw ak nk ck V hw hl hk hr =>
    have h1 := hk.len
    rw [flat_len 5 trVC trVC_len] at h1
    have h2 := hw.len
    rw [List.length_map] at h2
    have hkl : ks.length = nk := by omega
    have hV : Hid ((ET.thr n ws ks).anyB = ((decide (0 < nk) && ((nw : Int) == 0)) && (n == 1))) := Lib.hid (by
      rw [nil_emp h2]
      show ((!ks.isEmpty && ws.isEmpty) && decide (n = 1)) = _
      have e : (!ks.isEmpty) = decide (0 < nk) := by rw [← hkl]; cases ks <;> simp
      rw [e]
      congr 1
      try (rw [Bool.eq_iff_iff]; simp))
    clear hw hl hk hr h1 h2 hkl
    by_cases hk0 : 0 < nk
    · have hd0 : decide (0 < nk) = true := decide_eq_true hk0
      by_cases hw0 : nw = 0
      · subst hw0
        go_enter Tryz.func102, Tryz.ntmps102
        go_wp2_with fail
        go_ret
        exact ⟨by rw [hV.out, hd0]; rfl, (Below.refl _ _).alloc (Nat.le_refl _) _⟩
      · have hw1 : ((nw : Int) == 0) = false := by simpa using hw0
        go_enter Tryz.func102, Tryz.ntmps102
        go_wp2_with fail
        go_ret
        exact ⟨by rw [hV.out, hd0, hw1]; rfl, (Below.refl _ _).alloc (Nat.le_refl _) _⟩
    · obtain rfl : nk = 0 := by omega
      go_enter Tryz.func102, Tryz.ntmps102
      go_wp2_with fail
      go_ret
      exact ⟨by rw [hV.out]; rfl, (Below.refl _ _).alloc (Nat.le_refl _) _⟩

set_option maxRecDepth 100000 in
set_option maxHeartbeats 4000000 in
theorem allOf_c (p : TrV) (t : ET) (w : World) (h : TrM w p t) :
    Calls Tryz.prog 104 #[trA p] w fun e w' => e = .returned (.bool t.allB) ∧ Below w.heap.size w w' := by
  unfold trA
  cases h with
  | srv s =>
    go_enter Tryz.func104, Tryz.ntmps104
    go_wp2_with fail
    go_ret
    exact ⟨rfl, (Below.refl _ _).alloc (Nat.le_refl _) _⟩
  | thr n ws ks aw nw cw ak nk ck V hw hl hk hr =>
    have h1 := hk.len
    rw [flat_len 5 trVC trVC_len] at h1
    have h2 := hw.len
    rw [List.length_map] at h2
    have hkl : ks.length = nk := by omega
    have hV : Hid ((ET.thr n ws ks).allB = ((decide (0 < nk) && ((nw : Int) == 0)) && (n == (nk : Int)))) := Lib.hid (by
      rw [nil_emp h2]
      show ((!ks.isEmpty && ws.isEmpty) && decide (n = (ks.length : Int))) = _
      have e : (!ks.isEmpty) = decide (0 < nk) := by rw [← hkl]; cases ks <;> simp
      rw [e]
      congr 1
      try (rw [Bool.eq_iff_iff]; simp [hkl]))
    clear hw hl hk hr h1 h2 hkl
    by_cases hk0 : 0 < nk
    · have hd0 : decide (0 < nk) = true := decide_eq_true hk0
      by_cases hw0 : nw = 0
      · subst hw0
        go_enter Tryz.func104, Tryz.ntmps104
        go_wp2_with fail
        go_ret
        exact ⟨by rw [hV.out, hd0]; rfl, (Below.refl _ _).alloc (Nat.le_refl _) _⟩
      · have hw1 : ((nw : Int) == 0) = false := by simpa using hw0
        go_enter Tryz.func104, Tryz.ntmps104
        go_wp2_with fail
        go_ret
        exact ⟨by rw [hV.out, hd0, hw1]; rfl, (Below.refl _ _).alloc (Nat.le_refl _) _⟩
    · obtain rfl : nk = 0 := by omega
      go_enter Tryz.func104, Tryz.ntmps104
      go_wp2_with fail
      go_ret
      exact ⟨by rw [hV.out]; rfl, (Below.refl _ _).alloc (Nat.le_refl _) _⟩

set_option maxRecDepth 100000 in
set_option maxHeartbeats 4000000 in
theorem part_c (p : TrV) (n : Int) (ws : List Int) (ks : List ET) (k : Nat) (w : World) (h : TrM w p (.thr n ws ks)) (hk : ws = [] ∨ k < ws.length) :
    Calls Tryz.prog 99 #[trA p, .int .i64 k] w fun e w' => e = .returned (.int .i64 (wgtW ws k)) ∧ Below w.heap.size w w' := by
  unfold trA
  cases h with
  | thr n ws ks aw nw cw ak nk ck V hw hl hkk hr =>
    have h2 := hw.len
    rw [List.length_map] at h2
    clear hl hkk hr
    by_cases hw0 : nw = 0
    · have hws : ws = [] := List.eq_nil_of_length_eq_zero (by omega)
      subst hws hw0
      clear hw h2 hk
      go_enter Tryz.func99, Tryz.ntmps99
      go_wp2_with fail
      go_ret
      exact ⟨rfl, (Below.refl _ _).alloc (Nat.le_refl _) _⟩
    · have hw1 : ((nw : Int) == 0) = false := by simpa using hw0
      have hne : ws ≠ [] := fun e => hw0 (by rw [h2, e]; rfl)
      have hkw : k < nw := by rw [h2]; exact hk.resolve_left hne
      obtain ⟨b, o, rfl, hc⟩ := hw.at' (by omega)
      obtain ⟨z, hz⟩ : ∃ z, ws[k]? = some z := ⟨_, List.getElem?_eq_getElem (by omega)⟩
      have hcell := hc k (.int .i64 z) (by rw [List.getElem?_map, hz]; rfl)
      have hV : Hid (wgtW ws k = z) := Lib.hid (by unfold wgtW; rw [if_neg hne, List.getD_eq_getElem?_getD, hz]; rfl)
      have hbl := cell_lt hcell
      have hcell2 : ∀ ob, (w.alloc ob).cell? ⟨b, o + k, none⟩ = some (.int .i64 z) := fun ob => (World.cell?_alloc_lt _ _ _ hbl).trans hcell
      clear hw h2 hk hne hz hc hw0
      go_enter Tryz.func99, Tryz.ntmps99
      go_wp2_with fail
      go_ret
      exact ⟨by rw [hV.out]; rfl, (Below.refl _ _).alloc (Nat.le_refl _) _⟩
end Go.Proofs.YtcojmmhclklpoaaGreatDoor
namespace Go.Proofs.YtcojmmhclklpoaaGreatDoor
open Go.RowKit Go.Shelf

theorem least_step {l : List Int} {k : Nat} {z : Int} (h : l[k]? = some z) (hk : 1 ≤ k) : leastL (l.take (k + 1)) = min (leastL (l.take k)) z := by
  cases l with
  | nil => simp at h
  | cons a l =>
    obtain ⟨j, rfl⟩ : ∃ j, k = j + 1 := ⟨k - 1, by omega⟩
    rw [List.take_add_one, h]
    show (l.take j ++ [z]).foldl min a = min ((l.take j).foldl min a) z
    rw [List.foldl_append]; rfl
theorem great_step {l : List Int} {k : Nat} {z : Int} (h : l[k]? = some z) (hk : 1 ≤ k) : greatL (l.take (k + 1)) = max (greatL (l.take k)) z := by
  cases l with
  | nil => simp at h
  | cons a l =>
    obtain ⟨j, rfl⟩ : ∃ j, k = j + 1 := ⟨k - 1, by omega⟩
    rw [List.take_add_one, h]
    show (l.take j ++ [z]).foldl max a = max ((l.take j).foldl max a) z
    rw [List.foldl_append]; rfl

set_option maxRecDepth 100000 in
set_option maxHeartbeats 4000000 in
theorem smin_c (l : List Int) (hl : l ≠ []) (a : Option Addr) (n c : Nat) (w : World) (h : Rd w a n c (l.map (Value.int .i64))) :
    Calls Tryz.prog 123 #[.slice a n c] w fun e w' => e = .returned (.int .i64 (leastL l)) ∧ w' = w := by
  have hlen := h.len
  rw [List.length_map] at hlen
  have hle := h.le
  have hm := h.max
  unfold maxLen at hm
  have hn1 : 1 ≤ n := by
    cases l with
    | nil => exact absurd rfl hl
    | cons a l => rw [hlen]; simp
  obtain ⟨b, o, rfl, hc⟩ := h.at' (by omega)
  obtain ⟨z0, hz0⟩ : ∃ z, l[0]? = some z := ⟨_, List.getElem?_eq_getElem (by omega)⟩
  have hcell := hc 0 (.int .i64 z0) (by rw [List.getElem?_map, hz0]; rfl)
  rw [Nat.add_zero] at hcell
  have hV0 : Hid (leastL (l.take 1) = z0) := Lib.hid (by
    cases l with
    | nil => simp at hz0
    | cons a l => simp at hz0; subst hz0; rfl)
  have HL := Lib.hid hlen
  have HC := Lib.hid hc
  have hnn : ¬ ((n : Int) < 1) := by omega
  clear h hl hlen hc hz0
  go_enter Tryz.func123, Tryz.ntmps123
  go_wp2_with fail
  go_loopw [3, 4] (fun m i wr => ∃ k : Nat, 1 ≤ k ∧ k ≤ n ∧ i = .int .i64 k ∧ m = .int .i64 (leastL (l.take k)) ∧ wr = w) (fun _ i _ => n - (intOf i).toNat)
  case atStart => exact ⟨1, Nat.le_refl _, hn1, rfl, by rw [hV0.out], rfl⟩
  case round =>
    obtain ⟨k, hk1, hk, rfl, rfl, rfl⟩ := hrel
    by_cases hlt : k < n
    · obtain ⟨z, hz⟩ : ∃ z, l[k]? = some z := ⟨_, List.getElem?_eq_getElem (by have := HL.out; omega)⟩
      have hcz := HC.out k (.int .i64 z) (by rw [List.getElem?_map, hz]; rfl)
      have HST := Lib.hid (least_step hz hk1)
      clear hz
      go_wp2_with fail
      go_roundw
      case rel => exact ⟨k + 1, by omega, by omega, by go_num, by rw [HST.out], trivial⟩
      case measure => simp [intOf]; omega
    · obtain rfl : k = n := by omega
      have HE : Hid (l.take k = l) := Lib.hid (List.take_of_length_le (by have := HL.out; omega))
      go_wp2_with fail
      go_ret
      exact ⟨ret_int (by rw [HE.out]), rfl⟩

set_option maxRecDepth 100000 in
set_option maxHeartbeats 4000000 in
theorem smax_c (l : List Int) (hl : l ≠ []) (a : Option Addr) (n c : Nat) (w : World) (h : Rd w a n c (l.map (Value.int .i64))) :
    Calls Tryz.prog 124 #[.slice a n c] w fun e w' => e = .returned (.int .i64 (greatL l)) ∧ w' = w := by
  have hlen := h.len
  rw [List.length_map] at hlen
  have hle := h.le
  have hm := h.max
  unfold maxLen at hm
  have hn1 : 1 ≤ n := by
    cases l with
    | nil => exact absurd rfl hl
    | cons a l => rw [hlen]; simp
  obtain ⟨b, o, rfl, hc⟩ := h.at' (by omega)
  obtain ⟨z0, hz0⟩ : ∃ z, l[0]? = some z := ⟨_, List.getElem?_eq_getElem (by omega)⟩
  have hcell := hc 0 (.int .i64 z0) (by rw [List.getElem?_map, hz0]; rfl)
  rw [Nat.add_zero] at hcell
  have hV0 : Hid (greatL (l.take 1) = z0) := Lib.hid (by
    cases l with
    | nil => simp at hz0
    | cons a l => simp at hz0; subst hz0; rfl)
  have HL := Lib.hid hlen
  have HC := Lib.hid hc
  have hnn : ¬ ((n : Int) < 1) := by omega
  clear h hl hlen hc hz0
  go_enter Tryz.func124, Tryz.ntmps124
  go_wp2_with fail
  go_loopw [3, 4] (fun m i wr => ∃ k : Nat, 1 ≤ k ∧ k ≤ n ∧ i = .int .i64 k ∧ m = .int .i64 (greatL (l.take k)) ∧ wr = w) (fun _ i _ => n - (intOf i).toNat)
  case atStart => exact ⟨1, Nat.le_refl _, hn1, rfl, by rw [hV0.out], rfl⟩
  case round =>
    obtain ⟨k, hk1, hk, rfl, rfl, rfl⟩ := hrel
    by_cases hlt : k < n
    · obtain ⟨z, hz⟩ : ∃ z, l[k]? = some z := ⟨_, List.getElem?_eq_getElem (by have := HL.out; omega)⟩
      have hcz := HC.out k (.int .i64 z) (by rw [List.getElem?_map, hz]; rfl)
      have HST := Lib.hid (great_step hz hk1)
      clear hz
      go_wp2_with fail
      go_roundw
      case rel => exact ⟨k + 1, by omega, by omega, by go_num, by rw [HST.out], trivial⟩
      case measure => simp [intOf]; omega
    · obtain rfl : k = n := by omega
      have HE : Hid (l.take k = l) := Lib.hid (List.take_of_length_le (by have := HL.out; omega))
      go_wp2_with fail
      go_ret
      exact ⟨ret_int (by rw [HE.out]), rfl⟩

/-- the need and the weights of a light threshold -/
def lgtV (need sum : Int) (ws : List Int) (nk : Nat) (wv : Value) : Int × Value :=
  if need ≤ leastL ws then (1, .slice none 0 0) else if sum - leastL ws < need then ((nk : Int), .slice none 0 0)
  else if leastL ws = greatL ws then ((need + leastL ws - 1) / leastL ws, .slice none 0 0) else (need, wv)
set_option maxRecDepth 100000 in
set_option maxHeartbeats 4000000 in
theorem light_c (need sum : Int) (ws : List Int) (hne : ws ≠ []) (hws : ∀ w ∈ ws, 1 ≤ w ∧ w ≤ 1000) (hn : 1 ≤ need ∧ need ≤ 100000) (hs : 0 ≤ sum ∧ sum ≤ 1000000000) (aw : Option Addr) (nw cw : Nat) (ak : Option Addr) (nk ck : Nat) (w : World) (h : Rd w aw nw cw (ws.map (Value.int .i64))) :
    Calls Tryz.prog 101 #[.int .i64 need, .int .i64 sum, .slice aw nw cw, .slice ak nk ck] w fun e w' => ∃ u, lgtV need sum ws nk (.slice aw nw cw) = u ∧ (∃ a n c, u.2 = .slice a n c) ∧ e = .returned (.agg #[.bool false, .int .i64 0, .int .i64 u.1, u.2, .slice ak nk ck]) ∧ Below w.heap.size w w' := by
  obtain ⟨m1, m2⟩ := hws _ (least_mem hne)
  obtain ⟨g1, g2⟩ := hws _ (great_mem hne)
  have H1 := Lib.hid (fun (u : World) (hu : Below w.heap.size w u) => smin_c ws hne aw nw cw u (h.below hu))
  have H2 := Lib.hid (fun (u : World) (hu : Below w.heap.size w u) => smax_c ws hne aw nw cw u (h.below hu))
  have HV : Hid (lgtV need sum ws nk (.slice aw nw cw) = if need ≤ leastL ws then (1, .slice none 0 0) else if sum - leastL ws < need then ((nk : Int), .slice none 0 0)
    else if leastL ws = greatL ws then ((need + leastL ws - 1) / leastL ws, .slice none 0 0) else (need, .slice aw nw cw)) := rfl
  generalize lgtV need sum ws nk (.slice aw nw cw) = RV at HV ⊢
  generalize leastL ws = M at m1 m2 H1 HV
  generalize greatL ws = G at g1 g2 H2 HV
  clear h hne hws
  have hb1 : Below w.heap.size w (w.alloc (.cells zTre 106)) := (Below.refl _ _).alloc (Nat.le_refl _) _
  have HH1 := Lib.hid (H1.out _ hb1)
  have HH2 := Lib.hid (H2.out _ hb1)
  have w1 : wrap64 (sum - M) = sum - M := by unfold wrap64; omega
  have w2 : wrap64 (need + M) = need + M := by unfold wrap64; omega
  have w3 : wrap64 (need + M - 1) = need + M - 1 := by unfold wrap64; omega
  clear H1 H2
  by_cases c1 : need ≤ M
  · have d1 : ¬ M < need := by omega
    have HU : Hid (RV = (1, .slice none 0 0)) := Lib.hid (by rw [HV.out, if_pos c1])
    clear HV
    go_enter Tryz.func101, Tryz.ntmps101
    go_wp2_with fail
    with_reducible refine HH1.out.mono ?_
    rintro e v1 ⟨rfl, rfl⟩
    go_wp2_with fail
    with_reducible refine HH2.out.mono ?_
    rintro e v2 ⟨rfl, rfl⟩
    go_wp2_with fail
    refine bodyPost_ret (v := .agg #[.bool false, .int .i64 0, .int .i64 1, .slice none 0 0, .slice ak nk ck]) ?_ rfl ⟨_, HU.out, ⟨_, _, _, rfl⟩, rfl, (Below.refl _ _).alloc (Nat.le_refl _) _⟩
    exact results_cell_row rfl _ _ _ _ _ _ _ rfl (heap_alloc_new w _) Tryz.underlying106 rfl (by kernel_rfl)
  · have d1 : M < need := by omega
    by_cases c2 : sum - M < need
    · skip
      have HU : Hid (RV = ((nk : Int), .slice none 0 0)) := Lib.hid (by rw [HV.out, if_neg c1, if_pos c2])
      clear HV
      go_enter Tryz.func101, Tryz.ntmps101
      go_wp2_with fail
      with_reducible refine HH1.out.mono ?_
      rintro e v1 ⟨rfl, rfl⟩
      go_wp2_with fail
      with_reducible refine HH2.out.mono ?_
      rintro e v2 ⟨rfl, rfl⟩
      go_wp2_with fail
      refine bodyPost_ret (v := .agg #[.bool false, .int .i64 0, .int .i64 (nk : Int), .slice none 0 0, .slice ak nk ck]) ?_ rfl ⟨_, HU.out, ⟨_, _, _, rfl⟩, rfl, (Below.refl _ _).alloc (Nat.le_refl _) _⟩
      exact results_cell_row rfl _ _ _ _ _ _ _ rfl (heap_alloc_new w _) Tryz.underlying106 rfl (by kernel_rfl)
    · have d2 : need ≤ sum - M := by omega
      by_cases c3 : M = G
      · subst c3
        have hq : (need + M - 1).tdiv M = (need + M - 1) / M := Int.tdiv_eq_ediv_of_nonneg (by omega)
        have hq1 : 0 ≤ (need + M - 1) / M := Int.ediv_nonneg (by omega) (by omega)
        have hq2 : (need + M - 1) / M ≤ 101000 := Int.le_trans (Int.ediv_le_self _ (by omega)) (by omega)
        have hq3 : wrap64 ((need + M - 1) / M) = (need + M - 1) / M := by generalize (need + M - 1) / M = Q at hq1 hq2 ⊢; unfold wrap64; omega
        have e3 : (M == M) = true := by simp
        have hM0 : M ≠ 0 := by omega
        have HU : Hid (RV = ((need + M - 1) / M, .slice none 0 0)) := Lib.hid (by rw [HV.out, if_neg c1, if_neg c2, if_pos rfl])
        clear HV
        go_enter Tryz.func101, Tryz.ntmps101
        go_wp2_with fail
        with_reducible refine HH1.out.mono ?_
        rintro e v1 ⟨rfl, rfl⟩
        go_wp2_with fail
        with_reducible refine HH2.out.mono ?_
        rintro e v2 ⟨rfl, rfl⟩
        go_wp2_with fail
        refine bodyPost_ret (v := .agg #[.bool false, .int .i64 0, .int .i64 ((need + M - 1) / M), .slice none 0 0, .slice ak nk ck]) ?_ rfl ⟨_, HU.out, ⟨_, _, _, rfl⟩, rfl, (Below.refl _ _).alloc (Nat.le_refl _) _⟩
        exact results_cell_row rfl _ _ _ _ _ _ _ rfl (heap_alloc_new w _) Tryz.underlying106 rfl (by kernel_rfl)
      · have e3 : (M == G) = false := by simpa using c3
        have HU : Hid (RV = (need, .slice aw nw cw)) := Lib.hid (by rw [HV.out, if_neg c1, if_neg c2, if_neg c3])
        clear HV
        go_enter Tryz.func101, Tryz.ntmps101
        go_wp2_with fail
        with_reducible refine HH1.out.mono ?_
        rintro e v1 ⟨rfl, rfl⟩
        go_wp2_with fail
        with_reducible refine HH2.out.mono ?_
        rintro e v2 ⟨rfl, rfl⟩
        go_wp2_with fail
        refine bodyPost_ret (v := .agg #[.bool false, .int .i64 0, .int .i64 need, .slice aw nw cw, .slice ak nk ck]) ?_ rfl ⟨_, HU.out, ⟨_, _, _, rfl⟩, rfl, (Below.refl _ _).alloc (Nat.le_refl _) _⟩
        exact results_cell_row rfl _ _ _ _ _ _ _ rfl (heap_alloc_new w _) Tryz.underlying106 rfl (by kernel_rfl)
end Go.Proofs.YtcojmmhclklpoaaGreatDoor
namespace Go.Proofs.YtcojmmhclklpoaaGreatDoor
open Go.RowKit

theorem trVC_inj {p q : TrV} (h : ∀ j, j < 5 → (trVC p)[j]? = (trVC q)[j]?) : p = q := by
  obtain ⟨a0, a1, a2, a3, a4⟩ := p
  obtain ⟨b0, b1, b2, b3, b4⟩ := q
  have h0 := h 0 (by omega)
  have h1 := h 1 (by omega)
  have h2 := h 2 (by omega)
  have h3 := h 3 (by omega)
  have h4 := h 4 (by omega)
  simp [trVC] at h0 h1 h2 h3 h4
  subst h0 h1 h2 h3 h4
  rfl
theorem TrS.kids {S : Nat → Prop} {w : World} {lf : Bool} {sv nd n : Int} {wv : Value} {ak : Option Addr} {nk ck : Nat} {ws : List Int} {ks : List ET} (h : TrS S w ⟨lf, sv, nd, wv, .slice ak nk ck⟩ (.thr n ws ks)) :
    ∃ V : List TrV, V.length = ks.length ∧ nk = ks.length ∧ RdK 5 w ak nk ck (V.flatMap trVC) ∧ (∀ (i : Nat) p t, V[i]? = some p → ks[i]? = some t → TrS S w p t) ∧ SlS S w wv ws ∧ lf = false ∧ sv = 0 ∧ nd = n ∧ ∃ a m c, wv = .slice a m c := by
  have hw : SlS S w wv ws := fun w2 ha => by
    cases h w2 ha with
    | thr n ws ks aw nw cw ak nk ck V hw hl hk hr =>
      have := hw.len
      rw [List.length_map] at this
      subst this
      exact ⟨aw, cw, rfl, hw⟩
  cases h.r with
  | thr n ws ks aw nw cw ak nk ck V hw1 hl hk hr =>
    have hn : nk = ks.length := by
      have h1 := hk.len
      rw [flat_len 5 trVC trVC_len] at h1; omega
    refine ⟨V, hl, hn, hk, fun i p t hp ht w2 ha => ?_, hw, rfl, rfl, rfl, aw, nw, cw, rfl⟩
    have hi := (List.getElem?_eq_some_iff.1 ht).1
    obtain ⟨b, o, hak, hc⟩ := RdK.cells hk trVC_len (by omega)
    subst hak
    have hS : S b := Classical.byContradiction fun hb => by
      have h2 := h (w.putObj b (.deferred none)) (fun g hg => World.putObj_heap_other (fun e => hb (e ▸ hg)))
      cases h2 with
      | thr n ws ks aw nw cw ak nk ck V2 hw2 hl2 hk2 hr2 =>
        obtain ⟨b', o', e, hc2⟩ := RdK.cells hk2 trVC_len (by omega)
        cases e
        obtain ⟨q, hq⟩ : ∃ q, V2[i]? = some q := ⟨_, List.getElem?_eq_getElem (by omega)⟩
        have h3 := hc2 i q hq 0 (by omega)
        have h4 : (w.putObj b (.deferred none)).cell? ⟨b, o + i * 5 + 0, none⟩ = none := by
          unfold World.putObj World.cell?
          simp
          by_cases hlt : b < w.heap.size
          · simp [hlt]
          · simp [hlt]
        rw [h4] at h3
        simp [trVC] at h3
    cases h w2 ha with
    | thr n ws ks aw nw cw ak nk ck V2 hw2 hl2 hk2 hr2 =>
      obtain ⟨b', o', e, hc2⟩ := RdK.cells hk2 trVC_len (by omega)
      cases e
      obtain ⟨q, hq⟩ : ∃ q, V2[i]? = some q := ⟨_, List.getElem?_eq_getElem (by omega)⟩
      have e : p = q := trVC_inj fun j hj => by
        rw [← hc i p hp j hj, ← hc2 i q hq j hj]
        exact (World.cell?_of_block (w := w) (w' := w2) (a := ⟨b, o + i * 5 + j, none⟩) (ha b hS)).symm
      subst e
      exact hr2 i p t hq ht
/-- the block of the kids -/
theorem TrS.blk {S : Nat → Prop} {w : World} {lf : Bool} {sv nd : Int} {wv : Value} {ak : Option Addr} {nk ck : Nat} {t : ET} (h : TrS S w ⟨lf, sv, nd, wv, .slice ak nk ck⟩ t) : ∀ b o, ak = some ⟨b, o, none⟩ → 0 < t.kidsOf.length → S b := by
  intro b o hab hpos
  subst hab
  refine Classical.byContradiction fun hb => ?_
  have h2 := h (w.putObj b (.deferred none)) (fun g hg => World.putObj_heap_other (fun e => hb (e ▸ hg)))
  cases h2 with
  | thr n ws ks aw nw cw ak nk ck V2 hw2 hl2 hk2 hr2 =>
    have hpos2 : 0 < ks.length := hpos
    have h5 := hk2.len
    rw [flat_len 5 trVC trVC_len] at h5
    obtain ⟨b', o', e, hc2⟩ := RdK.cells hk2 trVC_len (by omega)
    cases e
    obtain ⟨q, hq⟩ : ∃ q, V2[0]? = some q := ⟨_, List.getElem?_eq_getElem (by omega)⟩
    have h3 := hc2 0 q hq 0 (by omega)
    have h4 : (w.putObj b (.deferred none)).cell? ⟨b, o + 0 * 5 + 0, none⟩ = none := by
      unfold World.putObj World.cell?
      simp
      by_cases hlt : b < w.heap.size
      · simp [hlt]
      · simp [hlt]
    rw [h4] at h3
    simp [trVC] at h3
theorem TrS.leaf {S : Nat → Prop} {w : World} {p : TrV} {s : Int} (h : TrS S w p (.srv s)) : p = ⟨true, s, 0, .slice none 0 0, .slice none 0 0⟩ := by
  cases h.r; rfl
theorem mergT_step {form : ET → Bool} {ks : List ET} {j : Nat} {k : ET} (h : ks[j]? = some k) : mergT form (ks.take (j + 1)) = mergT form (ks.take j) ++ (if form k = true then k.kidsOf else [k]) := by
  unfold mergT
  rw [List.take_add_one, h, List.flatMap_append]
  simp
theorem mergT_len {form : ET → Bool} (ks : List ET) (j : Nat) : (mergT form (ks.take j)).length ≤ ETs.sz ks := by
  have h1 := ETs.sz_ge (mergT form (ks.take j))
  have h2 := ETs.sz_flat form (ks.take j)
  have h3 := sz_take ks j
  omega
/-- 'out = append(out, xs...)', elements of k cells, and where the new row lies. -/
theorem wpList_appsK2 {P : Program} {ops : Array Oper} {rest : List Oper} {o : Oper} {a : Act} {Q : Exit → Act → World → Prop} {B : Nat} {w0 wr : World} {e : TypeId} {v : Value} {l : List Value} {n : Nat}
    (k : Nat) (s xo : Operand) (t : TypeId) (bytes : Nat) (z : Value) (ao : Option Addr) (m c : Nat) (news : List Value)
    (ht : P.underlying t = some (.slice e)) (hi : (P.info? e).map (fun i => (i.zero, i.size, i.bytes)) = some (some z, k, bytes)) (hz : z.cells.size = k) (hk : 0 < k)
    (hown : wr.ownsRow B e k v n l) (hb : Below B w0 wr) (hB : B ≤ w0.heap.size) (hr : RdK k wr ao m c news) (h1 : ∀ u ∈ news, u.oneCell' = true)
    (hg : o.guard = none) (hop : o.op = Op.call { callee := Callee.builtin Builtin.append, args := #[s, xo], argTypes := #[t, t] })
    (hs : a.eval s = v) (hx : a.eval xo = .slice ao m c)
    (hlen : n + m ≤ maxLen) (hby : (n + m) * bytes ≤ 140737488355328)
    (hK : ∀ v' w1, w1.ownsRow B e k v' (n + m) (l ++ news) → Below B w0 w1 → wr.grownBy w1 v.ownBlock → (∀ g, v'.ownBlock = some g → v.ownBlock = some g ∨ wr.heap.size ≤ g) → wpList P ops Q rest (a.put o.dst v') w1) :
    wpList P ops Q (o :: rest) a wr := by
  obtain ⟨i, hi1, hi2, hi3, hi4⟩ := info_parts hi
  have hsz := hb.size
  cases ao with
  | none =>
    have hc := hr.nil rfl
    have hm : m = 0 := by have := hr.le; omega
    subst hc hm
    have hnil : news = [] := List.eq_nil_of_length_eq_zero (by rw [← hr.len, Nat.zero_mul])
    subst hnil
    exact wpList_append_own_none hg s xo t hop B e i k ht hi1 v n l hs hown hx (hK v wr (by simpa using hown) hb (World.grownBy.refl _ _) fun g hg => .inl hg)
  | some ad =>
    refine wpList_append_own_at _ hg s xo t hop B e i z k bytes ht hi1 hi2 hi3 hi4 hz hk v n l hs hown ad m c news hx hr.len.symm ?_ h1 hlen hby (by omega) ?_
    · intro j u hj
      have hj' := (List.getElem?_eq_some_iff.1 hj).1
      have hm0 : 0 < m := by
        apply Nat.pos_of_ne_zero
        intro h0
        have := hr.len
        rw [h0, Nat.zero_mul] at this; omega
      obtain ⟨b, of, ha, hcell⟩ := hr.at' hm0
      cases ha
      rw [Addr.add_lit]
      exact hcell j u hj
    · intro v' w1 h2 h3 _ h5
      refine hK v' w1 h2 (hb.grown h3 (by omega) fun k hk => (hown.lt k hk).1) h3 fun g hg => ?_
      rcases h5 with h5 | h5
      · exact .inl (h5 ▸ hg)
      · rw [h5] at hg; injection hg with hg; exact .inr (by omega)
/-- cells of trees are single -/
theorem TrS.one {S : Nat → Prop} {w : World} {p : TrV} {t : ET} (h : TrS S w p t) : ∀ u ∈ trVC p, u.oneCell' = true := by
  cases h.r <;> (intro u hu; simp [trVC] at hu; rcases hu with rfl | rfl | rfl | rfl | rfl <;> rfl)
theorem one_flat {U : List TrV} {ts : List ET} {S : Nat → Prop} {w : World} (hl : U.length = ts.length) (h : ∀ (i : Nat) p s, U[i]? = some p → ts[i]? = some s → TrS S w p s) : ∀ u ∈ U.flatMap trVC, u.oneCell' = true := by
  intro u hu
  obtain ⟨p, hp, hup⟩ := List.mem_flatMap.1 hu
  obtain ⟨i, hi⟩ := List.getElem?_of_mem hp
  have hlt := (List.getElem?_eq_some_iff.1 hi).1
  exact (h i p _ hi (List.getElem?_eq_getElem (by omega))).one u hup
end Go.Proofs.YtcojmmhclklpoaaGreatDoor
namespace Go.Proofs.YtcojmmhclklpoaaGreatDoor
open Go.RowKit Go.Shelf

theorem TrS.shape {S : Nat → Prop} {w : World} {p : TrV} {t : ET} (h : TrS S w p t) : ∃ nw aw cw ak ck, p = ⟨p.leaf, p.server, p.need, .slice aw nw cw, .slice ak t.kidsOf.length ck⟩ := by
  obtain ⟨nw, aw, cw, ak, nk, ck, e, h1⟩ := TrM.shape h.r
  subst h1
  exact ⟨nw, aw, cw, ak, ck, e⟩
/-- the row of a tree's kids -/
theorem TrS.kids' {S : Nat → Prop} {w : World} {lf : Bool} {sv nd : Int} {wv : Value} {ak : Option Addr} {nk ck : Nat} {t : ET} (h : TrS S w ⟨lf, sv, nd, wv, .slice ak nk ck⟩ t) :
    ∃ U : List TrV, U.length = t.kidsOf.length ∧ nk = t.kidsOf.length ∧ RdK 5 w ak nk ck (U.flatMap trVC) ∧ ∀ (i : Nat) p s, U[i]? = some p → t.kidsOf[i]? = some s → TrS S w p s := by
  cases t with
  | srv s =>
    have := h.leaf
    cases this
    exact ⟨[], rfl, rfl, RdK.none_ _ _, fun i p s hp => by simp at hp⟩
  | thr n ws ks =>
    obtain ⟨U, h1, h2, h3, h4, _⟩ := h.kids
    exact ⟨U, h1, h2, h3, h4⟩

set_option maxRecDepth 100000 in
set_option maxHeartbeats 8000000 in
theorem merged_c (S : Nat → Prop) (form : ET → Bool) (G : Nat) (eg : ∀ args w, (callFunc G args).run Tryz.prog w = .ok (.enter G args) w) (HG : ∀ (p : TrV) (t : ET) (u : World), TrM u p t → Calls Tryz.prog G #[trA p] u fun e w' => e = .returned (.bool (form t)) ∧ Below u.heap.size u w')
    (p : TrV) (n : Int) (ws : List Int) (ks : List ET) (w : World) (h : TrS S w p (.thr n ws ks)) (hS : ∀ g, S g → g < w.heap.size) (hz : ETs.sz ks ≤ 1000) :
    Calls Tryz.prog 103 #[trA p, .func (.func G) #[] #[]] w fun e w' => RetT S (.thr n [] (mergT form ks)) w e w' := by
  obtain ⟨nw, aw, cw, ak, ck, hp⟩ := h.shape
  obtain ⟨lf, sv, nd, wv, kv⟩ := p
  simp only [TrV.mk.injEq, true_and] at hp
  obtain ⟨rfl, rfl⟩ := hp
  obtain ⟨V, hV1, hnk2, hV2, hV3, hSW, rfl, rfl, rfl, _⟩ := h.kids
  rw [show (ET.thr nd ws ks).kidsOf.length = ks.length from rfl] at hV2 h ⊢
  obtain ⟨nk, hnk⟩ : ∃ nk, ks.length = nk := ⟨_, rfl⟩
  rw [hnk] at hV1 hV2 h ⊢
  clear hnk2
  have hnk1 : nk ≤ 1000 := by have := ETs.sz_ge ks; omega
  have HV2 := Lib.hid hV2
  have HV3 := Lib.hid hV3
  have HV1 := Lib.hid hV1
  have HNK := Lib.hid hnk
  have HS := Lib.hid hS
  have HZ := Lib.hid hz
  have HHG := Lib.hid HG
  unfold trA
  clear h hV1 hV2 hV3 hSW hS hz HG hnk
  go_enter Tryz.func103, Tryz.ntmps103
  go_wp2_with fail
  generalize hW3 : ((w.alloc _).alloc _).alloc _ = w3
  obtain ⟨gX, gR, gO, hb3, hs3⟩ := box3 hW3
  have GR := Lib.hid gR
  have GO := Lib.hid gO
  have HB3 := Lib.hid hb3
  clear hW3 gX gR gO hb3
  go_loopw [14] (fun q wr => ∃ j kv, j ≤ nk ∧ q = .int .i64 ((j : Nat) : Int) ∧ wr.heap[w.heap.size + 1 + 1]? = some (.cells #[.bool false, .int .i64 0, .int .i64 nd, .slice none 0 0, kv] 106 (0, 0)) ∧ TB S (w.heap.size + 3) wr kv (mergT form (ks.take j)) ∧ (wr.heap[w.heap.size + 1]? = w3.heap[w.heap.size + 1]?) ∧ Below w.heap.size w wr ∧ w.heap.size + 3 ≤ wr.heap.size) (fun q _ => nk - (intOf q).toNat)
  case atStart => exact ⟨0, _, Nat.zero_le _, rfl, GO.out, GB.nil _ _ _ _ (fun g hg => by have := HS.out g hg; omega), rfl, HB3.out, by omega⟩
  case round =>
    obtain ⟨j, kv, hj, rfl, hO, hTB, hR, hbw, hsz⟩ := hrel
    by_cases hlt : j < nk
    · obtain ⟨kt, hkt⟩ : ∃ kt, ks[j]? = some kt := ⟨_, List.getElem?_eq_getElem (by have := HNK.out; omega)⟩
      obtain ⟨pk, hpk⟩ : ∃ pk, V[j]? = some pk := ⟨_, List.getElem?_eq_getElem (by have := HV1.out; omega)⟩
      have hts : TrS S wr pk kt := RS.below (HV3.out j pk kt hpk hkt) hbw HS.out
      obtain ⟨b, o, ha, hcells⟩ := RdK.cells (HV2.out.below hbw) trVC_len (by omega)
      have hc := hcells j pk hpk
      have c0 := hc 0 (by omega)
      have c1 := hc 1 (by omega)
      have c2 := hc 2 (by omega)
      have c3 := hc 3 (by omega)
      have c4 := hc 4 (by omega)
      obtain ⟨nw5, aw5, cw5, ak5, ck5, hpk5⟩ := TrS.shape hts
      obtain ⟨lf5, sv5, nd5, wv5, kv5⟩ := pk
      simp only [TrV.mk.injEq, true_and] at hpk5
      obtain ⟨rfl, rfl⟩ := hpk5
      obtain ⟨U, hU1, hU2, hU3, hU4⟩ := TrS.kids' hts
      obtain ⟨nk5, hnk5⟩ : ∃ nk5, kt.kidsOf.length = nk5 := ⟨_, rfl⟩
      rw [hnk5] at hU1 hU2 hU3 hts c4
      simp only [trVC, Nat.add_zero, List.getElem?_cons_zero, List.getElem?_cons_succ] at c0 c1 c2 c3 c4
      have HMS := Lib.hid (mergT_step (form := form) hkt)
      have hml := mergT_len (form := form) ks (j + 1)
      rw [HMS.out, List.length_append] at hml
      have hz := HZ.out
      obtain ⟨V0, hW1, hW2, hW3⟩ := hTB.row
      obtain ⟨L, hL⟩ : ∃ L, (mergT form (ks.take j)).length = L := ⟨_, rfl⟩
      rw [hL] at hW1 hW2 hml
      obtain ⟨a0, c0', rfl, _⟩ := rdK_of_row hW2
      have HTS := Lib.hid hts
      have HU1 := Lib.hid hU1
      have HU3 := Lib.hid hU3
      have HU4 := Lib.hid hU4
      have HNK5 := Lib.hid hnk5
      have HTB := Lib.hid hTB
      have HW1 := Lib.hid hW1
      have HW2 := Lib.hid hW2
      have HW3 := Lib.hid hW3
      have HO := Lib.hid hO
      have HR := Lib.hid hR
      have HBW := Lib.hid hbw
      have HL := Lib.hid hL
      have hbl := cell_lt c0
      subst ha
      have HCALL := Lib.hid (fun (u : World) (hu : Below wr.heap.size wr u) => HHG.out _ kt u (hts.r.keep hu))
      unfold trA at HCALL
      clear hts hU1 hU2 hU3 hU4 hnk5 hkt hpk hc hcells hTB hW1 hW2 hW3 hO hR hbw hL
      go_wp2_with fail
      generalize hWk : wr.alloc _ = wk
      have hbk : Below wr.heap.size wr wk := by rw [← hWk]; exact (Below.refl _ _).alloc (Nat.le_refl _) _
      have gk : wk.heap[wr.heap.size]? = some (.cells #[.bool lf5, .int .i64 sv5, .int .i64 nd5, .slice aw5 nw5 cw5, .slice ak5 nk5 ck5] 106 (0, 0)) := by rw [← hWk]; exact heap_alloc_new _ _
      have hsk : wk.heap.size = wr.heap.size + 1 := by rw [← hWk]; simp
      have hkc := eg
      clear hWk c0 c1 c2 c3 c4
      with_reducible refine (HCALL.out wk hbk).mono ?_
      rintro e w5 ⟨rfl, hb5⟩
      have HB5 := Lib.hid (Below.next hbk hb5)
      have g5 := heap_below hb5 gk
      have GO5 := Lib.hid (heap_below HB5.out HO.out)
      have o4 := (open5 GO5.out).2.2.2.2
      have HR5 := Lib.hid (rowK_below HW2.out HB5.out)
      have hs5 := hb5.size
      have HU35 := Lib.hid (HU3.out.below HB5.out)
      have hV5 := Lib.hid (fun (i : Nat) p nd hp hn => (RS.below (HW3.out i p nd hp hn) HB5.out HTB.out.lt : TrS S w5 p nd))
      have hU5 := Lib.hid (fun (i : Nat) p nd hp hn => (RS.below (HU4.out i p nd hp hn) HB5.out HTB.out.lt : TrS S w5 p nd))
      have hT5 : Hid (TrS S w5 ⟨lf5, sv5, nd5, .slice aw5 nw5 cw5, .slice ak5 nk5 ck5⟩ kt) := Lib.hid (RS.below HTS.out HB5.out HTB.out.lt)
      obtain ⟨k0, k1, k2, k3, k4⟩ := open5 g5
      clear gk hbk hb5 g5 HW2 HU3 HW3 HU4 HTS HCALL HHG
      by_cases hf : form kt = true
      · rw [if_pos hf, HNK5.out] at hml
        have HMS2 : Hid (mergT form (ks.take (j + 1)) = mergT form (ks.take j) ++ kt.kidsOf) := Lib.hid (by rw [HMS.out, if_pos hf])
        rw [hf]
        clear hf HMS
        go_wp2_with (at_builtin; go_must (refine wpList_appsK2 5 _ _ 104 72 (.agg #[.bool false, .int .i64 0, .int .i64 0, .slice none 0 0, .slice none 0 0]) ak5 nk5 ck5 (U.flatMap trVC) Tryz.underlying104 Tryz.infoTre rfl (by decide) HR5.out (Below.refl (w.heap.size + 3) w5) (by omega) HU35.out (one_flat (by rw [HU1.out, HNK5.out]) hU5.out) rfl rfl rfl rfl (by unfold maxLen; omega) (by omega) ?_))
        intro v6 w6 hown hb6 hg6 hv6
        have hTB6 := GB.pushes (HTB.out.below HB5.out) (by rw [HW1.out, HL.out]) hV5.out (Below.refl _ _) hg6 (by rw [HU1.out, HNK5.out]) (by rw [HL.out, HNK5.out]; exact hown) hv6 hU5.out (fun g hg => ⟨by have := HTB.out.lt g hg; omega, fun e => HTB.out.own g e hg⟩)
        rw [← HMS2.out] at hTB6
        have hTB7 := hTB6.mono (S' := S) (fun g hg => hg.elim id id) (fun g hg => hTB6.lt g (.inl hg)) (fun g e hg => hTB6.own g e (.inl hg))
        obtain ⟨a6, c6, rfl, _⟩ := rdK_of_row hown
        have hO6 := (hg6.block (w.heap.size + 1 + 1) (by omega) (fun e => by have := (HR5.out.lt _ e.symm).1; omega)).trans GO5.out
        have hR6 := (hg6.block (w.heap.size + 1) (by omega) (fun e => by have := (HR5.out.lt _ e.symm).1; omega)).trans ((HB5.out.block (w.heap.size + 1) (by omega)).trans HR.out)
        have HTB7 := Lib.hid hTB7
        have HO6 := Lib.hid hO6
        have HR6 := Lib.hid hR6
        have HB6 := Lib.hid (HBW.out.trans ((HB5.out.mono HBW.out.size).trans (hb6.mono (by omega))))
        have hs6 := hg6.size
        have f6 := (frz5 hO6).2.2.2.2
        have q6 := (open5 hO6).2.2.2.2
        clear hTB6 hTB7 hO6 hR6 hb6 hg6 hown hv6 o4 k0 k1 k2 k3 k4
        go_wp2_with fail
        go_roundw
        case rel =>
          refine ⟨j + 1, _, by omega, by go_num, by rw [heap_set_at HO6.out]; rfl, HTB7.out.move (fun g hg => ?_) (fun g hg => ?_) (by simp), ?_, ?_, by simp; omega⟩
          · exact Below.heap_setCell _ _ _ _ (by have := HS.out g hg; show g ≠ w.heap.size + 1 + 1; omega)
          · exact Below.heap_setCell _ _ _ _ (by have := (HTB7.out.lt_own g hg).1; show g ≠ w.heap.size + 1 + 1; omega)
          · exact (Below.heap_setCell _ _ _ _ (by show w.heap.size + 1 ≠ w.heap.size + 1 + 1; omega)).trans HR6.out
          · exact HB6.out.setCell (p := ⟨w.heap.size + 1 + 1, 4, none⟩) (by show w.heap.size ≤ w.heap.size + 1 + 1; omega) _
        case measure => simp [intOf] <;> omega
      · rw [if_neg hf] at hml
        simp only [List.length_singleton] at hml
        have HMS2 : Hid (mergT form (ks.take (j + 1)) = mergT form (ks.take j) ++ [kt]) := Lib.hid (by rw [HMS.out, if_neg hf])
        rw [show form kt = false by simpa using hf]
        clear hf HMS
        go_wp2_with (at_builtin; go_must (refine wpList_appK2 5 _ _ 104 72 (.agg #[.bool false, .int .i64 0, .int .i64 0, .slice none 0 0, .slice none 0 0]) (trVC ⟨lf5, sv5, nd5, .slice aw5 nw5 cw5, .slice ak5 nk5 ck5⟩) _ Tryz.underlying104 Tryz.infoTre rfl (by decide) HR5.out (Below.refl (w.heap.size + 3) w5) (by omega) rfl rfl rfl rfl rfl hT5.out.one (by unfold maxLen; omega) (by omega) ?_))
        intro v6 w6 hown hb6 hg6 hs6' hv6
        have hTB6 := GB.pushes (M := [kt]) (U := [⟨lf5, sv5, nd5, .slice aw5 nw5 cw5, .slice ak5 nk5 ck5⟩]) (SW := S) (HTB.out.below HB5.out) (by rw [HW1.out, HL.out]) hV5.out (Below.refl _ _) hg6 rfl (by rw [HL.out]; exact hown) hv6 (fun i p s hp hs => by
          cases i with
          | zero => simp at hp hs; subst hp hs; exact hT5.out
          | succ i => simp at hp) (fun g hg => ⟨by have := HTB.out.lt g hg; omega, fun e => HTB.out.own g e hg⟩)
        rw [← HMS2.out] at hTB6
        have hTB7 := hTB6.mono (S' := S) (fun g hg => hg.elim id id) (fun g hg => hTB6.lt g (.inl hg)) (fun g e hg => hTB6.own g e (.inl hg))
        obtain ⟨a6, c6, rfl, _⟩ := rdK_of_row hown
        have hO6 := (hg6.block (w.heap.size + 1 + 1) (by omega) (fun e => by have := (HR5.out.lt _ e.symm).1; omega)).trans GO5.out
        have hR6 := (hg6.block (w.heap.size + 1) (by omega) (fun e => by have := (HR5.out.lt _ e.symm).1; omega)).trans ((HB5.out.block (w.heap.size + 1) (by omega)).trans HR.out)
        have HTB7 := Lib.hid hTB7
        have HO6 := Lib.hid hO6
        have HR6 := Lib.hid hR6
        have HB6 := Lib.hid (HBW.out.trans ((HB5.out.mono HBW.out.size).trans (hb6.mono (by omega))))
        have hs6 := hg6.size
        have f6 := (frz5 hO6).2.2.2.2
        have q6 := (open5 hO6).2.2.2.2
        clear hTB6 hTB7 hO6 hR6 hb6 hg6 hown hv6 o4 k0 k1 k2 k3 k4
        go_wp2_with fail
        go_roundw
        case rel =>
          refine ⟨j + 1, _, by omega, by go_num, by rw [heap_set_at HO6.out]; rfl, HTB7.out.move (fun g hg => ?_) (fun g hg => ?_) (by simp), ?_, ?_, by simp; omega⟩
          · exact Below.heap_setCell _ _ _ _ (by have := HS.out g hg; show g ≠ w.heap.size + 1 + 1; omega)
          · exact Below.heap_setCell _ _ _ _ (by have := (HTB7.out.lt_own g hg).1; show g ≠ w.heap.size + 1 + 1; omega)
          · exact (Below.heap_setCell _ _ _ _ (by show w.heap.size + 1 ≠ w.heap.size + 1 + 1; omega)).trans HR6.out
          · exact HB6.out.setCell (p := ⟨w.heap.size + 1 + 1, 4, none⟩) (by show w.heap.size ≤ w.heap.size + 1 + 1; omega) _
        case measure => simp [intOf] <;> omega
    · obtain rfl : j = nk := by omega
      rw [List.take_of_length_le (by have := HNK.out; omega)] at hTB
      obtain ⟨V0, hW1, hW2, hW3⟩ := hTB.row
      obtain ⟨a0, c0', rfl, _⟩ := rdK_of_row hW2
      obtain ⟨t0, t1, t2, t3, t4⟩ := open5 hO
      have gR := hR.trans GR.out
      obtain ⟨z0, z1, z2, z3, z4⟩ := frz5 gR
      obtain ⟨r0, r1, r2, r3, r4⟩ := open5 gR
      have hTR := TB.thr (S' := fun g => S g ∨ (w.heap.size + 3 ≤ g ∧ g < wr.heap.size)) nd hTB (SlS.nil S wr) (fun g hg => .inl hg) (fun g hg => .inl hg) (fun g hg => .inr (hTB.lt_own g hg))
      have HTR := Lib.hid hTR
      have HGR := Lib.hid gR
      have HBW := Lib.hid hbw
      clear hTR gR hTB hW1 hW2 hW3 hO hR hbw
      go_wp2_with fail
      clear t0 t1 t2 t3 t4 r0 r1 r2 r3 r4 z0 z1 z2 z3 z4
      generalize hWF : ((((wr.setCell _ _).setCell _ _).setCell _ _).setCell _ _).setCell _ _ = WF
      obtain ⟨e1, e2, e3, e4⟩ := fin5 HGR.out hWF
      refine bodyPost_ret (v := .agg #[.bool false, .int .i64 0, .int .i64 nd, .slice none 0 0, .slice a0 (mergT form ks).length c0']) ?_ rfl ⟨false, 0, nd, none, 0, 0, a0, _, c0', rfl, ?_, ?_⟩
      · exact results_cell_row rfl _ _ _ _ _ _ _ rfl e1 Tryz.underlying106 rfl (by kernel_rfl)
      · refine (HTR.out.move fun g hg => e2 g ?_).mono fun g hg => ?_
        · rcases hg with hg | hg
          · have := HS.out g hg; omega
          · omega
        · rcases hg with hg | hg
          · exact .inl hg
          · exact .inr ⟨by omega, by omega⟩
      · exact HBW.out.trans (e4 _ (by omega))
end Go.Proofs.YtcojmmhclklpoaaGreatDoor
namespace Go.Proofs.YtcojmmhclklpoaaGreatDoor
open Go.RowKit

theorem simpF_snoc (k : ET) (ws : List Int) : ∀ (ts : List ET) (a : Nat) (st : SS), ETs.simpF (ts ++ [k]) ws a st = stepS (ETs.simpF ts ws a st) k.simp (wgtW ws (a + ts.length))
  | [], a, st => by simp [ETs.simpF]
  | t :: ts, a, st => by
    rw [List.cons_append, ETs.simpF, simpF_snoc k ws ts (a + 1), ETs.simpF, List.length_cons, show a + 1 + ts.length = a + (ts.length + 1) by omega]
/-- the state behind some kids -/
def stT (n : Int) (ws : List Int) (ks : List ET) (j : Nat) : SS := ETs.simpF (ks.take j) ws 0 ⟨n, [], [], 0⟩
theorem stT_zero (n : Int) (ws : List Int) (ks : List ET) : stT n ws ks 0 = ⟨n, [], [], 0⟩ := by unfold stT; rw [List.take_zero, ETs.simpF]
theorem stT_succ (n : Int) (ws : List Int) {ks : List ET} {j : Nat} {k : ET} (h : ks[j]? = some k) : stT n ws ks (j + 1) = stepS (stT n ws ks j) k.simp (wgtW ws j) := by
  unfold stT
  rw [List.take_add_one, h]
  show ETs.simpF (ks.take j ++ [k]) ws 0 _ = _
  rw [simpF_snoc, List.length_take]
  have := (List.getElem?_eq_some_iff.1 h).1
  rw [show 0 + min j ks.length = j by omega]
theorem stT_all (n : Int) (ws : List Int) (ks : List ET) {j : Nat} (h : ks.length ≤ j) : ET.simp (.thr n ws ks) = finS (stT n ws ks j) := by
  unfold stT
  rw [List.take_of_length_le h, ET.simp]
theorem stT_ok {n : Int} {ws : List Int} {ks : List ET} (h : (ET.thr n ws ks).ok) (hz : ETs.sz ks ≤ 1000) (j : Nat) : SOk2 (stT n ws ks j) n (ETs.sz ks) := by
  rw [ET.ok] at h
  obtain ⟨h1, h2, h3, h4⟩ := h
  have hj := sz_take ks j
  have hs := simpF_ok (ks.take j) ws 0 ⟨n, [], [], 0⟩ n 0 h2 (h3.imp id (by intro e; rw [e, List.length_take]; omega)) ((ETs.ok_iff _).2 fun t ht => (ETs.ok_iff _).1 h4 t (List.mem_of_mem_take ht)) (by omega) ⟨⟨h1.1, rfl, (fun w h => by cases h), rfl⟩, Int.le_refl _, trivial, Nat.le_refl _⟩
  rw [Nat.zero_add] at hs
  exact ⟨hs.toSOk, hs.top, hs.ok, Nat.le_trans hs.sz hj⟩
theorem sumL_le {l : List Int} (h : ∀ w ∈ l, 1 ≤ w ∧ w ≤ 1000) : 0 ≤ sumL l ∧ sumL l ≤ 1000 * (l.length : Int) := by
  induction l with
  | nil => simp [sumL]
  | cons a l ih =>
    have := ih fun w hw => h w (List.mem_cons_of_mem _ hw)
    have := h a (by simp)
    unfold sumL at *
    rw [List.foldr_cons, List.length_cons]
    omega
/-- the fold's numbers are small -/
theorem st_small {st : SS} {n : Int} {Z : Nat} (h : SOk2 st n Z) (hn : n ≤ 100000) (hZ : Z ≤ 1000) : (0 ≤ st.need ∧ st.need ≤ 100000) ∧ (0 ≤ st.sum ∧ st.sum ≤ 1000000) ∧ st.ks.length ≤ 1000 ∧ st.ws.length = st.ks.length := by
  have h1 := ETs.sz_ge st.ks
  have h2 := h.sz
  have h3 := h.top
  have h4 := sumL_le h.toSOk.wts
  rw [h.toSOk.len, ← h.toSOk.sum] at h4
  exact ⟨⟨h.toSOk.need, by omega⟩, ⟨h4.1, by omega⟩, by omega, h.toSOk.len⟩
/-- the light tree, with the weights that it has -/
theorem light_v (need sum : Int) (ws : List Int) (ks : List ET) (wv : Value) : ∃ ws', lightT need sum ws ks = .thr (lgtV need sum ws ks.length wv).1 ws' ks ∧ ((ws' = [] ∧ (lgtV need sum ws ks.length wv).2 = .slice none 0 0) ∨ (ws' = ws ∧ (lgtV need sum ws ks.length wv).2 = wv)) := by
  unfold lightT lgtV
  split
  · exact ⟨[], rfl, .inl ⟨rfl, rfl⟩⟩
  · split
    · exact ⟨[], rfl, .inl ⟨rfl, rfl⟩⟩
    · split
      · exact ⟨[], rfl, .inl ⟨rfl, rfl⟩⟩
      · exact ⟨ws, rfl, .inr ⟨rfl, rfl⟩⟩
end Go.Proofs.YtcojmmhclklpoaaGreatDoor
