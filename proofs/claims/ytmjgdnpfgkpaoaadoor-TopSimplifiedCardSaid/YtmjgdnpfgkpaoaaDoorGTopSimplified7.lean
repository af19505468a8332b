/- Texts laid together. expr.Substitute, Tidy. expr.Tidy. Package build: the majority of three servers. Maps that the call itself has made, as functions from keys. Over any program. Maps as functions from keys: stores in a statement whose order is open; an entry that is made first and filled later. Over any program. Package diagram: forks as keys of maps. -/
import Derived.Test.YtmjgdnpfgkpaoaaDoorGTopSimplified1
import Derived.Test.YtmjgdnpfgkpaoaaDoorGTopSimplified3
import Derived.Test.YtmjgdnpfgkpaoaaDoorGTopSimplified4
import Derived.Test.YtmjgdnpfgkpaoaaDoorGTopSimplified5
import Derived.Test.YtmjgdnpfgkpaoaaDoorGTopSimplified6
import Derived.Test.YtmjgdnpfgkpaoaaDoorProg
import Derived.Laws.EntriesVeiled
import Derived.Maps.OwnOps
import Derived.Maps.RangeWalk
import Derived.Maps.Views
import Derived.WideKeyEntry
import Derived.Deep.AppendLies
import Derived.DeepKeys4
namespace Go.Proofs.YtmjgdnpfgkpaoaaDoor
open Go.RowKit Go.Shelf

/-! plain: what Substitute answers -/
def xprsE : List Xpr → Int
  | [] => 0
  | y :: l => if xprE y ≠ 0 then xprE y else xprsE l
theorem xprsE_ok : ∀ {l : List Xpr}, xprsE l = 0 → ∀ y ∈ l, xprE y = 0
  | [], _, y, hy => by cases hy
  | z :: l, h, y, hy => by
    unfold xprsE at h
    split at h
    · rename_i h1; exact absurd h h1
    · rename_i h1
      rcases List.mem_cons.1 hy with rfl | hy
      · simpa using h1
      · exact xprsE_ok h y hy
theorem xprsE_drop {l : List Xpr} {k : Nat} {y : Xpr} (h : l[k]? = some y) : xprsE (l.drop k) = if xprE y ≠ 0 then xprE y else xprsE (l.drop (k + 1)) := by
  have hk := (List.getElem?_eq_some_iff.1 h).1
  rw [List.drop_eq_getElem_cons hk]
  have : l[k] = y := (List.getElem?_eq_some_iff.1 h).2
  rw [this]; rfl
def subS (x : Xpr) (ys : List Xpr) : Xpr × Int :=
  if xprE x ≠ 0 then (⟨[], 0⟩, xprE x) else if xprsE ys ≠ 0 then (⟨[], 0⟩, xprsE ys) else if 60 < (treY x (subL ys)).sz then (⟨[], 0⟩, 3) else ((treY x (subL ys)).xpr, 0)

theorem one_at (w : World) : OfAt w 66 #[] (subZ 61 noSub) := fun s hs W _ => by
  show Calls Tryd.prog 66 #[.int .i64 (s : Int)] W _
  go_enter Tryd.func66, Tryd.ntmps66
  go_wp2_with fail
  go_ret
  exact ⟨rfl, Below.refl _ _⟩
theorem subZ_le (sub : Nat → Option ET) (s : Nat) : subZ 61 sub s ≤ 61 := by
  unfold subZ
  split <;> omega

set_option maxRecDepth 100000 in
set_option maxHeartbeats 4000000 in
theorem sub2_at (ys : List Xpr) (hys : ∀ y ∈ ys, xprE y = 0) (la : Option Addr) (ln lc LB FB : Nat) (w : World) (h : LM w la ln lc ys) (h1 : w.heap[LB]? = some (.cells #[.slice la ln lc] 74 (0, 0))) (h2 : w.heap[FB]? = some (.cells #[.func (.func 66) #[] #[]] 94 (0, 0))) :
    OfAt w 68 #[.pointer (some ⟨LB, 0, none⟩), .pointer (some ⟨FB, 0, none⟩)] (subZ 61 (subL ys)) := fun s hs W hb => by
  show Calls Tryd.prog 68 #[.int .i64 (s : Int), .pointer (some ⟨LB, 0, none⟩), .pointer (some ⟨FB, 0, none⟩)] W _
  have p1 := cell_of_row _ _ 0 _ _ _ (heap_below hb h1)
  have p2 := cell_of_row _ _ 0 _ _ _ (heap_below hb h2)
  have hln := h.len
  by_cases hlt : s < ln
  · have hd : decide ((s : Int) < (ln : Int)) = true := decide_eq_true (by omega)
    obtain ⟨y, hy⟩ : ∃ y, ys[s]? = some y := ⟨_, List.getElem?_eq_getElem (by omega)⟩
    obtain ⟨b, o, ha, hc⟩ := h.at' (by omega)
    obtain ⟨a3, n3, c3, y0, hxm, y1⟩ := hc s y hy
    subst ha
    have hz : subZ 61 (subL ys) s = min 61 (treY y noSub).sz := by unfold subZ subL; rw [hy]; rfl
    have y0 := cell_keep hb y0
    have y1 := cell_keep hb y1
    have hxw := hxm.below hb
    have HX : Hid (∀ u : World, Below W.heap.size W u → Calls Tryd.prog 67 #[.agg #[.slice a3 n3 c3, .int .i64 y.root], .func (.func 66) #[] #[]] u fun e w' => e = .returned (.int .i64 ((min 61 (treY y noSub).sz : Nat) : Int)) ∧ Below W.heap.size W w') := Lib.hid (fun u hu =>
      (size_c y (hys y (List.mem_of_getElem? hy)) noSub _ _ (enters_of Tryd.func66 (by kernel_rfl) rfl) u (one_at u) (subZ_le _) a3 n3 c3 (hxw.below hu)).mono fun e w' h => ⟨h.1, Below.next hu h.2⟩)
    have KS : Hid (∀ u : World, Below W.heap.size W u → u.cell? ⟨LB, 0, none⟩ = some (.slice (some ⟨b, o, none⟩) ln lc) ∧ u.cell? ⟨FB, 0, none⟩ = some (.func (.func 66) #[] #[]) ∧ u.cell? ⟨b, o + s * 2, none⟩ = some (.slice a3 n3 c3) ∧ u.cell? ⟨b, o + s * 2 + 1, none⟩ = some (.int .i64 y.root)) := Lib.hid (fun u hu => ⟨cell_keep hu p1, cell_keep hu p2, cell_keep hu y0, cell_keep hu y1⟩)
    have HZ := Lib.hid hz
    clear h h1 h2 hb hxm hxw hc hy hz hys hln p2 y0 y1
    go_enter Tryd.func68, Tryd.ntmps68
    go_wp2_with fail
    refine wp_region_quiet (C := fun u => Below W.heap.size W u) (by kernel_rfl) (by kernel_rfl) (below_drew (Below.refl _ _)) ?_
    repeat (refine wpQuiet_step (fun K hK => ?_); go_simp; (first | (refine hK _ ?_; clear hK K) | (apply Exists.intro; refine ⟨fun u hu => ?_, hK _ ?_⟩; (first | with_reducible exact rfl | with_reducible exact ⟨rfl, hu⟩ | ((with_reducible refine (HX.out u hu).mono ?_); (rintro e w3 ⟨rfl, h3⟩; exact ⟨rfl, h3⟩)) | (obtain ⟨q1, q2, q3, q4⟩ := KS.out u hu; go_simp; first | exact rfl | exact ⟨rfl, hu⟩ | exact hu)); clear hK K)))
    refine wpQuiet_nil ?_
    intro wq hwq
    have HBQ := Lib.hid hwq
    clear hwq
    go_wp2_with fail
    go_ret
    rw [HZ.out]
    exact ⟨rfl, HBQ.out⟩
  · have hd : decide ((s : Int) < (ln : Int)) = false := decide_eq_false (by omega)
    have hz : subZ 61 (subL ys) s = 1 := by unfold subZ subL; rw [List.getElem?_eq_none (by omega)]; rfl
    have HZ := Lib.hid hz
    clear h h1 h2 hb hys hln hz
    go_enter Tryd.func68, Tryd.ntmps68
    go_wp2_with fail
    go_ret
    rw [HZ.out]
    exact ⟨rfl, Below.refl _ _⟩
/-- an expression that a call returns, with an error -/
def RetX (x : Xpr) (er : Int) (w : World) (e : Ending) (w' : World) : Prop :=
  ∃ a' c', e = .returned (.tuple #[.agg #[.slice a' x.nodes.length c', .int .i64 x.root], .int .i64 er]) ∧ XMR w.heap.size w'.heap.size w' a' x.nodes.length c' x.nodes ∧ Below w.heap.size w w'
theorem RetX.none_ {er : Int} {w w' : World} {e : Ending} (he : e = .returned (.tuple #[.agg #[.slice none 0 0, .int .i64 0], .int .i64 er])) (hb : Below w.heap.size w w') : RetX ⟨[], 0⟩ er w e w' :=
  ⟨none, 0, he, fun _ _ => XM.none_ _, hb⟩

theorem box3 {w W3 : World} {c0 c1 c2 : Array Value} {t0 t1 t2 : TypeId} (h : ((w.alloc (.cells c0 t0)).alloc (.cells c1 t1)).alloc (.cells c2 t2) = W3) :
    W3.heap[w.heap.size]? = some (.cells c0 t0 (0, 0)) ∧ W3.heap[w.heap.size + 1]? = some (.cells c1 t1 (0, 0)) ∧ W3.heap[w.heap.size + 1 + 1]? = some (.cells c2 t2 (0, 0)) ∧ Below w.heap.size w W3 ∧ W3.heap.size = w.heap.size + 3 := by
  subst h
  have h1 := heap_alloc_new (w.alloc (.cells c0 t0)) (.cells c1 t1)
  have h2 := heap_alloc_new ((w.alloc (.cells c0 t0)).alloc (.cells c1 t1)) (.cells c2 t2)
  rw [World.size_alloc] at h1
  rw [World.size_alloc, World.size_alloc] at h2
  exact ⟨heap_alloc_at (heap_alloc_at (heap_alloc_new _ _) _) _, heap_alloc_at h1 _, h2, (((Below.refl _ w).alloc (Nat.le_refl _) _).alloc (by simp) _).alloc (by simp; omega) _, by simp⟩
theorem fin_box {w w4 WF : World} {R : Nat} {p q u0 u1 : Value} {t : TypeId} (h : w4.heap[R]? = some (.cells #[p, q] t (0, 0))) (hR : w.heap.size ≤ R) (hb : Below w.heap.size w w4) (hW : (w4.setCell ⟨R, 0, none⟩ u0).setCell ⟨R, 1, none⟩ u1 = WF) :
    WF.heap[R]? = some (.cells #[u0, u1] t (0, 0)) ∧ Below w.heap.size w WF := by
  subst hW
  exact ⟨heap_set_at (heap_set_at h 0 _) 1 _, (hb.setCell (p := ⟨R, 0, none⟩) hR _).setCell (p := ⟨R, 1, none⟩) hR _⟩

set_option maxRecDepth 100000 in
set_option maxHeartbeats 8000000 in
theorem subst_c (x : Xpr) (ys : List Xpr) (a : Option Addr) (n c : Nat) (la : Option Addr) (ln lc : Nat) (w : World) (h : XM w a n c x.nodes) (hl : LM w la ln lc ys) :
    Calls Tryd.prog 39 #[.agg #[.slice a n c, .int .i64 x.root], .slice la ln lc] w fun e w' => RetX (subS x ys).1 (subS x ys).2 w e w' := by
  have HX := Lib.hid h
  have HL := Lib.hid hl
  have HV := Lib.hid (fun (u : World) (hu : Below w.heap.size w u) => xpr_c x a n c u (h.below hu))
  clear h hl
  by_cases hx : xprE x = 0
  · rw [hx] at HV
    have HXX := Lib.hid hx
    have HLN := Lib.hid HL.out.len
    have hlm : ln ≤ 9223372036854775807 := by have h1 := HL.out.le; have h2 := HL.out.max; unfold maxLen at h2; omega
    have HSS : Hid (subS x ys = if xprsE ys ≠ 0 then (⟨[], 0⟩, xprsE ys) else if 60 < (treY x (subL ys)).sz then (⟨[], 0⟩, 3) else ((treY x (subL ys)).xpr, 0)) := Lib.hid (by unfold subS; rw [if_neg (by rw [hx]; simp)])
    clear hx
    go_enter Tryd.func39, Tryd.ntmps39
    go_wp2_with fail
    generalize hW3 : ((w.alloc _).alloc _).alloc _ = W3
    obtain ⟨gX, gL, gR, hb3, hs3⟩ := box3 hW3
    have GX := Lib.hid gX
    have GL := Lib.hid gL
    have GR := Lib.hid gR
    have HB3 := Lib.hid hb3
    have HS3 := Lib.hid hs3
    clear hW3 gX gL gR hb3 hs3
    with_reducible refine (HV.out W3 HB3.out).mono ?_
    rintro e w4 ⟨rfl, hb4⟩
    have HB4 := Lib.hid (Below.next HB3.out hb4)
    have GX4 := Lib.hid (heap_below hb4 GX.out)
    have GL4 := Lib.hid (heap_below hb4 GL.out)
    have GR4 := Lib.hid (heap_below hb4 GR.out)
    have l4 := cell_of_row _ _ 0 _ _ _ GL4.out
    have hs4 : w.heap.size + 3 ≤ w4.heap.size := by have := hb4.size; have := HS3.out; omega
    clear GX GL GR HB3 HS3 hb4
    go_wp2_with fail
    go_loopw [20] (fun i wr => ∃ k : Nat, k ≤ ln ∧ i = .int .i64 ((k : Nat) : Int) ∧ Hid (xprsE ys = xprsE (ys.drop k)) ∧ Below w4.heap.size w4 wr) (fun i _ => ln - (intOf i).toNat)
    case atStart => exact ⟨0, Nat.zero_le _, rfl, Lib.hid (by simp), Below.refl _ _⟩
    case round =>
      obtain ⟨k, hk, rfl, hno, hb⟩ := hrel
      by_cases hlt : k < ln
      · obtain ⟨y, hy⟩ : ∃ y, ys[k]? = some y := ⟨_, List.getElem?_eq_getElem (by have := HLN.out; omega)⟩
        obtain ⟨b2, o2, ha2, hc2⟩ := (HL.out.below (Below.next HB4.out hb)).at' (by omega)
        obtain ⟨a3, n3, c3, y0, hxm, y1⟩ := hc2 k y hy
        subst ha2
        have hdr := xprsE_drop hy
        have HVY := Lib.hid (fun (u : World) (hu : Below wr.heap.size wr u) => xpr_c y a3 n3 c3 u (hxm.below hu))
        obtain ⟨E, hE⟩ : ∃ E, xprE y = E := ⟨_, rfl⟩
        rw [hE] at HVY hdr
        have HDR := Lib.hid hdr
        have HB := Lib.hid hb
        have hsr := hb.size
        clear hdr hE hxm hc2 hy hb
        go_wp2_with fail
        with_reducible refine (HVY.out _ ((Below.refl _ _).alloc (Nat.le_refl _) _)).mono ?_
        rintro e w6 ⟨rfl, hb6⟩
        have HB6 := Lib.hid (Below.next HB.out (Below.next ((Below.refl _ _).alloc (Nat.le_refl _) _) hb6))
        clear hb6 y0 y1
        by_cases hE0 : E = 0
        · subst hE0
          have hno2 : Hid (xprsE ys = xprsE (ys.drop (k + 1))) := Lib.hid (by rw [hno.out, HDR.out, if_neg (by simp)])
          clear HDR HVY
          go_wp2_with fail
          go_roundw
          case rel => exact ⟨k + 1, by omega, by go_num, hno2, HB6.out⟩
          case measure => simp [intOf] <;> omega
        · have hne : (E != 0) = true := by simpa using hE0
          have hS : subS x ys = (⟨[], 0⟩, E) := by
            rw [HSS.out, hno.out, HDR.out, if_pos hE0, if_pos hE0]
          have HRS := Lib.hid hS
          have g4 := heap_below HB6.out GR4.out
          have t0 := cell_of_row _ _ 0 _ _ _ g4
          have t1 := cell_of_row _ _ 1 _ _ _ g4
          have z0 := frozen_row g4 0
          have z1 := frozen_row g4 1
          have G4 := Lib.hid g4
          clear g4 hS hE0 HDR HVY HSS
          go_wp2_with fail
          clear t0 t1 z0 z1
          generalize hWF : (w6.setCell _ _).setCell _ _ = WF
          obtain ⟨e1, hbf⟩ := fin_box G4.out (by omega) (Below.next HB4.out HB6.out) hWF
          have HBF := Lib.hid hbf
          have f0 := cell_of_row _ _ 0 _ _ _ e1
          have f1 := cell_of_row _ _ 1 _ _ _ e1
          clear hWF e1 hbf
          refine bodyPost_ret (v := .tuple #[.agg #[.slice none 0 0, .int .i64 0], .int .i64 E]) ?_ rfl (by rw [HRS.out]; exact RetX.none_ rfl HBF.out)
          rw [results_cell_tmp rfl]
          go_simp
      · obtain rfl : k = ln := by omega
        have hys : xprsE ys = 0 := by rw [hno.out, List.drop_of_length_le (by have := HLN.out; omega)]; rfl
        have HYS := Lib.hid (fun y hy => xprsE_ok hys y hy)
        have hS2 : Hid (subS x ys = if 60 < (treY x (subL ys)).sz then (⟨[], 0⟩, 3) else ((treY x (subL ys)).xpr, 0)) := Lib.hid (by rw [HSS.out, hys, if_neg (by simp)])
        have hsr := hb.size
        obtain ⟨WA, hWA⟩ : ∃ WA, WA = wr.alloc (.cells #[.func (.func 66) #[] #[]] 94) := ⟨_, rfl⟩
        have hbA : Below wr.heap.size wr WA := by rw [hWA]; exact (Below.refl _ _).alloc (Nat.le_refl _) _
        have gF : WA.heap[wr.heap.size]? = some (.cells #[.func (.func 66) #[] #[]] 94 (0, 0)) := by rw [hWA]; exact heap_alloc_new _ _
        have hsA : WA.heap.size = wr.heap.size + 1 := by rw [hWA]; simp
        have gX := heap_below (Below.next hb hbA) GX4.out
        have gL := heap_below (Below.next hb hbA) GL4.out
        have gR := heap_below (Below.next hb hbA) GR4.out
        have hba := Below.next HB4.out (Below.next hb hbA)
        have x0 := cell_of_row _ _ 0 _ _ _ gX
        have x1 := cell_of_row _ _ 1 _ _ _ gX
        have HSZ := Lib.hid (size_c x HXX.out (subL ys) 68 #[.pointer (some ⟨w.heap.size + 1, 0, none⟩), .pointer (some ⟨wr.heap.size, 0, none⟩)] (enters_of Tryd.func68 (by kernel_rfl) rfl) WA (sub2_at ys HYS.out la k lc _ _ WA (HL.out.below hba) gL gF) (subZ_le _) a n c (HX.out.below hba))
        have GXA := Lib.hid gX
        have GLA := Lib.hid gL
        have GRA := Lib.hid gR
        have HBA := Lib.hid hba
        rw [hWA] at x0 x1
        clear hno hys HSS hb hbA gF gX gL gR hba GX4 GL4 GR4 HB4 l4
        go_wp2_with fail
        rw [← hWA]
        have hwaz : wr.heap.size + 1 = WA.heap.size := hsA.symm
        clear x0 x1 hWA hsA
        with_reducible refine HSZ.out.mono ?_
        rintro e w7 ⟨rfl, hb7⟩
        have GX7 := Lib.hid (heap_below hb7 GXA.out)
        have GL7 := Lib.hid (heap_below hb7 GLA.out)
        have GR7 := Lib.hid (heap_below hb7 GRA.out)
        have HB7 := Lib.hid (Below.next HBA.out hb7)
        have hs7 : w.heap.size + 3 ≤ w7.heap.size := by have := hb7.size; omega
        clear hb7 HSZ GXA GLA GRA HBA
        by_cases hbig : 60 < (treY x (subL ys)).sz
        · have hd : decide ((61 : Int) ≤ ((min 61 (treY x (subL ys)).sz : Nat) : Int)) = true := decide_eq_true (by omega)
          have hS : subS x ys = (⟨[], 0⟩, 3) := by rw [hS2.out, if_pos hbig]
          have HRS := Lib.hid hS
          have t0 := cell_of_row _ _ 0 _ _ _ GR7.out
          have t1 := cell_of_row _ _ 1 _ _ _ GR7.out
          have z0 := frozen_row GR7.out 0
          have z1 := frozen_row GR7.out 1
          obtain ⟨MZ, hMZ⟩ : ∃ MZ, min 61 (treY x (subL ys)).sz = MZ := ⟨_, rfl⟩
          rw [hMZ] at hd ⊢
          clear hS hS2 hMZ hbig
          go_wp2_with fail
          clear t0 t1 z0 z1
          generalize hWF : (w7.setCell _ _).setCell _ _ = WF
          obtain ⟨e1, hbf⟩ := fin_box GR7.out (by omega) HB7.out hWF
          have HBF := Lib.hid hbf
          have f0 := cell_of_row _ _ 0 _ _ _ e1
          have f1 := cell_of_row _ _ 1 _ _ _ e1
          clear hWF e1 hbf
          refine bodyPost_ret (v := .tuple #[.agg #[.slice none 0 0, .int .i64 0], .int .i64 3]) ?_ rfl (by rw [HRS.out]; exact RetX.none_ rfl HBF.out)
          rw [results_cell_tmp rfl]
          go_simp
        · have hd : decide ((61 : Int) ≤ ((min 61 (treY x (subL ys)).sz : Nat) : Int)) = false := decide_eq_false (by omega)
          have hS : subS x ys = ((treY x (subL ys)).xpr, 0) := by rw [hS2.out, if_neg hbig]
          have HRS := Lib.hid hS
          obtain ⟨MZ, hMZ⟩ : ∃ MZ, min 61 (treY x (subL ys)).sz = MZ := ⟨_, rfl⟩
          rw [hMZ] at hd ⊢
          have HBIG := Lib.hid hbig
          clear hS hS2 hMZ hbig
          obtain ⟨W8, hW8⟩ : ∃ W8, W8 = w7.alloc (.cells #[.slice none 0 0, .int .i64 0] 28) := ⟨_, rfl⟩
          have hb8 : Below w7.heap.size w7 W8 := by rw [hW8]; exact (Below.refl _ _).alloc (Nat.le_refl _) _
          have gO : W8.heap[w7.heap.size]? = some (.cells #[.slice none 0 0, .int .i64 0] 28 (0, 0)) := by rw [hW8]; exact heap_alloc_new _ _
          have hs8 : W8.heap.size = w7.heap.size + 1 := by rw [hW8]; simp
          have gX := heap_below hb8 GX7.out
          have gL := heap_below hb8 GL7.out
          have gR := heap_below hb8 GR7.out
          have x0 := cell_of_row _ _ 0 _ _ _ gX
          have x1 := cell_of_row _ _ 1 _ _ _ gX
          have l0 := cell_of_row _ _ 0 _ _ _ gL
          have ok := xprE_ok HXX.out
          have hroot := ok.root
          have hT : treF x.nodes (subL ys) (x.root.toNat + 1) x.root.toNat = treY x (subL ys) := rfl
          have hWr := write_c x HXX.out ys HYS.out w7 w7.heap.size w7.heap.size (Nat.le_refl _) (Nat.le_refl _) (x.root.toNat + 1) a n c la k lc (HX.out.below HB7.out) (HL.out.below HB7.out) x.root.toNat (Nat.lt_succ_self _) (by omega) W8 (fun _ => False) (.slice none 0 0) [] ⟨hb8, ⟨_, gO⟩, XB.nil _ _ _ _ (fun _ h => h.elim), id, (fun e => by cases e), fun _ h => h.elim⟩ (by rw [hT]; have := HBIG.out; show 0 + _ ≤ 1000; omega)
          rw [hT, Int.toNat_of_nonneg hroot.1] at hWr
          have HWR := Lib.hid hWr
          have GRO := Lib.hid gR
          have HB8 := Lib.hid (Below.next HB7.out hb8)
          rw [hW8] at x0 x1 l0
          clear gX gL gR gO hb8 ok hroot hT hWr
          go_wp2_with fail
          rw [← hW8]
          clear x0 x1 l0 hW8
          with_reducible refine HWR.out.mono ?_
          rintro e w9 ⟨rfl, v', S', k1, k2, k3, k4, k5⟩
          obtain ⟨a', c', rfl, _⟩ := k2.shape
          have gR9 := (k3.blk (w.heap.size + 1 + 1) (by omega) (by omega) (fun e => by cases e)).trans GRO.out
          have o0 := cell_of_row _ _ 0 _ _ _ k1
          have o1 := cell_of_row _ _ 1 _ _ _ k1
          have t0 := cell_of_row _ _ 0 _ _ _ gR9
          have t1 := cell_of_row _ _ 1 _ _ _ gR9
          have z0 := frozen_row gR9 0
          have z1 := frozen_row gR9 1
          have GR9 := Lib.hid gR9
          have HK2 := Lib.hid k2
          have HK5 := Lib.hid k5
          have HB9 := Lib.hid (HB8.out.trans (k3.bel.mono (by omega)))
          have hs9 := k3.bel.size
          rw [List.nil_append] at o0 o1
          clear k1 k2 k3 k4 k5 gR9 HWR GRO HB8
          go_wp2_with fail
          clear t0 t1 z0 z1 o0 o1
          generalize hWF : (w9.setCell _ _).setCell _ _ = WF
          obtain ⟨e1, hbf⟩ := fin_box GR9.out (by omega) HB9.out hWF
          have hkeep : ∀ g, g ≠ w.heap.size + 1 + 1 → WF.heap[g]? = w9.heap[g]? := fun g hg => by
            rw [← hWF, Below.heap_setCell _ ⟨w.heap.size + 1 + 1, 1, none⟩ _ g hg, Below.heap_setCell _ ⟨w.heap.size + 1 + 1, 0, none⟩ _ g hg]
          have hsF : WF.heap.size = w9.heap.size := by rw [← hWF]; simp
          have hS8 : ∀ g, S' g → W8.heap.size ≤ g := fun g hg => by
            rcases HK5.out g hg with h | h | h
            · exact h.elim
            · exact h.elim
            · exact h
          have hxb := HK2.out.move (w' := WF) (fun g hg => hkeep g (by have := hS8 g hg; omega)) (fun g hg => hkeep g (by have := (HK2.out.lt_own g hg).1; omega)) (by omega)
          obtain ⟨a2, c2, e2, hxmr⟩ := hxb.xmr (lo := w.heap.size) (fun g hg => by have := hS8 g hg; omega) (by omega)
          rw [List.nil_append] at hxmr e2
          cases e2
          have f0 := cell_of_row _ _ 0 _ _ _ e1
          have f1 := cell_of_row _ _ 1 _ _ _ e1
          have hlen : (((treY x (subL ys)).post 0).length : Int) - 1 = (treY x (subL ys)).xpr.root := by
            have := (treY x (subL ys)).sz_pos
            rw [ET.post_len]
            show _ = (((treY x (subL ys)).sz - 1 : Nat) : Int)
            omega
          have HXM := Lib.hid hxmr
          have HBF := Lib.hid hbf
          have HLEN := Lib.hid hlen
          clear hWF e1 hkeep hS8 hxb hxmr hbf hlen
          refine bodyPost_ret (v := .tuple #[.agg #[.slice a' ((treY x (subL ys)).post 0).length c', .int .i64 (treY x (subL ys)).xpr.root], .int .i64 0]) ?_ rfl ?_
          · rw [results_cell_tmp rfl]
            go_simp
            exact HLEN.out
          · rw [HRS.out]
            exact ⟨a', c', rfl, HXM.out, HBF.out⟩
  · have hR : subS x ys = (⟨[], 0⟩, xprE x) := by unfold subS; rw [if_pos hx]
    obtain ⟨E, hE⟩ : ∃ E, xprE x = E := ⟨_, rfl⟩
    rw [hR, hE]
    rw [hE] at HV hx
    have hne : (E != 0) = true := by simpa using hx
    clear hR hE hx
    go_enter Tryd.func39, Tryd.ntmps39
    go_wp2_with fail
    generalize hW3 : ((w.alloc _).alloc _).alloc _ = W3
    obtain ⟨gX, gL, gR, hb3, hs3⟩ := box3 hW3
    have GX := Lib.hid gX
    have GL := Lib.hid gL
    have GR := Lib.hid gR
    have HB3 := Lib.hid hb3
    have HS3 := Lib.hid hs3
    clear hW3 gX gL gR hb3 hs3
    with_reducible refine (HV.out W3 HB3.out).mono ?_
    rintro e w4 ⟨rfl, hb4⟩
    have g4 := heap_below hb4 GR.out
    have t0 := cell_of_row _ _ 0 _ _ _ g4
    have t1 := cell_of_row _ _ 1 _ _ _ g4
    have z0 := frozen_row g4 0
    have z1 := frozen_row g4 1
    have G4 := Lib.hid g4
    have HB4 := Lib.hid (Below.next HB3.out hb4)
    clear g4 hb4 GX GL GR HB3 HS3
    go_wp2_with fail
    clear t0 t1 z0 z1
    generalize hWF : (w4.setCell _ _).setCell _ _ = WF
    obtain ⟨e1, hbf⟩ := fin_box G4.out (by omega) HB4.out hWF
    have HBF := Lib.hid hbf
    have f0 := cell_of_row _ _ 0 _ _ _ e1
    have f1 := cell_of_row _ _ 1 _ _ _ e1
    clear hWF e1 hbf
    refine bodyPost_ret (v := .tuple #[.agg #[.slice none 0 0, .int .i64 0], .int .i64 E]) ?_ rfl (RetX.none_ rfl HBF.out)
    rw [results_cell_tmp rfl]
    go_simp
end Go.Proofs.YtmjgdnpfgkpaoaaDoor
namespace Go.Proofs.YtmjgdnpfgkpaoaaDoor
open Go.RowKit Go.Shelf

/-- what Tidy answers -/
def tidS (x : Xpr) : Xpr × Int := if xprE x ≠ 0 then (⟨[], 0⟩, xprE x) else if 60 < (treX x).sz then (⟨[], 0⟩, 3) else ((treX x).xpr, 0)
theorem subS_nil (x : Xpr) : subS x [] = tidS x := rfl
theorem box2 {w W2 : World} {c0 c1 : Array Value} {t0 t1 : TypeId} (h : (w.alloc (.cells c0 t0)).alloc (.cells c1 t1) = W2) :
    W2.heap[w.heap.size]? = some (.cells c0 t0 (0, 0)) ∧ W2.heap[w.heap.size + 1]? = some (.cells c1 t1 (0, 0)) ∧ Below w.heap.size w W2 ∧ W2.heap.size = w.heap.size + 2 := by
  subst h
  have h1 := heap_alloc_new (w.alloc (.cells c0 t0)) (.cells c1 t1)
  rw [World.size_alloc] at h1
  exact ⟨heap_alloc_at (heap_alloc_new _ _) _, h1, ((Below.refl _ w).alloc (Nat.le_refl _) _).alloc (by simp) _, by simp⟩
/-- an expression that was returned, put into a box: the slice still reads -/
theorem xmr_box {lo R : Nat} {w WF : World} {a : Option Addr} {n c : Nat} {nodes : List Nod} {u0 u1 : Value} (h : XMR lo w.heap.size w a n c nodes) (hR : R < lo) (hW : (w.setCell ⟨R, 0, none⟩ u0).setCell ⟨R, 1, none⟩ u1 = WF) : XMR lo WF.heap.size WF a n c nodes := by
  have hs : WF.heap.size = w.heap.size := by rw [← hW]; simp
  rw [hs]
  refine h.agree fun g g1 g2 => ?_
  rw [← hW, Below.heap_setCell _ ⟨R, 1, none⟩ _ g (by show g ≠ R; omega), Below.heap_setCell _ ⟨R, 0, none⟩ _ g (by show g ≠ R; omega)]

set_option maxRecDepth 100000 in
set_option maxHeartbeats 2000000 in
theorem tidy_c (x : Xpr) (a : Option Addr) (n c : Nat) (w : World) (h : XM w a n c x.nodes) :
    Calls Tryd.prog 16 #[.agg #[.slice a n c, .int .i64 x.root]] w fun e w' => RetX (tidS x).1 (tidS x).2 w e w' := by
  have HS := Lib.hid (fun (u : World) (hu : Below w.heap.size w u) => subst_c x [] a n c none 0 0 u (h.below hu) (LM.none_ _))
  rw [subS_nil] at HS
  obtain ⟨R, hR⟩ : ∃ R, tidS x = R := ⟨_, rfl⟩
  rw [hR] at HS ⊢
  obtain ⟨y, er⟩ := R
  simp only at HS ⊢
  clear h hR
  go_enter Tryd.func16, Tryd.ntmps16
  go_wp2_with fail
  generalize hW2 : (w.alloc _).alloc _ = W2
  obtain ⟨gX, gR, hb2, hs2⟩ := box2 hW2
  have GR := Lib.hid gR
  have HB2 := Lib.hid hb2
  clear hW2 gX gR hb2
  with_reducible refine (HS.out W2 HB2.out).mono ?_
  rintro e w3 ⟨a', c', rfl, hxm, hb3⟩
  have gR3 := heap_below hb3 GR.out
  have t0 := cell_of_row _ _ 0 _ _ _ gR3
  have t1 := cell_of_row _ _ 1 _ _ _ gR3
  have z0 := frozen_row gR3 0
  have z1 := frozen_row gR3 1
  have GR3 := Lib.hid gR3
  have HB3 := Lib.hid (Below.next HB2.out hb3)
  have HXM := Lib.hid hxm
  clear gR3 hb3 hxm HS GR HB2
  go_wp2_with fail
  clear t0 t1 z0 z1
  generalize hWF : (w3.setCell _ _).setCell _ _ = WF
  obtain ⟨e1, hbf⟩ := fin_box GR3.out (by omega) HB3.out hWF
  have hx2 := (xmr_box HXM.out (by omega) hWF).mono (lo' := w.heap.size) (by omega) (Nat.le_refl _)
  have HX2 := Lib.hid hx2
  have HBF := Lib.hid hbf
  have f0 := cell_of_row _ _ 0 _ _ _ e1
  have f1 := cell_of_row _ _ 1 _ _ _ e1
  clear hWF e1 hbf hx2
  refine bodyPost_ret (v := .tuple #[.agg #[.slice a' y.nodes.length c', .int .i64 y.root], .int .i64 er]) ?_ rfl ⟨a', c', rfl, HX2.out, HBF.out⟩
  rw [results_cell_tmp rfl]
  go_simp
end Go.Proofs.YtmjgdnpfgkpaoaaDoor
namespace Go.Proofs.YtmjgdnpfgkpaoaaDoor
open Go.RowKit Go.Shelf

def srvB (i : Nat) : Nod := ⟨1, i, 0, [], []⟩
def topN : Nod := ⟨2, 0, 2, [], [0, 1, 2]⟩
/-- the majority of three servers -/
def majX : Xpr := ⟨[srvB 0, srvB 1, srvB 2, topN], 3⟩
def srvC (i : Nat) : List Value := [.int .i64 1, .int .i64 i, .int .i64 0, .slice none 0 0, .slice none 0 0]
theorem srvC_len (i : Nat) : (srvC i).length = 5 := rfl
theorem Tryd.infoNodeB : (Tryd.prog.info? 58).map (fun i => (i.zero, i.size, i.bytes)) = some (some (.agg #[.int .i64 0, .int .i64 0, .int .i64 0, .slice none 0 0, .slice none 0 0]), 5, 72) := by kernel_rfl
/-- what threshold has built: its three boxes, the nodes, the numbers of the kids -/
structure ThrM (w wr : World) (m k : Nat) (vN vK : Value) : Prop where
  b6 : wr.heap[w.heap.size]? = some (.cells #[.slice none 0 0, .int .i64 0] 28 (0, 0))
  b7 : wr.heap[w.heap.size + 1]? = some (.cells #[vN, .int .i64 0] 28 (0, 0))
  b8 : wr.heap[w.heap.size + 1 + 1]? = some (.cells #[.int .i64 2, .int .i64 0, .int .i64 2, .slice none 0 0, vK] 58 (0, 0))
  rN : wr.ownsRow (w.heap.size + 3) 58 5 vN m ((List.range m).flatMap srvC)
  rK : wr.ownsRow (w.heap.size + 3) 3 1 vK k ((List.range k).map natU)
  bl : Below w.heap.size w wr
  sz : w.heap.size + 3 ≤ wr.heap.size
theorem grown_at {w w' : World} {v : Value} {g : Nat} {o : Obj} (hg : w.grownBy w' v.ownBlock) (h : w.heap[g]? = some o) (hn : v.ownBlock ≠ some g) : w'.heap[g]? = some o := by
  rw [← h]
  exact hg.block g (Array.getElem?_eq_some_iff.1 h).1 (fun e => hn e.symm)
/-- rows of two types lie apart -/
theorem rows_apart {w : World} {B B' k k' n n' : Nat} {e e' : TypeId} {v v' : Value} {l l' : List Value} (h : w.ownsRow B e k v n l) (h' : w.ownsRow B' e' k' v' n' l') (he : e ≠ e') : ∀ g, v.ownBlock = some g → v'.ownBlock ≠ some g := by
  intro g hg hg'
  rcases h.2 with ⟨rfl, _⟩ | ⟨g1, c1, cur1, rfl, _, hh, _⟩
  · cases hg
  · rcases h'.2 with ⟨rfl, _⟩ | ⟨g2, c2, cur2, rfl, _, hh', _⟩
    · cases hg'
    · cases hg; cases hg'
      rw [hh] at hh'
      injection hh' with hh'
      injection hh' with _ hh'
      exact he hh'
theorem ThrM.alloc {w wr : World} {m k : Nat} {vN vK : Value} (h : ThrM w wr m k vN vK) (ob : Obj) : ThrM w (wr.alloc ob) m k vN vK :=
  ⟨heap_alloc_at h.b6 _, heap_alloc_at h.b7 _, heap_alloc_at h.b8 _, h.rN.alloc _, h.rK.alloc _, h.bl.alloc h.bl.size _, by rw [World.size_alloc]; have := h.sz; omega⟩
theorem ThrM.pushN {w wr w5 : World} {m k : Nat} {vN vK v' : Value} (h : ThrM w wr m k vN vK) (hr : w5.ownsRow (w.heap.size + 3) 58 5 v' (m + 1) ((List.range m).flatMap srvC ++ srvC m)) (hg : wr.grownBy w5 vN.ownBlock) (hb5 : Below w.heap.size w w5) (hs : wr.heap.size < w5.heap.size) :
    ThrM w (w5.setCell ⟨w.heap.size + 1, 0, none⟩ v') (m + 1) k v' vK := by
  have hlow : ∀ g, g < w.heap.size + 3 → vN.ownBlock ≠ some g := fun g hlt e => by have := (h.rN.lt g e).1; omega
  have hset : ∀ g, g ≠ w.heap.size + 1 → (w5.setCell ⟨w.heap.size + 1, 0, none⟩ v').heap[g]? = w5.heap[g]? := fun g hne => Below.heap_setCell _ _ _ _ hne
  have k7 := heap_set_at (grown_at hg h.b7 (hlow _ (by omega))) 0 v'
  refine ⟨?_, k7, ?_, ?_, ?_, hb5.setCell (p := ⟨w.heap.size + 1, 0, none⟩) (by show w.heap.size ≤ w.heap.size + 1; omega) _, ?_⟩
  · rw [hset _ (by omega)]; exact grown_at hg h.b6 (hlow _ (by omega))
  · rw [hset _ (by omega)]; exact grown_at hg h.b8 (hlow _ (by omega))
  · rw [List.range_succ, List.flatMap_append, List.flatMap_cons, List.flatMap_nil, List.append_nil]
    exact rowK_at hr fun g hgv => hset g (by have := (hr.lt g hgv).1; omega)
  · have hap := rows_apart h.rK h.rN (by decide)
    refine rowK_at h.rK fun g hgv => ?_
    have hgl := h.rK.lt g hgv
    rw [hset g (by omega)]
    exact hg.block g hgl.2 (fun e => hap g hgv e.symm)
  · rw [World.size_setCell]; have := h.sz; omega
theorem ThrM.pushK {w wr w5 : World} {m k : Nat} {vN vK v' : Value} (h : ThrM w wr m k vN vK) (hr : w5.ownsRow (w.heap.size + 3) 3 1 v' (k + 1) ((List.range k).map natU ++ [.int .i64 k])) (hg : wr.grownBy w5 vK.ownBlock) (hb5 : Below w.heap.size w w5) (hs : wr.heap.size < w5.heap.size) :
    ThrM w (w5.setCell ⟨w.heap.size + 1 + 1, 4, none⟩ v') m (k + 1) vN v' := by
  have hlow : ∀ g, g < w.heap.size + 3 → vK.ownBlock ≠ some g := fun g hlt e => by have := (h.rK.lt g e).1; omega
  have hset : ∀ g, g ≠ w.heap.size + 1 + 1 → (w5.setCell ⟨w.heap.size + 1 + 1, 4, none⟩ v').heap[g]? = w5.heap[g]? := fun g hne => Below.heap_setCell _ _ _ _ hne
  have k8 := heap_set_at (grown_at hg h.b8 (hlow _ (by omega))) 4 v'
  refine ⟨?_, ?_, k8, ?_, ?_, hb5.setCell (p := ⟨w.heap.size + 1 + 1, 4, none⟩) (by show w.heap.size ≤ w.heap.size + 1 + 1; omega) _, ?_⟩
  · rw [hset _ (by omega)]; exact grown_at hg h.b6 (hlow _ (by omega))
  · rw [hset _ (by omega)]; exact grown_at hg h.b7 (hlow _ (by omega))
  · have hap := rows_apart h.rN h.rK (by decide)
    refine rowK_at h.rN fun g hgv => ?_
    have hgl := h.rN.lt g hgv
    rw [hset g (by omega)]
    exact hg.block g hgl.2 (fun e => hap g hgv e.symm)
  · rw [List.range_succ, List.map_append]
    exact rowK_at hr fun g hgv => hset g (by have := (hr.lt g hgv).1; omega)
  · rw [World.size_setCell]; have := h.sz; omega
set_option maxRecDepth 100000 in
set_option maxHeartbeats 4000000 in
theorem thr3_c (b c : Nat) (_hc : 3 ≤ c) (_hcm : c ≤ maxLen) (w : World) (h : KidsM w b 3) :
    Calls Tryd.prog 28 #[.int .i64 2, .slice (some ⟨b, 0, none⟩) 3 c, .slice none 0 0] w fun e w' => ∃ a' c', e = .returned (.agg #[.slice a' 4 c', .int .i64 3]) ∧ XMR (w.heap.size + 3) w'.heap.size w' a' 4 c' majX.nodes ∧ Below w.heap.size w w' := by
  have HK := Lib.hid h
  unfold maxLen at _hcm
  clear h
  go_enter Tryd.func28, Tryd.ntmps28
  go_wp2_with fail
  refine (clone_nil _).mono ?_
  rintro e w1 ⟨rfl, rfl⟩
  go_upto_region 3 with fail
  obtain ⟨W3, hW3⟩ : ∃ W3, ((w.alloc (.cells #[.slice none 0 0, .int .i64 0] 28)).alloc (.cells #[.slice none 0 0, .int .i64 0] 28)).alloc (.cells #[.int .i64 2, .int .i64 0, .int .i64 2, .slice none 0 0, .slice none 0 0] 58) = W3 := ⟨_, rfl⟩
  obtain ⟨g6, g7, g8, hb3, hs3⟩ := box3 hW3
  have HT0 : Hid (ThrM w W3 0 0 (.slice none 0 0) (.slice none 0 0)) := Lib.hid ⟨g6, g7, g8, World.ownsRow_nil _ _ _ _, World.ownsRow_nil _ _ _ _, hb3, by omega⟩
  rw [hW3]
  clear hW3 g6 g7 g8 hb3 hs3
  go_wp2_with fail
  go_loopw [21] (fun i wr => ∃ k : Nat, k ≤ 3 ∧ i = .int .i64 k ∧ ∃ vN vK, ThrM w wr k k vN vK) (fun i _ => 3 - (intOf i).toNat)
  case atStart => exact ⟨0, Nat.zero_le _, rfl, _, _, HT0.out⟩
  case round =>
    clear HT0
    obtain ⟨k, hk, rfl, vN, vK, hT⟩ := hrel
    obtain ⟨aN, cN, rfl, hrN⟩ := rdK_of_row hT.rN
    obtain ⟨aK, cK, rfl, hrK⟩ := rd_of_row hT.rK
    have t1 := hrN.le
    have t2 := hrN.max
    have t3 := hrK.le
    have t4 := hrK.max
    unfold maxLen at t2 t4
    have HT := Lib.hid hT
    clear hT hrN hrK
    by_cases hlt : k < 3
    · obtain ⟨g, kc0, kc1, kg⟩ := (HK.out.below HT.out.bl) k hlt
      have HG := Lib.hid kg
      obtain ⟨W4, hW4⟩ : ∃ W4, W4 = wr.alloc (.cells #[.slice (some ⟨g, 0, none⟩) 1 1, .int .i64 0] 28) := ⟨_, rfl⟩
      have hb4 : Below wr.heap.size wr W4 := by rw [hW4]; exact (Below.refl _ _).alloc (Nat.le_refl _) _
      have g10 : W4.heap[wr.heap.size]? = some (.cells #[.slice (some ⟨g, 0, none⟩) 1 1, .int .i64 0] 28 (0, 0)) := by rw [hW4]; exact heap_alloc_new _ _
      have s4 : W4.heap.size = wr.heap.size + 1 := by rw [hW4, World.size_alloc]
      have hk3 : decide ((k : Int) < 3) = true := decide_eq_true (by omega)
      clear kg
      go_upto_region 6 with fail
      rw [← hW4]
      clear hW4 kc0 kc1
      have x0 := cell_of_row _ _ 0 _ _ _ g10
      have hT4 : ThrM w W4 k k (.slice aN k cN) (.slice aK k cK) := by
        have hT := HT.out
        refine ⟨heap_below hb4 hT.b6, heap_below hb4 hT.b7, heap_below hb4 hT.b8, rowK_below hT.rN hb4, rowK_below hT.rK hb4, Below.next hT.bl hb4, by have := hT.sz; omega⟩
      have y0 := cell_of_row _ _ 0 _ _ _ hT4.b7
      obtain ⟨Z, hZ⟩ : ∃ Z, wr.heap.size = Z := ⟨_, rfl⟩
      have hZlt : W4.heap.size = Z + 1 := by omega
      rw [hZ] at g10 x0 ⊢
      have HT4 := Lib.hid hT4
      have HG10 := Lib.hid g10
      have HG4 := Lib.hid (heap_below hb4 HG.out)
      have HZ := Lib.hid hZlt
      have HZ3 : Hid (w.heap.size + 3 ≤ Z) := Lib.hid (by have := HT.out.sz; omega)
      clear hb4 g10 s4 hT4 hZ hZlt HT HG
      go_wp2_with fail
      go_loopw [31] (fun j wq => (j = .int .i64 0 ∧ wq = W4) ∨ (j = .int .i64 1 ∧ ∃ vN, ThrM w wq (k + 1) k vN (.slice aK k cK) ∧ wq.heap[Z]? = some (.cells #[.slice (some ⟨g, 0, none⟩) 1 1, .int .i64 0] 28 (0, 0)))) (fun j _ => 1 - (intOf j).toNat)
      case atStart => exact .inl ⟨rfl, rfl⟩
      case round =>
        rcases hrel with ⟨rfl, rfl⟩ | ⟨rfl, vN, hT, hz⟩
        · have q0 := cell_of_row _ _ 0 _ _ _ HG4.out
          have q1 := cell_of_row _ _ 1 _ _ _ HG4.out
          have q2 := cell_of_row _ _ 2 _ _ _ HG4.out
          have q3 := cell_of_row _ _ 3 _ _ _ HG4.out
          have q4 := cell_of_row _ _ 4 _ _ _ HG4.out
          have y1 : ∀ ob, (wr.alloc ob).cell? ⟨w.heap.size + 1, 0, none⟩ = some (.slice aN k cN) := fun ob => cell_of_row _ _ 0 _ _ _ (heap_alloc_at HT4.out.b7 ob)
          clear x0 y0
          go_wp2_with fail
          refine (clone_nil _).mono ?_
          rintro e w9 ⟨rfl, rfl⟩
          go_wp2_with fail
          refine (clone_nil _).mono ?_
          rintro e w9 ⟨rfl, rfl⟩
          clear q0 q1 q2 q3 q4
          go_wp2_with fail
          go_loop [46] (fun j => j = .int .i64 0) (fun _ => 0)
          case atStart => exact rfl
          case round =>
            have hj := hrel
            subst hj
            have hTA := HT4.out.alloc (.cells #[.int .i64 1, .int .i64 k, .int .i64 0, .slice none 0 0, .slice none 0 0] 58)
            have HTA := Lib.hid hTA
            have HRN := Lib.hid hTA.rN
            have hsz := hTA.sz
            have hz10 : (wr.alloc (.cells #[.int .i64 1, .int .i64 k, .int .i64 0, .slice none 0 0, .slice none 0 0] 58)).heap[Z]? = some (.cells #[.slice (some ⟨g, 0, none⟩) 1 1, .int .i64 0] 28 (0, 0)) := heap_alloc_at HG10.out _
            have HZ10 := Lib.hid hz10
            clear hTA hz10
            go_wp2_with (at_builtin; go_must (refine wpList_appK2 5 _ _ 26 72 (.agg #[.int .i64 0, .int .i64 0, .int .i64 0, .slice none 0 0, .slice none 0 0]) (srvC k) _ Tryd.underlying26 Tryd.infoNodeB rfl (by decide) HRN.out (Below.refl (w.heap.size + 3) _) hsz rfl rfl rfl (by rw [World.size_alloc]; rfl) rfl (by intro u hu; simp only [srvC, List.mem_cons, List.not_mem_nil, or_false] at hu; rcases hu with rfl | rfl | rfl | rfl | rfl <;> rfl) (by unfold maxLen; omega) (by omega) ?_))
            intro v' w5 hown5 hb5 hgr5 hs5 _
            obtain ⟨a5, c5, rfl, _⟩ := rdK_of_row hown5
            have hT5 := HTA.out.pushN hown5 hgr5 (HTA.out.bl.trans (hb5.mono (by omega))) (by rw [World.size_alloc]; exact hs5)
            have hlow : ∀ g, g < w.heap.size + 3 → (Value.slice aN k cN).ownBlock ≠ some g := fun g hlt e => by have := (HRN.out.lt g e).1; omega
            have h57 := grown_at hgr5 HTA.out.b7 (hlow _ (by omega))
            have y5 := cell_of_row _ _ 0 _ _ _ h57
            have f5 : w5.frozen? ⟨w.heap.size + 1, 0, none⟩ = false := frozen_row h57 0
            have hzE : (w5.setCell ⟨w.heap.size + 1, 0, none⟩ (.slice a5 (k + 1) c5)).heap[Z]? = some (.cells #[.slice (some ⟨g, 0, none⟩) 1 1, .int .i64 0] 28 (0, 0)) := by
              rw [Below.heap_setCell _ _ _ _ (by show Z ≠ w.heap.size + 1; have := HZ3.out; omega)]
              refine grown_at hgr5 HZ10.out (fun e => ?_)
              exact absurd e (by
                intro e
                rcases HRN.out.2 with ⟨h0, _⟩ | ⟨g1, c1, cur1, h0, _, hh, _⟩
                · rw [h0] at e; cases e
                · rw [h0] at e; cases e
                  rw [HZ10.out] at hh
                  injection hh with hh
                  injection hh with _ hh
                  exact absurd hh (by decide))
            have HT5 := Lib.hid hT5
            have HZE := Lib.hid hzE
            clear hown5 hb5 hgr5 hs5 hT5 hlow h57 hzE y1
            go_wp2_with fail
            go_roundw
            case rel => exact .inr ⟨rfl, _, HT5.out, HZE.out⟩
            case measure => simp [intOf]
        · have y8 := cell_of_row _ _ 4 _ _ _ hT.b8
          have z1 := cell_of_row _ _ 1 _ _ _ hz
          have HT := Lib.hid hT
          have hsz := hT.sz
          have HRK := Lib.hid hT.rK
          clear hT hz
          go_wp2_with (at_builtin; go_must (refine wpList_app _ _ 56 8 (.int .i64 0) (.int .i64 k) _ Tryd.underlying56 Tryd.infoInt rfl HRK.out (Below.refl (w.heap.size + 3) _) hsz rfl rfl rfl rfl rfl (by unfold maxLen; omega) (by omega) ?_))
          intro v' w5 hown5 hb5 hgr5 hs5
          obtain ⟨a5, c5, rfl, _⟩ := rd_of_row hown5
          have hT5 := HT.out.pushK hown5 hgr5 (HT.out.bl.trans (hb5.mono (by omega))) hs5
          have hlow : ∀ g, g < w.heap.size + 3 → (Value.slice aK k cK).ownBlock ≠ some g := fun g hlt e => by have := (HRK.out.lt g e).1; omega
          have h58 := grown_at hgr5 HT.out.b8 (hlow _ (by omega))
          have y5 := cell_of_row _ _ 4 _ _ _ h58
          have f5 := frozen_row h58 4
          have HT5 := Lib.hid hT5
          clear hown5 hb5 hgr5 hs5 hT5 hlow h58 y8 z1
          go_wp2_with fail
          go_roundw
          case rel => exact ⟨k + 1, by omega, by go_num, _, _, HT5.out⟩
          case measure => simp [intOf]; omega
    · obtain rfl : k = 3 := by omega
      have hT := HT.out
      have b70 := cell_of_row _ _ 0 _ _ _ hT.b7
      have b71 := cell_of_row _ _ 1 _ _ _ hT.b7
      have f71 := frozen_row hT.b7 1
      go_upto_region 22 with fail
      have hset : ∀ g, g ≠ w.heap.size + 1 → (wr.setCell ⟨w.heap.size + 1, 1, none⟩ (.int .i64 3)).heap[g]? = wr.heap[g]? := fun g hne => Below.heap_setCell _ _ _ _ hne
      obtain ⟨W6, hW6⟩ : ∃ W6, wr.setCell ⟨w.heap.size + 1, 1, none⟩ (.int .i64 3) = W6 := ⟨_, rfl⟩
      have k6 : W6.heap[w.heap.size]? = some (.cells #[.slice none 0 0, .int .i64 0] 28 (0, 0)) := by rw [← hW6, hset _ (by omega)]; exact hT.b6
      have k7 : W6.heap[w.heap.size + 1]? = some (.cells #[.slice aN 3 cN, .int .i64 3] 28 (0, 0)) := by rw [← hW6]; exact heap_set_at hT.b7 1 _
      have k8 : W6.heap[w.heap.size + 1 + 1]? = some (.cells #[.int .i64 2, .int .i64 0, .int .i64 2, .slice none 0 0, .slice aK 3 cK] 58 (0, 0)) := by rw [← hW6, hset _ (by omega)]; exact hT.b8
      have kN : W6.ownsRow (w.heap.size + 3) 58 5 (.slice aN 3 cN) 3 ((List.range 3).flatMap srvC) := by rw [← hW6]; exact rowK_at hT.rN fun g hg => hset g (by have := (hT.rN.lt g hg).1; omega)
      have kK : W6.ownsRow (w.heap.size + 3) 3 1 (.slice aK 3 cK) 3 ((List.range 3).map natU) := by rw [← hW6]; exact rowK_at hT.rK fun g hg => hset g (by have := (hT.rK.lt g hg).1; omega)
      have kb : Below w.heap.size w W6 := by rw [← hW6]; exact hT.bl.setCell (p := ⟨w.heap.size + 1, 1, none⟩) (by show w.heap.size ≤ w.heap.size + 1; omega) _
      have ksz : w.heap.size + 3 ≤ W6.heap.size := by rw [← hW6, World.size_setCell]; exact hT.sz
      rw [hW6]
      clear hset hW6 hT HT b70 b71 f71
      have x0 := cell_of_row _ _ 0 _ _ _ k7
      have y0 := cell_of_row _ _ 0 _ _ _ k8
      have y1 := cell_of_row _ _ 1 _ _ _ k8
      have y2 := cell_of_row _ _ 2 _ _ _ k8
      have y3 := cell_of_row _ _ 3 _ _ _ k8
      have y4 := cell_of_row _ _ 4 _ _ _ k8
      have K6 := Lib.hid k6
      have K7 := Lib.hid k7
      have KN := Lib.hid kN
      have KK := Lib.hid kK
      have KB := Lib.hid kb
      clear k6 k7 k8 kN kK kb
      go_wp2_with (at_builtin; go_must (refine wpList_appK2 5 _ _ 26 72 (.agg #[.int .i64 0, .int .i64 0, .int .i64 0, .slice none 0 0, .slice none 0 0]) [.int .i64 2, .int .i64 0, .int .i64 2, .slice none 0 0, .slice aK 3 cK] _ Tryd.underlying26 Tryd.infoNodeB rfl (by decide) KN.out (Below.refl (w.heap.size + 3) _) ksz rfl rfl rfl rfl rfl (by intro u hu; simp only [List.mem_cons, List.not_mem_nil, or_false] at hu; rcases hu with rfl | rfl | rfl | rfl | rfl <;> rfl) (by unfold maxLen; omega) (by omega) ?_))
      intro v' w7 hown7 hb7 hgr7 hs7 _
      obtain ⟨a7, c7, rfl, _⟩ := rdK_of_row hown7
      have hlow : ∀ g, g < w.heap.size + 3 → (Value.slice aN 3 cN).ownBlock ≠ some g := fun g hlt e => by have := (KN.out.lt g e).1; omega
      have l6 := grown_at hgr7 K6.out (hlow _ (by omega))
      have l7 := grown_at hgr7 K7.out (hlow _ (by omega))
      have hap := rows_apart KK.out KN.out (by decide)
      have lK : w7.ownsRow (w.heap.size + 3) 3 1 (.slice aK 3 cK) 3 ((List.range 3).map natU) := rowK_at KK.out fun g hgv => hgr7.block g (KK.out.lt g hgv).2 (fun e => hap g hgv e.symm)
      have z0 := cell_of_row _ _ 0 _ _ _ l7
      have z1 := cell_of_row _ _ 1 _ _ _ l7
      have f0 := frozen_row l7 0
      have e0 := cell_of_row _ _ 0 _ _ _ l6
      have e1 := cell_of_row _ _ 1 _ _ _ l6
      have ff0 := frozen_row l6 0
      have ff1 := frozen_row l6 1
      have L6 := Lib.hid l6
      have LK := Lib.hid lK
      have HO7 := Lib.hid hown7
      have HB7 := Lib.hid (KB.out.trans (hb7.mono (by omega)))
      clear x0 y0 y1 y2 y3 y4 hown7 hb7 hgr7 hlow l6 l7 hap lK KB KN KK K6 K7
      go_wp2_with fail
      obtain ⟨WF, hWF⟩ : ∃ WF, ((w7.setCell ⟨w.heap.size + 1, 0, none⟩ (.slice a7 4 c7)).setCell ⟨w.heap.size, 0, none⟩ (.slice a7 4 c7)).setCell ⟨w.heap.size, 1, none⟩ (.int .i64 3) = WF := ⟨_, rfl⟩
      have hoth : ∀ g, w.heap.size + 3 ≤ g → WF.heap[g]? = w7.heap[g]? := fun g hg => by
        rw [← hWF, Below.heap_setCell _ _ _ _ (by show g ≠ w.heap.size; omega), Below.heap_setCell _ _ _ _ (by show g ≠ w.heap.size; omega), Below.heap_setCell _ _ _ _ (by show g ≠ w.heap.size + 1; omega)]
      have hFb : Below w.heap.size w WF := by
        rw [← hWF]
        exact ((HB7.out.setCell (p := ⟨w.heap.size + 1, 0, none⟩) (by show w.heap.size ≤ w.heap.size + 1; omega) _).setCell (p := ⟨w.heap.size, 0, none⟩) (Nat.le_refl _) _).setCell (p := ⟨w.heap.size, 1, none⟩) (Nat.le_refl _) _
      have hF6 : WF.heap[w.heap.size]? = some (.cells #[.slice a7 4 c7, .int .i64 3] 28 (0, 0)) := by
        have h0 : (w7.setCell ⟨w.heap.size + 1, 0, none⟩ (.slice a7 4 c7)).heap[w.heap.size]? = some (.cells #[.slice none 0 0, .int .i64 0] 28 (0, 0)) := by
          rw [Below.heap_setCell _ _ _ _ (by show w.heap.size ≠ w.heap.size + 1; omega)]; exact L6.out
        rw [← hWF]
        exact heap_set_at (heap_set_at h0 0 _) 1 _
      have hFN := rowK_at (w' := WF) HO7.out fun g hg => hoth g (HO7.out.lt g hg).1
      have hFK := rowK_at (w' := WF) LK.out fun g hg => hoth g (LK.out.lt g hg).1
      have hXR : XMR (w.heap.size + 3) WF.heap.size WF a7 4 c7 majX.nodes := fun w2 hg => by
        have gN := rowK_at (w' := w2) hFN fun g hgv => hg g (hFN.lt g hgv).1 (hFN.lt g hgv).2
        have gK := rowK_at (w' := w2) hFK fun g hgv => hg g (hFK.lt g hgv).1 (hFK.lt g hgv).2
        obtain ⟨_, _, eK, hrK⟩ := rd_of_row gK
        cases eK
        have hX : ∃ a c, Value.slice a7 4 c7 = .slice a 4 c ∧ XM w2 a 4 c majX.nodes := XM.of_row (V := [⟨1, 0, 0, .slice none 0 0, .slice none 0 0⟩, ⟨1, 1, 0, .slice none 0 0, .slice none 0 0⟩, ⟨1, 2, 0, .slice none 0 0, .slice none 0 0⟩, ⟨2, 0, 2, .slice none 0 0, .slice aK 3 cK⟩]) gN rfl (fun i p nd hp hn => by
          have hs : ∀ (j : Nat), NodR w2 ⟨1, j, 0, .slice none 0 0, .slice none 0 0⟩ (srvB j) := fun j => ⟨rfl, rfl, rfl, ⟨none, 0, 0, rfl, Rd.none_ _⟩, ⟨none, 0, 0, rfl, Rd.none_ _⟩⟩
          match i, hp, hn with
          | 0, hp, hn => cases hp; cases hn; exact hs 0
          | 1, hp, hn => cases hp; cases hn; exact hs 1
          | 2, hp, hn => cases hp; cases hn; exact hs 2
          | 3, hp, hn => cases hp; cases hn; exact ⟨rfl, rfl, rfl, ⟨none, 0, 0, rfl, Rd.none_ _⟩, ⟨aK, 3, cK, rfl, hrK⟩⟩
          | i + 4, hp, hn => simp at hp)
        obtain ⟨_, _, eX, hXM⟩ := hX
        cases eX
        exact hXM
      rw [hWF]
      refine bodyPost_ret (v := .agg #[.slice a7 4 c7, .int .i64 3]) ?_ rfl ⟨a7, c7, rfl, hXR, hFb⟩
      exact results_cell_row rfl _ _ _ _ _ _ _ rfl hF6 Tryd.underlying28 rfl (by kernel_rfl)
set_option maxRecDepth 100000 in
set_option maxHeartbeats 1000000 in
theorem majority_c (w : World) : Calls Tryd.prog 11 #[.int .i64 3] w fun e w' => RetX majX 0 w e w' := by
  go_enter Tryd.func11, Tryd.ntmps11
  go_wp2_with fail
  obtain ⟨W, hW⟩ : ∃ W, W = w.alloc (.cells #[.slice none 0 0, .int .i64 0] 28) := ⟨_, rfl⟩
  have hbW : Below w.heap.size w W := by rw [hW]; exact (Below.refl _ w).alloc (Nat.le_refl _) _
  have hX : W.heap[w.heap.size]? = some (.cells #[.slice none 0 0, .int .i64 0] 28 (0, 0)) := by rw [hW]; exact heap_alloc_new _ _
  rw [← hW]
  clear hW
  refine (upTo_c 3 (by omega) W).mono ?_
  rintro e w1 ⟨v1, rfl, hr1, hb1⟩
  obtain ⟨a1, c1, rfl, hrd1⟩ := rd_of_row hr1
  have HB1 := Lib.hid (Below.next hbW hb1)
  have HX1 := Lib.hid (heap_below hb1 hX)
  have HR1 := Lib.hid hrd1
  clear hr1 hrd1 hb1 hbW hX
  go_wp2_with fail
  refine (bservers_c 3 (by omega) (by omega) a1 c1 w1 HR1.out).mono ?_
  rintro e w2 ⟨b2, c2, rfl, h2a, h2b, hK2, hb2⟩
  have HB2 := Lib.hid (Below.next HB1.out hb2)
  have HSZ : Hid (w.heap.size ≤ w2.heap.size) := Lib.hid (Below.next HB1.out hb2).size
  have HX2 := Lib.hid (heap_below hb2 HX1.out)
  have HK2 := Lib.hid hK2
  clear hK2 hb2 HR1 HX1 HB1
  go_wp2_with fail
  refine (thr3_c b2 c2 h2a h2b w2 HK2.out).mono ?_
  rintro e w3 ⟨a3, c3, rfl, hx3, hb3⟩
  have HB3 := Lib.hid (Below.next HB2.out hb3)
  have hX3 := heap_below hb3 HX2.out
  have q0 := cell_of_row _ _ 0 _ _ _ hX3
  have q1 := cell_of_row _ _ 1 _ _ _ hX3
  have f0 := frozen_row hX3 0
  have f1 := frozen_row hX3 1
  have HX3 := Lib.hid hX3
  have HM3 := Lib.hid hx3
  clear hb3 hx3 hX3 HX2 HK2 HB2
  go_wp2_with fail
  obtain ⟨WF, hWF⟩ : ∃ WF, (w3.setCell ⟨w.heap.size, 0, none⟩ (.slice a3 4 c3)).setCell ⟨w.heap.size, 1, none⟩ (.int .i64 3) = WF := ⟨_, rfl⟩
  rw [hWF]
  obtain ⟨e1, hbf⟩ := fin_box HX3.out (Nat.le_refl _) HB3.out hWF
  have hx2 := (xmr_box HM3.out (R := w.heap.size) (by have := HSZ.out; omega) hWF).mono (lo' := w.heap.size) (by have := HSZ.out; omega) (Nat.le_refl _)
  have HX2 := Lib.hid hx2
  have HBF := Lib.hid hbf
  have f0 := cell_of_row _ _ 0 _ _ _ e1
  have f1 := cell_of_row _ _ 1 _ _ _ e1
  clear hWF e1 hbf hx2
  refine bodyPost_ret (v := .tuple #[.agg #[.slice a3 4 c3, .int .i64 3], .int .i64 0]) ?_ rfl ⟨a3, c3, rfl, HX2.out, HBF.out⟩
  rw [results_cell_tmp rfl]
  go_simp
end Go.Proofs.YtmjgdnpfgkpaoaaDoor
namespace Go.Proofs.YtmjgdnpfgkpaoaaDoor
open Go.RowKit Go.Maps

def heldR (v : Value) : Option (DataW Value × List MemPlace) := some (.held v, [])
def optD (o : Option Value) (z : DataW Value) : DataW Value := match o with
  | some v => .held v
  | none => z
def FM (w : World) (P : Program) (k : TypeId) (b n : Nat) (f : Lit → Option Value) : Prop :=
  ∃ D : DataW Value, w.ownsMap P k heldR b n D ∧ ∀ key kl, keyOf P k key = some kl → ∀ z, D.atKey kl z = optD (f kl) z
def updF (f : Lit → Option Value) (kl : Lit) (v : Value) : Lit → Option Value := fun x => if x.sameKey kl = true then some v else f x

theorem FM.made (w : World) (P : Program) (k : TypeId) : FM (w.alloc (.map #[] 0)) P k w.heap.size 0 (fun _ => none) :=
  ⟨.map [], World.ownsMap_made w P k heldR, fun _ _ _ _ => rfl⟩
theorem FM.at {w w' : World} {P : Program} {k : TypeId} {b n : Nat} {f : Lit → Option Value} (h : FM w P k b n f) (hb : w'.heap[b]? = w.heap[b]?) : FM w' P k b n f := by
  obtain ⟨D, ⟨es, clock, h1, h2⟩, h3⟩ := h
  exact ⟨D, ⟨es, clock, hb.trans h1, h2⟩, h3⟩
theorem FM.lt {w : World} {P : Program} {k : TypeId} {b n : Nat} {f : Lit → Option Value} (h : FM w P k b n f) : b < w.heap.size := by
  obtain ⟨D, h1, _⟩ := h; exact h1.lt
theorem FM.below {w w' : World} {P : Program} {k : TypeId} {b n : Nat} {f : Lit → Option Value} (h : FM w P k b n f) (hb : Below w.heap.size w w') : FM w' P k b n f := h.at (hb.block b h.lt)
theorem FM.kept {w w' : World} {P : Program} {k : TypeId} {b n : Nat} {f : Lit → Option Value} {row : Option Nat} (h : FM w P k b n f) (hg : w.grownBy w' row) (hne : some b ≠ row) : FM w' P k b n f := h.at (hg.block b h.lt hne)
theorem FM.mono {w : World} {P : Program} {k : TypeId} {b n n' : Nat} {f : Lit → Option Value} (h : FM w P k b n f) (hn : n ≤ n') : FM w P k b n' f := by
  obtain ⟨D, h1, h2⟩ := h; exact ⟨D, h1.mono hn, h2⟩
theorem FM.look (c : Bool) {w : World} {P : Program} {k e t : TypeId} {b n : Nat} {f : Lit → Option Value} (h : FM w P k b n f) (K : Keyed P k) (ht : P.underlying t = some (.map k e)) {z : Value} (hz : (zeroValue e).run P w = .ok z w) {key : Value} {kl : Lit} (hkey : keyOf P k key = some kl) :
    (Instr.lookup t (.map (some b)) key c).run P w = .ok (if c then .tuple #[(f kl).getD z, .bool (f kl).isSome] else (f kl).getD z) w := by
  obtain ⟨D, ⟨es, clock, hb, F, hs, rfl⟩, h3⟩ := h
  have h4 := h3 key kl hkey
  rcases Maps.fit_look c K ht hz hb F hkey with ⟨hrun, _, hat⟩ | ⟨e0, y, _, _, hrun, hRv, hat, _⟩
  · have h5 := hat .nil
    rw [h4] at h5
    cases hf : f kl with
    | none => rw [hrun]; rfl
    | some v => rw [hf] at h5; cases h5
  · have h5 := hat .nil
    rw [h4] at h5
    have hy : y = (.held e0.val, []) := by unfold heldR at hRv; exact (Option.some.inj hRv).symm
    rw [hy] at h5
    cases hf : f kl with
    | none => rw [hf] at h5; cases h5
    | some v =>
      rw [hf] at h5
      have h6 : DataW.held v = DataW.held e0.val := h5
      injection h6 with h6
      rw [hrun, h6]; rfl
theorem FM.putD {P : Program} {k : TypeId} {w w' : World} {b n n' : Nat} {D : DataW Value} {f : Lit → Option Value} (K : Keyed P k) (ho : w.ownsMap P k heldR b n D) (hf : ∀ key kl, keyOf P k key = some kl → ∀ z, D.atKey kl z = optD (f kl) z) {key val : Value} {kl : Lit} (hkey : keyOf P k key = some kl)
    (ho' : w'.ownsMap P k heldR b n' (D.put kl (.held val))) : FM w' P k b n' (updF f kl val) := by
  obtain ⟨es, rfl, _⟩ := ho.entries K
  refine ⟨_, ho', fun key' kl' hk' z => ?_⟩
  unfold updF
  by_cases h : kl' = kl
  · subst h
    rw [if_pos (WideAt.sameKey_self (K.key hkey)), atKey_put_same ⟨es, rfl⟩ (K.key hkey)]; rfl
  · rw [if_neg (by rw [sameKey_ne h]; decide), atKey_put_other h, hf key' kl' hk']
theorem wpList_put_fm {P : Program} (w : World) {ops : Array Oper} {rest : List Oper} {o : Oper} {a : Act} {Q : Exit → Act → World → Prop}
    (hg : o.guard = none) (m x v : Operand) (t : TypeId) (hop : o.op = Op.mapUpdate t m x v)
    (k e : TypeId) (K : Keyed P k) (ht : P.underlying t = some (.map k e)) (b n : Nat) (f : Lit → Option Value)
    (hm : a.eval m = .map (some b)) (h : FM w P k b n f) (hn : n < maxLen) (key val : Value) (kl : Lit) (hx : a.eval x = key) (hv : a.eval v = val) (hkey : keyOf P k key = some kl)
    (hK : ∀ w', FM w' P k b (n + 1) (updF f kl val) → w.grownBy w' (some b) → wpList P ops Q rest (a.put o.dst undef) w') :
    wpList P ops Q (o :: rest) a w := by
  obtain ⟨D, ho, hf⟩ := h
  exact wpList_mapUpdate_own w hg m x v t hop k e K ht heldR b n D hm ho hn key val kl hx hv hkey (.held val) [] rfl fun w' h1 h2 => hK w' (FM.putD K ho hf hkey h1) h2
end Go.Proofs.YtmjgdnpfgkpaoaaDoor
namespace Go.Proofs.YtmjgdnpfgkpaoaaDoor
open Go.RowKit Go.Maps Go.WideElems Go.ChangeMaps Go.MapKept

theorem step_put_fm {P : Program} {w : World} {ops : Array Oper} {o : Oper} {a : Act} {K' : Act → World → Prop} {Q : Exit → Act → World → Prop} {E : Prop} {dec : Decidable (Region.wanted o (yielded ops a.tmps) = true)} (hg : o.guard = none) (m x v : Operand) (t : TypeId) (hop : o.op = Op.mapUpdate t m x v)
    (k e : TypeId) (K : Keyed P k) (ht : P.underlying t = some (.map k e)) (b n : Nat) (f : Lit → Option Value)
    (hm : a.eval m = .map (some b)) (h : FM w P k b n f) (hn : n < maxLen) (key val : Value) (kl : Lit) (hx : a.eval x = key) (hv : a.eval v = val) (hkey : keyOf P k key = some kl)
    (hK : ∀ w', FM w' P k b (n + 1) (updF f kl val) → w.grownBy w' (some b) → w'.heap.size = w.heap.size → K' (a.put o.dst undef) w') :
    @ite Prop (Region.wanted o (yielded ops a.tmps) = true) dec (Oper.wp P o a w K' Q) E := by
  have hw : Region.wanted o (yielded ops a.tmps) = true := by simp [Region.wanted, hg]
  rw [if_pos hw]
  obtain ⟨D, ⟨es, clock, hb, F, hs, rfl⟩, hf⟩ := h
  obtain ⟨es', clock', hrun, F', hput, _⟩ := Maps.fit_store (R' := heldR) K ht hb F (Nat.lt_of_le_of_lt hs hn) (fun _ _ _ _ hz => hz) hkey (yv := (.held val, [])) rfl
  have ho : w.ownsMap P k heldR b n (.map ((es.toList.map (rg P k heldR)).foldr DataW.insert [])) := ⟨es, clock, hb, F, hs, rfl⟩
  obtain ⟨w', hrun2, r1, r2⟩ := ho.update K ht hn (val := val) hkey (d := .held val) (ps := []) rfl
  have e : w' = setBlock w b (.map es' clock') := by rw [hrun] at hrun2; injection hrun2 with _ h2; exact h2.symm
  unfold Oper.wp
  simp [execOp, hop, hm, hx, hv, hrun2, Result.andThen]
  exact hK w' (FM.putD K ho hf hkey r1) r2 (by rw [e]; simp [setBlock])

theorem FM.put {P : Program} {w : World} {t k e : TypeId} {b n : Nat} {f : Lit → Option Value} (h : FM w P k b n f) (K : Keyed P k) (ht : P.underlying t = some (.map k e)) (hn : n < maxLen) {key : Value} {kl : Lit} (hkey : keyOf P k key = some kl) (val : Value) :
    ∃ w', (Instr.mapUpdate t (.map (some b)) key val).run P w = .ok () w' ∧ FM w' P k b (n + 1) (updF f kl val) ∧ w.grownBy w' (some b) ∧ w'.heap.size = w.heap.size := by
  obtain ⟨D, ⟨es, clock, hb, F, hs, rfl⟩, hf⟩ := h
  obtain ⟨es', clock', hrun, F', hput, _⟩ := Maps.fit_store (R' := heldR) K ht hb F (Nat.lt_of_le_of_lt hs hn) (fun _ _ _ _ hz => hz) hkey (yv := (.held val, [])) rfl
  have ho : w.ownsMap P k heldR b n (.map ((es.toList.map (rg P k heldR)).foldr DataW.insert [])) := ⟨es, clock, hb, F, hs, rfl⟩
  obtain ⟨w', hrun2, r1, r2⟩ := ho.update K ht hn (val := val) hkey (d := .held val) (ps := []) rfl
  have e : w' = setBlock w b (.map es' clock') := by rw [hrun] at hrun2; injection hrun2 with _ h2; exact h2.symm
  exact ⟨w', hrun2, FM.putD K ho hf hkey r1, r2, by rw [e]; simp [setBlock]⟩

theorem entry_store {P : Program} {w : World} {t k e : TypeId} {R : Value → Option (DataW Value × List MemPlace)} {b : Nat} {es : Array MapEntry} {clock : Nat} (K : Keyed P k) (ht : P.underlying t = some (.map k e)) {z : Value} (hz : ∀ u : World, (zeroValue e).run P u = .ok z u) (hb : w.heap[b]? = some (.map es clock)) (F : Fit P k R es clock)
    {key : Value} {kl : Lit} (hkey : keyOf P k key = some kl) :
    ∃ (v0 : Value) (st : Nat) (es1 : Array MapEntry) (clock1 : Nat), (Instr.mapEntry t (.map (some b)) key).run P w = .ok (.tuple #[v0, goInt st]) (setBlock w b (.map es1 clock1)) ∧
      ∀ (w2 : World) (val : Value), w2.heap[b]? = some (.map es1 clock1) → ∃ es' clock', (Instr.entryStore t (.map (some b)) (goInt st) val).run P w2 = .ok () (setBlock w2 b (.map es' clock')) ∧
        (Instr.mapUpdate t (.map (some b)) key val).run P w = .ok () (setBlock w b (.map es' clock')) := by
  obtain ⟨s1, s2, _⟩ := F.stamped
  rcases K.find w hkey es.toList F.keys with ⟨h1, h2⟩ | ⟨j, e0, h1, h2, h3⟩
  · refine ⟨z, clock, es.push ⟨key, z, clock⟩, clock + 1, ?_, fun w2 val hw2 => ⟨es.push ⟨key, val, clock⟩, clock + 1, ?_, ?_⟩⟩
    · simp [Instr.mapEntry, run_underlying ht, MapKept.run_getObj_map hb, K.check w false hkey, h1, hz, MapKept.run_setObj_map _ hb, Result.andThen, setBlock]
    · have hidx : (es.push ⟨key, z, clock⟩).findIdx? (fun e => ((e.born : Nat) : Int) == ((clock : Nat) : Int)) = some es.size := by
        rw [findIdx_arr]
        exact findIdx_born (l := (es.push ⟨key, z, clock⟩).toList) (j := es.size) (e0 := ⟨key, z, clock⟩) (by
          simp only [Array.toList_push, List.map_append, List.map_cons, List.map_nil]
          refine List.nodup_append.2 ⟨s2, by simp, fun a ha c hc e1 => ?_⟩
          simp only [List.mem_singleton] at hc
          obtain ⟨x, hx, rfl⟩ := List.mem_map.1 ha
          have := s1 x hx
          omega) (by simp)
      have hmod : (es.push ⟨key, z, clock⟩).modify es.size (fun e => { e with val := val }) = es.push ⟨key, val, clock⟩ := by
        apply Array.ext'
        rw [Array.toList_modify, Array.toList_push, Array.toList_push, ← Array.length_toList, modify_last]
      simp [Instr.entryStore, MapKept.run_getObj_map hw2, asInt, asIntOf, goInt, hidx, hmod, MapKept.run_setObj_map _ hw2, Result.andThen, setBlock]
    · simp [Instr.mapUpdate, run_underlying ht, MapKept.run_getObj_map hb, K.check w false hkey, h1, MapKept.run_setObj_map _ hb, Result.andThen, setBlock]
  · have hj : es[j]? = some e0 := by simpa using h2
    have hsame : es.modify j (fun e => { e with key := key }) = es := by
      apply Array.ext'
      rw [Array.toList_modify, modify_eq_set _ _ _ _ h2]
      have : ({ e0 with key := key } : MapEntry) = e0 := by rw [← h3]
      rw [this]
      exact set_self _ _ _ h2
    refine ⟨e0.val, e0.born, es, clock, ?_, fun w2 val hw2 => ⟨es.modify j (fun e' => { e' with key := key, val := val }), clock, ?_, ?_⟩⟩
    · simp [Instr.mapEntry, run_underlying ht, MapKept.run_getObj_map hb, K.check w false hkey, h1, hj, h3, K.stays w hkey, hsame, MapKept.run_setObj_map _ hb, Result.andThen, setBlock]
    · have hidx : es.findIdx? (fun e => ((e.born : Nat) : Int) == ((e0.born : Nat) : Int)) = some j := by
        rw [findIdx_arr]
        exact findIdx_born s2 h2
      have hmod : es.modify j (fun e => { e with val := val }) = es.modify j (fun e' => { e' with key := key, val := val }) := by
        apply Array.ext'
        rw [Array.toList_modify, Array.toList_modify, modify_eq_set _ _ _ _ h2, modify_eq_set _ _ _ _ h2, ← h3]
      simp [Instr.entryStore, MapKept.run_getObj_map hw2, asInt, asIntOf, goInt, hidx, hmod, MapKept.run_setObj_map _ hw2, Result.andThen, setBlock]
    · simp [Instr.mapUpdate, run_underlying ht, MapKept.run_getObj_map hb, K.check w false hkey, h1, hj, h3, K.stays w hkey, MapKept.run_setObj_map _ hb, Result.andThen, setBlock]

/-- an entry stands ready to be filled -/
def Ent (w : World) (P : Program) (k t : TypeId) (b n : Nat) (f : Lit → Option Value) (kl : Lit) (st : Nat) : Prop :=
  ∃ es1 clock1, w.heap[b]? = some (.map es1 clock1) ∧ ∀ (w2 : World) (val : Value), w2.heap[b]? = some (.map es1 clock1) → ∃ w3, (Instr.entryStore t (.map (some b)) (goInt st) val).run P w2 = .ok () w3 ∧ FM w3 P k b n (updF f kl val) ∧ w2.grownBy w3 (some b) ∧ w3.heap.size = w2.heap.size
theorem Ent.at {w w' : World} {P : Program} {k t : TypeId} {b n st : Nat} {f : Lit → Option Value} {kl : Lit} (h : Ent w P k t b n f kl st) (hb : w'.heap[b]? = w.heap[b]?) : Ent w' P k t b n f kl st := by
  obtain ⟨es, clock, h1, h2⟩ := h; exact ⟨es, clock, hb.trans h1, h2⟩
theorem setBlock_grown {w : World} {b : Nat} {es : Array MapEntry} {clock : Nat} {o' : Obj} (h : w.heap[b]? = some (.map es clock)) : w.grownBy (setBlock w b o') (some b) :=
  ⟨rfl, rfl, rfl, by simp [setBlock], fun i _ hi => heap_setBlock_other h _ (fun e => hi (by rw [e]))⟩
theorem FM.entry {P : Program} {w : World} {t k e : TypeId} {b n : Nat} {f : Lit → Option Value} (h : FM w P k b n f) (K : Keyed P k) (ht : P.underlying t = some (.map k e)) {z : Value} (hz : ∀ u : World, (zeroValue e).run P u = .ok z u) (hn : n < maxLen) {key : Value} {kl : Lit} (hkey : keyOf P k key = some kl) :
    ∃ (v0 : Value) (st : Nat) (w1 : World), (Instr.mapEntry t (.map (some b)) key).run P w = .ok (.tuple #[v0, goInt st]) w1 ∧ Ent w1 P k t b (n + 1) f kl st ∧ w.grownBy w1 (some b) ∧ w1.heap.size = w.heap.size := by
  obtain ⟨D, ho, hf⟩ := h
  have ho' := ho
  obtain ⟨es, clock, hb, F, hs, rfl⟩ := ho'
  obtain ⟨v0, st, es1, clock1, h1, h2⟩ := entry_store K ht hz hb F hkey
  refine ⟨v0, st, _, h1, ⟨es1, clock1, heap_setBlock_same hb _, fun w2 val hw2 => ?_⟩, setBlock_grown hb, by simp [setBlock]⟩
  obtain ⟨es', clock', h3, h4⟩ := h2 w2 val hw2
  obtain ⟨w', hrun2, r1, r2⟩ := ho.update K ht hn (val := val) hkey (d := .held val) (ps := []) rfl
  have e : w' = setBlock w b (.map es' clock') := by rw [h4] at hrun2; injection hrun2 with _ h2; exact h2.symm
  refine ⟨_, h3, (FM.putD K ho hf hkey r1).at ?_, setBlock_grown hw2, by simp [setBlock]⟩
  rw [e, heap_setBlock_same hb, heap_setBlock_same hw2]
theorem step_entry_fm {P : Program} {w : World} {ops : Array Oper} {o : Oper} {a : Act} {K' : Act → World → Prop} {Q : Exit → Act → World → Prop} {E : Prop} {dec : Decidable (Region.wanted o (yielded ops a.tmps) = true)} (hg : o.guard = none) (m x : Operand) (t : TypeId) (hop : o.op = Op.mapEntry t m x)
    (k e : TypeId) (K : Keyed P k) (ht : P.underlying t = some (.map k e)) (b n : Nat) (f : Lit → Option Value) (z : Value) (hz : ∀ u : World, (zeroValue e).run P u = .ok z u)
    (hm : a.eval m = .map (some b)) (h : FM w P k b n f) (hn : n < maxLen) (key : Value) (kl : Lit) (hx : a.eval x = key) (hkey : keyOf P k key = some kl)
    (hK : ∀ v0 st w', Ent w' P k t b (n + 1) f kl st → w.grownBy w' (some b) → w'.heap.size = w.heap.size → K' (a.put o.dst (.tuple #[v0, .int .i64 (st : Nat)])) w') :
    @ite Prop (Region.wanted o (yielded ops a.tmps) = true) dec (Oper.wp P o a w K' Q) E := by
  have hw : Region.wanted o (yielded ops a.tmps) = true := by simp [Region.wanted, hg]
  rw [if_pos hw]
  obtain ⟨v0, st, w1, h1, h2, h3, h4⟩ := h.entry K ht hz hn hkey
  unfold Oper.wp
  simp [execOp, hop, hm, hx, h1, Result.andThen]
  exact hK v0 st w1 h2 h3 h4
theorem step_estore_fm {P : Program} {w : World} {ops : Array Oper} {o : Oper} {a : Act} {K' : Act → World → Prop} {Q : Exit → Act → World → Prop} {E : Prop} {dec : Decidable (Region.wanted o (yielded ops a.tmps) = true)} (hg : o.guard = none) (m s v : Operand) (t : TypeId) (hop : o.op = Op.entryStore t m s v)
    (k : TypeId) (b n st : Nat) (f : Lit → Option Value) (kl : Lit) (hm : a.eval m = .map (some b)) (h : Ent w P k t b n f kl st) (hs : a.eval s = .int .i64 (st : Nat)) (val : Value) (hv : a.eval v = val)
    (hK : ∀ w', FM w' P k b n (updF f kl val) → w.grownBy w' (some b) → w'.heap.size = w.heap.size → K' (a.put o.dst undef) w') :
    @ite Prop (Region.wanted o (yielded ops a.tmps) = true) dec (Oper.wp P o a w K' Q) E := by
  have hw : Region.wanted o (yielded ops a.tmps) = true := by simp [Region.wanted, hg]
  rw [if_pos hw]
  obtain ⟨es1, clock1, hb, h2⟩ := h
  obtain ⟨w3, h3, h4, h5, h6⟩ := h2 w val hb
  have h3' : (Instr.entryStore t (.map (some b)) (.int .i64 (st : Nat)) val).run P w = .ok () w3 := h3
  unfold Oper.wp
  simp [execOp, hop, hm, hs, hv, h3', Result.andThen]
  exact hK w3 h4 h5 h6
theorem upon_entry_fm {P : Program} {w : World} {o : Oper} {a : Act} {K' : Act → World → Prop} {Q : Exit → Act → World → Prop} (t k e : TypeId) (K : Keyed P k) (ht : P.underlying t = some (.map k e)) (b n : Nat) (f : Lit → Option Value) (z : Value) (hz : ∀ u : World, (zeroValue e).run P u = .ok z u)
    (h : FM w P k b n f) (hn : n < maxLen) (key : Value) (kl : Lit) (hkey : keyOf P k key = some kl)
    (hK : ∀ v0 st w', Ent w' P k t b (n + 1) f kl st → w.grownBy w' (some b) → w'.heap.size = w.heap.size → K' (a.put o.dst (.tuple #[v0, .int .i64 (st : Nat)])) w') :
    Oper.upon P o a K' Q ((Sem.run P (Instr.mapEntry t (.map (some b)) key) w).andThen fun a w' => Result.ok (Next.value a) w') := by
  obtain ⟨v0, st, w1, h1, h2, h3, h4⟩ := h.entry K ht hz hn hkey
  rw [h1]
  exact hK v0 st w1 h2 h3 h4
theorem upon_estore_fm {P : Program} {w : World} {o : Oper} {a : Act} {K' : Act → World → Prop} {Q : Exit → Act → World → Prop} (t k : TypeId) (b n st : Nat) (f : Lit → Option Value) (kl : Lit) (h : Ent w P k t b n f kl st) (val : Value)
    (hK : ∀ w', FM w' P k b n (updF f kl val) → w.grownBy w' (some b) → w'.heap.size = w.heap.size → K' (a.put o.dst undef) w') :
    Oper.upon P o a K' Q ((Sem.run P (Instr.entryStore t (.map (some b)) (.int .i64 (st : Nat)) val) w).andThen fun _ w' => Result.ok Next.skip w') := by
  obtain ⟨es1, clock1, hb, h2⟩ := h
  obtain ⟨w3, h3, h4, h5, h6⟩ := h2 w val hb
  have h3' : (Instr.entryStore t (.map (some b)) (.int .i64 (st : Nat)) val).run P w = .ok () w3 := h3
  rw [h3']
  exact hK w3 h4 h5 h6
end Go.Proofs.YtmjgdnpfgkpaoaaDoor
namespace Go.Proofs.YtmjgdnpfgkpaoaaDoor
open Go.RowKit Go.Maps

/-- a fork -/
structure Frk where
  server : Int
  low : Int
  high : Int
theorem laidOutD : laidOutB Tryd.prog = true := by kernel_rfl
set_option maxRecDepth 100000 in
theorem frk_under : ∃ n1 n2 n3 : Field, Tryd.prog.underlying 88 = some (.struct #[n1, n2, n3]) ∧ n1.name ≠ "_" ∧ n2.name ≠ "_" ∧ n3.name ≠ "_" ∧ n1.type = 3 ∧ n2.type = 3 ∧ n3.type = 3 ∧ n1.offset = 0 ∧ n2.offset = 1 ∧ n3.offset = 2 := ⟨_, _, _, Tryd.underlying88, by decide, by decide, by decide, rfl, rfl, rfl, rfl, rfl, rfl⟩
theorem frk_cells : Tryd.prog.cellsOf 88 = 3 := by kernel_rfl
theorem int_cellsD : Tryd.prog.cellsOf 3 = 1 := by kernel_rfl
theorem frk_wide : (match Tryd.prog.underlying 88 with | some (.array _ _) | some (.struct _) => true | _ => false) = true := by kernel_rfl
set_option maxRecDepth 100000 in
theorem kFrk : Keyed Tryd.prog 88 := Keyed.of_law (deep_law_laid laidOutD (m := 2) (by omega) (of_decide_eq_true (by kernel_rfl)) (by kernel_rfl) frk_wide)
theorem frk_key : Tryd.prog.keyType 88 = true := by kernel_rfl
def keyD (d : Frk) : Value := .agg #[.int .i64 d.server, .int .i64 d.low, .int .i64 d.high]
def klD (d : Frk) : Lit := .string (keyBytes [.int .i64 d.server, .int .i64 d.low, .int .i64 d.high])
def wfD (d : Frk) : Prop := (Lit.int .i64 d.server).wf = true ∧ (Lit.int .i64 d.low).wf = true ∧ (Lit.int .i64 d.high).wf = true
theorem keyLitsD_struct {P : Program} {t : TypeId} {fs : Array Field} (hu : P.underlying t = some (.struct fs)) (D : Nat) (cs : List Value) : P.keyLits (D + 1) t cs = if cs.length = P.cellsOf t ∧ fs.all (·.name != "_") = true then (fs.toList.mapM fun f => P.keyLits D f.type ((cs.drop f.offset).take (P.cellsOf f.type))).map List.flatten else none := by
  conv => lhs; unfold Program.keyLits
  rw [hu]
theorem keyLitsD_i {P : Program} {t : TypeId} {q : IntKind} (hu : P.underlying t = some (.int q)) (D : Nat) (c : Value) : P.keyLits (D + 1) t [c] = (match c with | .int q' n => if q' = q ∧ (Lit.int q n).wf = true then some [.int q n] else none | _ => none) := by
  conv => lhs; unfold Program.keyLits
  rw [hu]
  cases c <;> rfl
theorem keyLitsD_int (D : Nat) (n : Int) (h : (Lit.int .i64 n).wf = true) : Tryd.prog.keyLits (D + 1) 3 [.int .i64 n] = some [.int .i64 n] := by
  rw [keyLitsD_i Tryd.underlying3 D (.int .i64 n)]
  simp only
  rw [if_pos ⟨trivial, h⟩]
set_option maxRecDepth 100000 in
theorem frk_size : ∃ n, Tryd.prog.types.size + 1 = n + 3 := ⟨Tryd.prog.types.size - 2, by have : 2 ≤ Tryd.prog.types.size := of_decide_eq_true (by kernel_rfl); omega⟩
theorem keyLits_frk (D : Nat) (c0 c1 c2 : Value) {a b c : List Lit} (h0 : Tryd.prog.keyLits D 3 [c0] = some a) (h1 : Tryd.prog.keyLits D 3 [c1] = some b) (h2 : Tryd.prog.keyLits D 3 [c2] = some c) : Tryd.prog.keyLits (D + 1) 88 [c0, c1, c2] = some (a ++ b ++ c) := by
  obtain ⟨n1, n2, n3, hu, k1, k2, k3, ht1, ht2, ht3, ho1, ho2, ho3⟩ := frk_under
  rw [keyLitsD_struct hu]
  have e1 : (n1.name != "_") = true := by simpa using k1
  have e2 : (n2.name != "_") = true := by simpa using k2
  have e3 : (n3.name != "_") = true := by simpa using k3
  have e4 : (#[n1, n2, n3] : Array Field).all (·.name != "_") = true := by simp [e1, e2, e3]
  rw [if_pos ⟨by rw [frk_cells]; rfl, e4⟩]
  have e5 : (#[n1, n2, n3] : Array Field).toList = [n1, n2, n3] := rfl
  rw [e5, List.mapM_cons, List.mapM_cons, List.mapM_cons, List.mapM_nil, ht1, ht2, ht3, ho1, ho2, ho3, int_cellsD]
  have q1 : ([c0, c1, c2].drop 0).take 1 = [c0] := rfl
  have q2 : ([c0, c1, c2].drop 1).take 1 = [c1] := rfl
  have q3 : ([c0, c1, c2].drop 2).take 1 = [c2] := rfl
  rw [q1, q2, q3, h0, h1, h2]
  simp
set_option maxRecDepth 100000 in
theorem keyD_of {d : Frk} (h : wfD d) : keyOf Tryd.prog 88 (keyD d) = some (klD d) := by
  obtain ⟨n1, n2, n3, hu, _⟩ := frk_under
  obtain ⟨n, hn⟩ := frk_size
  obtain ⟨w1, w2, w3⟩ := h
  unfold keyOf keyD
  rw [hu]
  simp only
  have hf : (Value.agg #[.int .i64 d.server, .int .i64 d.low, .int .i64 d.high]).formed Tryd.prog 88 = true := by simp [Value.formed, hu, frk_cells]
  rw [frk_key, hf]
  rw [hn]
  have : (Value.agg #[.int .i64 d.server, .int .i64 d.low, .int .i64 d.high]).cells.toList = [.int .i64 d.server, .int .i64 d.low, .int .i64 d.high] := rfl
  rw [this, keyLits_frk _ _ _ _ (keyLitsD_int _ _ w1) (keyLitsD_int _ _ w2) (keyLitsD_int _ _ w3)]
  simp [klD]
/-- a builder's map: each fork's node -/
def fmA (f : Lit → Option Value) (n : Nat) : List Frk → Lit → Option Value
  | [] => f
  | d :: l => fmA (updF f (klD d) (.int .i64 n)) (n + 1) l
def fmD (l : List Frk) : Lit → Option Value := fmA (fun _ => none) 2 l
theorem fmA_snoc (d : Frk) : ∀ (l : List Frk) (f : Lit → Option Value) (n : Nat), fmA f n (l ++ [d]) = updF (fmA f n l) (klD d) (.int .i64 ((n + l.length : Nat) : Int))
  | [], f, n => rfl
  | e :: l, f, n => by
    show fmA _ (n + 1) (l ++ [d]) = _
    rw [fmA_snoc d l]
    show updF (fmA _ (n + 1) l) _ _ = updF (fmA _ (n + 1) l) _ _
    rw [List.length_cons]
    congr 2
    show ((n + 1 + l.length : Nat) : Int) = ((n + (l.length + 1) : Nat) : Int)
    omega
theorem fmD_snoc (l : List Frk) (d : Frk) : fmD (l ++ [d]) = updF (fmD l) (klD d) (.int .i64 ((l.length : Int) + 2)) := by
  unfold fmD
  rw [fmA_snoc]
  congr 2
  omega
theorem fmA_int : ∀ (l : List Frk) (f : Lit → Option Value) (n : Nat), (∀ kl v, f kl = some v → ∃ i : Nat, v = .int .i64 i) → ∀ kl v, fmA f n l kl = some v → ∃ i : Nat, v = .int .i64 i
  | [], f, n, h => h
  | e :: l, f, n, h => fmA_int l _ (n + 1) (fun kl v hv => by
      unfold updF at hv
      split at hv
      · cases hv; exact ⟨n, rfl⟩
      · exact h kl v hv)
theorem fmD_int {l : List Frk} {kl : Lit} {v : Value} (h : fmD l kl = some v) : ∃ i : Nat, v = .int .i64 i := fmA_int l _ 2 (fun kl v h => by cases h) kl v h
/-- the node of a fork, and the forks behind it -/
def forkS (ds : List Frk) (d : Frk) : Int × List Frk := if d.low = d.high then (d.low, ds) else match fmD ds (klD d) with
  | some (.int _ i) => (i, ds)
  | _ => ((ds.length : Int) + 2, ds ++ [d])
def frkC (d : Frk) : List Value := [.int .i64 d.server, .int .i64 d.low, .int .i64 d.high]
theorem frkC_len (d : Frk) : (frkC d).length = 3 := rfl
theorem Tryd.infoFrk : (Tryd.prog.info? 88).map (fun i => (i.zero, i.size, i.bytes)) = some (some (.agg #[.int .i64 0, .int .i64 0, .int .i64 0]), 3, 24) := by kernel_rfl
/-- a builder in memory: its box, its forks, its map -/
structure BM (w : World) (M B base : Nat) (ds : List Frk) (vF : Value) : Prop where
  bb : w.heap[B]? = some (.cells #[vF, .map (some M)] 127 (0, 0))
  row : w.ownsRow base 88 3 vF ds.length (ds.flatMap frkC)
  mp : FM w Tryd.prog 88 M ds.length (fmD ds)
  mb : M < B
  bs : B < base
/-- what a builder's call leaves alone -/
structure Fra (M B base : Nat) (w w' : World) : Prop where
  bl : Below M w w'
  mid : ∀ g, B < g → g < base → w'.heap[g]? = w.heap[g]?
theorem Fra.refl (M B base : Nat) (w : World) : Fra M B base w w := ⟨Below.refl _ _, fun _ _ _ => rfl⟩
theorem Fra.trans {M B base : Nat} {a b c : World} (h : Fra M B base a b) (k : Fra M B base b c) : Fra M B base a c := ⟨h.bl.trans k.bl, fun g h1 h2 => (k.mid g h1 h2).trans (h.mid g h1 h2)⟩
end Go.Proofs.YtmjgdnpfgkpaoaaDoor
